/-
What the program's parser and speller do.
-/
import Derived.Test.YtboilkakbgalgaaDoorCallParse
namespace Go.AmT
open Go Go.Am
set_option maxRecDepth 100000
set_option linter.unusedVariables false

def z5 : List AV := [I 0, I 0, I 0, I 0, I 0]
theorem splice_vs (x : Int) (vs : List Int) (h : vs.length ≤ 4) : splice [I x, I 0, I 0, I 0, I 0] 1 (vs.map I) = I x :: (pad4 vs).map I := by
  match vs, h with
  | [], _ => rfl
  | [a], _ => rfl
  | [a, b], _ => rfl
  | [a, b, c], _ => rfl
  | [a, b, c, d], _ => rfl
theorem ints_one (vs : List Int) : (vs.map I).all AV.one = true := by
  induction vs with
  | nil => rfl
  | cons a r ih => simp [AV.one]
theorem F17_ends (k : Nat) (x : Int) (q : Option SV) (vs : List Int) (m : Mem) (hm : m.lo ≤ m.next) (hlen : slen q = vs.length) (hv : vs.length ≤ 4) (hq : ∀ m', Ext m m' → m'.row q 1 vs.length = some (vs.map I)) :
    Am.Ends m (F17 k [I x, .slice q]) (.agg (I x :: (pad4 vs).map I)) m := by
  show Am.Ends m (B17 k x q) _ m
  unfold B17
  refine .new rfl (.new rfl ?_)
  have x1 : Ext m (m.add (.cells z5)) := Ext.add _ _
  have x2 : Ext m ((m.add (.cells z5)).add (.cells z5)) := x1.trans (Ext.add _ _)
  have hn : m.next ≤ m.next + 1 := Nat.le_succ _
  refine .stN (l := z5) (Mem.cells_add_same _ _) (Nat.le_trans hm hn) rfl (by simp [z5]) rfl ?_
  have es : splice z5 0 [I x, I 0, I 0, I 0, I 0] = [I x, I 0, I 0, I 0, I 0] := rfl
  rw [es]
  have x3 : Ext m (((m.add (.cells z5)).add (.cells z5)).set (m.next + 1) (.cells [I x, I 0, I 0, I 0, I 0])) := x2.set hn _
  -- the end
  have fin : ∀ m4, Ext m m4 → m4.cells m.next = some z5 → m4.cells (m.next + 1) = some (I x :: (pad4 vs).map I) → Am.Ends m (ldN 5 (m.next + 1) 0 fun l0 => stN 5 m.next 0 l0 (ldN 5 m.next 0 fun l1 => ret (.agg l1))) (.agg (I x :: (pad4 vs).map I)) m4 := fun m4 x4 c0 c1 => by
    have hl : (I x :: (pad4 vs).map I).length = 5 := by simp [pad4_len]
    have et : ((I x :: (pad4 vs).map I).drop 0).take 5 = I x :: (pad4 vs).map I := by
      rw [List.drop_zero, List.take_of_length_le (by omega)]
    refine .ldN c1 (by omega) ?_
    rw [et]
    refine .stN c0 (by rw [x4.lo]; exact hm) hl (by simp [z5]) (by simp [AV.one]) (.ldN (Mem.cells_set_same _ _ _) ?_ ?_)
    · rw [splice_all (by rw [hl]; rfl)]; omega
    · rw [splice_all (by rw [hl]; rfl), et]
      exact .ret (x4.set (Nat.le_refl _) _)
  obtain ⟨m', h1, h2⟩ : Am.Ends m (cpy 1 (some ⟨m.next + 1, 0 + 1 + 0 * 1, 1, 4 - 0, 4 - 0, true⟩) q fun x1 => ldN 5 (m.next + 1) 0 fun l0 => stN 5 m.next 0 l0 (ldN 5 m.next 0 fun l1 => ret (.agg l1))) (.agg (I x :: (pad4 vs).map I)) (((m.add (.cells z5)).add (.cells z5)).set (m.next + 1) (.cells [I x, I 0, I 0, I 0, I 0])) := by
    have c0 : (((m.add (.cells z5)).add (.cells z5)).set (m.next + 1) (.cells [I x, I 0, I 0, I 0, I 0])).cells m.next = some z5 := by
      rw [Mem.cells_set_ne (by omega), Mem.cells_add_ne (show m.next ≠ m.next + 1 by omega)]
      exact Mem.cells_add_same _ _
    have c1 : (((m.add (.cells z5)).add (.cells z5)).set (m.next + 1) (.cells [I x, I 0, I 0, I 0, I 0])).cells (m.next + 1) = some [I x, I 0, I 0, I 0, I 0] := Mem.cells_set_same _ _ _
    have hmin : min (slen q).toNat (slen (some (⟨m.next + 1, 0 + 1 + 0 * 1, 1, 4 - 0, 4 - 0, true⟩ : SV))).toNat = vs.length := by
      rw [hlen]; show min (vs.length : Nat) 4 = vs.length; omega
    have hrow := hq _ x3
    generalize (((m.add (.cells z5)).add (.cells z5)).set (m.next + 1) (.cells [I x, I 0, I 0, I 0, I 0])) = m3 at x3 c0 c1 hrow ⊢
    unfold Am.Ends cpy
    simp only [hmin]
    rw [hrow]
    cases vs with
    | nil =>
      exact fin m3 x3 c0 c1
    | cons a r =>
      have hs := splice_vs x (a :: r) hv
      have hone := ints_one (a :: r)
      show ∃ m', cpyL 1 _ (r.length + 1) _ _ m3 = _ ∧ _
      unfold cpyL
      simp only [c1]
      have hlo : m3.lo ≤ m.next + 1 := by rw [x3.lo]; omega
      have hv' : r.length + 1 ≤ 4 := hv
      have hd : (decide (m3.lo ≤ m.next + 1 ∧ True ∧ ((a :: r).map I).length = (r.length + 1) * 1 ∧ r.length + 1 ≤ 4 - 0 ∧ 0 + 1 + 0 * 1 + (r.length + 1) * 1 ≤ [I x, I 0, I 0, I 0, I 0].length) && ((a :: r).map I).all AV.one) = true := by
        rw [hone]; simp [hlo]; omega
      simp only [hd]
      refine fin _ (x3.set hn _) ?_ ?_
      · rw [Mem.cells_set_ne (by omega)]; exact c0
      · rw [Mem.cells_set_same]; exact congrArg some hs
  refine ⟨m', ?_, h2⟩
  unfold cutArr
  rw [Mem.cells_set_same]
  exact h1

theorem word_len (c : UInt8) : ∀ (l w : List UInt8), w ∈ splitOn c l → w.length ≤ l.length
  | [], w, h => by simp [splitOn] at h; simp [h]
  | b :: l, w, h => by
    by_cases hb : b = c
    · subst hb
      rw [splitOn_sp] at h
      rcases List.mem_cons.1 h with rfl | h
      · simp
      · have := word_len b l w h; simp; omega
    · rw [splitOn_no hb] at h
      cases hs : splitOn c l with
      | nil => exact absurd hs (splitOn_ne c l)
      | cons y r =>
        rw [hs] at h
        have ih := word_len c l
        rw [hs] at ih
        rcases List.mem_cons.1 h with rfl | h
        · have := ih y (by simp); simp; omega
        · have := ih w (by simp [h]); simp; omega
theorem F20_cases (k : Nat) (u : List UInt8) (hu : u.length ≤ 400) (m : Mem) :
    (∃ v, Lib.parseIntB 64 u = .ok v ∧ F20 k [.str u, I 10, I 64] m = some (.tup [I v, .nilif], m)) ∨ (numP u = none ∧ ∃ n T p m', F20 k [.str u, I 10, I 64] m = some (.tup [I n, .iface T p], m') ∧ Ext m m') := by
  have hd : decide (u.length ≤ 281474976710656) = true := decide_eq_true (by omega)
  have x1 : Ext m { m with next := m.next + 1 } := ⟨rfl, Nat.le_succ _, fun _ _ => rfl⟩
  show (∃ v, Lib.parseIntB 64 u = .ok v ∧ parseIntF 68 [.str u, I 10, I 64] m = _) ∨ (numP u = none ∧ ∃ n T p m', parseIntF 68 [.str u, I 10, I 64] m = _ ∧ _)
  unfold parseIntF numP
  simp only [hd]
  cases hp : Lib.parseIntB 64 u with
  | ok v => exact .inl ⟨v, rfl, rfl⟩
  | range => exact .inr ⟨rfl, _, _, _, _, rfl, x1⟩
  | _ => exact .inr ⟨rfl, _, _, _, _, rfl, x1⟩
theorem F21_eq (k : Nat) (n : Int) (hn : In64 n) (m : Mem) : F21 k [I n, I 10] m = some (.str (dec n), m) := by
  show fmtIntF [I n, I 10] m = _
  unfold fmtIntF
  have hd : decide (-9223372036854775808 ≤ n ∧ n ≤ 9223372036854775807) = true := decide_eq_true hn
  simp only [hd]
theorem F27_eq (k : Nat) (n : Int) (hn : In64 n) (m : Mem) : F27 k [I n] m = some (.str (dec n), m) := by
  show itoaF [I n] m = _
  unfold itoaF
  have hd : decide (-9223372036854775808 ≤ n ∧ n ≤ 9223372036854775807) = true := decide_eq_true hn
  simp only [hd]
theorem F18_eq (k : Nat) (s : List UInt8) (hs : s.length ≤ 400) (m : Mem) : ∃ q, F18 k [.str s, .str [32]] m = some (.slice q, m.add (.cells (wordsC s))) ∧ Sb m.next (m.add (.cells (wordsC s))) q (wordsC s) := by
  have hd : decide (s.length < 4294967281) = true := decide_eq_true (by omega)
  have hw : (wordsC s).length = (splitOn 32 s).length := by unfold wordsC; rw [List.length_map]
  refine ⟨some { id := m.next, off := 0, sz := 1, len := (splitOn 32 s).length, cap := (splitOn 32 s).length, ex := true }, ?_, m.next, 0, (splitOn 32 s).length, true, wordsC s, ?_, ?_, Mem.cells_add_same _ _, List.take_length, Nat.lt_succ_self _, Nat.le_refl _⟩
  · show splitF [.str s, .str [32]] m = _
    unfold splitF
    simp only [hd]
    rfl
  · rw [hw]
  · rw [hw]; exact Nat.le_refl _
theorem T19_get {n : Nat} (h : n < 65) : (T19.drop (0 + n * 3)).take 3 = cellsOf (rw_ n) := by
  unfold T19
  rw [Nat.zero_add]
  rcases Nat.eq_zero_or_pos n with rfl | h0
  · rfl
  · exact flat3 RW n (rw_ n) (RW_get (x := n) (by omega) (by omega))

/-- The rounds over the table. -/
theorem tab_loop {m0 : Mem} {v : AV} (hm0 : m0.lo ≤ m0.next) (q0 : Option SV) (it : Nat) (w : List UInt8) (ws : List (List UInt8)) (fin : Int → C) :
    ∀ (d n k : Nat) (m : Mem), n + d = 65 → d < k → Ext m0 m → Sv m q0 ((w :: ws).map .str) → m.cells it = some T19 → it < m.next → (∀ m', Ext m m' → Am.Ends m0 (fin (fnN 65 w)) v m') →
      Am.Ends m0 (lp k [I (fnN n w), I n] fun w1 f1 => (un fun y6 z4 => (dI .i64 fun x4 => (un fun y7 z5 => (dI .i64 fun x5 => (u0 (bc (decide (x5 < (slen (some (⟨it, 0, 3, 65, 65, true⟩ : SV))))) (ixS 3 (some ⟨it, 0, 3, 65, 65, true⟩) x5 fun i3 o1 => ldN 3 i3 o1 fun l6 => new [.str [], I 0, I 0] fun i4 => stN 3 i4 0 l6 (jn (un fun y8 z6 => (dI .i64 fun x6 => (u0 (f1 [I x6, I (IntKind.wrap .i64 (x5 + 1))])) z6) y8) fun j2 => ld i4 (0 + 0) (dS fun s3 => bc (!((s3 : List UInt8) == [])) (ld i4 (0 + 0) (dS fun s4 => ixS 1 q0 0 fun i5 o2 => ld i5 o2 (dS fun s5 => bc ((s4 : List UInt8) == s5) (j2 [I x5]) (j2 [I x4])))) (j2 [I x4])))) (fin x4))) z5) y7) z4) y6) w1) v m
  | 0, n, k, m, hn, hk, hx, hq, ht, hit, hfin => by
    obtain ⟨k, rfl⟩ : ∃ j, k = j + 1 := ⟨k - 1, by omega⟩
    obtain rfl : n = 65 := by omega
    exact hfin m (Ext.refl m)
  | d + 1, n, k, m, hn, hk, hx, hq, ht, hit, hfin => by
    obtain ⟨k, rfl⟩ : ∃ j, k = j + 1 := ⟨k - 1, by omega⟩
    have hlt : n < 65 := by omega
    show Am.Ends m0 (bc (decide ((n : Int) < ((65 : Nat) : Int))) (bc (decide (3 = 3 ∧ 0 ≤ (n : Int) ∧ (n : Int) < ((65 : Nat) : Int))) (ldN 3 it (0 + n * 3) _) fail) _) _ m
    refine .bcT (by simp; omega) (.bcT (by simp; omega) (.ldN ht (by rw [T19_len]; omega) ?_))
    rw [T19_get hlt]
    refine .new rfl (.stN (l := [.str [], I 0, I 0]) (Mem.cells_add_same _ _) ?_ rfl (by simp) (by simp [cellsOf, AV.one]) ?_)
    · have : (m.add (.cells [.str [], I 0, I 0])).lo = m0.lo := hx.lo
      rw [this]; exact Nat.le_trans hm0 hx.next
    have es : splice [.str [], I 0, I 0] 0 (cellsOf (rw_ n)) = cellsOf (rw_ n) := rfl
    rw [es]
    have e1 : Ext m ((m.add (.cells [.str [], I 0, I 0])).set m.next (.cells (cellsOf (rw_ n)))) := (Ext.add _ _).set (Nat.le_refl _) _
    have c1 := Mem.cells_set_same (m.add (.cells [.str [], I 0, I 0])) m.next (cellsOf (rw_ n))
    generalize ((m.add (.cells [.str [], I 0, I 0])).set m.next (.cells (cellsOf (rw_ n)))) = m1 at e1 c1 ⊢
    have ew : IntKind.wrap .i64 ((n : Int) + 1) = ((n + 1 : Nat) : Int) := wrap_in _ (by omega) (by omega)
    have go := tab_loop hm0 q0 it w ws fin d (n + 1) k m1 (by omega) (by omega) (hx.trans e1) (hq.ext e1) (by rw [e1.cells hit]; exact ht) (Nat.lt_of_lt_of_le hit e1.next) fun m' e => hfin m' (e1.trans e)
    rw [ew]
    refine .ld (x := .str (rw_ n).1) c1 rfl ?_
    show Am.Ends m0 (bc (!((rw_ n).1 == [])) (ld m.next (0 + 0) _) (lp k [I (fnN n w), I ((n + 1 : Nat) : Int)] _)) _ m1
    by_cases h0 : 1 ≤ n
    · have hne := name_ne (x := n) (by omega) (by omega)
      refine .bcT (by rw [hne]; rfl) (.ld (x := .str (rw_ n).1) c1 rfl ?_)
      show Am.Ends m0 (ixS 1 q0 0 fun i5 o2 => ld i5 o2 _) _ m1
      refine Ends_ixld (hq.ext e1) 0 rfl (by simp) ?_
      show Am.Ends m0 (bc ((rw_ n).1 == w) (lp k [I n, I ((n + 1 : Nat) : Int)] _) (lp k [I (fnN n w), I ((n + 1 : Nat) : Int)] _)) _ m1
      refine .bcI (fun h => ?_) fun h => ?_
      · have : fnN (n + 1) w = n := by rw [fnN, decide_eq_true h0, h]; rfl
        rw [this] at go
        exact go
      · have : fnN (n + 1) w = fnN n w := by rw [fnN, decide_eq_true h0, h]; rfl
        rw [this] at go
        exact go
    · obtain rfl : n = 0 := by omega
      have : fnN (0 + 1) w = fnN 0 w := rfl
      rw [this] at go
      exact .bcF rfl go

/-- The rounds over the words that should be numbers. -/
theorem prg_loop {m0 mb : Mem} (k0 : Nat) (i0 : Nat) (x0 : Int) (ws : List (List UInt8)) (q2 : Option SV) (hl0 : m0.lo ≤ i0) (hn0 : m0.next ≤ i0) (hb : mb.lo ≤ mb.next) (x0b : Ext m0 mb) (hi : i0 < mb.next) (h0 : mb.cells i0 = some z5) (hq2 : Sv mb q2 (ws.map .str)) (hws : ws.length ≤ 4) (hwl : ∀ w ∈ ws, w.length ≤ 400) :
    ∀ (rest dn : List (List UInt8)) (vs : List Int) (q : Option SV) (k : Nat) (m : Mem), ws = dn ++ rest → vs.length = dn.length → rest.length < k → Ext mb m → Row1 mb m q (vs.map I) →
      Am.Ends m0 (lp k [.slice q, I dn.length] fun w0 f0 => (un fun y2 z2 => (dSl fun q4 => (un fun y3 z3 => (dI .i64 fun x2 => (u0 (bc (decide (x2 < (slen q2))) (ixS 1 q2 x2 fun i1 o0 => ld i1 o0 (dS fun s1 => call (F20 k0) [.str s1, I 10, I 64] (d2 fun y4 y5 => (dI .i64 fun x3 => (dV fun v0 => ifNilIf v0 fun b0 => bc (!b0) (stN 5 i0 0 [I 0, I 0, I 0, I 0, I 0] (ldN 5 i0 0 fun l4 => ret (.tup [.agg l4, I (-17)]))) (call (F21 k0) [I x3, I 10] (dS fun s2 => bc (!((s2 : List UInt8) == s1)) (stN 5 i0 0 [I 0, I 0, I 0, I 0, I 0] (ldN 5 i0 0 fun l5 => ret (.tup [.agg l5, I (-17)]))) (new [I x3] fun i2 => app 1 8 q4 (some ⟨i2, 0, 1, 1, 1, true⟩) fun q5 => f0 [.slice q5, I (IntKind.wrap .i64 (x2 + 1))])))) y5) y4))) (call (F17 k0) [I x0, .slice q4] (dA 5 fun l2 => stN 5 i0 0 l2 (ldN 5 i0 0 fun l3 => ret (.tup [.agg l3, I 0])))))) z3) y3) z2) y2) w0)
        (prgA (match numsP rest with
          | none => (0, [0, 0, 0, 0], -17)
          | some us => (x0, pad4 (vs ++ us), 0))) m
  | [], dn, vs, q, k, m, he, hv, hk, hx, hq => by
    obtain ⟨k, rfl⟩ : ∃ j, k = j + 1 := ⟨k - 1, by omega⟩
    rw [List.append_nil] at he
    subst he
    have hlen := congrArg Int.natAbs (rfl : ((ws.length : Int)) = ws.length)
    show Am.Ends m0 (bc (decide ((ws.length : Int) < slen q2)) _ (call (F17 k0) [I x0, .slice q] _)) _ m
    obtain ⟨m1, h1, h2⟩ := F17_ends k0 x0 q vs m (hx.wf hb) (by rw [hq.slen]; simp) (by omega) fun m' e => by have := (hq.ext e).row; rwa [List.length_map] at this
    refine .bcF (by rw [hq2.len]; simp) (.callEq h1 ?_)
    have e5 : (I x0 :: (pad4 vs).map I).length = 5 := by simp [pad4_len]
    have x1 := x0b.trans (hx.trans h2)
    have c0 : m1.cells i0 = some z5 := by rw [(hx.trans h2).cells hi]; exact h0
    have fin : Am.Ends m0 (stN 5 i0 0 (I x0 :: (pad4 vs).map I) (ldN 5 i0 0 fun l3 => ret (.tup [.agg l3, I 0]))) (.tup [.agg (I x0 :: (pad4 vs).map I), I 0]) m1 := by
      refine .stN c0 (by rw [x1.lo]; exact hl0) e5 (by simp [z5]) (by simp [AV.one]) (.ldN (Mem.cells_set_same _ _ _) ?_ ?_)
      · rw [splice_all (by rw [e5]; rfl), e5]; exact Nat.le_refl _
      · rw [splice_all (by rw [e5]; rfl), List.drop_zero, List.take_of_length_le (by rw [e5]; exact Nat.le_refl _)]
        exact .ret (x1.set hn0 _)
    have : prgA (match numsP [] with
          | none => (0, [0, 0, 0, 0], -17)
          | some us => (x0, pad4 (vs ++ us), 0)) = .tup [.agg (I x0 :: (pad4 vs).map I), I 0] := by
      simp [numsP, prgA]
    rw [this]
    show Am.Ends m0 (bc (decide ((I x0 :: (pad4 vs).map I).length = 5)) _ fail) _ m1
    exact .bcT (decide_eq_true e5) fin
  | u :: rest, dn, vs, q, k, m, he, hv, hk, hx, hq => by
    obtain ⟨k, rfl⟩ : ∃ j, k = j + 1 := ⟨k - 1, by omega⟩
    have hlen := congrArg List.length he
    simp only [List.length_append, List.length_cons] at hlen
    have hu : u.length ≤ 400 := hwl u (by rw [he]; simp)
    show Am.Ends m0 (bc (decide ((dn.length : Int) < slen q2)) (ixS 1 q2 (dn.length : Int) fun i1 o0 => ld i1 o0 _) _) _ m
    have hi' : dn.length < (ws.map AV.str).length := by simp; omega
    refine .bcT (by rw [hq2.len]; simp; omega) (Ends_ixld (hq2.ext hx) dn.length rfl hi' ?_)
    have hg : (ws.map AV.str)[dn.length] = .str u := by
      have : (ws.map AV.str)[dn.length]? = some (.str u) := by rw [he]; simp
      rw [List.getElem?_eq_getElem hi'] at this
      exact Option.some.inj this
    rw [hg]
    have bad : numP u = none → ∀ m1, Ext m m1 → Am.Ends m0 (stN 5 i0 0 [I 0, I 0, I 0, I 0, I 0] (ldN 5 i0 0 fun l4 => ret (.tup [.agg l4, I (-17)]))) (prgA (match numsP (u :: rest) with
          | none => (0, [0, 0, 0, 0], -17)
          | some us => (x0, pad4 (vs ++ us), 0))) m1 := fun hp m1 e1 => by
      have x1 := x0b.trans (hx.trans e1)
      have c0 : m1.cells i0 = some z5 := by rw [(hx.trans e1).cells hi]; exact h0
      have : prgA (match numsP (u :: rest) with
          | none => (0, [0, 0, 0, 0], -17)
          | some us => (x0, pad4 (vs ++ us), 0)) = .tup [.agg z5, I (-17)] := by
        simp [numsP, hp, prgA, z5]
      rw [this]
      exact .stN c0 (by rw [x1.lo]; exact hl0) rfl (by simp [z5]) rfl (.ldN (Mem.cells_set_same _ _ _) (by simp [splice, z5]) (.ret (x1.set hn0 _)))
    show Am.Ends m0 (call (F20 k0) [.str u, I 10, I 64] _) _ m
    rcases F20_cases k0 u hu m with ⟨x3, h1, h2⟩ | ⟨h1, n, T, p, m1, h2, h3⟩
    · refine .callEq h2 ?_
      show Am.Ends m0 (call (F21 k0) [I x3, I 10] _) _ m
      refine .callEq (F21_eq k0 x3 (parse_in h1) m) ?_
      show Am.Ends m0 (bc (!((dec x3 : List UInt8) == u)) _ (new [I x3] fun i2 => app 1 8 q (some ⟨i2, 0, 1, 1, 1, true⟩) _)) _ m
      by_cases hd : dec x3 = u
      · have hp : numP u = some x3 := numP_iff.2 ⟨hd, parse_in h1⟩
        refine .bcF (by simp [hd]) (Ends_push hq hx hb rfl (by rw [List.length_map]; omega) (by decide) (by decide) fun q' m' h3 h4 => ?_)
        have e10 : IntKind.wrap .i64 ((dn.length : Int) + 1) = (((dn ++ [u]).length : Nat) : Int) := by
          rw [wrap_in _ (by omega) (by omega)]; simp
        rw [e10]
        have ih := prg_loop k0 i0 x0 ws q2 hl0 hn0 hb x0b hi h0 hq2 hws hwl rest (dn ++ [u]) (vs ++ [x3]) q' k m' (by rw [he]; simp) (by simp; omega) (by simp at hk; omega) h4 (by rw [List.map_append]; exact h3)
        have er : (match numsP (u :: rest) with
            | none => ((0 : Int), [0, 0, 0, 0], (-17 : Int))
            | some us => (x0, pad4 (vs ++ us), 0)) = (match numsP rest with
            | none => (0, [0, 0, 0, 0], -17)
            | some us => (x0, pad4 (vs ++ [x3] ++ us), 0)) := by
          simp only [numsP, hp]
          cases numsP rest with
          | none => rfl
          | some us => simp
        rw [er]
        exact ih
      · have hp : numP u = none := by
          unfold numP
          rw [h1]
          have : (dec x3 == u) = false := beq_eq_false_iff_ne.2 hd
          simp only [this]
        exact .bcT (by simp [hd]) (bad hp m (Ext.refl m))
    · refine .callEq h2 ?_
      exact bad h1 m1 h3

theorem F13_in (k : Nat) (x : Int) : Pr (F13 k) [I x] (I (rw_ x).2.1) := F13_pr k x
theorem F9_pr (k : Nat) (hk : 1000 ≤ k) (s : List UInt8) (hs : s.length ≤ 400) : Pr (F9 k) [.str s] (prgA (parseR s)) := Am.Ends.pr fun m hm => by
  show Am.Ends m (B9 (F18 k) (F19 k) (F13 k) (F17 k) (F20 k) (F21 k) k s) _ m
  unfold B9
  refine .new rfl ?_
  have x1 : Ext m (m.add (.cells z5)) := Ext.add _ _
  have c1 : (m.add (.cells z5)).cells m.next = some z5 := Mem.cells_add_same _ _
  have n1 : m.next < (m.add (.cells z5)).next := Nat.lt_succ_self _
  show Am.Ends m _ _ (m.add (.cells z5))
  generalize (m.add (.cells z5)) = m1 at x1 c1 n1 ⊢
  obtain ⟨q0, h1, h2⟩ := F18_eq k s hs m1
  refine .callEq h1 (Ends_dSl ?_)
  have x2 : Ext m1 (m1.add (.cells (wordsC s))) := Ext.add _ _
  generalize (m1.add (.cells (wordsC s))) = m2 at h2 x2 ⊢
  refine .callEq (F19_pr k m2) (Ends_dSl ?_)
  have x3 : Ext m2 (m2.add (.cells T19)) := Ext.add _ _
  have c3 : (m2.add (.cells T19)).cells m2.next = some T19 := Mem.cells_add_same _ _
  have n3 : m2.next < (m2.add (.cells T19)).next := Nat.lt_succ_self _
  generalize (m2.add (.cells T19)) = m3 at x3 c3 n3 ⊢
  have hq := (h2.kp (.of x3)).sv
  have x13 := x2.trans x3
  have x03 := x1.trans x13
  unfold parseR
  unfold wordsC at hq
  have hwl := word_len 32 s
  cases hsp : splitOn 32 s with
  | nil => exact absurd hsp (splitOn_ne _ _)
  | cons w ws =>
    rw [hsp] at hq hwl
    refine tab_loop hm q0 m2.next w ws (fun x0 => bc (x0 == 0) (stN 5 m.next 0 [I 0, I 0, I 0, I 0, I 0] (ldN 5 m.next 0 fun l0 => ret (.tup [.agg l0, I (-10)]))) (call (F13 k) [I x0] (dI .i64 fun x1 => bc ((IntKind.wrap .i64 ((slen q0) - 1)) != x1) (stN 5 m.next 0 [I 0, I 0, I 0, I 0, I 0] (ldN 5 m.next 0 fun l1 => ret (.tup [.agg l1, I (-17)]))) (cut 1 q0 (some 1) none none fun q2 => jn (un fun y1 z1 => (dSl fun q3 => (u0 (call (F17 k) [I x0, .slice q3] (dA 5 fun l2 => stN 5 m.next 0 l2 (ldN 5 m.next 0 fun l3 => ret (.tup [.agg l3, I 0]))))) z1) y1) fun j0 => lp k [.slice none, I 0] fun w0 f0 => (un fun y2 z2 => (dSl fun q4 => (un fun y3 z3 => (dI .i64 fun x2 => (u0 (bc (decide (x2 < (slen q2))) (ixS 1 q2 x2 fun i1 o0 => ld i1 o0 (dS fun s1 => call (F20 k) [.str s1, I 10, I 64] (d2 fun y4 y5 => (dI .i64 fun x3 => (dV fun v0 => ifNilIf v0 fun b0 => bc (!b0) (stN 5 m.next 0 [I 0, I 0, I 0, I 0, I 0] (ldN 5 m.next 0 fun l4 => ret (.tup [.agg l4, I (-17)]))) (call (F21 k) [I x3, I 10] (dS fun s2 => bc (!((s2 : List UInt8) == s1)) (stN 5 m.next 0 [I 0, I 0, I 0, I 0, I 0] (ldN 5 m.next 0 fun l5 => ret (.tup [.agg l5, I (-17)]))) (new [I x3] fun i2 => app 1 8 q4 (some ⟨i2, 0, 1, 1, 1, true⟩) fun q5 => f0 [.slice q5, I (IntKind.wrap .i64 (x2 + 1))])))) y5) y4))) (j0 [.slice q4]))) z3) y3) z2) y2) w0)))) 65 0 k m3 rfl (by omega) x03 hq c3 n3 fun m4 e4 => ?_
    have x04 := x03.trans e4
    have out : ∀ (c : Int) m5, Ext m4 m5 → Am.Ends m (stN 5 m.next 0 [I 0, I 0, I 0, I 0, I 0] (ldN 5 m.next 0 fun l0 => ret (.tup [.agg l0, I c]))) (prgA (0, [0, 0, 0, 0], c)) m5 := fun c m5 e5 => by
      have c5 : m5.cells m.next = some z5 := by rw [((x13.trans e4).trans e5).cells n1]; exact c1
      exact .stN c5 (by rw [(x04.trans e5).lo]; exact hm) rfl (by simp [z5]) rfl (.ldN (Mem.cells_set_same _ _ _) (by simp [splice, z5]) (.ret ((x04.trans e5).set (Nat.le_refl _) _)))
    show Am.Ends m _ (prgA (wordsR (fnN 65 w) ws)) m4
    unfold wordsR
    refine .bcI (fun h => ?_) fun h => ?_
    · rw [h]
      exact out (-10) m4 (Ext.refl _)
    · rw [h]
      have hf : fnN 65 w ≠ 0 := by simpa using h
      obtain ⟨f1, f2, f3⟩ := (fnN_zero 65 w).resolve_left hf
      have f2 : fnN 65 w < 65 := f2
      obtain ⟨a1, a2⟩ := arity_in f1 f2
      refine .call (F13_pr k (fnN 65 w)) (x04.wf hm) fun m5 e5 => ?_
      show Am.Ends m (bc ((IntKind.wrap .i64 ((slen q0) - 1)) != (rw_ (fnN 65 w)).2.1) _ _) _ m5
      have hl5 : ws.length ≤ 1000 := by
        have h6 := splitOn_len 32 s
        rw [hsp] at h6
        simp at h6
        omega
      have hlen : slen q0 = ((ws.length : Int) + 1) := by rw [hq.len]; simp
      have eb : IntKind.wrap .i64 ((slen q0) - 1) = (ws.length : Int) := by
        rw [hlen, wrap_in _ (by omega) (by omega)]; omega
      rw [eb]
      refine .bcI (fun h2 => ?_) fun h2 => ?_
      · rw [h2]
        exact out (-17) m5 e5
      · rw [h2]
        have h2 : (ws.length : Int) = (rw_ (fnN 65 w)).2.1 := by simpa using h2
        have hq5 := hq.ext (e4.trans e5)
        refine Ends_cut1 hq5 fun q2 hq2 => ?_
        exact prg_loop k m.next (fnN 65 w) ws q2 hm (Nat.le_refl _) ((x04.trans e5).wf hm) (x04.trans e5) (Nat.lt_of_lt_of_le n1 ((x13.trans e4).trans e5).next) (by rw [((x13.trans e4).trans e5).cells n1]; exact c1) hq2 (by omega) (fun u hu => by have := hwl u (by simp [hu]); omega) ws [] [] none k m5 rfl rfl (by omega) (Ext.refl _) (Row1.nil _ _)
end Go.AmT
