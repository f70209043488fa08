/-
What a call's text is: the answer both parsers give.
-/
import Derived.Test.YtboilkakbgalgaaDoorCallWord
namespace Go.AmT
open Go Go.Am
set_option maxRecDepth 100000
set_option linter.unusedVariables false

/-- The call of a name, among the first so many. -/
def fnN : Nat → List UInt8 → Int
  | 0, _ => 0
  | n + 1, w => match decide (1 ≤ n) && ((rw_ n).1 == w) with
    | true => n
    | false => fnN n w
def numsP : List (List UInt8) → Option (List Int)
  | [] => some []
  | w :: r => match numP w with
    | none => none
    | some v => match numsP r with
      | none => none
      | some vs => some (v :: vs)
def pad4 (vs : List Int) : List Int := (vs ++ [0, 0, 0, 0]).take 4
def argsR (f : Int) (ws : List (List UInt8)) : Int × List Int × Int :=
  match numsP ws with
  | none => (0, [0, 0, 0, 0], -17)
  | some vs => (f, pad4 vs, 0)
def wordsR (f : Int) (ws : List (List UInt8)) : Int × List Int × Int :=
  match f == 0 with
  | true => (0, [0, 0, 0, 0], -10)
  | false => match ((ws.length : Int) != (rw_ f).2.1) with
    | true => (0, [0, 0, 0, 0], -17)
    | false => argsR f ws
def parseR (s : List UInt8) : Int × List Int × Int :=
  match splitOn 32 s with
  | [] => (0, [0, 0, 0, 0], -10)
  | w :: ws => wordsR (fnN 65 w) ws
def refA (r : Int × List Int × Int) : AV := .tup [I r.1, .agg (r.2.1.map I), I r.2.2]
def prgA (r : Int × List Int × Int) : AV := .tup [.agg (I r.1 :: r.2.1.map I), I r.2.2]

theorem fnN_zero (n : Nat) (w : List UInt8) : fnN n w = 0 ∨ (1 ≤ fnN n w ∧ fnN n w < n ∧ (rw_ (fnN n w)).1 = w) := by
  induction n with
  | zero => exact .inl rfl
  | succ n ih =>
    unfold fnN
    cases hb : decide (1 ≤ n) && ((rw_ n).1 == w) with
    | true =>
      simp at hb
      exact .inr ⟨show (1 : Int) ≤ n by omega, show (n : Int) < ((n + 1 : Nat) : Int) by omega, hb.2⟩
    | false =>
      rcases ih with h | ⟨h1, h2, h3⟩
      · exact .inl h
      · exact .inr ⟨h1, by show fnN n w < _; omega, h3⟩
theorem fnN_of {f : Int} (h1 : 1 ≤ f) (h2 : f < 65) : ∀ n : Nat, n ≤ 65 → f < n → fnN n (rw_ f).1 = f
  | 0, _, h => by omega
  | n + 1, hn, h => by
    unfold fnN
    by_cases hf : f = n
    · subst hf
      have : (decide (1 ≤ n) && ((rw_ n).1 == (rw_ n).1)) = true := by simp; omega
      rw [this]
    · have : (decide (1 ≤ n) && ((rw_ n).1 == (rw_ f).1)) = false := by
        by_cases h0 : 1 ≤ n
        · rw [name_once h1 h2 (by omega) (by omega) (Ne.symm hf)]; simp
        · simp [h0]
      rw [this]
      exact fnN_of h1 h2 n (by omega) (by omega)
theorem arity_in {x : Int} (h1 : 1 ≤ x) (h2 : x < 65) : 0 ≤ (rw_ x).2.1 ∧ (rw_ x).2.1 ≤ 4 := by
  have := all65 (fun x => decide (0 ≤ (rw_ x).2.1) && decide ((rw_ x).2.1 ≤ 4)) (by kernel_rfl) x h1 h2
  simpa using this
theorem pad4_nil : pad4 [] = [0, 0, 0, 0] := rfl
theorem pad4_len (vs : List Int) : (pad4 vs).length = 4 := by unfold pad4; simp
theorem pad4_push (vs : List Int) (v : Int) (h : vs.length < 4) : (pad4 vs).set vs.length v = pad4 (vs ++ [v]) := by
  match vs, h with
  | [], _ => rfl
  | [a], _ => rfl
  | [a, b], _ => rfl
  | [a, b, c], _ => rfl
theorem N23_get {n : Nat} (h1 : 1 ≤ n) (h2 : n < 65) : ∃ h : n < N23.length, N23[n] = .str (rw_ n).1 := by
  have h := RW_get (x := n) (by omega) (by omega)
  have h' : RW[n]? = some (rw_ n) := h
  have hl : n < N23.length := by unfold N23; rw [List.length_map, RW_len]; exact h2
  refine ⟨hl, ?_⟩
  have : N23[n]? = some (.str (rw_ n).1) := by unfold N23; rw [List.getElem?_map, h']; rfl
  rw [List.getElem?_eq_getElem hl] at this
  exact Option.some.inj this

theorem fn_loop {m0 m : Mem} {v : AV} (q0 q1 : Option SV) (w : List UInt8) (ws : List (List UInt8)) (hq0 : Sv m q0 ((w :: ws).map .str)) (hq1 : Sv m q1 N23) (fin : Int → C) (hfin : Am.Ends m0 (fin (fnN 65 w)) v m) :
    ∀ (d n k : Nat), 1 ≤ n → n + d = 65 → d < k → Am.Ends m0 (lp k [I (fnN n w), I n] fun w1 f1 => (un fun y4 z2 => (dI .i64 fun x4 => (un fun y5 z3 => (dI .i64 fun x5 => (u0 (bc (decide (x5 < (slen q1))) (ixS 1 q1 x5 fun i4 o2 => ld i4 o2 (dS fun s2 => ixS 1 q0 0 fun i5 o3 => ld i5 o3 (dS fun s3 => jn (un fun y6 z4 => (dI .i64 fun x6 => (u0 (f1 [I x6, I (IntKind.wrap .i64 (x5 + 1))])) z4) y6) fun j2 => bc ((s2 : List UInt8) == s3) (j2 [I x5]) (j2 [I x4])))) (fin x4))) z3) y5) z2) y4) w1) v m
  | 0, n, k, h1, h2, h3 => by
    obtain ⟨k, rfl⟩ : ∃ j, k = j + 1 := ⟨k - 1, by omega⟩
    obtain rfl : n = 65 := by omega
    show Am.Ends m0 (bc (decide (((65 : Nat) : Int) < slen q1)) _ (fin (fnN 65 w))) _ m
    refine .bcF ?_ hfin
    rw [hq1.len, show N23.length = 65 by kernel_rfl]
    rfl
  | d + 1, n, k, h1, h2, h3 => by
    obtain ⟨k, rfl⟩ : ∃ j, k = j + 1 := ⟨k - 1, by omega⟩
    obtain ⟨hl, hg⟩ := N23_get h1 (show n < 65 by omega)
    show Am.Ends m0 (bc (decide ((n : Int) < slen q1)) _ _) _ m
    refine .bcT (by rw [hq1.len, show N23.length = 65 by kernel_rfl]; simp; omega) (Ends_ixld hq1 n rfl hl ?_)
    rw [hg]
    show Am.Ends m0 (ixS 1 q0 0 fun i5 o3 => ld i5 o3 _) _ m
    refine Ends_ixld hq0 0 rfl (by simp) ?_
    show Am.Ends m0 (bc ((rw_ n).1 == w) (lp k [I n, I (IntKind.wrap .i64 ((n : Int) + 1))] _) (lp k [I (fnN n w), I (IntKind.wrap .i64 ((n : Int) + 1))] _)) _ m
    have ew : IntKind.wrap .i64 ((n : Int) + 1) = ((n + 1 : Nat) : Int) := wrap_in _ (by omega) (by omega)
    rw [ew]
    have go := fn_loop q0 q1 w ws hq0 hq1 fin hfin d (n + 1) k (by omega) (by omega) (by omega)
    have hd : decide (1 ≤ n) = true := decide_eq_true h1
    refine .bcI (fun h => ?_) fun h => ?_
    · have : fnN (n + 1) w = n := by rw [fnN, hd, h]; rfl
      rw [this] at go
      exact go
    · have : fnN (n + 1) w = fnN n w := by rw [fnN, hd, h]; rfl
      rw [this] at go
      exact go

/-- What was made from a number on is as it was. -/
structure Kp (b : Nat) (m m' : Mem) : Prop where
  lo : m'.lo = m.lo
  next : m.next ≤ m'.next
  keep : ∀ i, b ≤ i → i < m.next → m'.get i = m.get i
theorem Kp.of {b : Nat} {m m' : Mem} (h : Ext m m') : Kp b m m' := ⟨h.lo, h.next, fun i _ h2 => h.keep i h2⟩
theorem Kp.set {b : Nat} {m : Mem} {i : Nat} (h : i < b) (c : Blk) : Kp b m (m.set i c) := ⟨rfl, Nat.le_refl _, fun j h1 _ => by rw [Mem.get_set, if_neg (by omega)]⟩
theorem Kp.trans {b : Nat} {m m' m'' : Mem} (h : Kp b m m') (k : Kp b m' m'') : Kp b m m'' := ⟨k.lo.trans h.lo, Nat.le_trans h.next k.next, fun i h1 h2 => (k.keep i h1 (Nat.lt_of_lt_of_le h2 h.next)).trans (h.keep i h1 h2)⟩
/-- A slice made from a number on. -/
def Sb (b : Nat) (m : Mem) (q : Option SV) (xs : List AV) : Prop :=
  ∃ i o c e l, q = some ⟨i, o, 1, xs.length, c, e⟩ ∧ xs.length ≤ c ∧ m.cells i = some l ∧ (l.drop o).take xs.length = xs ∧ i < m.next ∧ b ≤ i
theorem Sb.sv {b : Nat} {m : Mem} {q : Option SV} {xs : List AV} (h : Sb b m q xs) : Sv m q xs := by
  obtain ⟨i, o, c, e, l, h1, h2, h3, h4, h5, _⟩ := h
  exact ⟨i, o, c, e, l, h1, h2, h3, h4, h5⟩
theorem Sb.kp {b : Nat} {m m' : Mem} {q : Option SV} {xs : List AV} (h : Sb b m q xs) (k : Kp b m m') : Sb b m' q xs := by
  obtain ⟨i, o, c, e, l, h1, h2, h3, h4, h5, h6⟩ := h
  exact ⟨i, o, c, e, l, h1, h2, by unfold Mem.cells; rw [k.keep i h6 h5]; exact h3, h4, Nat.lt_of_lt_of_le h5 k.next, h6⟩
theorem F22_sb (k : Nat) (hk : 1000 ≤ k) (s : List UInt8) (hs : s.length ≤ 400) (m : Mem) (hm : m.lo ≤ m.next) : ∃ q m', F22 k [.str s] m = some (.slice q, m') ∧ Sb m.next m' q (wordsC s) ∧ Ext m m' := by
  obtain ⟨q, m', h1, h2, h3⟩ := words_loop hm s hs s.length [] [] s [] none k m rfl rfl (by omega) (Row1.nil _ _) (Ext.refl m) (by simp)
  refine ⟨q, m', h1, ?_, h3⟩
  rw [attach_nil, List.nil_append] at h2
  rcases h2 with ⟨_, h4⟩ | ⟨i, h4, h5, h6, h7⟩
  · simp [splitOn_ne] at h4
  · exact ⟨i, 0, _, _, _, h4, Nat.le_refl _, h5, List.take_length, h7, h6⟩

def z4 : List AV := [I 0, I 0, I 0, I 0]
/-- The rounds over the words that should be numbers. -/
theorem arg_loop {m0 : Mem} (k0 : Nat) (hk0 : 40 ≤ k0) (i0 i1 b : Nat) (x0 : Int) (w : List UInt8) (ws : List (List UInt8)) (q0 : Option SV) (h01 : i0 ≠ i1) (hb0 : i0 < b) (hb1 : i1 < b) (hl0 : m0.lo ≤ i0) (hl1 : m0.lo ≤ i1) (hm0 : m0.lo ≤ m0.next) (hn0 : m0.next ≤ i0) (hn1 : m0.next ≤ i1) (hws : ws.length ≤ 4) :
    ∀ (rest dn : List (List UInt8)) (vs : List Int) (k : Nat) (m : Mem), ws = dn ++ rest → vs.length = dn.length → rest.length < k → Ext m0 m → b ≤ m.next → Sb b m q0 ((w :: ws).map .str) → m.cells i0 = some z4 → m.cells i1 = some ((pad4 vs).map I) →
      Am.Ends m0 (lp k [I (1 + dn.length : Nat)] fun w0 f0 => (un fun y1 z1 => (dI .i64 fun x2 => (u0 (bc (decide (x2 < (slen q0))) (ixS 1 q0 x2 fun i2 o0 => ld i2 o0 (dS fun s1 => call (F25 k0) [.str s1] (d2 fun y2 y3 => (dI .i64 fun x3 => (dB fun b0 => bc (!b0) (stN 4 i0 0 [I 0, I 0, I 0, I 0] (ldN 4 i0 0 fun l6 => ret (.tup [I 0, .agg l6, I (-17)]))) (ixA 4 1 i1 0 (IntKind.wrap .i64 (x2 - 1)) fun i3 o1 => st i3 o1 (I x3) (f0 [I (IntKind.wrap .i64 (x2 + 1))]))) y3) y2))) (ldN 4 i1 0 fun l4 => stN 4 i0 0 l4 (ldN 4 i0 0 fun l5 => ret (.tup [I x0, .agg l5, I 0]))))) z1) y1) w0)
        (refA (match numsP rest with
          | none => (0, [0, 0, 0, 0], -17)
          | some us => (x0, pad4 (vs ++ us), 0))) m
  | [], dn, vs, k, m, he, hv, hk, hx, hbn, hq, h0, h1 => by
    obtain ⟨k, rfl⟩ : ∃ j, k = j + 1 := ⟨k - 1, by omega⟩
    rw [List.append_nil] at he
    subst he
    show Am.Ends m0 (bc (decide (((1 + ws.length : Nat) : Int) < slen q0)) _ (ldN 4 i1 0 fun l4 => _)) _ m
    refine .bcF (by rw [hq.sv.len]; simp; omega) (.ldN h1 (by simp [pad4_len]) ?_)
    have e4 : (((pad4 vs).map I).drop 0).take 4 = (pad4 vs).map I := by
      rw [List.drop_zero, List.take_of_length_le (by simp [pad4_len])]
    rw [e4]
    refine .stN h0 (by rw [hx.lo]; exact hl0) (by simp [pad4_len]) (by simp [z4]) (by simp [AV.one]) (.ldN (Mem.cells_set_same _ _ _) (by rw [splice_all (by simp [pad4_len, z4])]; simp [pad4_len]) ?_)
    rw [splice_all (by simp [pad4_len, z4]), e4]
    have : refA (match numsP [] with
          | none => (0, [0, 0, 0, 0], -17)
          | some us => (x0, pad4 (vs ++ us), 0)) = .tup [I x0, .agg ((pad4 vs).map I), I 0] := by
      simp [numsP, refA]
    rw [this]
    exact .ret (hx.set hn0 _)
  | u :: rest, dn, vs, k, m, he, hv, hk, hx, hbn, hq, h0, h1 => by
    obtain ⟨k, rfl⟩ : ∃ j, k = j + 1 := ⟨k - 1, by omega⟩
    have hlen := congrArg List.length he
    simp only [List.length_append, List.length_cons] at hlen
    show Am.Ends m0 (bc (decide (((1 + dn.length : Nat) : Int) < slen q0)) (ixS 1 q0 ((1 + dn.length : Nat) : Int) fun i2 o0 => ld i2 o0 _) _) _ m
    have hi : 1 + dn.length < ((w :: ws).map AV.str).length := by simp; omega
    refine .bcT (by rw [hq.sv.len]; simp; omega) (Ends_ixld hq.sv (1 + dn.length) rfl hi ?_)
    have hg : ((w :: ws).map AV.str)[1 + dn.length] = .str u := by
      have : ((w :: ws).map AV.str)[1 + dn.length]? = some (.str u) := by rw [he, Nat.add_comm]; simp
      rw [List.getElem?_eq_getElem hi] at this
      exact Option.some.inj this
    rw [hg]
    show Am.Ends m0 (call (F25 k0) [.str u] _) _ m
    refine .call (F25_pr k0 hk0 u) (hx.wf hm0) fun m1 e1 => ?_
    have hbm1 : b ≤ m1.next := Nat.le_trans hbn e1.next
    have h0' : m1.cells i0 = some z4 := by rw [e1.cells (Nat.lt_of_lt_of_le hb0 hbn)]; exact h0
    have h1' : m1.cells i1 = some ((pad4 vs).map I) := by rw [e1.cells (Nat.lt_of_lt_of_le hb1 hbn)]; exact h1
    cases hp : numP u with
    | none =>
      have hn : numR u = .tup [I 0, .bool false] := by unfold numR; rw [hp]
      rw [hn]
      show Am.Ends m0 (stN 4 i0 0 [I 0, I 0, I 0, I 0] _) _ m1
      refine .stN h0' (by rw [(hx.trans e1).lo]; exact hl0) rfl (by simp [z4]) rfl (.ldN (Mem.cells_set_same _ _ _) (by simp [splice, z4]) ?_)
      have : refA (match numsP (u :: rest) with
          | none => (0, [0, 0, 0, 0], -17)
          | some us => (x0, pad4 (vs ++ us), 0)) = .tup [I 0, .agg z4, I (-17)] := by
        simp [numsP, hp, refA, z4]
      rw [this]
      exact .ret ((hx.trans e1).set hn0 _)
    | some x3 =>
      have hn : numR u = .tup [I x3, .bool true] := by unfold numR; rw [hp]
      rw [hn]
      show Am.Ends m0 (ixA 4 1 i1 0 (IntKind.wrap .i64 (((1 + dn.length : Nat) : Int) - 1)) fun i3 o1 => st i3 o1 (I x3) _) _ m1
      have e9 : IntKind.wrap .i64 (((1 + dn.length : Nat) : Int) - 1) = ((vs.length : Nat) : Int) := by
        rw [wrap_in _ (by omega) (by omega)]; omega
      rw [e9]
      show Am.Ends m0 (bc (decide (0 ≤ ((vs.length : Nat) : Int) ∧ ((vs.length : Nat) : Int) < (4 : Nat))) (st i1 (0 + vs.length * 1) (I x3) _) fail) _ m1
      refine .bcT (by simp; omega) (.st h1' (by rw [(hx.trans e1).lo]; exact hl1) (by simp [pad4_len]; omega) rfl ?_)
      have es : ((pad4 vs).map I).set (0 + vs.length * 1) (I x3) = (pad4 (vs ++ [x3])).map I := by
        rw [← pad4_push vs x3 (by omega), List.map_set]; simp
      rw [es]
      have e10 : IntKind.wrap .i64 (((1 + dn.length : Nat) : Int) + 1) = ((1 + (dn ++ [u]).length : Nat) : Int) := by
        rw [wrap_in _ (by omega) (by omega)]; simp; omega
      rw [e10]
      have ih := arg_loop k0 hk0 i0 i1 b x0 w ws q0 h01 hb0 hb1 hl0 hl1 hm0 hn0 hn1 hws rest (dn ++ [u]) (vs ++ [x3]) k (m1.set i1 (.cells ((pad4 (vs ++ [x3])).map I))) (by rw [he]; simp) (by simp; omega) (by simp at hk; omega) ((hx.trans e1).set hn1 _) hbm1 ((hq.kp (.of e1)).kp (.set hb1 _)) (by rw [Mem.cells_set_ne h01]; exact h0') (Mem.cells_set_same _ _ _)
      have er : (match numsP (u :: rest) with
          | none => ((0 : Int), [0, 0, 0, 0], (-17 : Int))
          | some us => (x0, pad4 (vs ++ us), 0)) = (match numsP rest with
          | none => (0, [0, 0, 0, 0], -17)
          | some us => (x0, pad4 (vs ++ [x3] ++ us), 0)) := by
        simp only [numsP, hp]
        cases numsP rest with
        | none => rfl
        | some us => simp
      rw [er]
      exact ih

theorem F10_pr (k : Nat) (hk : 1000 ≤ k) (s : List UInt8) (hs : s.length ≤ 400) : Pr (F10 k) [.str s] (refA (parseR s)) := Am.Ends.pr fun m hm => by
  show Am.Ends m (B10 (F22 k) (F23 k) (F24 k) (F25 k) k s) _ m
  unfold B10
  refine .new rfl (.new rfl ?_)
  have x2 : Ext m ((m.add (.cells [I 0, I 0, I 0, I 0])).add (.cells [I 0, I 0, I 0, I 0])) := (Ext.add m _).trans (Ext.add _ _)
  obtain ⟨q0, m3, h1, h2, h3⟩ := F22_sb k hk s hs ((m.add (.cells [I 0, I 0, I 0, I 0])).add (.cells [I 0, I 0, I 0, I 0])) (x2.wf hm)
  refine .callEq h1 ?_
  obtain ⟨q1, m4, h4, h5, h6⟩ := F23_eq k m3
  refine Ends_dSl (.callEq h4 (Ends_dSl ?_))
  have e0 : m4.cells m.next = some z4 := by
    rw [h6.cells (Nat.lt_of_lt_of_le (show m.next < m.next + 1 + 1 by omega) h3.next), h3.cells (show m.next < m.next + 1 + 1 by omega), Mem.cells_add_ne (show m.next ≠ m.next + 1 by omega), Mem.cells_add_same]
    rfl
  have e1 : m4.cells (m.next + 1) = some z4 := by
    rw [h6.cells (Nat.lt_of_lt_of_le (show m.next + 1 < m.next + 1 + 1 by omega) h3.next), h3.cells (show m.next + 1 < m.next + 1 + 1 by omega)]
    exact Mem.cells_add_same _ _
  have x4 : Ext m m4 := (x2.trans h3).trans h6
  have hq4 : Sb (m.next + 2) m4 q0 (wordsC s) := h2.kp (.of h6)
  unfold parseR
  unfold wordsC at hq4
  cases hsp : splitOn 32 s with
  | nil => exact absurd hsp (splitOn_ne _ _)
  | cons w ws =>
    rw [hsp] at hq4
    have b4 : m.next + 2 ≤ m4.next := Nat.le_trans h3.next h6.next
    have lo0 : m4.lo ≤ m.next := by rw [x4.lo]; exact hm
    have out : ∀ c : Int, Am.Ends m (ldN 4 (m.next + 1) 0 fun l0 => stN 4 m.next 0 l0 (ldN 4 m.next 0 fun l1 => ret (.tup [I 0, .agg l1, I c]))) (refA (0, [0, 0, 0, 0], c)) m4 := fun c =>
      .ldN e1 (by simp [z4]) (.stN e0 lo0 rfl (by simp [z4]) rfl (.ldN (Mem.cells_set_same _ _ _) (by simp [splice, z4]) (.ret (x4.set (Nat.le_refl _) _))))
    refine fn_loop q0 q1 w ws hq4.sv h5 (fun x0 => bc (x0 == 0) (ldN 4 (m.next + 1) 0 fun l0 => stN 4 m.next 0 l0 (ldN 4 m.next 0 fun l1 => ret (.tup [I 0, .agg l1, I (-10)]))) (call (F24 k) [I x0] (dI .i64 fun x1 => bc ((slen q0) != (IntKind.wrap .i64 (1 + x1))) (ldN 4 (m.next + 1) 0 fun l2 => stN 4 m.next 0 l2 (ldN 4 m.next 0 fun l3 => ret (.tup [I 0, .agg l3, I (-17)]))) (jn (u0 (ldN 4 (m.next + 1) 0 fun l4 => stN 4 m.next 0 l4 (ldN 4 m.next 0 fun l5 => ret (.tup [I x0, .agg l5, I 0])))) fun j0 => lp k [I 1] fun w0 f0 => (un fun y1 z1 => (dI .i64 fun x2 => (u0 (bc (decide (x2 < (slen q0))) (ixS 1 q0 x2 fun i2 o0 => ld i2 o0 (dS fun s1 => call (F25 k) [.str s1] (d2 fun y2 y3 => (dI .i64 fun x3 => (dB fun b0 => bc (!b0) (stN 4 m.next 0 [I 0, I 0, I 0, I 0] (ldN 4 m.next 0 fun l6 => ret (.tup [I 0, .agg l6, I (-17)]))) (ixA 4 1 (m.next + 1) 0 (IntKind.wrap .i64 (x2 - 1)) fun i3 o1 => st i3 o1 (I x3) (f0 [I (IntKind.wrap .i64 (x2 + 1))]))) y3) y2))) (j0 []))) z1) y1) w0)))) ?_ 64 1 k (Nat.le_refl _) rfl (by omega)
    show Am.Ends m _ (refA (wordsR (fnN 65 w) ws)) m4
    unfold wordsR
    refine .bcI (fun h => ?_) fun h => ?_
    · rw [h]
      exact out (-10)
    · rw [h]
      have hf : fnN 65 w ≠ 0 := by simpa using h
      obtain ⟨f1, f2, f3⟩ := (fnN_zero 65 w).resolve_left hf
      have f2 : fnN 65 w < 65 := f2
      obtain ⟨a1, a2⟩ := arity_in f1 f2
      refine .callEq (u := I (rw_ (fnN 65 w)).2.1) (m1 := m4) (by rw [F24_in k _ f1 f2]; rfl) ?_
      show Am.Ends m (bc ((slen q0) != IntKind.wrap .i64 (1 + (rw_ (fnN 65 w)).2.1)) _ _) _ m4
      have hlen : slen q0 = ((ws.length : Int) + 1) := by rw [hq4.sv.len]; simp
      have eb : ((slen q0) != IntKind.wrap .i64 (1 + (rw_ (fnN 65 w)).2.1)) = ((ws.length : Int) != (rw_ (fnN 65 w)).2.1) := by
        rw [hlen, wrap_in _ (by omega) (by omega)]
        by_cases hh : (ws.length : Int) = (rw_ (fnN 65 w)).2.1
        · rw [hh]; simp; omega
        · have h3 : ¬ ((ws.length : Int) + 1 = 1 + (rw_ (fnN 65 w)).2.1) := by omega
          simp [bne, beq_eq_false_iff_ne.2 hh, beq_eq_false_iff_ne.2 h3]
      rw [eb]
      refine .bcI (fun h2 => ?_) fun h2 => ?_
      · rw [h2]
        exact out (-17)
      · rw [h2]
        have h2 : (ws.length : Int) = (rw_ (fnN 65 w)).2.1 := by simpa using h2
        exact arg_loop k (by omega) m.next (m.next + 1) (m.next + 2) (fnN 65 w) w ws q0 (by omega) (by omega) (by omega) hm (by omega) hm (Nat.le_refl _) (by omega) (by omega) ws [] [] k m4 rfl rfl (by omega) x4 b4 hq4 e0 e1
end Go.AmT
