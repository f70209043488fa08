/-
The document's words, names, how many arguments.
-/
import Derived.Test.YtboilkakbgalgaaDoorCallRef
import Derived.Test.YtboilkakbgalgaaDoorCallNames
namespace Go.AmT
open Go Go.Am
set_option maxRecDepth 100000
set_option linter.unusedVariables false

def attach (w : List UInt8) : List (List UInt8) → List (List UInt8)
  | h :: t => (w ++ h) :: t
  | [] => [w]
theorem splitOn_sp (c : UInt8) (r : List UInt8) : splitOn c (c :: r) = [] :: splitOn c r := by
  rw [splitOn]; simp
theorem splitOn_no {c b : UInt8} (h : b ≠ c) (r : List UInt8) : splitOn c (b :: r) = attach [b] (splitOn c r) := by
  rw [splitOn]
  have : decide (b = c) = false := decide_eq_false h
  rw [this]
  simp only []
  cases splitOn c r <;> rfl
theorem attach_nil (c : UInt8) (l : List UInt8) : attach [] (splitOn c l) = splitOn c l := by
  cases h : splitOn c l with
  | nil => exact absurd h (splitOn_ne c l)
  | cons x r => rfl
theorem attach_attach (a b : List UInt8) (l : List (List UInt8)) : attach a (attach b l) = attach (a ++ b) l := by
  cases l <;> simp [attach]
theorem splitOn_one {c : UInt8} : ∀ {l : List UInt8}, c ∉ l → splitOn c l = [l]
  | [], _ => rfl
  | b :: l, h => by
    have hb : b ≠ c := fun e => h (by simp [e])
    rw [splitOn_no hb, splitOn_one fun hc => h (by simp [hc])]
    rfl
theorem splitOn_append (c : UInt8) : ∀ a b : List UInt8, splitOn c (a ++ c :: b) = splitOn c a ++ splitOn c b
  | [], b => by rw [List.nil_append, splitOn_sp]; rfl
  | x :: a, b => by
    rw [List.cons_append]
    by_cases hx : x = c
    · subst hx
      rw [splitOn_sp, splitOn_sp, splitOn_append x a b]; rfl
    · rw [splitOn_no hx, splitOn_no hx, splitOn_append c a b]
      cases h : splitOn c a with
      | nil => exact absurd h (splitOn_ne c a)
      | cons y r => rfl
theorem splitOn_len (c : UInt8) : ∀ l : List UInt8, (splitOn c l).length ≤ l.length + 1
  | [] => by simp [splitOn]
  | b :: l => by
    have ih := splitOn_len c l
    by_cases hb : b = c
    · subst hb; rw [splitOn_sp]; simp; omega
    · rw [splitOn_no hb]
      cases h : splitOn c l with
      | nil => simp [attach]
      | cons y r => rw [h] at ih; simp [attach] at ih ⊢; omega

theorem cut_mid (pre w r : List UInt8) : ((pre ++ w ++ r).take (pre ++ w).length).drop pre.length = w := by
  rw [List.take_left' rfl, List.drop_left' rfl]
def wordsC (s : List UInt8) : List AV := (splitOn 32 s).map .str

theorem words_loop {mb : Mem} (hw : mb.lo ≤ mb.next) (s : List UInt8) (hs : s.length ≤ 400) : ∀ (d : Nat) (pre w rest : List UInt8) (done : List (List UInt8)) (q : Option SV) (k : Nat) (m : Mem),
    s = pre ++ w ++ rest → rest.length = d → d + 2 < k → Row1 mb m q (done.map .str) → Ext mb m → done.length ≤ pre.length →
    ∃ q' m', (lp k [.slice q, I pre.length, I (pre ++ w).length] fun w0 f0 => (un fun y1 z1 => (dSl fun q1 => (un fun y2 z2 => (dI .i64 fun x0 => (un fun y3 z3 => (dI .i64 fun x1 => (u0 (bc (decide (x1 ≤ ((s : List UInt8).length : Int))) (jn (un fun y4 z4 => (dSl fun q2 => (un fun y5 z5 => (dI .i64 fun x2 => (u0 (f0 [.slice q2, I x2, I (IntKind.wrap .i64 (x1 + 1))])) z5) y5) z4) y4) fun j1 => bc (x1 == ((s : List UInt8).length : Int)) (cutStr s (some x0) (some x1) fun s1 => new [.str s1] fun i0 => app 1 16 q1 (some ⟨i0, 0, 1, 1, 1, true⟩) fun q3 => j1 [.slice q3, I (IntKind.wrap .i64 (x1 + 1))]) (ixStr s x1 fun x3 => bc (x3 == 32) (cutStr s (some x0) (some x1) fun s2 => new [.str s2] fun i1 => app 1 16 q1 (some ⟨i1, 0, 1, 1, 1, true⟩) fun q4 => j1 [.slice q4, I (IntKind.wrap .i64 (x1 + 1))]) (j1 [.slice q1, I x0]))) (ret (.slice q1)))) z3) y3) z2) y2) z1) y1) w0) m = some (.slice q', m') ∧ Row1 mb m' q' ((done ++ attach w (splitOn 32 rest)).map .str) ∧ Ext mb m'
  | 0, pre, w, [], done, q, k, m, he, hd, hk, hq, hx, hdl => by
    obtain ⟨k, rfl⟩ : ∃ n, k = n + 2 := ⟨k - 2, by omega⟩
    simp only [List.append_nil] at he
    have hcut : (s.take (pre ++ w).length).drop pre.length = w := by have := cut_mid pre w []; rw [List.append_nil] at this; rw [he]; exact this
    obtain ⟨q', m', h1, h2, h3⟩ := push_eq (bytes := 16) (x := .str w) (fun q3 => lp (k + 1) [.slice q3, I (IntKind.wrap .i64 (((pre ++ w).length : Int) + 1)), I (IntKind.wrap .i64 (((pre ++ w).length : Int) + 1))] fun w0 f0 => (un fun y1 z1 => (dSl fun q1 => (un fun y2 z2 => (dI .i64 fun x0 => (un fun y3 z3 => (dI .i64 fun x1 => (u0 (bc (decide (x1 ≤ ((s : List UInt8).length : Int))) (jn (un fun y4 z4 => (dSl fun q2 => (un fun y5 z5 => (dI .i64 fun x2 => (u0 (f0 [.slice q2, I x2, I (IntKind.wrap .i64 (x1 + 1))])) z5) y5) z4) y4) fun j1 => bc (x1 == ((s : List UInt8).length : Int)) (cutStr s (some x0) (some x1) fun s1 => new [.str s1] fun i0 => app 1 16 q1 (some ⟨i0, 0, 1, 1, 1, true⟩) fun q3 => j1 [.slice q3, I (IntKind.wrap .i64 (x1 + 1))]) (ixStr s x1 fun x3 => bc (x3 == 32) (cutStr s (some x0) (some x1) fun s2 => new [.str s2] fun i1 => app 1 16 q1 (some ⟨i1, 0, 1, 1, 1, true⟩) fun q4 => j1 [.slice q4, I (IntKind.wrap .i64 (x1 + 1))]) (j1 [.slice q1, I x0]))) (ret (.slice q1)))) z3) y3) z2) y2) z1) y1) w0) hq hx hw rfl (by rw [List.length_map]; have := congrArg List.length he; simp at this; omega) (by decide) (by decide)
    refine ⟨q', m', ?_, ?_, h2⟩
    · show (bc (decide (((pre ++ w).length : Int) ≤ (s.length : Int))) (bc (((pre ++ w).length : Int) == (s.length : Int)) (cutStr s (some (pre.length : Int)) (some ((pre ++ w).length : Int)) _) _) _) m = _
      have e1 : decide (((pre ++ w).length : Int) ≤ (s.length : Int)) = true := by rw [he]; simp
      have e2 : (((pre ++ w).length : Int) == (s.length : Int)) = true := by rw [he]; simp
      rw [e1, e2]
      show cutStr s (some (pre.length : Int)) (some ((pre ++ w).length : Int)) _ m = _
      rw [cutStr_eq _ pre.length (pre ++ w).length rfl rfl (by simp) (by rw [he]; simp), hcut]
      refine h3.trans ?_
      rw [wrap_in _ (by omega) (by have := congrArg List.length he; omega)]
      show (bc (decide (((pre ++ w).length : Int) + 1 ≤ (s.length : Int))) _ (ret (.slice q'))) m' = _
      have e3 : decide (((pre ++ w).length : Int) + 1 ≤ (s.length : Int)) = false := by rw [he]; simp; omega
      rw [e3]
      rfl
    · have : attach w (splitOn 32 []) = [w] := by simp [splitOn, attach]
      rw [this, List.map_append]
      exact h1
  | d + 1, pre, w, c :: rest, done, q, k, m, he, hd, hk, hq, hx, hdl => by
    obtain ⟨k, rfl⟩ : ∃ n, k = n + 1 := ⟨k - 1, by omega⟩
    have hlen := congrArg List.length he
    simp only [List.length_append, List.length_cons] at hlen hd
    have hlt : (pre ++ w).length < s.length := by simp; omega
    have hc : s[(pre ++ w).length] = c := by
      have h1 : s[(pre ++ w).length]? = some c := by rw [he]; simp
      rw [List.getElem?_eq_getElem hlt] at h1
      exact Option.some.inj h1
    have e1 : decide (((pre ++ w).length : Int) ≤ (s.length : Int)) = true := by simp; omega
    have e2 : (((pre ++ w).length : Int) == (s.length : Int)) = false := beq_eq_false_iff_ne.2 (by omega)
    by_cases h32 : c = 32
    · subst h32
      have hcut : (s.take (pre ++ w).length).drop pre.length = w := by rw [he]; exact cut_mid pre w _
      obtain ⟨q', m', h1, h2, h3⟩ := push_eq (bytes := 16) (x := .str w) (fun q3 => lp k [.slice q3, I (IntKind.wrap .i64 (((pre ++ w).length : Int) + 1)), I (IntKind.wrap .i64 (((pre ++ w).length : Int) + 1))] fun w0 f0 => (un fun y1 z1 => (dSl fun q1 => (un fun y2 z2 => (dI .i64 fun x0 => (un fun y3 z3 => (dI .i64 fun x1 => (u0 (bc (decide (x1 ≤ ((s : List UInt8).length : Int))) (jn (un fun y4 z4 => (dSl fun q2 => (un fun y5 z5 => (dI .i64 fun x2 => (u0 (f0 [.slice q2, I x2, I (IntKind.wrap .i64 (x1 + 1))])) z5) y5) z4) y4) fun j1 => bc (x1 == ((s : List UInt8).length : Int)) (cutStr s (some x0) (some x1) fun s1 => new [.str s1] fun i0 => app 1 16 q1 (some ⟨i0, 0, 1, 1, 1, true⟩) fun q3 => j1 [.slice q3, I (IntKind.wrap .i64 (x1 + 1))]) (ixStr s x1 fun x3 => bc (x3 == 32) (cutStr s (some x0) (some x1) fun s2 => new [.str s2] fun i1 => app 1 16 q1 (some ⟨i1, 0, 1, 1, 1, true⟩) fun q4 => j1 [.slice q4, I (IntKind.wrap .i64 (x1 + 1))]) (j1 [.slice q1, I x0]))) (ret (.slice q1)))) z3) y3) z2) y2) z1) y1) w0) hq hx hw rfl (by rw [List.length_map]; omega) (by decide) (by decide)
      have ew : IntKind.wrap .i64 (((pre ++ w).length : Int) + 1) = (((pre ++ w ++ [32]).length : Nat) : Int) := by
        rw [wrap_in _ (by omega) (by omega)]; simp; omega
      obtain ⟨q2, m2, h4, h5, h6⟩ := words_loop hw s hs d (pre ++ w ++ [32]) [] rest (done ++ [w]) q' k m' (by rw [he]; simp) (by omega) (by omega) (by rw [List.map_append]; exact h1) h2 (by simp; omega)
      refine ⟨q2, m2, ?_, ?_, h6⟩
      · show (bc (decide (((pre ++ w).length : Int) ≤ (s.length : Int))) (bc (((pre ++ w).length : Int) == (s.length : Int)) _ (ixStr s ((pre ++ w).length : Int) _)) _) m = _
        rw [e1, e2]
        show ixStr s ((pre ++ w).length : Int) _ m = _
        rw [ixStr_eq _ (pre ++ w).length rfl hlt, hc]
        show cutStr s (some (pre.length : Int)) (some ((pre ++ w).length : Int)) _ m = _
        rw [cutStr_eq _ pre.length (pre ++ w).length rfl rfl (by simp) (by omega), hcut]
        refine h3.trans ?_
        rw [ew]
        rw [List.append_nil] at h4
        exact h4
      · rw [splitOn_sp]
        rw [attach_nil] at h5
        have : done ++ attach w ([] :: splitOn 32 rest) = done ++ [w] ++ splitOn 32 rest := by simp [attach]
        rw [this]
        exact h5
    · obtain ⟨q2, m2, h4, h5, h6⟩ := words_loop hw s hs d pre (w ++ [c]) rest done q k m (by rw [he]; simp) (by omega) (by omega) hq hx hdl
      have ew : IntKind.wrap .i64 (((pre ++ w).length : Int) + 1) = (((pre ++ (w ++ [c])).length : Nat) : Int) := by
        rw [wrap_in _ (by omega) (by omega)]; simp; omega
      refine ⟨q2, m2, ?_, ?_, h6⟩
      · show (bc (decide (((pre ++ w).length : Int) ≤ (s.length : Int))) (bc (((pre ++ w).length : Int) == (s.length : Int)) _ (ixStr s ((pre ++ w).length : Int) _)) _) m = _
        rw [e1, e2]
        show ixStr s ((pre ++ w).length : Int) _ m = _
        rw [ixStr_eq _ (pre ++ w).length rfl hlt, hc]
        have e3 : ((c.toNat : Int) == 32) = false := beq_eq_false_iff_ne.2 fun h => h32 (UInt8.toNat_inj.1 (show c.toNat = 32 by omega))
        rw [e3]
        show (lp k [.slice q, I pre.length, I (IntKind.wrap .i64 (((pre ++ w).length : Int) + 1))] _) m = _
        rw [ew]
        exact h4
      · rw [splitOn_no h32, attach_attach]
        exact h5
theorem F22_eq (k : Nat) (hk : 1000 ≤ k) (s : List UInt8) (hs : s.length ≤ 400) (m : Mem) (hm : m.lo ≤ m.next) : ∃ q m', F22 k [.str s] m = some (.slice q, m') ∧ Sv m' q (wordsC s) ∧ Ext m m' := by
  obtain ⟨q, m', h1, h2, h3⟩ := words_loop hm s hs s.length [] [] s [] none k m rfl rfl (by omega) (Row1.nil _ _) (Ext.refl m) (by simp)
  refine ⟨q, m', h1, ?_, h3⟩
  rw [attach_nil, List.nil_append] at h2
  refine h2.sv ?_
  simp [splitOn_ne]

theorem F32_pr (k : Nat) (x : Int) : Pr (F32 k) [I x] (.bool (decide (1 ≤ x ∧ x < 65))) := Am.Ends.pr fun m hm => by
  show Am.Ends m (bc (decide (x ≥ 1)) _ _) _ m
  refine .bcI (fun h => ?_) fun h => ?_
  · have h : 1 ≤ x := by simpa using h
    have : decide (1 ≤ x ∧ x < 65) = decide (x ≤ 64) := by
      by_cases h2 : x ≤ 64
      · rw [decide_eq_true h2]; exact decide_eq_true ⟨h, by omega⟩
      · rw [decide_eq_false h2]; exact decide_eq_false fun h => h2 (by omega)
    rw [this]
    exact .ret (Ext.refl m)
  · have h : ¬ 1 ≤ x := by simpa using h
    have : decide (1 ≤ x ∧ x < 65) = false := decide_eq_false fun h2 => h h2.1
    rw [this]
    exact .ret (Ext.refl m)
theorem F24_all (k : Nat) : ((List.range 64).map fun (n : Nat) => F24 k [I ((n : Int) + 1)]) = (List.range 64).map fun (n : Nat) => ret (I (rw_ ((n : Int) + 1)).2.1) := by kernel_rfl
theorem F24_in (k : Nat) (x : Int) (h1 : 1 ≤ x) (h2 : x < 65) : F24 k [I x] = ret (I (rw_ x).2.1) := by
  have h := congrArg (fun l : List C => l[(x - 1).toNat]?) (F24_all k)
  have hn : (x - 1).toNat < 64 := by omega
  simp only [List.getElem?_map, List.getElem?_range hn, Option.map_some] at h
  have e : (((x - 1).toNat : Nat) : Int) + 1 = x := by omega
  rw [e] at h
  exact Option.some.inj h
theorem F24_pr (k : Nat) (x : Int) (h1 : 1 ≤ x) (h2 : x < 65) : Pr (F24 k) [I x] (I (rw_ x).2.1) := fun m hm => ⟨m, by rw [F24_in k x h1 h2]; rfl, Ext.refl m⟩

/-- The names, as the document lists them. -/
def N23 : List AV := RW.map fun r => .str r.1
theorem F23_eq (k : Nat) (m : Mem) : ∃ q m', F23 k [] m = some (.slice q, m') ∧ Sv m' q N23 ∧ Ext m m' := by
  have h : B23 k = new N23 fun i0 => ret (.slice (some ⟨i0, 0, 1, 65, 65, true⟩)) := by kernel_rfl
  have h1 : N23.all AV.one = true := by kernel_rfl
  have hl : N23.length = 65 := by kernel_rfl
  refine ⟨some ⟨m.next, 0, 1, 65, 65, true⟩, m.add (.cells N23), ?_, ⟨m.next, 0, 65, true, N23, by rw [hl], by rw [hl]; exact Nat.le_refl _, Mem.cells_add_same _ _, by simp, Nat.lt_succ_self _⟩, Ext.add _ _⟩
  show B23 k m = _
  rw [h]
  unfold new
  rw [h1]
  rfl
end Go.AmT
