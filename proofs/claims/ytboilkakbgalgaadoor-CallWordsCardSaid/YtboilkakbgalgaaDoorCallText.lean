/-
What a call's text is, and that it reads back.
-/
import Derived.Test.YtboilkakbgalgaaDoorCallProg
namespace Go.AmT
open Go Go.Am
set_option maxRecDepth 100000
set_option linter.unusedVariables false

/-- Numbers behind blanks. -/
def spd : List Int → List UInt8
  | [] => []
  | a :: r => 32 :: dec a ++ spd r
def textR (x : Int) (args : List Int) : List UInt8 :=
  match (rw_ x).1 == [] with
  | true => [99, 97, 108, 108, 32] ++ dec x
  | false => (rw_ x).1 ++ spd (args.take (rw_ x).2.1.toNat)
theorem dec_len {v : Int} (h : In64 v) : (dec v).length ≤ 20 := by
  have h1 := decL_len19 (natAbs_le h)
  by_cases h0 : v < 0
  · rw [dec_neg h0]; simp; omega
  · rw [dec_pos (by omega)]
    have : v.toNat = v.natAbs := by omega
    rw [this]; omega
theorem name_len {x : Int} (h1 : 1 ≤ x) (h2 : x < 65) : (rw_ x).1.length ≤ 20 := by
  have := all65 (fun x => decide ((rw_ x).1.length ≤ 20)) (by kernel_rfl) x h1 h2
  simpa using this
theorem name_in {x : Int} (h : ((rw_ x).1 == []) = false) : 1 ≤ x ∧ x < 65 := by
  have := known_iff x
  rw [h] at this
  simpa using this.symm
theorem spd_len : ∀ vs : List Int, (∀ a ∈ vs, In64 a) → (spd vs).length ≤ 21 * vs.length
  | [], _ => by simp [spd]
  | a :: r, h => by
    have h1 := dec_len (h a (by simp))
    have h2 := spd_len r fun x hx => h x (by simp [hx])
    simp [spd]
    omega
theorem textR_len {x : Int} {args : List Int} (hx : In64 x) (ha : ∀ a ∈ args, In64 a) (hl : args.length ≤ 4) : (textR x args).length ≤ 120 := by
  unfold textR
  cases h : (rw_ x).1 == [] with
  | true =>
    have := dec_len hx
    simp; omega
  | false =>
    have h1 := name_in h
    have h2 := name_len h1.1 h1.2
    have h3 := spd_len (args.take (rw_ x).2.1.toNat) fun a hh => ha a (List.mem_of_mem_take hh)
    have h4 : (args.take (rw_ x).2.1.toNat).length ≤ 4 := by rw [List.length_take]; omega
    simp only [List.length_append]
    omega

theorem txt_loop {m0 : Mem} (hm0 : m0.lo ≤ m0.next) (k0 : Nat) (q0 : Option SV) (vs : List Int) (ha : ∀ a ∈ vs, In64 a) (has : vs.length ≤ 4) :
    ∀ (rest dn : List Int) (acc : List UInt8) (k : Nat) (m : Mem), vs = dn ++ rest → rest.length < k → Ext m0 m → Sv m q0 (vs.map I) → acc.length ≤ 1000 - 100 * rest.length →
      Am.Ends m0 (lp k [.str acc, I dn.length] fun w0 f0 => (un fun y1 z1 => (dS fun s5 => (un fun y2 z2 => (dI .i64 fun x3 => (u0 (bc (decide (x3 < (slen q0))) (ixS 1 q0 x3 fun i2 o0 => ld i2 o0 (dI .i64 fun x4 => call (F21 k0) [I x4, I 10] (dS fun s6 => cat [32] s6 fun s7 => cat s5 s7 fun s8 => f0 [.str s8, I (IntKind.wrap .i64 (x3 + 1))]))) (ret (.str s5)))) z2) y2) z1) y1) w0) (.str (acc ++ spd rest)) m
  | [], dn, acc, k, m, he, hk, hx, hq, hl => by
    obtain ⟨k, rfl⟩ : ∃ j, k = j + 1 := ⟨k - 1, by omega⟩
    rw [List.append_nil] at he
    subst he
    show Am.Ends m0 (bc (decide ((vs.length : Int) < slen q0)) _ (ret (.str acc))) _ m
    refine .bcF (by rw [hq.len]; simp) ?_
    have : acc ++ spd [] = acc := List.append_nil _
    rw [this]
    exact .ret hx
  | a :: rest, dn, acc, k, m, he, hk, hx, hq, hl => by
    obtain ⟨k, rfl⟩ : ∃ j, k = j + 1 := ⟨k - 1, by omega⟩
    have hlen := congrArg List.length he
    simp only [List.length_append, List.length_cons] at hlen hl hk
    have hi : dn.length < (vs.map I).length := by simp; omega
    have hg : (vs.map I)[dn.length] = I a := by
      have : (vs.map I)[dn.length]? = some (I a) := by rw [he]; simp
      rw [List.getElem?_eq_getElem hi] at this
      exact Option.some.inj this
    have haa : In64 a := ha a (by rw [he]; simp)
    show Am.Ends m0 (bc (decide ((dn.length : Int) < slen q0)) (ixS 1 q0 (dn.length : Int) fun i2 o0 => ld i2 o0 _) _) _ m
    refine .bcT (by rw [hq.len]; simp; omega) (Ends_ixld hq dn.length rfl hi ?_)
    rw [hg]
    show Am.Ends m0 (call (F21 k0) [I a, I 10] _) _ m
    refine .callEq (F21_eq k0 a haa m) ?_
    have hd := dec_len haa
    refine Ends_dS (Ends_cat (by simp; omega) (Ends_cat (by simp; omega) ?_))
    have e10 : IntKind.wrap .i64 ((dn.length : Int) + 1) = (((dn ++ [a]).length : Nat) : Int) := by
      rw [wrap_in _ (by omega) (by omega)]; simp
    rw [e10]
    have ih := txt_loop hm0 k0 q0 vs ha has rest (dn ++ [a]) (acc ++ ([32] ++ dec a)) k m (by rw [he]; simp) (by omega) hx hq (by simp; omega)
    have : acc ++ spd (a :: rest) = acc ++ ([32] ++ dec a) ++ spd rest := by simp [spd]
    rw [this]
    exact ih

theorem F11_pr (k : Nat) (hk : 100 ≤ k) (x : Int) (args : List Int) (hx : In64 x) (ha : ∀ a ∈ args, In64 a) (hl : args.length = 4) : Pr (F11 k) [.agg (I x :: args.map I)] (.str (textR x args)) := Am.Ends.pr fun m hm => by
  have hlen : (I x :: args.map I).length = 5 := by simp [hl]
  show Am.Ends m (B11 (F26 k) (F27 k) (F21 k) k (I x :: args.map I)) _ m
  unfold B11 lenIs
  refine .bcT (decide_eq_true hlen) (.new (by simp [AV.one]) ?_)
  have el : (I x :: args.map I) ++ [] = I x :: args.map I := List.append_nil _
  rw [el]
  have x1 : Ext m (m.add (.cells (I x :: args.map I))) := Ext.add _ _
  have c1 : (m.add (.cells (I x :: args.map I))).cells m.next = some (I x :: args.map I) := Mem.cells_add_same _ _
  have n1 : m.next < (m.add (.cells (I x :: args.map I))).next := Nat.lt_succ_self _
  generalize (m.add (.cells (I x :: args.map I))) = m1 at x1 c1 n1 ⊢
  refine .ld c1 rfl ?_
  show Am.Ends m (call (F26 k) [I x] _) _ m1
  refine .call (F26_pr k x) (x1.wf hm) fun m2 e2 => ?_
  have hc3 : (cellsOf (rw_ x)).length = 3 := rfl
  show Am.Ends m (new [.str [], I 0, I 0] fun i1 => stN 3 i1 0 (cellsOf (rw_ x)) _) _ m2
  refine .new rfl (.stN (l := [.str [], I 0, I 0]) (Mem.cells_add_same _ _) ?_ rfl (by simp) (by simp [cellsOf, AV.one]) ?_)
  · have : (m2.add (.cells [.str [], I 0, I 0])).lo = m.lo := (x1.trans e2).lo
    rw [this]; exact Nat.le_trans hm (x1.trans e2).next
  have es : splice [.str [], I 0, I 0] 0 (cellsOf (rw_ x)) = cellsOf (rw_ x) := rfl
  rw [es]
  have e3 : Ext m2 ((m2.add (.cells [.str [], I 0, I 0])).set m2.next (.cells (cellsOf (rw_ x)))) := (Ext.add _ _).set (Nat.le_refl _) _
  have c3 := Mem.cells_set_same (m2.add (.cells [.str [], I 0, I 0])) m2.next (cellsOf (rw_ x))
  generalize ((m2.add (.cells [.str [], I 0, I 0])).set m2.next (.cells (cellsOf (rw_ x)))) = m3 at e3 c3 ⊢
  have x13 := e2.trans e3
  have x03 := x1.trans x13
  have c13 : m3.cells m.next = some (I x :: args.map I) := by rw [x13.cells n1]; exact c1
  refine .ld (x := .str (rw_ x).1) c3 rfl ?_
  show Am.Ends m (bc ((rw_ x).1 == []) (ld m.next (0 + 0) _) (ld m2.next (0 + 0) _)) _ m3
  unfold textR
  refine .bcI (fun h => ?_) fun h => ?_
  · rw [h]
    refine .ld (x := I x) c13 rfl ?_
    show Am.Ends m (call (F27 k) [I x] _) _ m3
    refine .callEq (F27_eq k x hx m3) ?_
    have := dec_len hx
    exact Ends_dS <| Ends_cat (by simp; omega) (.ret x03)
  · rw [h]
    have hn := name_in h
    obtain ⟨a1, a2⟩ := arity_in hn.1 hn.2
    have hnl := name_len hn.1 hn.2
    refine .ld (x := .str (rw_ x).1) c3 rfl ?_
    show Am.Ends m (ld m2.next (0 + 1) _) _ m3
    refine .ld (x := I (rw_ x).2.1) c3 rfl ?_
    generalize hsp : spd (args.take (rw_ x).2.1.toNat) = tl
    have hcut : ∀ (K : Option SV → C), Am.Ends m (K (some ⟨m.next, 0 + 1 + 0 * 1, 1, (rw_ x).2.1.toNat - 0, 4 - 0, true⟩)) (.str ((rw_ x).1 ++ tl)) m3 → Am.Ends m (cutArr 4 1 m.next (0 + 1) none (some (rw_ x).2.1) none K) (.str ((rw_ x).1 ++ tl)) m3 := fun K hK => by
      obtain ⟨m', h1, h2⟩ := hK
      refine ⟨m', ?_, h2⟩
      unfold cutArr
      rw [c13]
      have eb : cutBounds 4 4 none (some (rw_ x).2.1) none = some (0, (rw_ x).2.1.toNat, 4) := by
        unfold cutBounds
        have : 0 ≤ (rw_ x).2.1 ∧ (rw_ x).2.1 ≤ ((4 : Nat) : Int) := ⟨a1, a2⟩
        simp only [this, and_self, if_true]
      have hd : decide (0 + 1 + 4 * 1 ≤ (I x :: args.map I).length) = true := decide_eq_true (by omega)
      simp only [hd, eb]
      exact h1
    show Am.Ends m _ (.str ((rw_ x).1 ++ tl)) m3
    refine Ends_dI (hcut _ ?_)
    rw [← hsp]
    have hq : Sv m3 (some ⟨m.next, 0 + 1 + 0 * 1, 1, (rw_ x).2.1.toNat - 0, 4 - 0, true⟩) ((args.take (rw_ x).2.1.toNat).map I) := by
      have hl2 : ((args.take (rw_ x).2.1.toNat).map I).length = (rw_ x).2.1.toNat := by
        rw [List.length_map, List.length_take]; omega
      refine ⟨m.next, 0 + 1 + 0 * 1, 4 - 0, true, _, by rw [hl2]; rfl, by rw [hl2]; omega, c13, ?_, Nat.lt_of_lt_of_le n1 x13.next⟩
      rw [hl2]
      show ((args.map I)).take _ = _
      rw [List.map_take]
    exact txt_loop hm k _ (args.take (rw_ x).2.1.toNat) (fun a hh => ha a (List.mem_of_mem_take hh)) (by rw [List.length_take]; omega) (args.take (rw_ x).2.1.toNat) [] (rw_ x).1 k m3 rfl (by rw [List.length_take]; omega) x03 hq (by rw [List.length_take]; omega)

/-! Reading back. -/
theorem dec_no {v : Int} : (32 : UInt8) ∉ dec v := by
  intro h
  by_cases h0 : v < 0
  · rw [dec_neg h0] at h
    rcases List.mem_cons.1 h with h | h
    · cases h
    · have := (decL_dig _ _ _ h).1
      exact absurd this (by decide)
  · rw [dec_pos (by omega)] at h
    have := (decL_dig _ _ _ h).1
    exact absurd this (by decide)
theorem split_spd : ∀ (vs : List Int) (w : List UInt8), (32 : UInt8) ∉ w → splitOn 32 (w ++ spd vs) = w :: vs.map dec
  | [], w, h => by
    have : w ++ spd [] = w := List.append_nil _
    rw [this, splitOn_one h]; rfl
  | a :: r, w, h => by
    have : w ++ spd (a :: r) = w ++ 32 :: (dec a ++ spd r) := by simp [spd]
    rw [this, splitOn_append, splitOn_one h, split_spd r (dec a) dec_no]
    rfl
theorem numsP_dec : ∀ (vs : List Int), (∀ a ∈ vs, In64 a) → numsP (vs.map dec) = some vs
  | [], _ => rfl
  | a :: r, h => by
    have h1 : numP (dec a) = some a := numP_iff.2 ⟨rfl, h a (by simp)⟩
    have h2 := numsP_dec r fun x hx => h x (by simp [hx])
    show numsP (dec a :: r.map dec) = _
    unfold numsP
    rw [h1, h2]
theorem name_no {x : Int} (h1 : 1 ≤ x) (h2 : x < 65) : (32 : UInt8) ∉ (rw_ x).1 := by
  have := all65 (fun x => !(rw_ x).1.contains 32) (by kernel_rfl) x h1 h2
  simpa using this
theorem parse_unknown {x : Int} {args : List Int} (h : ((rw_ x).1 == []) = true) : parseR (textR x args) = (0, [0, 0, 0, 0], -10) := by
  have e : textR x args = [99, 97, 108, 108] ++ 32 :: dec x := by unfold textR; rw [h]; rfl
  have h2 : splitOn 32 (textR x args) = [99, 97, 108, 108] :: [dec x] := by
    rw [e, splitOn_append, splitOn_one (by decide), splitOn_one dec_no]; rfl
  unfold parseR
  rw [h2]
  show wordsR (fnN 65 [99, 97, 108, 108]) [dec x] = _
  have h3 : fnN 65 [99, 97, 108, 108] = 0 := by kernel_rfl
  rw [h3]
  rfl
theorem parse_known {x : Int} {args : List Int} (h : ((rw_ x).1 == []) = false) (ha : ∀ a ∈ args, In64 a) (hl : args.length = 4) : parseR (textR x args) = (x, pad4 (args.take (rw_ x).2.1.toNat), 0) := by
  have hn := name_in h
  obtain ⟨a1, a2⟩ := arity_in hn.1 hn.2
  have h2 : splitOn 32 (textR x args) = (rw_ x).1 :: (args.take (rw_ x).2.1.toNat).map dec := by
    unfold textR
    rw [h]
    exact split_spd _ _ (name_no hn.1 hn.2)
  unfold parseR
  rw [h2]
  show wordsR (fnN 65 (rw_ x).1) _ = _
  rw [fnN_of hn.1 hn.2 65 (Nat.le_refl _) hn.2]
  unfold wordsR
  have e1 : (x == 0) = false := beq_eq_false_iff_ne.2 (by omega)
  have e2 : ((((args.take (rw_ x).2.1.toNat).map dec).length : Int) != (rw_ x).2.1) = false := by
    rw [List.length_map, List.length_take]
    have : ((min (rw_ x).2.1.toNat args.length : Nat) : Int) = (rw_ x).2.1 := by omega
    rw [this]; simp
  rw [e1, e2]
  show argsR x _ = _
  unfold argsR
  rw [numsP_dec _ fun a hh => ha a (List.mem_of_mem_take hh)]
end Go.AmT
