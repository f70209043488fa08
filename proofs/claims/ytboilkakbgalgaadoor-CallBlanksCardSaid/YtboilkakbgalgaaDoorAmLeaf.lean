/-
Functions that are met by a contract: the world grows, and what the abstract memory tells stays.
-/
import Derived.Test.YtboilkakbgalgaaDoorAmCode
import Derived.Lib.ItoaNum
import Derived.Lib.ParseIntB
import Derived.Lib.Split
import Derived.Lib.SplitLaws
import Derived.Lib.SmallJoins
import Derived.Lib.ConvBytes
import Derived.Sort.Grow
namespace Go.Am
open Go Go.RowKit Go.Proofs

variable {X : Ctx} {μ : Nat → Nat × Nat} {m : Mem} {w w' : World}

/-- All blocks that are there stay; others may come. -/
theorem R.more (h : R X μ m w) (hb : Below w.heap.size w w') : R X μ m w' ∧ Step μ m w μ m w' := by
  have hg : Grow w w' := fun b cs e fz hh => ⟨cs, fz, by rw [hb.block b (Array.getElem?_eq_some_iff.1 hh).1]; exact hh, rfl⟩
  refine ⟨⟨⟨hb.os.trans h.below.os, hb.tape.trans h.below.tape, hb.output.trans h.below.output, Nat.le_trans h.below.size hb.size, fun k hk => ?_⟩, h.wf, h.lo, ?_, h.inj, h.new, h.base⟩, ?_⟩
  · rw [hb.block k (Nat.lt_of_lt_of_le hk h.below.size)]; exact h.below.block k hk
  · exact fun id b hbk => (h.blk id b hbk).mono (fun _ _ => rfl) rfl (Nat.le_refl _) hg (hb.block _ (h.blk_lt hbk))
  · exact ⟨fun _ _ => rfl, Nat.le_refl _, rfl, hg, hb.size, fun b hlt _ => hb.block b hlt, fun i h1 h2 => .inl ⟨i, h1, h2, rfl⟩, fun _ _ => rfl⟩
/-- A number is given to something that the abstract memory does not tell. -/
theorem R.skip (h : R X μ m w) (p : Nat × Nat) : R X (fun i => if i = m.next then p else μ i) { m with next := m.next + 1 } w ∧ Step μ m w (fun i => if i = m.next then p else μ i) { m with next := m.next + 1 } w := by
  have ext : ∀ i, i < m.next → (fun i => if i = m.next then p else μ i) i = μ i := fun i hi => by simp [Nat.ne_of_lt hi]
  have live : ∀ i, m.get i ≠ none → i < m.next := fun i hi => by
    cases hm : m.get i with
    | none => exact absurd hm hi
    | some c => exact h.wf _ _ hm
  refine ⟨⟨h.below, fun id b hb => Nat.lt_succ_of_lt (h.wf id b hb), ⟨h.lo.1, Nat.le_succ_of_le h.lo.2⟩, fun id b hb => ?_, fun i j h1 h2 h3 h4 => ?_, fun i h1 h2 => ?_, h.base⟩, ?_⟩
  · exact (h.blk id b hb).mono ext (ext id (h.wf id b hb)) (Nat.le_succ _) (Grow.refl w) rfl
  · have e1 := ext i (live i h2)
    have e2 := ext j (live j h3)
    simp only [] at e1 e2
    rw [e1, e2]; exact h.inj i j h1 h2 h3 h4
  · have e1 := ext i (live i h2)
    simp only [] at e1
    rw [e1]; exact h.new i h1 h2
  · exact ⟨ext, Nat.le_succ _, rfl, Grow.refl w, Nat.le_refl _, fun _ _ _ => rfl, fun i h1 h2 => .inl ⟨i, h1, h2, (congrArg Prod.fst (ext i (live i h2))).symm⟩, fun _ _ => rfl⟩
/-- A new block with plain cells. -/
theorem R.row (h : R X μ m w) {l : List AV} {r : List Value} {e : TypeId} (hv : VRs μ m.next w l r) (h1 : l.all AV.one = true) :
    R X (fun i => if i = m.next then (w.heap.size, 0) else μ i) (m.add (.cells l)) (w.alloc (.cells r.toArray e)) ∧ Step μ m w (fun i => if i = m.next then (w.heap.size, 0) else μ i) (m.add (.cells l)) (w.alloc (.cells r.toArray e)) := by
  have hw : w.alloc (.cells r.toArray e) = { w with heap := w.heap.push (.cells r.toArray e) } := rfl
  have hg : Grow w (w.alloc (.cells r.toArray e)) := fun b cs e fz hh => ⟨cs, fz, by rw [hw]; simp [Array.getElem?_push, Nat.ne_of_lt (Array.getElem?_eq_some_iff.1 hh).1]; exact hh, rfl⟩
  refine R.alloc h hw ⟨r.toArray, e, (0, 0), ?_, ?_, h1, ?_, fun _ o _ hh => by simp at hh⟩
  · simp only [if_true]
    rw [hw]
    simp
  · simp [hv.length]
  · have : VRs (fun i => if i = m.next then (w.heap.size, 0) else μ i) (m.next + 1) (w.alloc (.cells r.toArray e)) l r := hv.mono (fun i hi => by simp [Nat.ne_of_lt hi]) (Nat.le_succ _) hg
    simpa [hv.length] using this

/-- A string's bytes, to and fro. -/
theorem VR.str_eq {N : Nat} {s : List UInt8} {u : Value} (h : VR μ N w (.str s) u) : u = .string ⟨s.toArray⟩ := by cases h; rfl

/-! Numbers in words. -/
def decL : Nat → Nat → List UInt8
  | 0, u => [UInt8.ofNat (48 + u % 10)]
  | f + 1, u => match decide (u < 10) with
    | true => [UInt8.ofNat (48 + u)]
    | false => decL f (u / 10) ++ [UInt8.ofNat (48 + u % 10)]
def dec (n : Int) : List UInt8 :=
  match decide (n < 0) with
  | true => 45 :: decL 20 n.natAbs
  | false => decL 20 n.toNat
theorem decL_eq : ∀ (f u : Nat), u < 10 ^ (f + 1) → decL f u = Lib.decDigits u
  | 0, u, h => by
    rw [Lib.decDigits, dif_pos (by simpa using h)]
    unfold decL
    rw [Nat.mod_eq_of_lt (by simpa using h)]
  | f + 1, u, h => by
    unfold decL
    rw [Lib.decDigits]
    by_cases hu : u < 10
    · simp only [hu, decide_true, dif_pos]
    · simp only [hu, decide_false]
      rw [dif_neg (by simp), decL_eq f (u / 10) (by rw [Nat.div_lt_iff_lt_mul (by omega)]; rw [Nat.pow_succ] at h; exact h)]
theorem dec_eq (n : Int) (h0 : -9223372036854775808 ≤ n) (h1 : n ≤ 9223372036854775807) : dec n = Lib.itoa n := by
  unfold dec Lib.itoa
  by_cases hn : n < 0
  · simp only [hn, decide_true, if_true]
    rw [decL_eq]
    have : n.natAbs ≤ 9223372036854775808 := by omega
    exact Nat.lt_of_le_of_lt this (by decide)
  · simp only [hn, decide_false, if_false]
    rw [decL_eq]
    have : n.toNat ≤ 9223372036854775807 := by omega
    exact Nat.lt_of_le_of_lt this (by decide)

/-! Words between blanks. -/
def splitOn (c : UInt8) : List UInt8 → List (List UInt8)
  | [] => [[]]
  | b :: r => match decide (b = c) with
    | true => [] :: splitOn c r
    | false => match splitOn c r with
      | w :: ws => (b :: w) :: ws
      | [] => [[b]]
theorem splitOn_ne (c : UInt8) : ∀ l : List UInt8, splitOn c l ≠ []
  | [] => by simp [splitOn]
  | b :: l => by
    unfold splitOn
    split
    · simp
    · split <;> simp
theorem splitOn_eq (c : UInt8) : ∀ l : List UInt8, Lib.splitK [c] 0 (Lib.count l [c]) l = splitOn c l
  | [] => by
    have : Lib.index [] [c] = -1 := by simp [Lib.index]
    rw [Lib.count_miss this]
    rfl
  | b :: l => by
    have ih := splitOn_eq c l
    have hix : Lib.index (b :: l) [c] = if c = b then 0 else if Lib.index l [c] = -1 then -1 else Lib.index l [c] + 1 := by
      rw [Lib.index]
      simp [List.isPrefixOf]
    by_cases hb : b = c
    · subst hb
      have h0 : Lib.index (b :: l) [b] = (0 : Nat) := by rw [hix]; simp
      rw [Lib.count_hit (by simp) h0]
      simp only [List.length_cons, List.length_nil, Nat.zero_add, List.drop_succ_cons, List.drop_zero]
      rw [Nat.add_comm, Lib.splitK, h0, if_neg (by decide)]
      simp only [List.length_cons, List.length_nil, Nat.zero_add, Int.toNat_natCast, List.take_zero, List.drop_succ_cons, List.drop_zero]
      rw [ih]
      simp only [splitOn, decide_true]
    · have hs : splitOn c (b :: l) = (match splitOn c l with
          | w :: ws => (b :: w) :: ws
          | [] => [[b]]) := by simp only [splitOn, hb, decide_false]
      rw [hs]
      by_cases hi : Lib.index l [c] = -1
      · have h0 : Lib.index (b :: l) [c] = -1 := by rw [hix, if_neg (Ne.symm hb), if_pos hi]
        rw [Lib.count_miss h0, ← ih, Lib.count_miss hi]
        rfl
      · obtain ⟨i, hi'⟩ : ∃ i : Nat, Lib.index l [c] = i := ⟨(Lib.index l [c]).toNat, by have := Lib.index_ge l [c]; omega⟩
        have h0 : Lib.index (b :: l) [c] = ((i + 1 : Nat) : Int) := by rw [hix, if_neg (Ne.symm hb), if_neg hi, hi']; rfl
        have hc : Lib.count l [c] = 1 + Lib.count (l.drop (i + 1)) [c] := by have := Lib.count_hit (sub := [c]) (by simp) hi'; simpa using this
        have hc' : Lib.count (b :: l) [c] = 1 + Lib.count (l.drop (i + 1)) [c] := by have := Lib.count_hit (sub := [c]) (by simp) h0; simpa using this
        rw [← ih, hc, hc', Nat.add_comm 1]
        simp only [Lib.splitK]
        rw [h0, hi']
        have e1 : ((((i + 1 : Nat) : Int) == -1) = true) = False := by
          simp only [beq_iff_eq, eq_iff_iff, iff_false]; omega
        have e2 : (((i : Int) == -1) = true) = False := by
          simp only [beq_iff_eq, eq_iff_iff, iff_false]; omega
        simp only [e1, e2, if_false, Int.toNat_natCast, Nat.add_zero, List.take_succ_cons, List.drop_succ_cons, List.length_cons, List.length_nil, Nat.zero_add]

/-! The abstract answers of functions that are met by a contract. -/
def splitF : AFn
  | [.str s, .str [c]] => fun m => match decide (s.length < 4294967281) with
    | true => some (.slice (some { id := m.next, off := 0, sz := 1, len := (splitOn c s).length, cap := (splitOn c s).length, ex := true }), m.add (.cells ((splitOn c s).map .str)))
    | false => none
  | _ => fail
def itoaF : AFn
  | [.int .i64 n] => fun m => match decide (-9223372036854775808 ≤ n ∧ n ≤ 9223372036854775807) with
    | true => some (.str (dec n), m)
    | false => none
  | _ => fail
def fmtIntF : AFn
  | [.int .i64 n, .int .i64 10] => fun m => match decide (-9223372036854775808 ≤ n ∧ n ≤ 9223372036854775807) with
    | true => some (.str (dec n), m)
    | false => none
  | _ => fail
def parseIntF (T : TypeId) : AFn
  | [.str s, .int .i64 10, .int .i64 64] => fun m => match decide (s.length ≤ 281474976710656) with
    | true => match Lib.parseIntB 64 s with
      | .ok v => some (.tup [.int .i64 v, .nilif], m)
      | .range => some (.tup [.int .i64 (Lib.intSat 64 s), .iface T (.ptr (some (m.next, 0)))], { m with next := m.next + 1 })
      | _ => some (.tup [.int .i64 0, .iface T (.ptr (some (m.next, 0)))], { m with next := m.next + 1 })
    | false => none
  | _ => fail

/-- Is it no numeral? -/
def noNum : Lib.NumEnd Int → Bool
  | .ok _ => false
  | .range => false
  | _ => true
theorem var_below {P : Program} {w w' : World} {n : String} {cs : Array Value} (hb : Below w.heap.size w w') (h : w.var? P n = some cs) : w'.var? P n = some cs := by
  unfold World.var? at h ⊢
  cases hg : P.globalNamed n with
  | none => simp [hg] at h
  | some g =>
    simp only [hg, Option.bind_some] at h ⊢
    have hlt : g < w.heap.size := by
      rcases Nat.lt_or_ge g w.heap.size with h' | h'
      · exact h'
      · simp [Array.getElem?_eq_none h'] at h
    rw [hb.block g hlt]
    exact h
theorem cell_below {w w' : World} {a : Addr} {v : Value} (hb : Below w.heap.size w w') (h : w.cell? a = some v) : w'.cell? a = some v := by
  rw [hb.cell (World.block_lt_of_cell? _ _ h)]; exact h
theorem below_grow (w : World) (q : Nat) (os : Array Obj) : Below w.heap.size w (Sort.grow (w.drewN q) os) :=
  ⟨rfl, rfl, rfl, by simp [Sort.grow], fun i hi => by
    show ((w.drewN q).heap ++ os)[i]? = _
    rw [Array.getElem?_append_left (by show i < w.heap.size; omega)]
    rfl⟩
/-- A contract that answers a plain value over a world that has grown. -/
theorem snd_plain {f : FuncId} {F : AFn} (hent : Enters X.P f)
    (h : ∀ μ m m' w args us v, F args m = some (v, m') → R X μ m w → VRs μ m.next w args us.toList → m' = m ∧ Calls X.P f us w fun e w' => ∃ u, e = .returned u ∧ (∀ μ N w, VR μ N w v u) ∧ Below w.heap.size w w') : Snd X f F :=
  ⟨hent, fun μ m m' w args us v hF hR hv => by
    obtain ⟨rfl, hc⟩ := h μ m m' w args us v hF hR hv
    refine hc.mono fun e w' he => ?_
    obtain ⟨u, he, hu, hb⟩ := he
    obtain ⟨h1, h2⟩ := hR.more hb
    exact ⟨u, μ, he, hu _ _ _, h1, h2⟩⟩
theorem VRs.one_inv {N : Nat} {v : AV} {us : Array Value} (h : VRs μ N w [v] us.toList) : ∃ u, us = #[u] ∧ VR μ N w v u := by
  obtain ⟨l⟩ := us
  cases h with
  | cons _ u _ r h1 h2 => cases h2; exact ⟨u, rfl, h1⟩
theorem VRs.two_inv {N : Nat} {v v' : AV} {us : Array Value} (h : VRs μ N w [v, v'] us.toList) : ∃ u u', us = #[u, u'] ∧ VR μ N w v u ∧ VR μ N w v' u' := by
  obtain ⟨l⟩ := us
  cases h with
  | cons _ u _ r h1 h2 => cases h2 with
    | cons _ u' _ r h2 h3 => cases h3; exact ⟨u, u', rfl, h1, h2⟩
theorem VRs.three_inv {N : Nat} {v v' v'' : AV} {us : Array Value} (h : VRs μ N w [v, v', v''] us.toList) : ∃ u u' u'', us = #[u, u', u''] ∧ VR μ N w v u ∧ VR μ N w v' u' ∧ VR μ N w v'' u'' := by
  obtain ⟨l⟩ := us
  cases h with
  | cons _ u _ r h1 h2 => cases h2 with
    | cons _ u' _ r h2 h3 => cases h3 with
      | cons _ u'' _ r h3 h4 => cases h4; exact ⟨u, u', u'', rfl, h1, h2, h3⟩

theorem snd_itoa {f : FuncId} (hent : Enters X.P f)
    (hc : ∀ n w, -9223372036854775808 ≤ n → n ≤ 9223372036854775807 → Below X.w0.heap.size X.w0 w → Calls X.P f #[.int .i64 n] w fun e w' => e = .returned (.string ⟨(Lib.itoa n).toArray⟩) ∧ ∃ k os, w' = Sort.grow (w.drewN k) os) : Snd X f itoaF := by
  refine snd_plain hent fun μ m m' w args us v hF hR hv => ?_
  unfold itoaF at hF
  split at hF
  · rename_i n
    by_cases hn : -9223372036854775808 ≤ n ∧ n ≤ 9223372036854775807
    · simp only [hn, and_self, decide_true] at hF
      cases hF
      obtain ⟨u, rfl, hu⟩ := hv.one_inv
      obtain rfl := hu.int_eq
      refine ⟨rfl, (hc n w hn.1 hn.2 hR.below).mono fun e w' he => ?_⟩
      obtain ⟨rfl, k, os, rfl⟩ := he
      exact ⟨_, rfl, fun μ N w => by rw [← dec_eq n hn.1 hn.2]; exact .str _, below_grow _ _ _⟩
    · simp only [hn, decide_false] at hF
      cases hF
  · cases hF
theorem snd_fmtInt {f : FuncId} (hent : Enters X.P f)
    (hc : ∀ n w, -9223372036854775808 ≤ n → n ≤ 9223372036854775807 → Below X.w0.heap.size X.w0 w → Calls X.P f #[.int .i64 n, .int .i64 10] w fun e w' => e = .returned (.string ⟨(Lib.itoa n).toArray⟩) ∧ ∃ k os, w' = Sort.grow (w.drewN k) os) : Snd X f fmtIntF := by
  refine snd_plain hent fun μ m m' w args us v hF hR hv => ?_
  unfold fmtIntF at hF
  split at hF
  · rename_i n
    simp only [] at hF
    by_cases hn : -9223372036854775808 ≤ n ∧ n ≤ 9223372036854775807
    · simp only [hn, and_self, decide_true] at hF
      cases hF
      obtain ⟨u, u', rfl, hu, hu'⟩ := hv.two_inv
      obtain rfl := hu.int_eq
      obtain rfl := hu'.int_eq
      refine ⟨rfl, (hc n w hn.1 hn.2 hR.below).mono fun e w' he => ?_⟩
      obtain ⟨rfl, k, os, rfl⟩ := he
      exact ⟨_, rfl, fun μ N w => by rw [← dec_eq n hn.1 hn.2]; exact .str _, below_grow _ _ _⟩
    · simp only [hn, decide_false] at hF
      cases hF
  · cases hF
theorem size_of (s : List UInt8) : (ByteArray.mk s.toArray).size = s.length := by simp [ByteArray.size]
theorem snd_parseInt {f : FuncId} {T E5 : TypeId} (hent : Enters X.P f)
    (hok : ∀ (s : ByteArray) v w, s.size ≤ 9223372036854775806 → Lib.parseIntB 64 s.data.toList = .ok v → Calls X.P f #[.string s, .int .i64 10, .int .i64 64] w fun e w' => e = .returned (.tuple #[.int .i64 v, .nilIface]) ∧ (w' = w ∨ ∃ t, w' = Lib.bytesWorld w E5 t))
    (hsy : ∀ (s : ByteArray) w, s.size ≤ 281474976710656 → noNum (Lib.parseIntB 64 s.data.toList) = true → Below X.w0.heap.size X.w0 w → Calls X.P f #[.string s, .int .i64 10, .int .i64 64] w fun e w' => ∃ N, e = .returned (.tuple #[.int .i64 0, .iface T (.pointer (some ⟨N, 0, none⟩))]) ∧ Below w.heap.size w w')
    (hra : ∀ (s : ByteArray) w, s.size ≤ 281474976710656 → Lib.parseIntB 64 s.data.toList = .range → Below X.w0.heap.size X.w0 w → Calls X.P f #[.string s, .int .i64 10, .int .i64 64] w fun e w' => ∃ N, e = .returned (.tuple #[.int .i64 (Lib.intSat 64 s.data.toList), .iface T (.pointer (some ⟨N, 0, none⟩))]) ∧ Below w.heap.size w w') : Snd X f (parseIntF T) := by
  refine ⟨hent, fun μ m m' w args us v hF hR hv => ?_⟩
  unfold parseIntF at hF
  split at hF
  · rename_i s
    simp only [] at hF
    by_cases hn : s.length ≤ 281474976710656
    · simp only [hn, decide_true] at hF
      obtain ⟨u, u', u'', rfl, hu, hu', hu''⟩ := hv.three_inv
      obtain rfl := hu.str_eq
      obtain rfl := hu'.int_eq
      obtain rfl := hu''.int_eq
      have bad : ∀ (x : Int) N w', Below w.heap.size w w' → ∃ u0 μ', Ending.returned (.tuple #[.int .i64 x, .iface T (.pointer (some ⟨N, 0, none⟩))]) = .returned u0 ∧ VR μ' (m.next + 1) w' (.tup [.int .i64 x, .iface T (.ptr (some (m.next, 0)))]) u0 ∧ R X μ' { m with next := m.next + 1 } w' ∧ Step μ m w μ' { m with next := m.next + 1 } w' := fun x N w' hb => by
        obtain ⟨h1, h2⟩ := hR.more hb
        obtain ⟨h3, h4⟩ := h1.skip (N, 0)
        refine ⟨_, _, rfl, .tup _ _ (.cons _ _ _ _ (.int _ _) (.cons _ _ _ _ (.iface _ _ _ ?_) .nil)), h3, h2.trans h4⟩
        have := VR.ptr (μ := fun i => if i = m.next then (N, 0) else μ i) (N := m.next + 1) (w := w') m.next 0 (Nat.lt_succ_self _)
        simpa using this
      cases hp : Lib.parseIntB 64 s with
      | ok x =>
        rw [hp] at hF
        cases hF
        refine (hok ⟨s.toArray⟩ x w (by rw [size_of]; omega) (by simpa using hp)).mono fun e w' he => ?_
        obtain ⟨rfl, hw⟩ := he
        have hb : Below w.heap.size w w' := by
          rcases hw with rfl | ⟨t, rfl⟩
          · exact .refl _ _
          · exact Joins.below_bytesWorld _ _ _ _ (Nat.le_refl _)
        obtain ⟨h1, h2⟩ := hR.more hb
        exact ⟨_, μ, rfl, .tup _ _ (.cons _ _ _ _ (.int _ _) (.cons _ _ _ _ .nilif .nil)), h1, h2⟩
      | range =>
        rw [hp] at hF
        cases hF
        refine (hra ⟨s.toArray⟩ w (by rw [size_of]; omega) (by simpa using hp) hR.below).mono fun e w' he => ?_
        obtain ⟨N, rfl, hb⟩ := he
        simpa using bad _ N w' hb
      | _ =>
        rw [hp] at hF
        cases hF
        refine (hsy ⟨s.toArray⟩ w (by rw [size_of]; omega) (by rw [hp]; rfl) hR.below).mono fun e w' he => ?_
        obtain ⟨N, rfl, hb⟩ := he
        exact bad 0 N w' hb
    · simp only [hn, decide_false] at hF
      cases hF
  · cases hF
theorem snd_split {f : FuncId} {E9 : TypeId} (hent : Enters X.P f)
    (hc : ∀ (s sep : ByteArray) w, s.size < 4294967281 → 1 ≤ sep.size → Below X.w0.heap.size X.w0 w → Calls X.P f #[.string s, .string sep] w fun e w' =>
      e = .returned (.slice (some ⟨w.heap.size, 0, none⟩) (Lib.countB s sep + 1) (Lib.countB s sep + 1)) ∧ w' = w.alloc (.cells ((Lib.splitB sep 0 (Lib.countB s sep) s).map Value.string).toArray E9)) : Snd X f splitF := by
  refine ⟨hent, fun μ m m' w args us v hF hR hv => ?_⟩
  unfold splitF at hF
  split at hF
  · rename_i s c
    by_cases hn : s.length < 4294967281
    · simp only [hn, decide_true] at hF
      cases hF
      obtain ⟨u, u', rfl, hu, hu'⟩ := hv.two_inv
      obtain rfl := hu.str_eq
      obtain rfl := hu'.str_eq
      have hcnt : Lib.countB ⟨s.toArray⟩ ⟨[c].toArray⟩ = Lib.count s [c] := by simp [Lib.countB]
      have hsp : (Lib.splitB ⟨[c].toArray⟩ 0 (Lib.count s [c]) ⟨s.toArray⟩).map (·.data.toList) = splitOn c s := by
        rw [Lib.splitB_data]; simpa using splitOn_eq c s
      have hlen : (splitOn c s).length = Lib.count s [c] + 1 := by
        rw [← hsp, List.length_map]
        have := Lib.splitB_all ⟨[c].toArray⟩ (by simp [ByteArray.size]) 0 (Lib.count s [c]) ⟨s.toArray⟩ hcnt
        exact this
      refine (hc ⟨s.toArray⟩ ⟨[c].toArray⟩ w (by rw [size_of]; exact hn) (by simp [ByteArray.size]) hR.below).mono fun e w' he => ?_
      obtain ⟨rfl, rfl⟩ := he
      rw [hcnt]
      have hvr : ∀ bs : List ByteArray, VRs μ m.next w (bs.map fun b => AV.str b.data.toList) (bs.map Value.string) := fun bs => by
        induction bs with
        | nil => exact .nil
        | cons b bs ih =>
          refine .cons _ _ _ _ ?_ ih
          have := VR.str (μ := μ) (N := m.next) (w := w) b.data.toList
          simpa using this
      have hl : (splitOn c s).map AV.str = (Lib.splitB ⟨[c].toArray⟩ 0 (Lib.count s [c]) ⟨s.toArray⟩).map fun b => AV.str b.data.toList := by
        rw [← hsp, List.map_map]; rfl
      have h1 : ((splitOn c s).map AV.str).all AV.one = true := by
        rw [List.all_eq_true]; intro x hx
        obtain ⟨y, _, rfl⟩ := List.mem_map.1 hx
        rfl
      obtain ⟨h2, h3⟩ := hR.row (e := E9) (hl ▸ hvr _) h1
      refine ⟨_, _, rfl, ?_, h2, h3⟩
      have hsz : (Lib.splitB ⟨[c].toArray⟩ 0 (Lib.count s [c]) ⟨s.toArray⟩).length = Lib.count s [c] + 1 := by rw [← hlen, ← hsp, List.length_map]
      have := VR.slice (μ := fun i => if i = m.next then (w.heap.size, 0) else μ i) (N := m.next + 1) (w := w.alloc (.cells ((Lib.splitB ⟨[c].toArray⟩ 0 (Lib.count s [c]) ⟨s.toArray⟩).map Value.string).toArray E9))
        { id := m.next, off := 0, sz := 1, len := (splitOn c s).length, cap := (splitOn c s).length, ex := true } (splitOn c s).length (Nat.lt_succ_self _) (Nat.le_refl _) (Nat.le_refl _) (fun _ => rfl)
        ⟨((Lib.splitB ⟨[c].toArray⟩ 0 (Lib.count s [c]) ⟨s.toArray⟩).map Value.string).toArray, E9, (0, 0), by
          simp only [if_true]
          show (w.heap.push _)[w.heap.size]? = _
          simp, by simp [hsz, hlen]⟩
      rw [hlen] at this ⊢
      simpa using this
    · simp only [hn, decide_false] at hF
      cases hF
  · cases hF
end Go.Am
