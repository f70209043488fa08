/-
How the abstract machine's values and memory stand to the model's world; how a step leaves that so.
-/
import Derived.Test.YtboilkakbgalgaaDoorAmTree
namespace Go.Am
open Go Go.RowKit

/-- No row of cells has gone, or has another number of cells. -/
def Grow (w w' : World) : Prop :=
  ∀ (b : Nat) (cs : Array Value) (e : TypeId) (fz : Nat × Nat), w.heap[b]? = some (.cells cs e fz) →
    ∃ (cs' : Array Value) (fz' : Nat × Nat), w'.heap[b]? = some (.cells cs' e fz') ∧ cs'.size = cs.size
theorem Grow.refl (w : World) : Grow w w := fun _ cs _ fz h => ⟨cs, fz, h, rfl⟩
theorem Grow.trans {a b c : World} (h : Grow a b) (k : Grow b c) : Grow a c := fun i cs e fz hh => by
  obtain ⟨cs', fz', h1, h2⟩ := h i cs e fz hh
  obtain ⟨cs'', fz'', h3, h4⟩ := k i cs' e fz' h1
  exact ⟨cs'', fz'', h3, h4.trans h2⟩

mutual
/-- An abstract value, and a value of the model: addresses by μ, blocks' numbers below N. -/
inductive VR (μ : Nat → Nat × Nat) (N : Nat) (w : World) : AV → Value → Prop
  | bool (b : Bool) : VR μ N w (.bool b) (.bool b)
  | int (k : IntKind) (n : Int) : VR μ N w (.int k n) (.int k n)
  | str (s : List UInt8) : VR μ N w (.str s) (.string ⟨s.toArray⟩)
  | nilptr : VR μ N w (.ptr none) (.pointer none)
  | ptr (i o : Nat) : i < N → VR μ N w (.ptr (some (i, o))) (.pointer (some ⟨(μ i).1, (μ i).2 + o, none⟩))
  | nilslice : VR μ N w (.slice none) (.slice none 0 0)
  | slice (s : SV) (c : Nat) : s.id < N → s.len ≤ s.cap → s.cap ≤ c → (s.ex = true → c = s.cap) →
      (∃ (cs : Array Value) (e : TypeId) (fz : Nat × Nat), w.heap[(μ s.id).1]? = some (.cells cs e fz) ∧ (μ s.id).2 + s.off + c * s.sz ≤ cs.size) →
      VR μ N w (.slice (some s)) (.slice (some ⟨(μ s.id).1, (μ s.id).2 + s.off, none⟩) s.len c)
  | emptyslice (s : SV) (a : Addr) : s.id < N → s.len = 0 → s.cap = 0 → VR μ N w (.slice (some s)) (.slice (some a) 0 0)
  | nilmap : VR μ N w (.map none) (.map none)
  | map (i : Nat) : i < N → VR μ N w (.map (some i)) (.map (some (μ i).1))
  | fn (f : FuncId) (first caps : List AV) (a b : Array Value) : VRs μ N w first a.toList → VRs μ N w caps b.toList →
      VR μ N w (.fn f first caps) (.func (.func f) a b)
  | nilfn : VR μ N w .nilfn .nilFunc
  | iface (t : TypeId) (v : AV) (u : Value) : VR μ N w v u → VR μ N w (.iface t v) (.iface t u)
  | nilif : VR μ N w .nilif .nilIface
  | agg (l : List AV) (a : Array Value) : VRs μ N w l a.toList → l.all AV.one = true → VR μ N w (.agg l) (.agg a)
  | tup (l : List AV) (a : Array Value) : VRs μ N w l a.toList → VR μ N w (.tup l) (.tuple a)
inductive VRs (μ : Nat → Nat × Nat) (N : Nat) (w : World) : List AV → List Value → Prop
  | nil : VRs μ N w [] []
  | cons (v : AV) (u : Value) (l : List AV) (r : List Value) : VR μ N w v u → VRs μ N w l r → VRs μ N w (v :: l) (u :: r)
end

mutual
theorem VR.mono {μ μ' : Nat → Nat × Nat} {N N' : Nat} {w w' : World} (hm : ∀ i, i < N → μ' i = μ i) (hN : N ≤ N') (hg : Grow w w') :
    ∀ {v : AV} {u : Value}, VR μ N w v u → VR μ' N' w' v u
  | _, _, .bool b => .bool b
  | _, _, .int k n => .int k n
  | _, _, .str s => .str s
  | _, _, .nilptr => .nilptr
  | _, _, .ptr i o h => by rw [← hm i h]; exact .ptr i o (Nat.lt_of_lt_of_le h hN)
  | _, _, .nilslice => .nilslice
  | _, _, .slice s c h1 h2 h3 h4 h5 => by
    rw [← hm s.id h1]
    refine .slice s c (Nat.lt_of_lt_of_le h1 hN) h2 h3 h4 ?_
    obtain ⟨cs, e, fz, hh, hl⟩ := h5
    obtain ⟨cs', fz', hh', hs⟩ := hg _ _ _ _ hh
    rw [hm s.id h1]
    exact ⟨cs', e, fz', hh', by omega⟩
  | _, _, .emptyslice s a h1 h2 h3 => .emptyslice s a (Nat.lt_of_lt_of_le h1 hN) h2 h3
  | _, _, .nilmap => .nilmap
  | _, _, .map i h => by rw [← hm i h]; exact .map i (Nat.lt_of_lt_of_le h hN)
  | _, _, .fn f first caps a b h1 h2 => .fn f first caps a b (VRs.mono hm hN hg h1) (VRs.mono hm hN hg h2)
  | _, _, .nilfn => .nilfn
  | _, _, .iface t v u h => .iface t v u (VR.mono hm hN hg h)
  | _, _, .nilif => .nilif
  | _, _, .agg l a h h1 => .agg l a (VRs.mono hm hN hg h) h1
  | _, _, .tup l a h => .tup l a (VRs.mono hm hN hg h)
theorem VRs.mono {μ μ' : Nat → Nat × Nat} {N N' : Nat} {w w' : World} (hm : ∀ i, i < N → μ' i = μ i) (hN : N ≤ N') (hg : Grow w w') :
    ∀ {l : List AV} {r : List Value}, VRs μ N w l r → VRs μ' N' w' l r
  | _, _, .nil => .nil
  | _, _, .cons v u l r h1 h2 => .cons v u l r (VR.mono hm hN hg h1) (VRs.mono hm hN hg h2)
end

section lists
variable {μ : Nat → Nat × Nat} {N : Nat} {w : World}
theorem VRs.length {l : List AV} {r : List Value} (h : VRs μ N w l r) : l.length = r.length := by
  induction l generalizing r with
  | nil => cases h; rfl
  | cons v l ih => cases h with | cons _ _ _ _ h1 h2 => simp [ih h2]
theorem VRs.get {l : List AV} {r : List Value} (h : VRs μ N w l r) {k : Nat} {v : AV} (hv : l[k]? = some v) : ∃ u, r[k]? = some u ∧ VR μ N w v u := by
  induction l generalizing r k with
  | nil => simp at hv
  | cons x l ih =>
    cases h with
    | cons _ u _ r h1 h2 =>
      cases k with
      | zero => simp at hv; subst hv; exact ⟨u, rfl, h1⟩
      | succ k => simp at hv; simpa using ih h2 hv
theorem VRs.append {l l' : List AV} {r r' : List Value} (h : VRs μ N w l r) (h' : VRs μ N w l' r') : VRs μ N w (l ++ l') (r ++ r') := by
  induction l generalizing r with
  | nil => cases h; exact h'
  | cons x l ih => cases h with | cons _ u _ r h1 h2 => exact .cons _ _ _ _ h1 (ih h2)
theorem VRs.drop {l : List AV} {r : List Value} (h : VRs μ N w l r) (n : Nat) : VRs μ N w (l.drop n) (r.drop n) := by
  induction n generalizing l r with
  | zero => simpa using h
  | succ n ih => cases h with
    | nil => simpa using VRs.nil
    | cons _ _ _ _ h1 h2 => simpa using ih h2
theorem VRs.take {l : List AV} {r : List Value} (h : VRs μ N w l r) (n : Nat) : VRs μ N w (l.take n) (r.take n) := by
  induction n generalizing l r with
  | zero => simpa using VRs.nil
  | succ n ih => cases h with
    | nil => simpa using VRs.nil
    | cons _ _ _ _ h1 h2 => simpa using VRs.cons _ _ _ _ h1 (ih h2)
theorem VRs.of_get {l : List AV} {r : List Value} (hl : l.length = r.length) (h : ∀ (k : Nat) v, l[k]? = some v → ∃ u, r[k]? = some u ∧ VR μ N w v u) : VRs μ N w l r := by
  induction l generalizing r with
  | nil => cases r with
    | nil => exact .nil
    | cons _ _ => simp at hl
  | cons v l ih => cases r with
    | nil => simp at hl
    | cons u r =>
      obtain ⟨u', h1, h2⟩ := h 0 v rfl
      simp at h1
      subst h1
      exact .cons _ _ _ _ h2 (ih (by simpa using hl) fun k v hv => by simpa using h (k + 1) v (by simpa using hv))
theorem VR.oneCell {v : AV} {u : Value} (h : VR μ N w v u) (h1 : v.one = true) : u.oneCell' = true := by
  cases h <;> first | rfl | simp [AV.one] at h1
theorem VRs.oneCells {l : List AV} {r : List Value} (h : VRs μ N w l r) (h1 : l.all AV.one = true) : ∀ u ∈ r, u.oneCell' = true := by
  induction l generalizing r with
  | nil => cases h; simp
  | cons v l ih => cases h with
    | cons _ u _ r h2 h3 =>
      simp only [List.all_cons, Bool.and_eq_true] at h1
      intro x hx
      rcases List.mem_cons.1 hx with rfl | hx
      · exact h2.oneCell h1.1
      · exact ih h3 h1.2 x hx
end lists

/-- A map's entries: the same keys (all of them int), each once, with related values. -/
structure MapR (μ : Nat → Nat × Nat) (N : Nat) (w : World) (l : List (Int × AV)) (es : List MapEntry) : Prop where
  ints : ∀ e ∈ es, ∃ k, e.key = .int .i64 k
  once : es.Pairwise fun a b => ∀ k, a.key = .int .i64 k → b.key ≠ .int .i64 k
  to : ∀ k v, mget l k = some v → ∃ e ∈ es, e.key = .int .i64 k ∧ VR μ N w v e.val
  no : ∀ k, mget l k = none → ∀ e ∈ es, e.key ≠ .int .i64 k
def CellsR (μ : Nat → Nat × Nat) (N : Nat) (w : World) (lo0 id : Nat) (l : List AV) : Prop :=
  ∃ (cs : Array Value) (e : TypeId) (fz : Nat × Nat), w.heap[(μ id).1]? = some (.cells cs e fz) ∧ (μ id).2 + l.length ≤ cs.size ∧ l.all AV.one = true ∧
    VRs μ N w l ((cs.toList.drop (μ id).2).take l.length) ∧ (lo0 ≤ id → ∀ o, o ≤ cs.size → ¬ (fz.1 ≤ o ∧ o < fz.2))
def BlkR (μ : Nat → Nat × Nat) (N : Nat) (w : World) (lo0 id : Nat) : Blk → Prop
  | .cells l => CellsR μ N w lo0 id l
  | .map l => ∃ (es : Array MapEntry) (c : Nat), w.heap[(μ id).1]? = some (.map es c) ∧ MapR μ N w l es.toList

theorem MapR.mono {μ μ' : Nat → Nat × Nat} {N N' : Nat} {w w' : World} (hm : ∀ i, i < N → μ' i = μ i) (hN : N ≤ N') (hg : Grow w w')
    {l : List (Int × AV)} {es : List MapEntry} (h : MapR μ N w l es) : MapR μ' N' w' l es :=
  ⟨h.ints, h.once, fun k v hv => let ⟨e, h1, h2, h3⟩ := h.to k v hv; ⟨e, h1, h2, h3.mono hm hN hg⟩, h.no⟩
/-- A block that has not been touched. -/
theorem BlkR.mono {μ μ' : Nat → Nat × Nat} {N N' lo0 id : Nat} {w w' : World} (hm : ∀ i, i < N → μ' i = μ i) (hid : μ' id = μ id) (hN : N ≤ N') (hg : Grow w w')
    (hh : w'.heap[(μ id).1]? = w.heap[(μ id).1]?) {b : Blk} (h : BlkR μ N w lo0 id b) : BlkR μ' N' w' lo0 id b := by
  cases b with
  | cells l =>
    obtain ⟨cs, e, fz, h1, h2, h3, h4, h5⟩ := h
    refine ⟨cs, e, fz, by rw [hid, hh, h1], by rw [hid]; exact h2, h3, ?_, h5⟩
    rw [hid]
    exact h4.mono hm hN hg
  | map l =>
    obtain ⟨es, c, h1, h2⟩ := h
    exact ⟨es, c, by rw [hid, hh, h1], h2.mono hm hN hg⟩

/-- What a reading leans on: the program, the world in which the law's call began, how many blocks came in. -/
structure Ctx where
  P : Program
  w0 : World
  lo0 : Nat
structure R (X : Ctx) (μ : Nat → Nat × Nat) (m : Mem) (w : World) : Prop where
  below : Below X.w0.heap.size X.w0 w
  wf : ∀ id b, m.get id = some b → id < m.next
  lo : X.lo0 ≤ m.lo ∧ m.lo ≤ m.next
  blk : ∀ id b, m.get id = some b → BlkR μ m.next w X.lo0 id b
  inj : ∀ i j, X.lo0 ≤ i → m.get i ≠ none → m.get j ≠ none → i ≠ j → (μ i).1 ≠ (μ j).1
  new : ∀ i, X.lo0 ≤ i → m.get i ≠ none → X.w0.heap.size ≤ (μ i).1
  base : m.base = X.lo0
/-- What a step leaves as it was. -/
structure Step (μ : Nat → Nat × Nat) (m : Mem) (w : World) (μ' : Nat → Nat × Nat) (m' : Mem) (w' : World) : Prop where
  ext : ∀ i, i < m.next → μ' i = μ i
  next : m.next ≤ m'.next
  lo : m'.lo = m.lo
  grow : Grow w w'
  size : w.heap.size ≤ w'.heap.size
  frame : ∀ b, b < w.heap.size → (∀ i, m.lo ≤ i → m.get i ≠ none → (μ i).1 ≠ b) → w'.heap[b]? = w.heap[b]?
  from_ : ∀ i, m.lo ≤ i → m'.get i ≠ none → (∃ j, m.lo ≤ j ∧ m.get j ≠ none ∧ (μ j).1 = (μ' i).1) ∨ w.heap.size ≤ (μ' i).1
  keep : ∀ i, i < m.lo → m'.get i = m.get i

theorem Step.refl (μ : Nat → Nat × Nat) (m : Mem) (w : World) : Step μ m w μ m w :=
  ⟨fun _ _ => rfl, Nat.le_refl _, rfl, Grow.refl w, Nat.le_refl _, fun _ _ _ => rfl, fun i h1 h2 => .inl ⟨i, h1, h2, rfl⟩, fun _ _ => rfl⟩
theorem Step.trans {μ μ' μ'' : Nat → Nat × Nat} {m m' m'' : Mem} {w w' w'' : World} (h : Step μ m w μ' m' w') (k : Step μ' m' w' μ'' m'' w'') : Step μ m w μ'' m'' w'' where
  ext i hi := (k.ext i (Nat.lt_of_lt_of_le hi h.next)).trans (h.ext i hi)
  next := Nat.le_trans h.next k.next
  lo := k.lo.trans h.lo
  grow := h.grow.trans k.grow
  size := Nat.le_trans h.size k.size
  frame b hb hn := by
    have h1 := h.frame b hb hn
    refine (k.frame b (Nat.lt_of_lt_of_le hb h.size) fun i hi hl => ?_).trans h1
    rw [h.lo] at hi
    rcases h.from_ i hi hl with ⟨j, hj1, hj2, hj3⟩ | h3
    · rw [← hj3]; exact hn j hj1 hj2
    · omega
  from_ i hi hl := by
    rcases k.from_ i (by rw [h.lo]; exact hi) hl with ⟨j, hj1, hj2, hj3⟩ | h3
    · rw [h.lo] at hj1
      rcases h.from_ j hj1 hj2 with ⟨q, hq1, hq2, hq3⟩ | h4
      · exact .inl ⟨q, hq1, hq2, hq3.trans hj3⟩
      · exact .inr (by omega)
    · exact .inr (Nat.le_trans h.size h3)
  keep i hi := (k.keep i (by rw [h.lo]; exact hi)).trans (h.keep i hi)

variable {X : Ctx} {μ μ' : Nat → Nat × Nat} {m m' : Mem} {w w' : World}

theorem R.blk_lt (h : R X μ m w) {i : Nat} {b : Blk} (hb : m.get i = some b) : (μ i).1 < w.heap.size := by
  have := h.blk i b hb
  cases b with
  | cells l =>
    obtain ⟨cs, e, fz, h1, _⟩ := this
    exact (Array.getElem?_eq_some_iff.1 h1).1
  | map l =>
    obtain ⟨es, c, h1, _⟩ := this
    exact (Array.getElem?_eq_some_iff.1 h1).1

/-- A world that differs from another one in nothing that is told here (a draw). -/
theorem R.same (h : R X μ m w) (hh : w'.heap = w.heap) (ho : w'.os = w.os) (ht : w'.tape = w.tape) (hp : w'.output = w.output) : R X μ m w' ∧ Step μ m w μ m w' := by
  have hg : Grow w w' := fun b cs e fz hb => ⟨cs, fz, by rw [hh]; exact hb, rfl⟩
  refine ⟨⟨⟨ho.trans h.below.os, ht.trans h.below.tape, hp.trans h.below.output, by rw [hh]; exact h.below.size, fun k hk => by rw [hh]; exact h.below.block k hk⟩, h.wf, h.lo, ?_, h.inj, h.new, h.base⟩, ?_⟩
  · exact fun id b hb => (h.blk id b hb).mono (fun _ _ => rfl) rfl (Nat.le_refl _) hg (by rw [hh])
  · exact ⟨fun _ _ => rfl, Nat.le_refl _, rfl, hg, by rw [hh]; exact Nat.le_refl _, fun b _ _ => by rw [hh], fun i h1 h2 => .inl ⟨i, h1, h2, rfl⟩, fun _ _ => rfl⟩

/-- One block is written. -/
theorem R.update (h : R X μ m w) {i : Nat} (hi : m.lo ≤ i) (hl : m.get i ≠ none) {b : Blk}
    (hh : ∀ k, k ≠ (μ i).1 → w'.heap[k]? = w.heap[k]?) (hs : w'.heap.size = w.heap.size) (ho : w'.os = w.os) (ht : w'.tape = w.tape) (hp : w'.output = w.output)
    (hg : Grow w w') (hb : BlkR μ m.next w' X.lo0 i b) : R X μ (m.set i b) w' ∧ Step μ m w μ (m.set i b) w' := by
  have hi0 : X.lo0 ≤ i := Nat.le_trans h.lo.1 hi
  have hnew := h.new i hi0 hl
  have live : ∀ j, (m.set i b).get j ≠ none → m.get j ≠ none := fun j hj => by
    rw [Mem.get_set] at hj
    by_cases hji : j = i
    · subst hji; exact hl
    · rwa [if_neg hji] at hj
  refine ⟨⟨⟨ho.trans h.below.os, ht.trans h.below.tape, hp.trans h.below.output, by rw [hs]; exact h.below.size, fun k hk => ?_⟩, ?_, h.lo, ?_, ?_, ?_, h.base⟩, ?_⟩
  · rw [hh k (by omega)]; exact h.below.block k hk
  · intro id c hc
    rw [Mem.get_set] at hc
    by_cases hii : id = i
    · subst hii
      cases hm : m.get id with
      | none => exact absurd hm hl
      | some c' => exact h.wf _ _ hm
    · rw [if_neg hii] at hc; exact h.wf _ _ hc
  · intro id c hc
    rw [Mem.get_set] at hc
    by_cases hii : id = i
    · subst hii; simp at hc; subst hc; exact hb
    · rw [if_neg hii] at hc
      refine (h.blk id c hc).mono (fun _ _ => rfl) rfl (Nat.le_refl _) hg (hh _ fun e => ?_)
      exact h.inj i id hi0 hl (by rw [hc]; simp) (Ne.symm hii) e.symm
  · exact fun p q h1 h2 h3 h4 => h.inj p q h1 (live _ h2) (live _ h3) h4
  · exact fun p h1 h2 => h.new p h1 (live _ h2)
  · refine ⟨fun _ _ => rfl, Nat.le_refl _, rfl, hg, by rw [hs]; exact Nat.le_refl _, fun k _ hk => hh k fun e => hk i hi hl e.symm, fun j h1 h2 => .inl ⟨j, h1, live j h2, rfl⟩, fun j hj => ?_⟩
    rw [Mem.get_set, if_neg (by omega)]

/-- A block is laid behind all. -/
theorem R.alloc (h : R X μ m w) {b : Blk} {o : Obj} (ho : w' = { w with heap := w.heap.push o })
    (hb : BlkR (fun i => if i = m.next then (w.heap.size, 0) else μ i) (m.next + 1) w' X.lo0 m.next b) :
    R X (fun i => if i = m.next then (w.heap.size, 0) else μ i) (m.add b) w' ∧
      Step μ m w (fun i => if i = m.next then (w.heap.size, 0) else μ i) (m.add b) w' := by
  have hk : ∀ k, k < w.heap.size → w'.heap[k]? = w.heap[k]? := fun k hk => by subst ho; simp [Array.getElem?_push, Nat.ne_of_lt hk]
  have hsz : w'.heap.size = w.heap.size + 1 := by subst ho; simp
  have hg : Grow w w' := fun k cs e fz hh => ⟨cs, fz, by rw [hk k (Array.getElem?_eq_some_iff.1 hh).1]; exact hh, rfl⟩
  have ext : ∀ i, i < m.next → (fun i => if i = m.next then (w.heap.size, 0) else μ i) i = μ i := fun i hi => by simp [Nat.ne_of_lt hi]
  have live : ∀ j, (m.add b).get j ≠ none → j = m.next ∨ (j < m.next ∧ m.get j ≠ none) := fun j hj => by
    rw [Mem.get_add] at hj
    by_cases hji : j = m.next
    · exact .inl hji
    · rw [if_neg hji] at hj
      cases hm : m.get j with
      | none => exact absurd hm hj
      | some c => exact .inr ⟨h.wf _ _ hm, by simp⟩
  have hlt : ∀ j, m.get j ≠ none → (μ j).1 < w.heap.size := fun j hj => by
    cases hm : m.get j with
    | none => exact absurd hm hj
    | some c => exact h.blk_lt hm
  refine ⟨⟨⟨?_, ?_, ?_, ?_, fun k hk' => ?_⟩, ?_, ⟨h.lo.1, Nat.le_succ_of_le h.lo.2⟩, ?_, ?_, ?_, h.base⟩, ?_⟩
  · subst ho; exact h.below.os
  · subst ho; exact h.below.tape
  · subst ho; exact h.below.output
  · rw [hsz]; have := h.below.size; omega
  · have := h.below.size; rw [hk k (by omega)]; exact h.below.block k hk'
  · intro id c hc
    rw [Mem.get_add] at hc
    by_cases hii : id = m.next
    · subst hii; simp
    · rw [if_neg hii] at hc; have := h.wf _ _ hc; simp; omega
  · intro id c hc
    rw [Mem.get_add] at hc
    by_cases hii : id = m.next
    · subst hii; simp at hc; subst hc; exact hb
    · rw [if_neg hii] at hc
      exact (h.blk id c hc).mono ext (ext id (h.wf _ _ hc)) (Nat.le_succ _) hg (hk _ (h.blk_lt hc))
  · intro p q h1 h2 h3 h4
    rcases live p h2 with rfl | ⟨hp, hp'⟩ <;> rcases live q h3 with rfl | ⟨hq, hq'⟩
    · exact absurd rfl h4
    · simp only [if_true, if_neg (Nat.ne_of_lt hq)]
      have := hlt q hq'; omega
    · simp only [if_true, if_neg (Nat.ne_of_lt hp)]
      have := hlt p hp'; omega
    · simp only [if_neg (Nat.ne_of_lt hp), if_neg (Nat.ne_of_lt hq)]
      exact h.inj p q h1 hp' hq' h4
  · intro p h1 h2
    rcases live p h2 with rfl | ⟨hp, hp'⟩
    · simp only [if_true]; exact h.below.size
    · simp only [if_neg (Nat.ne_of_lt hp)]; exact h.new p h1 hp'
  · refine ⟨ext, Nat.le_succ _, rfl, hg, by rw [hsz]; omega, fun k hk' _ => hk k hk', fun j h1 h2 => ?_, fun j hj => ?_⟩
    · rcases live j h2 with rfl | ⟨hp, hp'⟩
      · simp
      · exact .inl ⟨j, h1, hp', by simp [Nat.ne_of_lt hp]⟩
    · have := h.lo.2
      rw [Mem.get_add, if_neg (by omega)]

/-- A block is forgotten. -/
theorem R.kill (h : R X μ m w) {i : Nat} (hi : m.lo ≤ i) : R X μ (m.kill i) w ∧ Step μ m w μ (m.kill i) w := by
  have sub : ∀ j c, (m.kill i).get j = some c → m.get j = some c := fun j c hc => by
    rw [Mem.get_kill] at hc
    by_cases hj : j = i
    · rw [if_pos hj] at hc; cases hc
    · rwa [if_neg hj] at hc
  have live : ∀ j, (m.kill i).get j ≠ none → m.get j ≠ none := fun j hj => by
    cases hm : (m.kill i).get j with
    | none => exact absurd hm hj
    | some c => rw [sub j c hm]; simp
  refine ⟨⟨h.below, fun id b hb => h.wf id b (sub _ _ hb), h.lo, fun id b hb => h.blk id b (sub _ _ hb), fun p q h1 h2 h3 h4 => h.inj p q h1 (live _ h2) (live _ h3) h4, fun p h1 h2 => h.new p h1 (live _ h2), h.base⟩, ?_⟩
  refine ⟨fun _ _ => rfl, Nat.le_refl _, rfl, Grow.refl w, Nat.le_refl _, fun _ _ _ => rfl, fun j h1 h2 => .inl ⟨j, h1, live j h2, rfl⟩, fun j hj => ?_⟩
  rw [Mem.get_kill, if_neg (by omega)]

/-- A block is given another number, from a place of its own on, and written. -/
theorem R.move (h : R X μ m w) {i base : Nat} (hi : m.lo ≤ i) (hl : m.get i ≠ none) {b : Blk}
    (hh : ∀ k, k ≠ (μ i).1 → w'.heap[k]? = w.heap[k]?) (hs : w'.heap.size = w.heap.size) (ho : w'.os = w.os) (ht : w'.tape = w.tape) (hp : w'.output = w.output)
    (hg : Grow w w') (hb : BlkR (fun j => if j = m.next then ((μ i).1, base) else μ j) (m.next + 1) w' X.lo0 m.next b) :
    R X (fun j => if j = m.next then ((μ i).1, base) else μ j) ((m.kill i).add b) w' ∧
      Step μ m w (fun j => if j = m.next then ((μ i).1, base) else μ j) ((m.kill i).add b) w' := by
  have hi0 : X.lo0 ≤ i := Nat.le_trans h.lo.1 hi
  have hnew := h.new i hi0 hl
  have ext : ∀ j, j < m.next → (fun j => if j = m.next then ((μ i).1, base) else μ j) j = μ j := fun j hj => by simp [Nat.ne_of_lt hj]
  have gete : ∀ j, ((m.kill i).add b).get j = if j = m.next then some b else if j = i then none else m.get j := fun j => by
    rw [Mem.get_add, Mem.get_kill]; rfl
  have live : ∀ j, ((m.kill i).add b).get j ≠ none → j = m.next ∨ (j < m.next ∧ j ≠ i ∧ m.get j ≠ none) := fun j hj => by
    rw [gete] at hj
    by_cases hji : j = m.next
    · exact .inl hji
    · rw [if_neg hji] at hj
      by_cases hji' : j = i
      · rw [if_pos hji'] at hj; exact absurd rfl hj
      · rw [if_neg hji'] at hj
        cases hm : m.get j with
        | none => exact absurd hm hj
        | some c => exact .inr ⟨h.wf _ _ hm, hji', by simp⟩
  refine ⟨⟨⟨ho.trans h.below.os, ht.trans h.below.tape, hp.trans h.below.output, by rw [hs]; exact h.below.size, fun k hk => ?_⟩, ?_, ⟨h.lo.1, Nat.le_succ_of_le h.lo.2⟩, ?_, ?_, ?_, h.base⟩, ?_⟩
  · rw [hh k (by omega)]; exact h.below.block k hk
  · intro id c hc
    rcases live id (by rw [hc]; simp) with rfl | ⟨hp, _⟩
    · simp
    · simp; omega
  · intro id c hc
    rw [gete] at hc
    by_cases hii : id = m.next
    · rw [if_pos hii] at hc; cases hc; subst hii; exact hb
    · rw [if_neg hii] at hc
      by_cases hji : id = i
      · rw [if_pos hji] at hc; cases hc
      · rw [if_neg hji] at hc
        refine (h.blk id c hc).mono ext (ext id (h.wf _ _ hc)) (Nat.le_succ _) hg (hh _ fun e => ?_)
        exact h.inj i id hi0 hl (by rw [hc]; simp) (Ne.symm hji) e.symm
  · intro p q h1 h2 h3 h4
    rcases live p h2 with rfl | ⟨hp1, hp2, hp3⟩ <;> rcases live q h3 with rfl | ⟨hq1, hq2, hq3⟩
    · exact absurd rfl h4
    · simp only [if_true, if_neg (Nat.ne_of_lt hq1)]
      exact h.inj i q hi0 hl hq3 (Ne.symm hq2)
    · simp only [if_true, if_neg (Nat.ne_of_lt hp1)]
      exact fun e => h.inj i p hi0 hl hp3 (Ne.symm hp2) e.symm
    · simp only [if_neg (Nat.ne_of_lt hp1), if_neg (Nat.ne_of_lt hq1)]
      exact h.inj p q h1 hp3 hq3 h4
  · intro p h1 h2
    rcases live p h2 with rfl | ⟨hp1, hp2, hp3⟩
    · simp only [if_true]; exact hnew
    · simp only [if_neg (Nat.ne_of_lt hp1)]; exact h.new p h1 hp3
  · refine ⟨ext, Nat.le_succ _, rfl, hg, by rw [hs]; exact Nat.le_refl _, fun k _ hk => hh k fun e => hk i hi hl e.symm, fun j h1 h2 => ?_, fun j hj => ?_⟩
    · rcases live j h2 with rfl | ⟨hp1, hp2, hp3⟩
      · exact .inl ⟨i, hi, hl, by simp⟩
      · exact .inl ⟨j, h1, hp3, by simp [Nat.ne_of_lt hp1]⟩
    · have := h.lo.2
      rw [gete, if_neg (by omega), if_neg (by omega)]

/-- Held to new memory alone, and let go again. -/
theorem R.setLo (h : R X μ m w) {n : Nat} (h1 : X.lo0 ≤ n) (h2 : n ≤ m.next) : R X μ { m with lo := n } w :=
  ⟨h.below, h.wf, ⟨h1, h2⟩, h.blk, h.inj, h.new, h.base⟩
theorem Step.ofRo (hr : R X μ m w) (h : Step μ { m with lo := m.next } w μ' m' w') : Step μ m w μ' { m' with lo := m.lo } w' where
  ext := h.ext
  next := h.next
  lo := rfl
  grow := h.grow
  size := h.size
  frame b hb _ := h.frame b hb fun i (hi : m.next ≤ i) hl => by
    exfalso
    cases hm : m.get i with
    | none => exact hl hm
    | some c => have := hr.wf _ _ hm; omega
  from_ i hi (hl : m'.get i ≠ none) := by
    by_cases hin : i < m.next
    · have hk : m'.get i = m.get i := h.keep i hin
      exact .inl ⟨i, hi, by rw [← hk]; exact hl, by rw [h.ext i hin]⟩
    · rcases h.from_ i (Nat.le_of_not_lt hin) hl with ⟨j, hj, hj2, _⟩ | h3
      · exfalso
        cases hm : m.get j with
        | none => exact hj2 hm
        | some c => have := hr.wf _ _ hm; have : m.next ≤ j := hj; omega
      · exact .inr h3
  keep i hi := h.keep i (Nat.lt_of_lt_of_le hi hr.lo.2)

/-- The frame. -/
structure FrR (μ : Nat → Nat × Nat) (N : Nat) (w : World) (nt : Nat) (fr : Fr) (a : Act) : Prop where
  size : a.tmps.size = nt
  defers : a.defers = []
  slot : ∀ t v, fr.get t = some v → ∃ u, a.tmps[t]? = some u ∧ VR μ N w v u
theorem FrR.mono {N N' nt : Nat} {fr : Fr} {a : Act} (hm : ∀ i, i < N → μ' i = μ i) (hN : N ≤ N') (hg : Grow w w') (h : FrR μ N w nt fr a) : FrR μ' N' w' nt fr a :=
  ⟨h.size, h.defers, fun t v hv => let ⟨u, h1, h2⟩ := h.slot t v hv; ⟨u, h1, h2.mono hm hN hg⟩⟩
theorem FrR.step {nt : Nat} {fr : Fr} {a : Act} (h : FrR μ m.next w nt fr a) (hs : Step μ m w μ' m' w') : FrR μ' m'.next w' nt fr a := h.mono hs.ext hs.next hs.grow
theorem FrR.set {N nt : Nat} {fr : Fr} {a : Act} (h : FrR μ N w nt fr a) {d : Nat} (hd : d < nt) {v : AV} {u : Value} (hv : VR μ N w v u) :
    FrR μ N w nt (fr.set v d) { a with tmps := a.tmps.setIfInBounds d u } where
  size := by simp [h.size]
  defers := h.defers
  slot t x hx := by
    rw [PT.get_set] at hx
    by_cases ht : t = d
    · rw [if_pos ht] at hx; cases hx; subst ht
      exact ⟨u, by simp [h.size, hd], hv⟩
    · rw [if_neg ht] at hx
      obtain ⟨y, h1, h2⟩ := h.slot t x hx
      exact ⟨y, by simp [Array.getElem?_setIfInBounds_ne (Ne.symm ht), h1], h2⟩
/-- A slot that is only said more of. -/
theorem FrR.know {N nt : Nat} {fr : Fr} {a : Act} (h : FrR μ N w nt fr a) {d : Nat} {v : AV} {u : Value} (hd : a.tmps[d]? = some u) (hv : VR μ N w v u) : FrR μ N w nt (fr.set v d) a where
  size := h.size
  defers := h.defers
  slot t x hx := by
    rw [PT.get_set] at hx
    by_cases ht : t = d
    · rw [if_pos ht] at hx; cases hx; subst ht; exact ⟨u, hd, hv⟩
    · rw [if_neg ht] at hx; exact h.slot t x hx
theorem FrR.sub {N nt : Nat} {fr fr' : Fr} {a : Act} (h : FrR μ N w nt fr a) (hs : ∀ t v, fr'.get t = some v → fr.get t = some v) : FrR μ N w nt fr' a :=
  ⟨h.size, h.defers, fun t v hv => h.slot t v (hs t v hv)⟩

end Go.Am
