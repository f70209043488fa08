/-
The types' table held against the program; cells read, written, laid.
-/
import Derived.Test.YtboilkakbgalgaaDoorAmRel
import Derived.Laws.Sem
import Derived.Laws.Cells
namespace Go.Am
open Go Go.RowKit

def constB : AV → Value → Bool
  | .bool a, .bool b => a == b
  | .int j a, .int k b => j == k && a == b
  | .str s, .string t => s == t.data.toList
  | .ptr none, .pointer none => true
  | .slice none, .slice none 0 0 => true
  | .map none, .map none => true
  | .nilfn, .nilFunc => true
  | .nilif, .nilIface => true
  | _, _ => false
def constsB : List AV → List Value → Bool
  | [], [] => true
  | v :: l, u :: r => constB v u && constsB l r
  | _, _ => false
theorem constB_VR {μ : Nat → Nat × Nat} {N : Nat} {w : World} {v : AV} {u : Value} (h : constB v u = true) : VR μ N w v u ∧ v.one = true := by
  unfold constB at h
  split at h
  · obtain rfl := eq_of_beq h; exact ⟨.bool _, rfl⟩
  · rename_i j a k b
    simp only [Bool.and_eq_true, beq_iff_eq] at h
    obtain ⟨h1, rfl⟩ := h
    subst h1
    exact ⟨.int _ _, rfl⟩
  · rename_i s t
    obtain rfl := eq_of_beq h
    obtain ⟨⟨l⟩⟩ := t
    exact ⟨.str _, rfl⟩
  · exact ⟨.nilptr, rfl⟩
  · exact ⟨.nilslice, rfl⟩
  · exact ⟨.nilmap, rfl⟩
  · exact ⟨.nilfn, rfl⟩
  · exact ⟨.nilif, rfl⟩
  · cases h
theorem constsB_VRs {μ : Nat → Nat × Nat} {N : Nat} {w : World} : ∀ {l : List AV} {r : List Value}, constsB l r = true → VRs μ N w l r ∧ l.all AV.one = true
  | [], [], _ => ⟨.nil, rfl⟩
  | v :: l, u :: r, h => by
    simp only [constsB, Bool.and_eq_true] at h
    have h1 := constB_VR (μ := μ) (N := N) (w := w) h.1
    have h2 := constsB_VRs (μ := μ) (N := N) (w := w) h.2
    exact ⟨.cons _ _ _ _ h1.1 h2.1, by simp [h1.2, h2.2]⟩
  | [], _ :: _, h => by simp [constsB] at h
  | _ :: _, [], h => by simp [constsB] at h
theorem constAV_VR {μ : Nat → Nat × Nat} {N : Nat} {w : World} {v : AV} {u : Value} (h : constAV u = some v) : VR μ N w v u := by
  unfold constAV at h
  split at h <;> try cases h
  · exact .bool _
  · exact .int _ _
  · rename_i s
    obtain ⟨⟨l⟩⟩ := s
    exact .str _
  · exact .nilptr
  · exact .nilslice
  · exact .nilmap
  · exact .nilfn
  · exact .nilif

def kdB : Kd → TypeDesc → Bool
  | .bool, .bool => true
  | .int j, .int k => j == k
  | .str, .string => true
  | .ptr e, .pointer f => e == f
  | .slice e, .slice f => e == f
  | .map a b, .map c d => a == c && b == d
  | .fn, .func _ _ _ => true
  | .iface, .interface _ => true
  | .struct fs, .struct gs => fs == gs.toList.map fun f => (f.offset, f.type)
  | .arr n e, .array k f => n == k && e == f
  | .tup l, .tuple r => l == r.toList
  | _, _ => false
inductive KdR : Kd → TypeDesc → Prop
  | bool : KdR .bool .bool
  | int (k : IntKind) : KdR (.int k) (.int k)
  | str : KdR .str .string
  | ptr (e : TypeId) : KdR (.ptr e) (.pointer e)
  | slice (e : TypeId) : KdR (.slice e) (.slice e)
  | map (k e : TypeId) : KdR (.map k e) (.map k e)
  | fn (a b : Array TypeId) (v : Bool) : KdR .fn (.func a b v)
  | iface (ms : Array (String × TypeId)) : KdR .iface (.interface ms)
  | struct (gs : Array Field) : KdR (.struct (gs.toList.map fun f => (f.offset, f.type))) (.struct gs)
  | arr (n : Nat) (e : TypeId) : KdR (.arr n e) (.array n e)
  | tup (r : Array TypeId) : KdR (.tup r.toList) (.tuple r)
theorem kdB_KdR {k : Kd} {d : TypeDesc} (h : kdB k d = true) : KdR k d := by
  unfold kdB at h
  split at h
  · exact .bool
  · obtain rfl := eq_of_beq h; exact .int _
  · exact .str
  · obtain rfl := eq_of_beq h; exact .ptr _
  · obtain rfl := eq_of_beq h; exact .slice _
  · simp only [Bool.and_eq_true, beq_iff_eq] at h; obtain ⟨rfl, rfl⟩ := h; exact .map _ _
  · exact .fn _ _ _
  · exact .iface _
  · obtain rfl := eq_of_beq h; exact .struct _
  · simp only [Bool.and_eq_true, beq_iff_eq] at h; obtain ⟨rfl, rfl⟩ := h; exact .arr _ _
  · obtain rfl := eq_of_beq h; exact .tup _
  · cases h
/-- A struct's fields lie one behind the other. -/
def offB (P : Program) : Nat → List (Nat × TypeId) → Nat → Bool
  | o, [], n => o == n
  | o, (off, t) :: r, n => off == o && match P.info? t with
    | some f => offB P (o + f.size) r n
    | none => false
/-- The cells of a type that is whole numbers and truth values throughout; what equality asks of it. -/
def flatKs (P : Program) : Nat → TypeId → Option (List Bool)
  | 0, _ => none
  | d + 1, t => match P.underlying t, P.info? t with
    | some .bool, some f => if f.size = 1 then some [true] else none
    | some (.int _), some f => if f.size = 1 then some [false] else none
    | some (.struct fs), some i => if P.stoodInHeld t then none else
      match fs.toList.foldl (fun (o : Option (List Bool)) f => match o with
        | some o => if f.name = "_" ∨ f.offset ≠ o.length then none else (flatKs P d f.type).map (o ++ ·)
        | none => none) (some []) with
      | some n => if n.length = i.size then some n else none
      | none => none
    | some (.array n e), some i => match flatKs P d e with
      | some s => if n * s.length = i.size then some (List.replicate n s).flatten else none
      | none => none
    | _, _ => none
def eqB (P : Program) (t : TypeId) (i : TI) : Bool :=
  i.kd.agg && flatKs P 20 t == some i.eq && !P.eqGuardType P.depth t
def tiB (P : Program) (t : TypeId) (i : TI) : Bool :=
  match P.info? t, P.underlying t with
  | some f, some d => f.size == i.size && f.bytes == i.bytes && kdB i.kd d && (i.kd.isTup || match f.zero with
    | some z => constsB i.zero z.cells.toList && i.zero.length == i.size && (i.kd.agg == (match z with
      | .agg _ => true
      | _ => false))
    | none => false) && (match i.kd with
    | .struct fs => offB P 0 fs i.size
    | _ => true) && (i.eq.isEmpty || eqB P t i)
  | _, _ => false
structure TIok (P : Program) (t : TypeId) (i : TI) : Prop where
  info : ∃ f, P.info? t = some f ∧ f.size = i.size ∧ f.bytes = i.bytes ∧ (i.kd.isTup = false → ∃ z, f.zero = some z ∧ constsB i.zero z.cells.toList = true ∧ i.zero.length = i.size ∧ (i.kd.agg = true → ∃ c, z = .agg c) ∧ (i.kd.agg = false → z.cells = #[z]))
  und : ∃ d, P.underlying t = some d ∧ KdR i.kd d
  offs : ∀ fs, i.kd = .struct fs → offB P 0 fs i.size = true
  eqf : i.eq ≠ [] → eqB P t i = true
def TTok (P : Program) (tt : PT TI) : Prop := ∀ t i, tt.get t = some i → TIok P t i
theorem tiB_ok {P : Program} {t : TypeId} {i : TI} (h : tiB P t i = true) : TIok P t i := by
  unfold tiB at h
  split at h
  · rename_i f d hf hd
    simp only [Bool.and_eq_true, beq_iff_eq, Bool.or_eq_true] at h
    obtain ⟨⟨⟨⟨⟨h1, h2⟩, h3⟩, h4⟩, h9⟩, h8⟩ := h
    refine ⟨⟨f, hf, h1, h2, fun hk => ?_⟩, ⟨d, hd, kdB_KdR h3⟩, fun fs hfs => by rw [hfs] at h9; exact h9, fun he => h8.resolve_left (by simpa using he)⟩
    rcases h4 with h4 | h4
    · rw [hk] at h4; cases h4
    · split at h4
      · rename_i z hz
        simp only [Bool.and_eq_true, beq_iff_eq] at h4
        refine ⟨z, hz, h4.1.1, h4.1.2, fun ha => ?_, fun ha => ?_⟩
        · have h5 := h4.2
          rw [ha] at h5
          split at h5
          · exact ⟨_, rfl⟩
          · cases h5
        · have h5 := h4.2
          rw [ha] at h5
          split at h5
          · cases h5
          · rename_i hn
            unfold Value.cells
            split
            · exact absurd rfl (hn _)
            · rfl
      · cases h4
  · cases h
theorem TTok_of {P : Program} {tt : PT TI} (h : PT.allB (tiB P) (fun n => n) tt = true) : TTok P tt := fun t i hi => tiB_ok (PT.allB_get _ tt _ t i h hi)

section runs
variable {P : Program} {w : World}
theorem run_und {t : TypeId} {d : TypeDesc} (h : P.underlying t = some d) : (underlying t).run P w = .ok d w := by
  simp [underlying, h]
theorem run_ti {t : TypeId} {f : TypeInfo} (h : P.info? t = some f) : (typeInfo t).run P w = .ok f w := by
  simp [typeInfo, h]
theorem TIok.run_size {t : TypeId} {i : TI} (h : TIok P t i) : (sizeOf t).run P w = .ok i.size w := by
  obtain ⟨f, h1, h2, _⟩ := h.info
  simp [Go.sizeOf, run_ti h1, h2]
theorem TIok.run_agg {t : TypeId} {i : TI} (h : TIok P t i) : (isAgg t).run P w = .ok i.kd.agg w := by
  obtain ⟨d, h1, h2⟩ := h.und
  simp only [isAgg, Sem.run_bind, run_und h1, Result.andThen_ok]
  generalize i.kd = k at h2
  cases h2 <;> rfl
theorem add_addr (b o n : Nat) : (⟨b, o, none⟩ : Addr).add n = ⟨b, o + n, none⟩ := by unfold Addr.add; split <;> simp_all

/-- A world with one row of cells in another state. -/
def putRow (w : World) (b : Nat) (l : List Value) (e : TypeId) (fz : Nat × Nat) : World := { w with heap := w.heap.setIfInBounds b (.cells l.toArray e fz) }
theorem setCell_putRow {b o : Nat} {cur : List Value} {e : TypeId} {fz : Nat × Nat} {v : Value} (h : w.heap[b]? = some (.cells cur.toArray e fz)) :
    w.setCell ⟨b, o, none⟩ v = putRow w b (cur.set o v) e fz := by
  unfold World.setCell putRow
  congr 1
  apply Array.ext_getElem?
  intro k
  rw [Array.getElem?_modify, Array.getElem?_setIfInBounds]
  by_cases hk : b = k
  · subst hk
    obtain ⟨hlt, he⟩ := Array.getElem?_eq_some_iff.1 h
    simp [hlt, he]
  · simp [hk]
theorem putRow_get {b : Nat} {l : List Value} {e : TypeId} {fz : Nat × Nat} (h : b < w.heap.size) : (putRow w b l e fz).heap[b]? = some (.cells l.toArray e fz) := by
  simp [putRow, h]
theorem putRow_ne {b k : Nat} {l : List Value} {e : TypeId} {fz : Nat × Nat} (h : k ≠ b) : (putRow w b l e fz).heap[k]? = w.heap[k]? := by
  simp [putRow, Array.getElem?_setIfInBounds_ne (Ne.symm h)]
theorem putRow_putRow {b : Nat} {l l' : List Value} {e : TypeId} {fz : Nat × Nat} : putRow (putRow w b l e fz) b l' e fz = putRow w b l' e fz := by
  simp [putRow]
theorem putRow_self {b : Nat} {cur : List Value} {e : TypeId} {fz : Nat × Nat} (h : w.heap[b]? = some (.cells cur.toArray e fz)) : putRow w b cur e fz = w := by
  unfold putRow
  congr 1
  apply Array.ext_getElem?
  intro k
  rw [Array.getElem?_setIfInBounds]
  by_cases hk : b = k
  · subst hk
    have hlt : b < w.heap.size := (Array.getElem?_eq_some_iff.1 h).1
    simp only [h, if_true, hlt]
  · simp [hk]
theorem putRow_grow {b : Nat} {cur l : List Value} {e : TypeId} {fz : Nat × Nat} (h : w.heap[b]? = some (.cells cur.toArray e fz)) (hl : l.length = cur.length) : Grow w (putRow w b l e fz) := by
  intro k cs e' fz' hk
  by_cases hkb : k = b
  · subst hkb
    rw [h] at hk
    cases hk
    exact ⟨_, _, putRow_get (Array.getElem?_eq_some_iff.1 h).1, by simp [hl]⟩
  · exact ⟨cs, fz', by rw [putRow_ne hkb]; exact hk, rfl⟩

theorem run_store1 {b o : Nat} {cur : List Value} {e : TypeId} {fz : Nat × Nat} {v : Value} (h : w.heap[b]? = some (.cells cur.toArray e fz)) (ho : o < cur.length)
    (hf : ¬ (fz.1 ≤ o ∧ o < fz.2)) (h1 : v.oneCell' = true) : (store ⟨b, o, none⟩ v).run P w = .ok () (putRow w b (cur.set o v) e fz) := by
  rw [run_store P w _ v _ h1]
  have hc : w.cell? ⟨b, o, none⟩ = some cur[o] := by simp [World.cell?, h, ho]
  have hz : w.frozen? ⟨b, o, none⟩ = false := by
    simp only [World.frozen?, h]
    simpa using hf
  rw [hc]
  simp only [hz, Bool.false_eq_true, if_false]
  rw [setCell_putRow h]
theorem set_splice (cur : List Value) (o : Nat) (v : Value) (vs : List Value) (h : o + 1 + vs.length ≤ cur.length) :
    (cur.set o v).take (o + 1) ++ vs ++ (cur.set o v).drop (o + 1 + vs.length) = cur.take o ++ (v :: vs) ++ cur.drop (o + (v :: vs).length) := by
  have ho : o < cur.length := by omega
  have e : cur.set o v = cur.take o ++ v :: cur.drop (o + 1) := by rw [List.set_eq_take_append_cons_drop, if_pos ho]
  have l1 : (cur.take o).length = o := by simp; omega
  rw [e]
  have e1 : (cur.take o ++ v :: cur.drop (o + 1)).take (o + 1) = cur.take o ++ [v] := by
    rw [List.take_append, l1, List.take_of_length_le (by omega), show o + 1 - o = 1 by omega]; rfl
  have e2 : (cur.take o ++ v :: cur.drop (o + 1)).drop (o + 1 + vs.length) = cur.drop (o + (v :: vs).length) := by
    rw [List.drop_append, l1, List.drop_of_length_le (by omega), show o + 1 + vs.length - o = vs.length + 1 by omega, List.nil_append, List.drop_succ_cons, List.drop_drop]
    congr 1; simp; omega
  rw [e1, e2]
  simp
theorem run_storeCells {b o : Nat} {e : TypeId} {fz : Nat × Nat} : ∀ (vs : List Value) (i : Nat) (cur : List Value) (w : World), w.heap[b]? = some (.cells cur.toArray e fz) →
    o + i + vs.length ≤ cur.length → (∀ j, j < cur.length → ¬ (fz.1 ≤ j ∧ j < fz.2)) → (∀ v ∈ vs, v.oneCell' = true) →
    (storeCells ⟨b, o, none⟩ vs i).run P w = .ok () (putRow w b (cur.take (o + i) ++ vs ++ cur.drop (o + i + vs.length)) e fz)
  | [], i, cur, w, h, _, _, _ => by
    simp only [storeCells, List.append_nil, List.length_nil, Nat.add_zero, List.take_append_drop, putRow_self h]
    rfl
  | v :: vs, i, cur, w, h, hl, hf, h1 => by
    simp only [List.length_cons] at hl
    have hb : b < w.heap.size := (Array.getElem?_eq_some_iff.1 h).1
    have hst := run_store1 (P := P) (o := o + i) h (by omega) (hf _ (by omega)) (h1 v (by simp))
    have ih := run_storeCells (o := o) vs (i + 1) (cur.set (o + i) v) (putRow w b (cur.set (o + i) v) e fz) (putRow_get hb) (by simp; omega) (by simpa using hf) (fun x hx => h1 x (by simp [hx]))
    simp only [storeCells, Sem.run_bind, add_addr, hst, Result.andThen_ok, ih, putRow_putRow]
    congr 2
    rw [show o + (i + 1) = o + i + 1 by omega]
    exact set_splice cur (o + i) v vs (by omega)
end runs

section cells
variable {X : Ctx} {μ : Nat → Nat × Nat} {m : Mem} {w : World}
/-- A block of cells, in the world. -/
theorem R.cells (h : R X μ m w) {i : Nat} {l : List AV} (hl : m.cells i = some l) :
    ∃ (cs : List Value) (e : TypeId) (fz : Nat × Nat), w.heap[(μ i).1]? = some (.cells cs.toArray e fz) ∧ (μ i).2 + l.length ≤ cs.length ∧ l.all AV.one = true ∧
      VRs μ m.next w l ((cs.drop (μ i).2).take l.length) ∧ (X.lo0 ≤ i → ∀ o, o ≤ cs.length → ¬ (fz.1 ≤ o ∧ o < fz.2)) := by
  obtain ⟨cs, e, fz, h1, h2, h3, h4, h5⟩ := h.blk i _ (Mem.cells_some hl)
  exact ⟨cs.toList, e, fz, by simpa using h1, by simpa using h2, h3, h4, by simpa using h5⟩
theorem R.maps (h : R X μ m w) {i : Nat} {l : List (Int × AV)} (hl : m.maps i = some l) :
    ∃ (es : Array MapEntry) (c : Nat), w.heap[(μ i).1]? = some (.map es c) ∧ MapR μ m.next w l es.toList := h.blk i _ (Mem.maps_some hl)
theorem VRs.at {N : Nat} {l : List AV} {cs : List Value} {base k : Nat} {v : AV} (h : VRs μ N w l ((cs.drop base).take l.length)) (hk : l[k]? = some v) : ∃ u, cs[base + k]? = some u ∧ VR μ N w v u := by
  obtain ⟨u, h1, h2⟩ := h.get hk
  have hlt : k < l.length := (List.getElem?_eq_some_iff.1 hk).1
  rw [List.getElem?_take, if_pos hlt, List.getElem?_drop] at h1
  exact ⟨u, h1, h2⟩
/-- A part of the cells. -/
theorem VRs.seg {N : Nat} {l : List AV} {cs : List Value} {base o n : Nat} (h : VRs μ N w l ((cs.drop base).take l.length)) (ho : o + n ≤ l.length) :
    VRs μ N w ((l.drop o).take n) ((cs.drop (base + o)).take n) := by
  have := (h.drop o).take n
  rwa [List.drop_take, List.take_take, List.drop_drop, Nat.min_eq_left (by omega)] at this
theorem loadCells_run {P : Program} {b o n : Nat} {cs : List Value} {e : TypeId} {fz : Nat × Nat} (h : w.heap[b]? = some (.cells cs.toArray e fz)) (hn : o + n ≤ cs.length) :
    (loadCells ⟨b, o, none⟩ n).run P w = .ok ((cs.drop o).take n).toArray w := by
  have hlen : ((cs.drop o).take n).length = n := by simp; omega
  have := run_loadCells_list (P := P) w ⟨b, o, none⟩ ((cs.drop o).take n) (fun j v hj => by
    rw [List.getElem?_take] at hj
    by_cases hjn : j < n
    · rw [if_pos hjn, List.getElem?_drop] at hj
      rw [add_addr]
      simp only [World.cell?, h]
      simpa using hj
    · rw [if_neg hjn] at hj; cases hj)
  rwa [hlen] at this
theorem splice_length (l : List AV) (o : Nat) (new : List AV) (h : o + new.length ≤ l.length) : (splice l o new).length = l.length := by simp [splice]; omega
/-- Cells written. -/
theorem CellsR.splice {N lo0 i : Nat} {l new : List AV} {cs r : List Value} {e : TypeId} {fz : Nat × Nat} {o : Nat}
    (h : w.heap[(μ i).1]? = some (.cells cs.toArray e fz)) (hb : (μ i).2 + l.length ≤ cs.length) (h1 : l.all AV.one = true) (hl : VRs μ N w l ((cs.drop (μ i).2).take l.length))
    (hf : ∀ o, o ≤ cs.length → ¬ (fz.1 ≤ o ∧ o < fz.2)) (ho : o + new.length ≤ l.length) (hn : VRs μ N w new r) (hn1 : new.all AV.one = true) :
    CellsR μ N (putRow w (μ i).1 (cs.take ((μ i).2 + o) ++ r ++ cs.drop ((μ i).2 + o + r.length)) e fz) lo0 i (Am.splice l o new) := by
  have hr := hn.length
  have hlt : (μ i).1 < w.heap.size := (Array.getElem?_eq_some_iff.1 h).1
  have hsz : (cs.take ((μ i).2 + o) ++ r ++ cs.drop ((μ i).2 + o + r.length)).length = cs.length := by simp; omega
  refine ⟨_, e, fz, putRow_get hlt, ?_, ?_, ?_, fun _ => ?_⟩
  · rw [splice_length l o new ho, List.size_toArray, hsz]; exact hb
  · simp only [Am.splice, List.all_append, Bool.and_eq_true]
    have h1' := List.all_eq_true.1 h1
    exact ⟨⟨List.all_eq_true.2 fun x hx => h1' x (List.mem_of_mem_take hx), hn1⟩, List.all_eq_true.2 fun x hx => h1' x (List.mem_of_mem_drop hx)⟩
  · rw [splice_length l o new ho]
    have e1 : (((cs.take ((μ i).2 + o) ++ r ++ cs.drop ((μ i).2 + o + r.length)).drop (μ i).2).take l.length) =
        (((cs.drop (μ i).2).take l.length).take o) ++ r ++ (((cs.drop (μ i).2).take l.length).drop (o + new.length)) := by
      apply List.ext_getElem?
      intro k
      simp only [List.getElem?_append, List.getElem?_take, List.getElem?_drop, List.length_append, List.length_take, List.length_drop]
      by_cases a1 : k < o
      · rw [if_pos (by omega), if_pos (by omega), if_pos (by omega), if_pos (by omega), if_pos (by omega), if_pos (by omega), if_pos (by omega), if_pos (by omega)]
      · by_cases a2 : k < o + new.length
        · rw [if_pos (by omega), if_pos (by omega), if_neg (by omega), if_pos (by omega), if_neg (by omega)]
          congr 1; omega
        · by_cases a3 : k < l.length
          · rw [if_pos a3, if_neg (by omega), if_neg (by omega), if_pos (by omega)]
            congr 1; omega
          · rw [if_neg a3, if_neg (by omega), if_neg (by omega)]
    rw [List.toList_toArray, e1]
    refine (VRs.append (VRs.append (hl.take o) hn) (hl.drop _)).mono (fun _ _ => rfl) (Nat.le_refl _) (putRow_grow h hsz)
  · exact fun q hq => hf q (by rwa [List.size_toArray, hsz] at hq)
/-- A new row. -/
theorem CellsR.new {lo0 : Nat} {l : List AV} {r : List Value} {e : TypeId} {w' : World} (hw : w' = { w with heap := w.heap.push (.cells r.toArray e) })
    (hl : VRs μ m.next w l (r.take l.length)) (hlen : l.length ≤ r.length) (h1 : l.all AV.one = true) :
    CellsR (fun i => if i = m.next then (w.heap.size, 0) else μ i) (m.next + 1) w' lo0 m.next l := by
  have hg : Grow w w' := fun k cs e fz hh => ⟨cs, fz, by
    have := (Array.getElem?_eq_some_iff.1 hh).1
    subst hw; simp [Array.getElem?_push, Nat.ne_of_lt this, hh], rfl⟩
  refine ⟨r.toArray, e, (0, 0), by subst hw; simp, by simpa using hlen, h1, ?_, fun _ => by simp⟩
  simp only [if_true, List.drop_zero]
  exact hl.mono (fun i hi => by simp [Nat.ne_of_lt hi]) (Nat.le_succ _) hg
end cells

end Go.Am
