/-
What the model's operations come to where the abstract machine's do: structs, arrays and slices that are written out; fields, elements.
-/
import Derived.Test.YtboilkakbgalgaaDoorAmOps2
namespace Go.Am
open Go Go.RowKit

variable {X : Ctx} {μ : Nat → Nat × Nat} {m m' : Mem} {w : World} {E : Env}

theorem run_mapM {α β : Type} (f : α → Sem β) (g : α → β) : ∀ (l : List α), (∀ x ∈ l, (f x).run X.P w = .ok (g x) w) → (l.mapM f).run X.P w = .ok (l.map g) w
  | [], _ => by simp
  | x :: l, h => by
    have ih := run_mapM f g l fun y hy => h y (by simp [hy])
    simp [List.mapM_cons, h x (by simp), ih]
theorem run_mapM_array {α β : Type} (f : α → Sem β) (g : α → β) (a : Array α) (h : ∀ x ∈ a.toList, (f x).run X.P w = .ok (g x) w) : (a.mapM f).run X.P w = .ok (a.map g) w := by
  rw [Array.mapM_eq_mapM_toList]
  simp only [Sem.run_map, run_mapM f g a.toList h, Result.andThen_ok]
  congr 1
  apply Array.ext'
  simp

theorem offB_le {P : Program} : ∀ (fs : List (Nat × TypeId)) (a b : Nat), offB P a fs b = true → a ≤ b := fun fs => by
  induction fs with
  | nil => intro a b h; simp only [offB, beq_iff_eq] at h; omega
  | cons p fs ih =>
    intro a b h
    simp only [offB, Bool.and_eq_true] at h
    obtain ⟨_, h⟩ := h
    split at h
    · have := ih _ _ h; omega
    · cases h
/-- A struct that is written out. -/
theorem buildS_done (hE : TTok X.P E.tt) {t : TypeId} {i : TI} (hi : TIok X.P t i) {fs : List (Nat × TypeId)} (hk : i.kd = .struct fs) (h : R X μ m w) {ps : List (Nat × AV)} {us : Array (Nat × Value)}
    (h1 : ps.map (·.1) = us.toList.map (·.1)) (h2 : VRs μ m.next w (ps.map (·.2)) (us.toList.map (·.2))) (hin : partsIn ps fs.length = true) {v : AV}
    (he : fields E i.zero ps 0 fs (fun vs => gather vs fun cs => ret (.agg cs)) m = some (v, m')) : Done X μ m w v m' ((Instr.build t us).run X.P w) := by
  obtain ⟨z, z1, z2, z3, z4, z5, _⟩ := hi.zero (μ := μ) (m := m) (w := w) (by rw [hk]; rfl)
  obtain ⟨zs, g1, g2, g3, _, g5⟩ := fields_eq hE i.zero ps fs 0 0 i.size _ _ he (hi.offs fs hk) (by omega)
  have hzs : zs.flatten = i.zero := by rw [g3, List.drop_zero, Nat.sub_zero, ← z4, List.take_length]
  obtain ⟨d, hd, hkd⟩ := hi.und
  rw [hk] at hkd
  cases hkd with
  | struct gs =>
    have hplaces : (gs.mapM fun f => do pure (f.offset, ← sizeOf f.type) : Sem (Array (Nat × Nat))).run X.P w = .ok (gs.map fun f => (f.offset, ((X.P.info? f.type).map (·.size)).getD 0)) w := by
      refine run_mapM_array _ _ gs fun f hf => ?_
      obtain ⟨k, hk⟩ := List.mem_iff_getElem?.1 hf
      obtain ⟨z', f', q1, q2, q3, q4⟩ := g5 k (f.offset, f.type) (by simp [hk])
      simp [Go.sizeOf, run_ti q3, q3]
    obtain ⟨cs, u, k1, k2, k3, k4, k5⟩ := filled (us := us.toList) (fun k => ((gs.map fun f => (f.offset, ((X.P.info? f.type).map (·.size)).getD 0)))[k]?) rfl (zs := zs) (zu := z.cells.toList)
      (by rw [hzs]; exact z2) (by rw [hzs]; exact z3) h1 h2 (by rw [g2]; exact hin) (fun k z' hz => by
        have hkl : k < (gs.toList.map fun f => (f.offset, f.type)).length := by rw [← g2]; exact (List.getElem?_eq_some_iff.1 hz).1
        obtain ⟨z'', f', q1, q2, q3, q4⟩ := g5 k _ (List.getElem?_eq_getElem hkl)
        rw [hz] at q1; cases q1
        simp only [List.getElem_map] at q2 q3
        have hkg : k < gs.size := by simpa using hkl
        simp only [Array.getElem_toList] at q2 q3
        simp only [Array.getElem?_map, Array.getElem?_eq_getElem hkg, Option.map_some, q3, Option.getD_some, q4]
        rw [show gs[k].offset = 0 + (zs.take k).flatten.length from q2]
        simp) g1
    obtain ⟨rfl, rfl⟩ := ret_some k1
    refine .same h (.agg _ _ k5 k3) ?_
    simp only [Array.toArray_toList] at k4
    simp only [Instr.build, Sem.run_bind, z1, Result.andThen_ok, run_und hd, hplaces, k4, Sem.run_pure]
theorem zip_flat (z : List AV) : ∀ n, (List.replicate n z).flatten.length = n * z.length := fun n => by simp
theorem take_rep (z : List AV) (n k : Nat) (h : k < n) : ((List.replicate n z).take k).flatten.length = k * z.length := by
  rw [List.take_replicate, Nat.min_eq_left (Nat.le_of_lt h), zip_flat]
theorem rep_flat_VRs {N : Nat} {z : List AV} {c : List Value} (h : VRs μ N w z c) : ∀ n, VRs μ N w (List.replicate n z).flatten (List.replicate n c).flatten
  | 0 => .nil
  | n + 1 => by simpa [List.replicate_succ] using h.append (rep_flat_VRs h n)
theorem rep_all {z : List AV} (h : z.all AV.one = true) (n : Nat) : (List.replicate n z).flatten.all AV.one = true := by
  refine List.all_eq_true.2 fun x hx => ?_
  obtain ⟨l, h1, h2⟩ := List.mem_flatten.1 hx
  rw [(List.mem_replicate.1 h1).2] at h2
  exact List.all_eq_true.1 h x h2
/-- The zero cells of a row, as the model lays them. -/
theorem zero_row (c : Array Value) (n : Nat) : ((Array.range (n * c.size)).map fun i => c[i % c.size]!) = (List.replicate n c.toList).flatten.toArray := by
  apply Array.ext'
  rw [Array.toList_map, Array.toList_range]
  induction n with
  | zero => simp
  | succ n ih =>
    by_cases h0 : c.size = 0
    · have : c.toList = [] := by
        apply List.eq_nil_of_length_eq_zero
        rw [Array.length_toList]; exact h0
      simp [h0, this]
    · rw [Nat.succ_mul, List.range_add, List.map_append, ih, List.replicate_succ', List.flatten_append]
      simp only [List.flatten_cons, List.flatten_nil, List.append_nil]
      have e : List.map (fun i => c[i % c.size]!) (List.map (fun x => n * c.size + x) (List.range c.size)) = c.toList := by
        apply List.ext_getElem?
        intro k
        simp only [List.map_map, List.getElem?_map]
        by_cases hk : k < c.size
        · have : (n * c.size + k) % c.size = k := by rw [Nat.add_comm, Nat.add_mul_mod_self_right, Nat.mod_eq_of_lt hk]
          simp [this, hk]
        · rw [List.getElem?_eq_none (by simpa using hk), List.getElem?_eq_none (by simpa using hk)]; rfl
      simp [e]

theorem elemsA_eq (zero : List AV) (size : Nat) (ps : List (Nat × AV)) (hz : ∀ k, k < size → True) : ∀ (n i : Nat), (i + n) * size ≤ zero.length →
    elemsA zero size ps i n = (((List.range n).map fun k => (zero.drop ((i + k) * size)).take size).zipIdx i).map fun p => (((part? ps p.2).getD (.agg p.1)), p.1.length)
  | 0, i, _ => rfl
  | n + 1, i, h => by
    have e : (List.range (n + 1)).map (fun k => (zero.drop ((i + k) * size)).take size) = (zero.drop (i * size)).take size :: (List.range n).map fun k => (zero.drop ((i + 1 + k) * size)).take size := by
      rw [List.range_succ_eq_map, List.map_cons, List.map_map]
      congr 1
      apply List.map_congr_left
      intro k _
      simp only [Function.comp]
      rw [show i + (k + 1) = i + 1 + k by omega]
    have hl : ((zero.drop (i * size)).take size).length = size := by
      rw [List.length_take, List.length_drop]
      have := Nat.add_mul i (n + 1) size
      have := Nat.add_one_mul n size
      omega
    rw [elemsA, e, List.zipIdx_cons, List.map_cons, elemsA_eq zero size ps hz n (i + 1) (by rw [show i + 1 + n = i + (n + 1) by omega]; exact h)]
    congr 1
    simp only [hl]
    cases part? ps i <;> rfl
theorem chunks_flat (l : List AV) (size : Nat) : ∀ n, n * size ≤ l.length → ((List.range n).map fun k => (l.drop ((0 + k) * size)).take size).flatten = l.take (n * size)
  | 0, _ => by simp
  | n + 1, h => by
    rw [Nat.succ_mul] at h
    rw [List.range_succ, List.map_append, List.flatten_append, chunks_flat l size n (by omega)]
    simp only [List.map_cons, List.map_nil, List.flatten_cons, List.flatten_nil, List.append_nil, Nat.zero_add]
    rw [Nat.succ_mul, List.take_add]
theorem chunks_take (l : List AV) (size n k : Nat) (h : n * size ≤ l.length) (hk : k < n) : (((List.range n).map fun k => (l.drop ((0 + k) * size)).take size).take k).flatten.length = k * size := by
  rw [← List.map_take, List.take_range, Nat.min_eq_left (Nat.le_of_lt hk), chunks_flat l size k (Nat.le_trans (Nat.mul_le_mul_right _ (Nat.le_of_lt hk)) h), List.length_take, Nat.min_eq_left]
  exact Nat.le_trans (Nat.mul_le_mul_right _ (Nat.le_of_lt hk)) h
/-- An array that is written out. -/
theorem buildA_done {t : TypeId} {i ie : TI} (hi : TIok X.P t i) {n : Nat} {e : TypeId} (hk : i.kd = .arr n e) (hie : TIok X.P e ie) (h : R X μ m w) {ps : List (Nat × AV)} {us : Array (Nat × Value)}
    (h1 : ps.map (·.1) = us.toList.map (·.1)) (h2 : VRs μ m.next w (ps.map (·.2)) (us.toList.map (·.2))) (hin : partsIn ps n = true) {v : AV} (hl : i.zero.length = n * ie.size)
    (he : gather (elemsA i.zero ie.size ps 0 n) (fun cs => ret (.agg cs)) m = some (v, m')) : Done X μ m w v m' ((Instr.build t us).run X.P w) := by
  obtain ⟨z, z1, z2, z3, z4, z5, _⟩ := hi.zero (μ := μ) (m := m) (w := w) (by rw [hk]; rfl)
  rw [elemsA_eq i.zero ie.size ps (fun _ _ => trivial) n 0 (by rw [Nat.zero_add]; omega)] at he
  have hf := chunks_flat i.zero ie.size n (by omega)
  rw [← hl, List.take_length] at hf
  obtain ⟨d, hd, hkd⟩ := hi.und
  rw [hk] at hkd
  cases hkd with
  | arr n e =>
    obtain ⟨cs, u, k1, k2, k3, k4, k5⟩ := filled (us := us.toList) (fun k => some (k * ie.size, ie.size)) rfl (zu := z.cells.toList) (by rw [hf]; exact z2) (by rw [hf]; exact z3) h1 h2 (by simpa using hin)
      (fun k z' hz => by
        have hkl : k < n := by simpa using (List.getElem?_eq_some_iff.1 hz).1
        simp only [List.getElem?_map, List.getElem?_range hkl, Option.map_some, Option.some.injEq] at hz
        rw [chunks_take i.zero ie.size n k (by omega) hkl, ← hz, List.length_take, List.length_drop]
        have : (0 + k) * ie.size + ie.size ≤ n * ie.size := by rw [← Nat.succ_mul]; exact Nat.mul_le_mul_right _ (by omega)
        rw [Nat.min_eq_left (by omega)]) he
    obtain ⟨rfl, rfl⟩ := ret_some k1
    refine .same h (.agg _ _ k5 k3) ?_
    simp only [Array.toArray_toList] at k4
    simp only [Instr.build, Sem.run_bind, z1, Result.andThen_ok, run_und hd, hie.run_size, k4, Sem.run_pure]
/-- A slice that is written out. -/
theorem buildSl_done {t : TypeId} {i ie : TI} (hi : TIok X.P t i) {n : Nat} {e : TypeId} (hk : i.kd = .slice e) (hie : TIok X.P e ie) (htup : ie.kd.isTup = false) (h : R X μ m w) {ps : List (Nat × AV)} {us : Array (Nat × Value)}
    (h1 : ps.map (·.1) = us.toList.map (·.1)) (h2 : VRs μ m.next w (ps.map (·.2)) (us.toList.map (·.2))) (hin : partsIn ps n = true) (hn : n ≤ 65536) (hs : ie.size ≤ 256) {v : AV}
    (he : gather (elems ie.zero ie.size ps 0 n) (fun cs => new cs fun id => ret (.slice (some { id, off := 0, sz := ie.size, len := n, cap := n, ex := true }))) m = some (v, m')) :
    Done X μ m w v m' ((Instr.buildSlice t n us).run X.P w) := by
  obtain ⟨z, z1, z2, z3, z4, z5, _⟩ := hie.zero (μ := μ) (m := m) (w := w) htup
  rw [elems_eq ie.zero z4 ps n 0] at he
  obtain ⟨d, hd, hkd⟩ := hi.und
  rw [hk] at hkd
  cases hkd with
  | slice e =>
    obtain ⟨cs, u, k1, k2, k3, k4, k5⟩ := filled (us := us.toList) (fun k => some (k * ie.size, ie.size)) rfl (zu := (List.replicate n z.cells.toList).flatten) (rep_flat_VRs z2 n) (rep_all z3 n) h1 h2 (by simpa using hin)
      (fun k z' hz => by
        have hkl : k < n := by simpa using (List.getElem?_eq_some_iff.1 hz).1
        rw [List.getElem?_replicate, if_pos hkl] at hz
        cases hz
        rw [take_rep ie.zero n k hkl, z4]) he
    unfold new at k1
    rw [k3] at k1
    obtain ⟨rfl, rfl⟩ := ret_some k1
    obtain ⟨w', μ', hr, hR, hS, hw, hμ⟩ := new_done (t := e) h k5.takeAll (by rw [k5.length]; exact Nat.le_refl _) k3
    have hlen : cs.length = n * ie.size := by rw [k2, zip_flat, z4]
    have hul : u.toList.length = n * ie.size := by rw [← k5.length, hlen]
    have hv := VR.slice (μ := μ') (N := (m.add (.cells cs)).next) (w := w') { id := m.next, off := 0, sz := ie.size, len := n, cap := n, ex := true } n (by simp) (Nat.le_refl _) (Nat.le_refl _) (fun _ => rfl) (by
      refine ⟨u.toList.toArray, e, (0, 0), ?_, ?_⟩
      · subst hw; simp [hμ]
      · simp only [hμ]
        show 0 + 0 + n * ie.size ≤ u.toList.length
        omega)
    refine ⟨_, w', μ', ?_, hv, hR, hS⟩
    have hle : n * ie.size ≤ 2 ^ 24 := Nat.le_trans (Nat.mul_le_mul hn hs) (by decide)
    simp only [Array.toArray_toList] at hr
    have hrow : (List.replicate n z.cells.toList).flatten.toArray = ((Array.range (n * ie.size)).map fun i => z.cells[i % z.cells.size]!) := by
      rw [← z5]
      exact (zero_row z.cells n).symm
    have hval : (Value.slice (some ⟨(μ' m.next).1, (μ' m.next).2, none⟩) n n) = Value.slice (some { block := (μ' m.next).1, off := (μ' m.next).2 + 0 }) n n := rfl
    by_cases h0 : n * ie.size = 0
    · have he0 : (List.replicate n z.cells.toList).flatten.toArray = #[] := by rw [hrow, h0]; simp
      rw [he0] at k4
      simp only [Instr.buildSlice, Sem.run_bind, run_und hd, Result.andThen_ok, hie.run_size, Nat.not_lt.2 hle, if_false, gt_iff_lt]
      have e1 : ((Array.range 0).map fun (i : Nat) => (#[] : Array Value)[i % (#[] : Array Value).size]!) = #[] := by simp
      simp only [h0, if_true, pure_bind, e1, k4, Sem.run_bind, hr, Result.andThen_ok, Sem.run_pure]
      rfl
    · rw [hrow] at k4
      simp only [Instr.buildSlice, Sem.run_bind, run_und hd, Result.andThen_ok, hie.run_size, Nat.not_lt.2 hle, if_false, gt_iff_lt]
      simp only [h0, if_false, Sem.run_bind, z1, Sem.run_pure, Result.andThen_ok, k4, hr]
      rfl

end Go.Am
