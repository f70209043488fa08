/-
What the model's operations come to where the abstract machine's do: values that are built of parts.
-/
import Derived.Test.YtboilkakbgalgaaDoorAmOps1
namespace Go.Am
open Go Go.RowKit

variable {X : Ctx} {μ : Nat → Nat × Nat} {m m' : Mem} {w : World}

/-- The last part that is given for a place. -/
def upart? (ps : List (Nat × Value)) (i : Nat) : Option Value :=
  match ps with
  | [] => none
  | (j, v) :: r => match upart? r i with
    | some u => some u
    | none => if j = i then some v else none
def segAt (segs : List (List Value)) (ps : List (Nat × Value)) : List (List Value) := ps.foldl (fun s p => s.set p.1 p.2.cells.toList) segs
theorem segAt_get : ∀ (ps : List (Nat × Value)) (segs : List (List Value)) (i : Nat), (segAt segs ps)[i]? = (segs[i]?).map fun z => ((upart? ps i).map fun u => u.cells.toList).getD z
  | [], segs, i => by simp [segAt, upart?]
  | (j, v) :: r, segs, i => by
    have ih := segAt_get r (segs.set j v.cells.toList) i
    have e : segAt segs ((j, v) :: r) = segAt (segs.set j v.cells.toList) r := rfl
    rw [e, ih]
    simp only [upart?]
    cases upart? r i with
    | some u => by_cases hji : j = i <;> simp [List.getElem?_set, hji] <;> (split <;> simp_all)
    | none =>
      by_cases hji : j = i
      · subst hji
        simp only [if_true, List.getElem?_set]
        by_cases hl : j < segs.length
        · simp [hl]
        · simp [hl]
      · simp [hji]
theorem foldl_sets : ∀ (vs : List Value) (off k : Nat) (cells : List Value), off + k + vs.length ≤ cells.length →
    ((vs.zipIdx k).foldl (fun (cs : Array Value) (p : Value × Nat) => cs.setIfInBounds (off + p.2) p.1) cells.toArray) = (cells.take (off + k) ++ vs ++ cells.drop (off + k + vs.length)).toArray
  | [], off, k, cells, _ => by simp
  | v :: vs, off, k, cells, h => by
    simp only [List.length_cons] at h
    rw [List.zipIdx_cons, List.foldl_cons]
    have e : (cells.toArray.setIfInBounds (off + k) v) = (cells.set (off + k) v).toArray := by simp
    simp only [e]
    rw [foldl_sets vs off (k + 1) (cells.set (off + k) v) (by simp; omega)]
    congr 1
    rw [show off + (k + 1) = off + k + 1 by omega]
    exact set_splice cells (off + k) v vs (by omega)
theorem flatten_set : ∀ (segs : List (List Value)) (i : Nat) (c : List Value) (z : List Value), segs[i]? = some z → c.length = z.length →
    segs.flatten.take (segs.take i).flatten.length ++ c ++ segs.flatten.drop ((segs.take i).flatten.length + c.length) = (segs.set i c).flatten
  | [], i, c, z, h, _ => by simp at h
  | s :: segs, 0, c, z, h, hl => by
    simp only [List.getElem?_cons_zero, Option.some.injEq] at h
    subst h
    simp [hl]
  | s :: segs, i + 1, c, z, h, hl => by
    simp only [List.getElem?_cons_succ] at h
    have ih := flatten_set segs i c z h hl
    simp only [List.take_succ_cons, List.flatten_cons, List.length_append, List.set_cons_succ]
    rw [List.take_append, List.take_of_length_le (by omega), List.drop_append, List.drop_of_length_le (by omega), show s.length + (segs.take i).flatten.length - s.length = (segs.take i).flatten.length by omega,
      show s.length + (segs.take i).flatten.length + c.length - s.length = (segs.take i).flatten.length + c.length by omega, ← ih]
    simp
theorem fill_segs (place : Nat → Option (Nat × Nat)) : ∀ (ps : List (Nat × Value)) (segs : List (List Value)),
    (∀ (i : Nat) z, segs[i]? = some z → place i = some ((segs.take i).flatten.length, z.length)) → (∀ p ∈ ps, ∃ z, segs[p.1]? = some z ∧ p.2.cells.size = z.length) →
    Instr.fill place segs.flatten.toArray ps = some (segAt segs ps).flatten.toArray
  | [], segs, _, _ => rfl
  | (i, v) :: r, segs, hp, hs => by
    obtain ⟨z, hz, hv⟩ := hs (i, v) (by simp)
    have hlen : (segs.take i).flatten.length + z.length ≤ segs.flatten.length := by
      have e : segs.take (i + 1) = segs.take i ++ [z] := by rw [List.take_add_one, hz]; rfl
      have : (segs.take (i + 1)).flatten.length ≤ segs.flatten.length := by
        conv => rhs; rw [← List.take_append_drop (i + 1) segs]
        rw [List.flatten_append, List.length_append]; omega
      rw [e] at this
      simpa using this
    unfold Instr.fill
    simp only [hp i z hz]
    have hv' : v.cells.size = z.length := hv
    have hvl : v.cells.toList.length = z.length := by rw [← hv', Array.length_toList]
    rw [if_neg (by simp only [List.size_toArray, Bool.or_eq_true, decide_eq_true_eq]; omega)]
    have hf := foldl_sets v.cells.toList (segs.take i).flatten.length 0 segs.flatten (by omega)
    have e : (Array.foldl (fun (cs : Array Value) (x : Value × Nat) => match x with | (c, j) => cs.setIfInBounds ((segs.take i).flatten.length + j) c) segs.flatten.toArray v.cells.zipIdx) =
        ((v.cells.toList.zipIdx 0).foldl (fun (cs : Array Value) (p : Value × Nat) => cs.setIfInBounds ((segs.take i).flatten.length + p.2) p.1) segs.flatten.toArray) := by
      rw [← Array.foldl_toList]
      congr 1
      simp
    rw [e, hf]
    simp only [Nat.add_zero]
    rw [flatten_set segs i v.cells.toList z hz (by simpa using hv)]
    have hset : ∀ (k : Nat) z', (segs.set i v.cells.toList)[k]? = some z' → ∃ z0, segs[k]? = some z0 ∧ z'.length = z0.length := fun k z' hk => by
      rw [List.getElem?_set] at hk
      by_cases hik : i = k
      · subst hik
        rw [if_pos rfl] at hk
        split at hk
        · cases hk; exact ⟨z, hz, by simpa using hv⟩
        · cases hk
      · rw [if_neg hik] at hk; exact ⟨z', hk, rfl⟩
    have hlens : ∀ k, ((segs.set i v.cells.toList).take k).flatten.length = (segs.take k).flatten.length := fun k => by
      rw [List.length_flatten, List.length_flatten]
      congr 1
      apply List.ext_getElem?
      intro q
      simp only [List.getElem?_map, List.getElem?_take]
      by_cases hq : q < k
      · simp only [hq, if_true, List.getElem?_set]
        by_cases hiq : i = q
        · subst hiq
          have hil : i < segs.length := (List.getElem?_eq_some_iff.1 hz).1
          simp only [if_true, hil, hz, Option.map_some, Option.some.injEq]
          simpa using hv
        · simp [hiq]
      · simp [hq]
    refine fill_segs place r (segs.set i v.cells.toList) (fun k z' hk => ?_) (fun p hp' => ?_)
    · obtain ⟨z0, h0, h1⟩ := hset k z' hk
      rw [hp k z0 h0, hlens k, h1]
    · obtain ⟨z1, h1, h2⟩ := hs p (by simp [hp'])
      by_cases hik : i = p.1
      · refine ⟨v.cells.toList, ?_, ?_⟩
        · have hil : i < segs.length := (List.getElem?_eq_some_iff.1 hz).1
          rw [← hik, List.getElem?_set, if_pos rfl, if_pos hil]
        · rw [← hik, hz] at h1; cases h1
          rw [h2, ← hv]; simp
      · exact ⟨z1, by rw [List.getElem?_set, if_neg hik]; exact h1, h2⟩

/-- The abstract parts and the model's. -/
theorem part_upart {N : Nat} : ∀ {ps : List (Nat × AV)} {us : List (Nat × Value)}, ps.map (·.1) = us.map (·.1) → VRs μ N w (ps.map (·.2)) (us.map (·.2)) → ∀ i,
    (part? ps i = none ∧ upart? us i = none) ∨ ∃ v u, part? ps i = some v ∧ upart? us i = some u ∧ VR μ N w v u
  | [], [], _, _, i => .inl ⟨rfl, rfl⟩
  | [], _ :: _, h, _, _ => by simp at h
  | _ :: _, [], h, _, _ => by simp at h
  | (j, v) :: ps, (k, u) :: us, h, hv, i => by
    simp only [List.map_cons, List.cons.injEq] at h hv
    obtain ⟨rfl, h⟩ := h
    cases hv with
    | cons _ _ _ _ h1 h2 =>
      rcases part_upart h h2 i with ⟨e1, e2⟩ | ⟨v', u', e1, e2, e3⟩
      · by_cases hji : j = i
        · exact .inr ⟨v, u, by simp [part?, e1, hji], by simp [upart?, e2, hji], h1⟩
        · exact .inl ⟨by simp [part?, e1, hji], by simp [upart?, e2, hji]⟩
      · exact .inr ⟨v', u', by simp [part?, e1], by simp [upart?, e2], e3⟩

theorem upart_mem : ∀ {us : List (Nat × Value)}, onceB (us.map (·.1)) = true → ∀ p ∈ us, upart? us p.1 = some p.2
  | [], _, p, hp => by simp at hp
  | (j, v) :: us, h, p, hp => by
    simp only [List.map_cons, onceB, Bool.and_eq_true, List.all_eq_true, decide_eq_true_eq] at h
    have none_of : ∀ (l : List (Nat × Value)) i, (∀ q ∈ l, q.1 ≠ i) → upart? l i = none := fun l i => by
      induction l with
      | nil => intro _; rfl
      | cons q l ih =>
        intro hq
        simp only [upart?, ih fun q hq' => hq q (by simp [hq'])]
        rw [if_neg (hq q (by simp))]
    rcases List.mem_cons.1 hp with rfl | hp
    · simp only [upart?, none_of us j fun q hq => h.1 q.1 (List.mem_map.2 ⟨q, hq, rfl⟩), if_true]
    · simp only [upart?, upart_mem h.2 p hp]
theorem elems_eq (zero : List AV) {size : Nat} (hz : zero.length = size) (ps : List (Nat × AV)) : ∀ (n i : Nat), elems zero size ps i n = ((List.replicate n zero).zipIdx i).map fun p => (((part? ps p.2).getD (.agg p.1)), p.1.length)
  | 0, i => rfl
  | n + 1, i => by
    rw [elems, List.replicate_succ, List.zipIdx_cons, List.map_cons, elems_eq zero hz ps n (i + 1)]
    congr 1
    subst hz
    cases part? ps i <;> rfl
theorem fields_eq {E : Env} (hE : TTok X.P E.tt) (zero : List AV) (ps : List (Nat × AV)) : ∀ (fs : List (Nat × TypeId)) (i o n : Nat) (K : List (AV × Nat) → C) (r : AV × Mem),
    fields E zero ps i fs K m = some r → offB X.P o fs n = true → n ≤ zero.length → ∃ zs : List (List AV), K ((zs.zipIdx i).map fun p => (((part? ps p.2).getD (.agg p.1)), p.1.length)) m = some r ∧
      zs.length = fs.length ∧ zs.flatten = (zero.drop o).take (n - o) ∧ o ≤ n ∧ ∀ (k : Nat) (p : Nat × TypeId), fs[k]? = some p → ∃ z f, zs[k]? = some z ∧ p.1 = o + (zs.take k).flatten.length ∧ X.P.info? p.2 = some f ∧ f.size = z.length
  | [], i, o, n, K, r, h, ho, hn => by
    simp only [offB, beq_iff_eq] at ho
    subst ho
    exact ⟨[], h, rfl, by simp, Nat.le_refl _, by simp⟩
  | (off, t) :: fs, i, o, n, K, r, h, ho, hn => by
    simp only [fields, Env.ti] at h
    cases ht : E.tt.get t with
    | none => rw [ht] at h; cases h
    | some ti =>
      rw [ht] at h
      simp only [] at h
      obtain ⟨f, hf, hfs, _⟩ := (hE t ti ht).info
      simp only [offB, hf, Bool.and_eq_true, beq_iff_eq] at ho
      obtain ⟨rfl, ho⟩ := ho
      have hle : ∀ (fs : List (Nat × TypeId)) (a b : Nat), offB X.P a fs b = true → a ≤ b := fun fs => by
        induction fs with
        | nil => intro a b h; simp only [offB, beq_iff_eq] at h; omega
        | cons p fs ih =>
          intro a b h
          simp only [offB, Bool.and_eq_true] at h
          obtain ⟨_, h⟩ := h
          split at h
          · have := ih _ _ h; omega
          · cases h
      have hle' := hle _ _ _ ho
      have hz : ((zero.drop off).take ti.size).length = ti.size := by simp; omega
      have key : ∃ K' : List (AV × Nat) → C, fields E zero ps (i + 1) fs K' m = some r ∧ ∀ l, K' l = K (((part? ps i).getD (.agg ((zero.drop off).take ti.size)), ti.size) :: l) := by
        cases hp : part? ps i with
        | some v => rw [hp] at h; exact ⟨_, h, fun _ => rfl⟩
        | none => rw [hp] at h; exact ⟨_, h, fun _ => rfl⟩
      obtain ⟨K', hK', hK''⟩ := key
      obtain ⟨zs, h1, h2, h3, h4, h5⟩ := fields_eq hE zero ps fs (i + 1) (off + f.size) n K' r hK' ho hn
      refine ⟨(zero.drop off).take ti.size :: zs, ?_, by simp [h2], ?_, by omega, ?_⟩
      · rw [hK''] at h1
        rw [List.zipIdx_cons, List.map_cons]
        simp only [hz]
        exact h1
      · rw [List.flatten_cons, h3, ← hfs]
        apply List.ext_getElem?
        intro k
        simp only [List.getElem?_append, List.getElem?_take, List.getElem?_drop, List.length_take, List.length_drop]
        by_cases a1 : k < f.size
        · rw [if_pos (by omega), if_pos (by omega), if_pos (by omega)]
        · rw [if_neg (by omega)]
          by_cases a2 : k < n - off
          · rw [if_pos (by omega), if_pos a2]; congr 1; omega
          · rw [if_neg (by omega), if_neg a2]
      · intro k p hk
        cases k with
        | zero =>
          simp only [List.getElem?_cons_zero, Option.some.injEq] at hk
          subst hk
          exact ⟨_, f, rfl, by simp, hf, by rw [hz, hfs]⟩
        | succ k =>
          obtain ⟨z, f', g1, g2, g3, g4⟩ := h5 k p (by simpa using hk)
          refine ⟨z, f', by simpa using g1, ?_, g3, g4⟩
          rw [List.take_succ_cons, List.flatten_cons, List.length_append, hz, g2, hfs]
          omega

/-- A row that is cut as another one is. -/
def recut : List Nat → List Value → List (List Value)
  | [], _ => []
  | n :: r, l => l.take n :: recut r (l.drop n)
theorem recut_VRs {N : Nat} : ∀ {zs : List (List AV)} {us : List Value}, VRs μ N w zs.flatten us → (recut (zs.map List.length) us).flatten = us ∧ (recut (zs.map List.length) us).length = zs.length ∧
    ∀ (i : Nat) z, zs[i]? = some z → ∃ u, (recut (zs.map List.length) us)[i]? = some u ∧ VRs μ N w z u
  | [], us, h => by cases h; simp [recut]
  | z :: zs, us, h => by
    rw [List.flatten_cons] at h
    have h1 := h.take z.length
    have h2 := h.drop z.length
    rw [List.take_left'] at h1
    · rw [List.drop_left'] at h2
      · obtain ⟨g1, g2, g3⟩ := recut_VRs h2
        refine ⟨by simp [recut, g1], by simp [recut, g2], fun i z' hz => ?_⟩
        cases i with
        | zero => simp only [List.getElem?_cons_zero, Option.some.injEq] at hz; subst hz; exact ⟨_, by simp [recut], h1⟩
        | succ i => obtain ⟨u, k1, k2⟩ := g3 i z' (by simpa using hz); exact ⟨u, by simpa [recut] using k1, k2⟩
      · rfl
    · rfl
theorem recut_len {N : Nat} {zs : List (List AV)} {us : List Value} (h : VRs μ N w zs.flatten us) (k : Nat) : ((recut (zs.map List.length) us).take k).flatten.length = (zs.take k).flatten.length := by
  obtain ⟨_, g2, g3⟩ := recut_VRs h
  rw [List.length_flatten, List.length_flatten]
  congr 1
  apply List.ext_getElem?
  intro q
  simp only [List.getElem?_map, List.getElem?_take]
  by_cases hq : q < k
  · simp only [hq, if_true]
    cases hz : zs[q]? with
    | some z =>
      obtain ⟨u, h1, h2⟩ := g3 q z hz
      rw [h1]
      simp [h2.length]
    | none =>
      have : zs.length ≤ q := List.getElem?_eq_none_iff.1 hz
      rw [List.getElem?_eq_none (by omega)]
      rfl
  · simp [hq]

/-- The heart: what is gathered of the chosen values is what the model fills in. -/
theorem filled {N : Nat} {zs : List (List AV)} {zu : List Value} {ps : List (Nat × AV)} {us : List (Nat × Value)} (place : Nat → Option (Nat × Nat)) {K : List AV → C} {r : AV × Mem}
    (hN : N = m.next) (hz : VRs μ N w zs.flatten zu) (hz1 : zs.flatten.all AV.one = true) (hk : ps.map (·.1) = us.map (·.1)) (hv : VRs μ N w (ps.map (·.2)) (us.map (·.2))) (hin : partsIn ps zs.length = true)
    (hp : ∀ (i : Nat) z, zs[i]? = some z → place i = some ((zs.take i).flatten.length, z.length))
    (hg : gather ((zs.zipIdx 0).map fun p => (((part? ps p.2).getD (.agg p.1)), p.1.length)) K m = some r) :
    ∃ cs u, K cs m = some r ∧ cs.length = zs.flatten.length ∧ cs.all AV.one = true ∧ Instr.fill place zu.toArray us = some u ∧ VRs μ N w cs u.toList := by
  subst hN
  unfold partsIn at hin
  rw [Bool.and_eq_true] at hin
  obtain ⟨cs, h1, h2, h3⟩ := gather_some (μ := μ) (w := w) hg
  obtain ⟨g1, g2, g3⟩ := recut_VRs hz
  -- the model's values, one a place
  let seg := recut (zs.map List.length) zu
  let vu : List Value := (seg.zipIdx 0).map fun p => (upart? us p.2).getD (.agg p.1.toArray)
  have hvu : VRs μ m.next w (((zs.zipIdx 0).map fun p => (((part? ps p.2).getD (.agg p.1)), p.1.length)).map (·.1)) vu := by
    refine VRs.of_get (by simp [vu, seg, g2]) fun k v hkv => ?_
    simp only [List.map_map, List.getElem?_map, List.getElem?_zipIdx, Nat.zero_add] at hkv
    cases hzk : zs[k]? with
    | none => rw [hzk] at hkv; cases hkv
    | some z =>
      rw [hzk] at hkv
      simp only [Option.map_some, Function.comp, Option.some.injEq] at hkv
      subst hkv
      obtain ⟨u, k1, k2⟩ := g3 k z hzk
      refine ⟨(upart? us k).getD (.agg u.toArray), by simp [vu, seg, k1], ?_⟩
      rcases part_upart hk hv k with ⟨e1, e2⟩ | ⟨v, u', e1, e2, e3⟩
      · rw [e1, e2]
        refine .agg _ _ (by simpa using k2) ?_
        have hm : z ∈ zs := List.mem_of_getElem? hzk
        exact List.all_eq_true.2 fun x hx => List.all_eq_true.1 hz1 x (List.mem_flatten.2 ⟨z, hm, hx⟩)
      · rw [e1, e2]; exact e3
  obtain ⟨k1, k2, k3, k4⟩ := h3 hvu
  have hsz : ∀ (i : Nat) z, zs[i]? = some z → ∀ u, upart? us i = some u → u.cells.size = z.length := fun i z hzi u hu => by
    have e : vu[i]? = some u := by
      obtain ⟨s, q1, _⟩ := g3 i z hzi
      simp only [vu, seg, List.getElem?_map, List.getElem?_zipIdx, Nat.zero_add, q1, Option.map_some, hu, Option.getD_some]
    have e2 := congrArg (fun l => l[i]?) k4
    simp only [List.getElem?_map, List.getElem?_zipIdx, Nat.zero_add, hzi, Option.map_some, e] at e2
    simpa using e2
  have hfill := fill_segs place us seg (fun i u hu => by
      have hi : i < zs.length := by rw [← g2]; exact (List.getElem?_eq_some_iff.1 hu).1
      obtain ⟨z, hzi⟩ : ∃ z, zs[i]? = some z := ⟨_, List.getElem?_eq_getElem hi⟩
      obtain ⟨u', q1, q2⟩ := g3 i z hzi
      rw [show seg[i]? = some u' from q1] at hu; cases hu
      rw [hp i z hzi, recut_len hz i, q2.length]) (fun p hp' => by
      have hi : p.1 < zs.length := by
        have : p.1 ∈ us.map (·.1) := List.mem_map.2 ⟨p, hp', rfl⟩
        rw [← hk] at this
        obtain ⟨q, hq, he⟩ := List.mem_map.1 this
        have := List.all_eq_true.1 hin.1 q hq
        simp only [decide_eq_true_eq] at this
        omega
      obtain ⟨z, hzi⟩ : ∃ z, zs[p.1]? = some z := ⟨_, List.getElem?_eq_getElem hi⟩
      obtain ⟨u', q1, q2⟩ := g3 p.1 z hzi
      exact ⟨u', q1, by rw [hsz p.1 z hzi p.2 (upart_mem (by rw [← hk]; exact hin.2) p hp'), q2.length]⟩)
  rw [g1] at hfill
  refine ⟨cs, (segAt seg us).flatten.toArray, h1, ?_, k3, hfill, ?_⟩
  · rw [h2, List.length_flatten]
    congr 1
    apply List.ext_getElem?
    intro q
    simp only [List.getElem?_map, List.getElem?_zipIdx, Nat.zero_add]
    cases zs[q]? <;> rfl
  · have e : (segAt seg us).flatten = vu.flatMap fun u => u.cells.toList := by
      rw [List.flatMap_def]
      congr 1
      apply List.ext_getElem?
      intro q
      rw [segAt_get]
      simp only [vu, List.getElem?_map, List.getElem?_zipIdx, Nat.zero_add, Option.map_map]
      cases seg[q]? with
      | none => rfl
      | some s =>
        simp only [Option.map_some, Function.comp]
        cases upart? us q <;> rfl
    rw [e]
    exact k2

end Go.Am
