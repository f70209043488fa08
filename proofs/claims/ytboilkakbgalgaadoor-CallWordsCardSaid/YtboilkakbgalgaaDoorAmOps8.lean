/-
What the model's operations come to where the abstract machine's do: values held against each other.
-/
import Derived.Test.YtboilkakbgalgaaDoorAmOps7
import Derived.ChangeKeysEq
import Derived.LaidEql
namespace Go.Am
open Go Go.RowKit

variable {X : Ctx} {μ : Nat → Nat × Nat} {m m' : Mem} {w : World} {E : Env}

theorem eqCells_append : ∀ {ks js : List Bool} {a b c d : List AV} {t : Bool}, a.length = ks.length → b.length = ks.length → eqCells (ks ++ js) (a ++ c) (b ++ d) = some t →
    ∃ t1 t2, eqCells ks a b = some t1 ∧ eqCells js c d = some t2 ∧ t = (t1 && t2)
  | [], js, a, b, c, d, t, hl, hr, h => by
    obtain rfl := List.length_eq_zero_iff.1 hl
    obtain rfl := List.length_eq_zero_iff.1 hr
    exact ⟨true, t, rfl, h, by simp⟩
  | k :: ks, js, x :: a, y :: b, c, d, t, hl, hr, h => by
    simp only [List.cons_append] at h
    have hl' : a.length = ks.length := by simpa using hl
    have hr' : b.length = ks.length := by simpa using hr
    unfold eqCells at h
    split at h
    · rename_i h0 _ _; cases h0
    · rename_i ks' i p l j q r h1 h2 h3
      cases h1
      cases h2
      cases h3
      split at h
      · rename_i u hu
        split at h
        · rename_i hjk
          cases h
          obtain ⟨t1, t2, e1, e2, rfl⟩ := eqCells_append hl' hr' hu
          exact ⟨p == q && t1, t2, by unfold eqCells; rw [e1]; simp only [if_pos hjk], e2, by simp [Bool.and_assoc]⟩
        · cases h
      · cases h
    · rename_i ks' p l q r h1 h2 h3
      cases h1
      cases h2
      cases h3
      split at h
      · rename_i u hu
        cases h
        obtain ⟨t1, t2, e1, e2, rfl⟩ := eqCells_append hl' hr' hu
        exact ⟨(p == q) && t1, t2, by unfold eqCells; rw [e1], e2, by simp [Bool.and_assoc]⟩
      · cases h
    · cases h

section flat
variable {P : Program}
def aggT (P : Program) (t : TypeId) : Bool :=
  match P.underlying t with
  | some (.struct _) | some (.array _ _) => true
  | _ => false
def fldKs (P : Program) (d : Nat) (o : Option (List Bool)) (f : Field) : Option (List Bool) :=
  match o with
  | some o => if f.name = "_" ∨ f.offset ≠ o.length then none else (flatKs P d f.type).map (o ++ ·)
  | none => none
theorem fld_none (d : Nat) : ∀ fs : List Field, fs.foldl (fldKs P d) none = none
  | [] => rfl
  | _ :: fs => by simp only [List.foldl_cons]; exact fld_none d fs
theorem flat_info : ∀ {d : Nat} {t : TypeId} {ks : List Bool}, flatKs P d t = some ks → ∃ i, P.info? t = some i ∧ i.size = ks.length
  | 0, _, _, h => by cases h
  | d + 1, t, n, h => by
    unfold flatKs at h
    split at h
    · rename_i f _ hf
      split at h
      · cases h; exact ⟨f, hf, by assumption⟩
      · cases h
    · rename_i f _ hf
      split at h
      · cases h; exact ⟨f, hf, by assumption⟩
      · cases h
    · rename_i i _ hi
      split at h
      · cases h
      · split at h
        · split at h
          · cases h; rename_i hn; exact ⟨i, hi, hn.symm⟩
          · cases h
        · cases h
    · rename_i i _ hi
      split at h
      · split at h
        · cases h; rename_i hn; exact ⟨i, hi, by simp [← hn]⟩
        · cases h
      · cases h
    · cases h
def FlatV (P : Program) (t : TypeId) (x : Value) (c : List Value) : Prop :=
  match aggT P t with
  | true => x = .agg c.toArray
  | false => c = [x]
theorem flat_part {d : Nat} {t : TypeId} {ks : List Bool} (h : flatKs P d t = some ks) {cs : Array Value} {off : Nat} (ho : off + ks.length ≤ cs.size) :
    ∃ x, (part t cs off).run P w = .ok x w ∧ FlatV P t x ((cs.toList.drop off).take ks.length) := by
  obtain ⟨i, hi, hn⟩ := flat_info h
  have hs : (sizeOf t).run P w = .ok ks.length w := by simp [Go.sizeOf, run_ti hi, hn]
  have one : ks.length = 1 → isAgg t = isAgg t → aggT P t = false → (isAgg t).run P w = .ok false w → ∃ x, (part t cs off).run P w = .ok x w ∧ FlatV P t x ((cs.toList.drop off).take ks.length) := fun h1 _ h2 h3 => by
    refine ⟨cs[off], ?_, ?_⟩
    · simp [part, h3, Array.getElem?_eq_getElem (show off < cs.size by omega)]
    · unfold FlatV
      rw [h2, h1]
      show (cs.toList.drop off).take 1 = [cs[off]]
      rw [List.drop_eq_getElem_cons (by simpa using (show off < cs.size by omega))]
      simp
  have many : aggT P t = true → (isAgg t).run P w = .ok true w → ∃ x, (part t cs off).run P w = .ok x w ∧ FlatV P t x ((cs.toList.drop off).take ks.length) := fun h2 h3 => by
    refine ⟨.agg (cs.extract off (off + ks.length)), by simp [part, h3, hs], ?_⟩
    unfold FlatV
    rw [h2]
    show Value.agg _ = Value.agg _
    rw [← extract_list]
  cases d with
  | zero => cases h
  | succ d =>
    unfold flatKs at h
    split at h
    · rename_i f hu hf
      split at h
      · cases h; exact one rfl rfl (by simp [aggT, hu]) (by simp [isAgg, run_und hu])
      · cases h
    · rename_i f hu hf
      split at h
      · cases h; exact one rfl rfl (by simp [aggT, hu]) (by simp [isAgg, run_und hu])
      · cases h
    · rename_i hu hi'; exact many (by simp [aggT, hu]) (by simp [isAgg, run_und hu])
    · rename_i hu hi'; exact many (by simp [aggT, hu]) (by simp [isAgg, run_und hu])
    · cases h
theorem fld_pre {d : Nat} : ∀ {fs : List Field} {o N : List Bool}, fs.foldl (fldKs P d) (some o) = some N → ∃ r, N = o ++ r
  | [], o, N, h => by simp only [List.foldl_nil, Option.some.injEq] at h; exact ⟨[], by simp [h]⟩
  | f :: fs, o, N, h => by
    simp only [List.foldl_cons] at h
    cases hf : fldKs P d (some o) f with
    | none => rw [hf, fld_none] at h; cases h
    | some q =>
      rw [hf] at h
      obtain ⟨r, rfl⟩ := fld_pre h
      unfold fldKs at hf
      simp only [] at hf
      split at hf
      · cases hf
      · rw [Option.map_eq_some_iff] at hf
        obtain ⟨s, _, rfl⟩ := hf
        exact ⟨s ++ r, by simp⟩

def FlatAt (P : Program) (d : Nat) (t : TypeId) : Prop :=
  ∀ (μ : Nat → Nat × Nat) (N : Nat) (w : World) (ks : List Bool) (D : Nat) (x y : Value) (cx cy : List Value) (l r : List AV) (b : Bool), flatKs P d t = some ks → FlatV P t x cx → FlatV P t y cy →
    VRs μ N w l cx → VRs μ N w r cy → l.length = ks.length → r.length = ks.length → eqCells ks l r = some b → (Op.equalIn (d + D) t x y).run P w = .ok b w

theorem seg_split {α : Type} (l : List α) (o s n : Nat) (h : s ≤ n) : ((l.drop o).take n).take s = (l.drop o).take s ∧ ((l.drop o).take n).drop s = (l.drop (o + s)).take (n - s) := by
  constructor
  · rw [List.take_take, Nat.min_eq_left h]
  · rw [List.drop_take, List.drop_drop]
theorem flat_fields {d : Nat} (IH : ∀ t, FlatAt P d t) {N' : Nat} (D : Nat) (xs ys : Array Value) : ∀ (fs : List Field) (o N js : List Bool) (l r : List AV) (b : Bool), fs.foldl (fldKs P d) (some o) = some N → N = o ++ js →
    N.length ≤ xs.size → N.length ≤ ys.size → VRs μ N' w l ((xs.toList.drop o.length).take js.length) → VRs μ N' w r ((ys.toList.drop o.length).take js.length) → l.length = js.length → r.length = js.length → eqCells js l r = some b →
    (Op.eqFields (d + D) xs ys fs).run P w = .ok b w
  | [], o, N, js, l, r, b, h, hN, _, _, _, _, h5, h6, h7 => by
    simp only [List.foldl_nil, Option.some.injEq] at h
    subst h
    have hj : js = [] := by
      have := congrArg List.length hN
      rw [List.length_append] at this
      exact List.length_eq_zero_iff.1 (by omega)
    subst hj
    rw [List.length_eq_zero_iff.1 h5, List.length_eq_zero_iff.1 h6] at h7
    cases h7
    simp [Op.eqFields]
  | f :: fs, o, N, js, l, r, b, h, hN, h1, h2, h3, h4, h5, h6, h7 => by
    simp only [List.foldl_cons] at h
    cases hf : fldKs P d (some o) f with
    | none => rw [hf, fld_none] at h; cases h
    | some q =>
      rw [hf] at h
      obtain ⟨rest, hrest⟩ := fld_pre h
      unfold fldKs at hf
      simp only [] at hf
      split at hf
      · cases hf
      · rename_i hc
        rw [Option.map_eq_some_iff] at hf
        obtain ⟨s, hs, rfl⟩ := hf
        have hname : f.name ≠ "_" := fun e => hc (.inl e)
        have hoff : f.offset = o.length := Decidable.byContradiction fun e => hc (.inr e)
        have hjs : js = s ++ rest := by
          rw [hN, List.append_assoc] at hrest
          exact List.append_cancel_left hrest
        subst hjs
        have hlen := congrArg List.length hN
        simp only [List.length_append] at hlen h5 h6
        obtain ⟨a, a1, a2⟩ := flat_part (w := w) hs (cs := xs) (off := o.length) (by omega)
        obtain ⟨c, c1, c2⟩ := flat_part (w := w) hs (cs := ys) (off := o.length) (by omega)
        obtain ⟨p1, p2⟩ := seg_split xs.toList o.length s.length (s ++ rest).length (by simp)
        obtain ⟨q1, q2⟩ := seg_split ys.toList o.length s.length (s ++ rest).length (by simp)
        have hsub : (s ++ rest).length - s.length = rest.length := by simp
        rw [hsub, ← List.length_append] at p2 q2
        have e7 := h7
        rw [← List.take_append_drop s.length l, ← List.take_append_drop s.length r] at e7
        obtain ⟨t1, t2, e1, e2, rfl⟩ := eqCells_append (by rw [List.length_take]; omega) (by rw [List.length_take]; omega) e7
        have hr := IH f.type μ N' w s D a c _ _ (l.take s.length) (r.take s.length) t1 hs a2 c2 (by rw [← p1]; exact h3.take _) (by rw [← q1]; exact h4.take _) (by rw [List.length_take]; omega) (by rw [List.length_take]; omega) e1
        have ht := flat_fields IH D xs ys fs (o ++ s) N rest (l.drop s.length) (r.drop s.length) t2 h hrest h1 h2 (by rw [← p2]; exact h3.drop _) (by rw [← q2]; exact h4.drop _) (by rw [List.length_drop]; omega) (by rw [List.length_drop]; omega) e2
        simp only [Op.eqFields, hname, ne_eq, not_false_eq_true, if_true, Sem.run_bind, hoff, a1, c1, hr, Result.andThen_ok]
        cases t1
        · simp
        · simpa using ht
theorem flat_items {d : Nat} {e : TypeId} {ks : List Bool} (IH : FlatAt P d e) (hs : flatKs P d e = some ks) {N' : Nat} (D : Nat) (xs ys : Array Value) : ∀ (k n : Nat) (l r : List AV) (b : Bool),
    (k + n) * ks.length ≤ xs.size → (k + n) * ks.length ≤ ys.size → VRs μ N' w l ((xs.toList.drop (k * ks.length)).take (n * ks.length)) → VRs μ N' w r ((ys.toList.drop (k * ks.length)).take (n * ks.length)) →
    l.length = n * ks.length → r.length = n * ks.length → eqCells (List.replicate n ks).flatten l r = some b →
    (Op.eqItems (d + D) e ks.length xs ys (List.range' k n)).run P w = .ok b w
  | k, 0, l, r, b, _, _, _, _, h5, h6, h7 => by
    simp only [Nat.zero_mul] at h5 h6
    rw [List.length_eq_zero_iff.1 h5, List.length_eq_zero_iff.1 h6] at h7
    cases h7
    simp [Op.eqItems]
  | k, n + 1, l, r, b, h1, h2, h3, h4, h5, h6, h7 => by
    have hm : (n + 1) * ks.length = ks.length + n * ks.length := by rw [Nat.add_mul]; omega
    have hk : (k + 1) * ks.length = k * ks.length + ks.length := by rw [Nat.add_mul]; omega
    have hkn : (k + (n + 1)) * ks.length = k * ks.length + (n + 1) * ks.length := by rw [Nat.add_mul]
    obtain ⟨a, a1, a2⟩ := flat_part (w := w) hs (cs := xs) (off := k * ks.length) (by omega)
    obtain ⟨c, c1, c2⟩ := flat_part (w := w) hs (cs := ys) (off := k * ks.length) (by omega)
    obtain ⟨p1, p2⟩ := seg_split xs.toList (k * ks.length) ks.length ((n + 1) * ks.length) (by omega)
    obtain ⟨q1, q2⟩ := seg_split ys.toList (k * ks.length) ks.length ((n + 1) * ks.length) (by omega)
    have e7 := h7
    rw [← List.take_append_drop ks.length l, ← List.take_append_drop ks.length r, List.replicate_succ, List.flatten_cons] at e7
    obtain ⟨t1, t2, e1, e2, rfl⟩ := eqCells_append (by rw [List.length_take]; omega) (by rw [List.length_take]; omega) e7
    have hsub : (n + 1) * ks.length - ks.length = n * ks.length := by omega
    rw [hsub, ← hk] at p2 q2
    have hr := IH μ N' w ks D a c _ _ (l.take ks.length) (r.take ks.length) t1 hs a2 c2 (by rw [← p1]; exact h3.take _) (by rw [← q1]; exact h4.take _) (by rw [List.length_take]; omega) (by rw [List.length_take]; omega) e1
    have ht := flat_items IH hs D xs ys (k + 1) n (l.drop ks.length) (r.drop ks.length) t2 (by rw [show k + 1 + n = k + (n + 1) by omega]; exact h1) (by rw [show k + 1 + n = k + (n + 1) by omega]; exact h2)
      (by rw [← p2]; exact h3.drop _) (by rw [← q2]; exact h4.drop _) (by rw [List.length_drop]; omega) (by rw [List.length_drop]; omega) e2
    simp only [List.range'_succ, Op.eqItems, Sem.run_bind, a1, c1, hr, Result.andThen_ok]
    cases t1
    · simp
    · simpa using ht
theorem flat_eq : ∀ (d : Nat) (t : TypeId), FlatAt P d t
  | 0, _ => fun _ _ _ _ _ _ _ _ _ _ _ _ h => by cases h
  | d + 1, t => fun μ N w n D x y cx cy l r b h hx hy h1 h2 h3 h4 h5 => by
    obtain ⟨i, hi, hn⟩ := flat_info h
    rw [show d + 1 + D = (d + D) + 1 by omega]
    unfold flatKs at h
    split at h
    · rename_i f hu hf
      split at h
      · cases h
        unfold FlatV aggT at hx hy
        rw [hu] at hx hy
        simp only [] at hx hy
        subst hx
        subst hy
        cases h1 with
        | cons v u l' r' a1 a2 =>
          cases a2
          cases h2 with
          | cons v' u' l' r' b1 b2 =>
            cases b2
            unfold eqCells at h5
            split at h5
            · rename_i h8 _ _; cases h8
            · rename_i h8 _ _; cases h8
            · rename_i q8 q9 q10
              cases q8
              cases q9
              cases q10
              cases h5
              cases a1
              cases b1
              simp [Op.equalIn, run_und hu]
            · cases h5
      · cases h
    · rename_i f hu hf
      split at h
      · cases h
        unfold FlatV aggT at hx hy
        rw [hu] at hx hy
        simp only [] at hx hy
        subst hx
        subst hy
        cases h1 with
        | cons v u l' r' a1 a2 =>
          cases a2
          cases h2 with
          | cons v' u' l' r' b1 b2 =>
            cases b2
            unfold eqCells at h5
            split at h5
            · rename_i h8 _ _; cases h8
            · rename_i q8 q9 q10
              cases q8
              cases q9
              cases q10
              simp only [eqCells] at h5
              split at h5
              · rename_i hjk
                cases h5
                subst hjk
                cases a1
                cases b1
                simp [Op.equalIn, run_und hu]
              · cases h5
            · rename_i h8 _ _; cases h8
            · cases h5
      · cases h
    · rename_i fs i' hu hi'
      split at h
      · cases h
      · rename_i hst
        split at h
        · rename_i N0 hN
          split at h
          · cases h
            unfold FlatV aggT at hx hy
            rw [hu] at hx hy
            simp only [] at hx hy
            subst hx
            subst hy
            have hfs : P.fieldsOf t = fs := by simp [Program.fieldsOf, hu]
            rw [run_equalIn_struct w (d + D) t _ _ (by rw [hfs]; exact hu) (by simpa using hst), hfs]
            have hc1 : cx.length = n.length := by rw [← h1.length]; exact h3
            have hc2 : cy.length = n.length := by rw [← h2.length]; exact h4
            refine flat_fields (flat_eq d) (μ := μ) (N' := N) D cx.toArray cy.toArray fs.toList [] n n l r b hN (by simp) (by simp [hc1]) (by simp [hc2]) ?_ ?_ h3 h4 h5
            · simpa [List.take_of_length_le (Nat.le_of_eq hc1)] using h1
            · simpa [List.take_of_length_le (Nat.le_of_eq hc2)] using h2
          · cases h
        · cases h
    · rename_i k e i' hu hi'
      split at h
      · rename_i s hs
        split at h
        · cases h
          unfold FlatV aggT at hx hy
          rw [hu] at hx hy
          simp only [] at hx hy
          subst hx
          subst hy
          obtain ⟨ie, hie, hes⟩ := flat_info hs
          rw [run_equalIn_array w (d + D) _ _ hu hie, List.range_eq_range']
          have hc : P.cellsOf e = s.length := by simp [Program.cellsOf, hie, hes]
          rw [hc]
          have hfl : (List.replicate k s).flatten.length = k * s.length := by simp
          rw [hfl] at h3 h4
          have hc1 : cx.length = k * s.length := by rw [← h1.length]; exact h3
          have hc2 : cy.length = k * s.length := by rw [← h2.length]; exact h4
          refine flat_items (flat_eq d e) hs (μ := μ) (N' := N) D cx.toArray cy.toArray 0 k l r b (by simp [hc1]) (by simp [hc2]) ?_ ?_ h3 h4 h5
          · simpa [List.take_of_length_le (Nat.le_of_eq hc1)] using h1
          · simpa [List.take_of_length_le (Nat.le_of_eq hc2)] using h2
        · cases h
      · cases h
    · cases h
end flat
end Go.Am
