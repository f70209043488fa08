/-
Regions: operations in turn, and operations whose order is open.
-/
import Derived.Test.YtboilkakbgalgaaDoorAmOpRo
import Derived.Orders
namespace Go.Am
open Go Go.RowKit Go.Proofs

/-! What stands ahead. -/
theorem edgeMask_spec (acc : List Nat) (j : Nat) : ∀ l : List Edge, (edgeMask acc l).testBit j = true ↔ ∃ e ∈ l, Region.binds .any e = true ∧ (e.on = j ∨ (acc.getD e.on 0).testBit j = true)
  | [] => by simp [edgeMask]
  | e :: r => by
    have ih := edgeMask_spec acc j r
    unfold edgeMask
    cases hb : Region.binds .any e with
    | false => simp only [ih, List.mem_cons, exists_eq_or_imp, hb, Bool.false_eq_true, false_and, false_or]
    | true =>
      simp only [Nat.testBit_or, Bool.or_eq_true, ih, List.mem_cons, exists_eq_or_imp, hb, true_and, Nat.testBit_two_pow, decide_eq_true_eq]
theorem befGo_at : ∀ (l : List Oper) (acc : List Nat), (∃ t, befGo l acc = acc ++ t ∧ t.length = l.length) ∧
    ∀ i o, l[i]? = some o → ∃ acc' t, befGo l acc = acc' ++ t ∧ (befGo l acc)[acc.length + i]? = some (edgeMask acc' o.after.toList)
  | [], acc => ⟨⟨[], by simp [befGo]⟩, by simp⟩
  | o :: l, acc => by
    obtain ⟨⟨t, h1, h1'⟩, h2⟩ := befGo_at l (acc ++ [edgeMask acc o.after.toList])
    refine ⟨⟨edgeMask acc o.after.toList :: t, by simp [befGo, h1], by simp [h1']⟩, fun i o' hi => ?_⟩
    cases i with
    | zero =>
      simp at hi
      subst hi
      exact ⟨acc, edgeMask acc o.after.toList :: t, by simp [befGo, h1], by simp [befGo, h1]⟩
    | succ i =>
      simp at hi
      obtain ⟨acc', t', h3, h4⟩ := h2 i o' hi
      refine ⟨acc', t', by simpa [befGo] using h3, ?_⟩
      simp only [befGo]
      rw [← h4]
      congr 1
      simp
      omega
def Bf (bef : List Nat) (i j : Nat) : Prop := (bef.getD i 0).testBit j = true
theorem bef_of {l : List Oper} {i : Nat} {o : Oper} (hi : l[i]? = some o) {j : Nat} (h : Bf (befGo l []) i j) : ∃ e ∈ o.after, Region.binds .any e = true ∧ (e.on = j ∨ Bf (befGo l []) e.on j) := by
  obtain ⟨-, h2⟩ := befGo_at l []
  obtain ⟨acc', t, h3, h4⟩ := h2 i o hi
  simp only [List.length_nil, Nat.zero_add] at h4
  unfold Bf at h
  rw [List.getD_eq_getElem?_getD, h4] at h
  simp only [Option.getD_some, edgeMask_spec] at h
  obtain ⟨e, he, hb, hj⟩ := h
  refine ⟨e, by simpa using he, hb, hj.imp id fun hj => ?_⟩
  unfold Bf
  rw [h3]
  by_cases hlt : e.on < acc'.length
  · rw [List.getD_eq_getElem?_getD, List.getElem?_append_left hlt, ← List.getD_eq_getElem?_getD]; exact hj
  · rw [List.getD_eq_getElem?_getD, List.getElem?_eq_none (by omega)] at hj
    simp at hj
theorem bef_edge {l : List Oper} {i : Nat} {o : Oper} (hi : l[i]? = some o) {e : Edge} (he : e ∈ o.after) (hb : Region.binds .any e = true) : Bf (befGo l []) i e.on := by
  obtain ⟨-, h2⟩ := befGo_at l []
  obtain ⟨acc', t, h3, h4⟩ := h2 i o hi
  simp only [List.length_nil, Nat.zero_add] at h4
  unfold Bf
  rw [List.getD_eq_getElem?_getD, h4]
  simp only [Option.getD_some, edgeMask_spec]
  exact ⟨e, by simpa using he, hb, .inl rfl⟩

/-! The checks. -/
theorem linOk_spec {bef : List Nat} : ∀ {pi : List Nat} {done full : Nat}, linOk bef pi done full = true →
    (∀ pre i post, pi = pre ++ i :: post → full.testBit i = true ∧ done.testBit i = false ∧ i ∉ pre ∧ ∀ j, Bf bef i j → done.testBit j = true ∨ j ∈ pre) ∧
    (∀ i, full.testBit i = true → done.testBit i = true ∨ i ∈ pi)
  | [], done, full, h => by
    simp only [linOk, beq_iff_eq] at h
    subst h
    exact ⟨by simp, fun i hi => .inl hi⟩
  | x :: r, done, full, h => by
    simp only [linOk, Bool.and_eq_true, Bool.not_eq_true', beq_iff_eq] at h
    obtain ⟨⟨⟨h1, h2⟩, h3⟩, h4⟩ := h
    obtain ⟨k1, k2⟩ := linOk_spec h4
    have hor : ∀ j, (done ||| 2 ^ x).testBit j = true ↔ done.testBit j = true ∨ x = j := fun j => by
      simp [Nat.testBit_or, Nat.testBit_two_pow]
    refine ⟨fun pre i post hp => ?_, fun i hi => ?_⟩
    · cases pre with
      | nil =>
        simp at hp
        obtain ⟨rfl, rfl⟩ := hp
        refine ⟨h2, h1, by simp, fun j hj => .inl ?_⟩
        unfold Bf at hj
        rw [← h3, Nat.testBit_and] at hj
        simp at hj
        exact hj.2
      | cons y pre =>
        simp at hp
        obtain ⟨rfl, hp⟩ := hp
        obtain ⟨q1, q2, q3, q4⟩ := k1 pre i post hp
        have q2' : ¬ (done ||| 2 ^ x).testBit i = true := by rw [q2]; simp
        rw [hor] at q2'
        refine ⟨q1, ?_, ?_, fun j hj => ?_⟩
        · cases hd : done.testBit i with
          | false => rfl
          | true => exact absurd (.inl hd) q2'
        · intro hm
          rcases List.mem_cons.1 hm with rfl | hm
          · exact q2' (.inr rfl)
          · exact q3 hm
        · rcases q4 j hj with q | q
          · rcases (hor j).1 q with q | rfl
            · exact .inl q
            · exact .inr (by simp)
          · exact .inr (by simp [q])
    · rcases k2 i hi with q | q
      · rcases (hor i).1 q with q | rfl
        · exact .inl q
        · exact .inr (by simp)
      · exact .inr (by simp [q])
theorem piOk_spec {g : Rg} : ∀ {pi acs : List Nat}, piOk g pi acs = true → ∀ pre i post, pi = pre ++ i :: post →
    (g.isAC i = true → ∀ e, (e ∈ acs ∨ (e ∈ pre ∧ g.isAC e = true)) → Bf g.bef i e) ∧
    (∀ pre1 h mid, pre = pre1 ++ h :: mid → g.isAC h = true → ∃ e, e ∈ h :: mid ∧ Bf g.bef i e) ∧
    (g.isAC i = false → (∀ x ∈ pre, g.isAC x = false) → ∀ h t, acs = h :: t → Bf g.bef i h)
  | [], acs, h => by simp
  | x :: r, acs, h => by
    intro pre i post hp
    unfold piOk at h
    cases hx : g.isAC x with
    | true =>
      simp only [hx, Bool.and_eq_true, List.all_eq_true] at h
      obtain ⟨h1, h2⟩ := h
      cases pre with
      | nil =>
        simp at hp
        obtain ⟨rfl, rfl⟩ := hp
        refine ⟨fun _ e he => ?_, by simp, fun hf => ?_⟩
        · rcases he with he | ⟨he, _⟩
          · exact h1 e he
          · cases he
        · rw [hx] at hf; cases hf
      | cons y pre =>
        simp at hp
        obtain ⟨rfl, hp⟩ := hp
        obtain ⟨k1, k2, k3⟩ := piOk_spec h2 pre i post hp
        refine ⟨fun hi e he => k1 hi e ?_, fun pre1 hh mid hpre hac => ?_, fun hi hno => ?_⟩
        · rcases he with he | ⟨he, he2⟩
          · exact .inl (by simp [he])
          · rcases List.mem_cons.1 he with rfl | he
            · exact .inl (by simp)
            · exact .inr ⟨he, he2⟩
        · cases pre1 with
          | nil =>
            simp at hpre
            obtain ⟨rfl, rfl⟩ := hpre
            by_cases hi : g.isAC i = true
            · exact ⟨x, by simp, k1 hi x (.inl (by simp))⟩
            · by_cases hno : ∀ y ∈ pre, g.isAC y = false
              · exact ⟨x, by simp, k3 (by simpa using hi) hno x acs rfl⟩
              · have : ∃ y ∈ pre, g.isAC y = true := by
                  apply Classical.byContradiction
                  intro hc
                  exact hno fun y hy => by
                    cases hq : g.isAC y with
                    | false => rfl
                    | true => exact absurd ⟨y, hy, hq⟩ hc
                obtain ⟨y, hy, hy2⟩ := this
                obtain ⟨p1, p2, rfl⟩ := List.append_of_mem hy
                obtain ⟨e, he, hb⟩ := k2 p1 y p2 rfl hy2
                exact ⟨e, by simp at he ⊢; exact .inr (.inr he), hb⟩
          | cons z pre1 =>
            simp at hpre
            obtain ⟨rfl, rfl⟩ := hpre
            exact k2 pre1 hh mid rfl hac
        · have := hno x (by simp)
          rw [hx] at this
          cases this
    | false =>
      simp only [hx, Bool.and_eq_true] at h
      obtain ⟨h1, h2⟩ := h
      cases pre with
      | nil =>
        simp at hp
        obtain ⟨rfl, rfl⟩ := hp
        refine ⟨fun hi => (by rw [hx] at hi; cases hi), by simp, fun _ _ h t ht => ?_⟩
        subst ht
        exact h1
      | cons y pre =>
        simp at hp
        obtain ⟨rfl, hp⟩ := hp
        obtain ⟨k1, k2, k3⟩ := piOk_spec h2 pre i post hp
        refine ⟨fun hi e he => k1 hi e ?_, fun pre1 hh mid hpre hac => ?_, fun hi hno h t ht => k3 hi (fun y hy => hno y (by simp [hy])) h t ht⟩
        · rcases he with he | ⟨he, he2⟩
          · exact .inl he
          · rcases List.mem_cons.1 he with rfl | he
            · rw [hx] at he2; cases he2
            · exact .inr ⟨he, he2⟩
        · cases pre1 with
          | nil =>
            simp at hpre
            obtain ⟨rfl, rfl⟩ := hpre
            rw [hx] at hac; cases hac
          | cons z pre1 =>
            simp at hpre
            obtain ⟨rfl, rfl⟩ := hpre
            exact k2 pre1 hh mid rfl hac
theorem onceB_spec : ∀ {l : List Nat}, onceB l = true → l.Nodup
  | [], _ => .nil
  | i :: r, h => by
    simp only [onceB, Bool.and_eq_true, List.all_eq_true, decide_eq_true_eq] at h
    exact .cons (fun j hj => Ne.symm (h.1 j hj)) (onceB_spec h.2)
theorem writesOps_once : ∀ {l : List Oper}, (writesOps l).Nodup → ∀ {i j : Nat} {oi oj : Oper} {d : Tmp}, l[i]? = some oi → l[j]? = some oj → oi.dst = some d → oj.dst = some d → i = j
  | [], _, i, j, oi, oj, d, h1, _, _, _ => by simp at h1
  | o :: r, hn, i, j, oi, oj, d, h1, h2, h3, h4 => by
    have mem : ∀ {k : Nat} {q : Oper}, r[k]? = some q → q.dst = some d → d ∈ writesOps r := by
      intro k q hk hq
      clear hn h1 h2
      induction r generalizing k with
      | nil => simp at hk
      | cons x r ih =>
        cases k with
        | zero => simp at hk; subst hk; simp [writesOps, hq]
        | succ k =>
          simp at hk
          have := ih hk
          unfold writesOps
          split
          · simp [this]
          · exact this
    have hr : (writesOps r).Nodup := by
      unfold writesOps at hn
      split at hn
      · exact (List.nodup_cons.1 hn).2
      · exact hn
    cases i with
    | zero =>
      simp at h1
      subst h1
      cases j with
      | zero => rfl
      | succ j =>
        simp at h2
        exfalso
        unfold writesOps at hn
        rw [h3] at hn
        exact (List.nodup_cons.1 hn).1 (mem h2 h4)
    | succ i =>
      simp at h1
      cases j with
      | zero =>
        simp at h2
        subst h2
        exfalso
        unfold writesOps at hn
        rw [h4] at hn
        exact (List.nodup_cons.1 hn).1 (mem h1 h3)
      | succ j =>
        simp at h2
        rw [writesOps_once hr h1 h2 h3 h4]
theorem readOk_spec {bef : List Nat} {isAC : Nat → Bool} {i : Nat} {t : Tmp} : ∀ {l : List Oper} {k : Nat}, readOk bef isAC i t k l = true → ∀ j oj, l[j]? = some oj → oj.dst = some t →
    (i = k + j ∧ isAC i = true) ∨ Bf bef i (k + j) ∨ (Bf bef (k + j) i ∧ isAC (k + j) = true)
  | [], k, _, j, oj, h1, _ => by simp at h1
  | o :: r, k, h, j, oj, h1, h2 => by
    simp only [readOk, Bool.and_eq_true] at h
    cases j with
    | zero =>
      simp at h1
      subst h1
      rw [h2] at h
      simpa [or_assoc, Bf] using h.1
    | succ j =>
      simp at h1
      have := readOk_spec h.2 j oj h1 h2
      rwa [show k + 1 + j = k + (j + 1) by omega] at this
theorem readsOk_spec {bef : List Nat} {isAC : Nat → Bool} {l : List Oper} : ∀ {r : List Oper} {k : Nat}, readsOk bef isAC l k r = true → ∀ i oi, r[i]? = some oi →
    (∀ t ∈ tmpsOf oi.op.operands.toList, ∀ j oj, l[j]? = some oj → oj.dst = some t → (k + i = j ∧ isAC j = true) ∨ Bf bef (k + i) j ∨ (Bf bef j (k + i) ∧ isAC j = true)) ∧
    (∀ gd want, oi.guard = some (gd, want) → Bf bef (k + i) gd)
  | [], k, _, i, oi, h1 => by simp at h1
  | o :: r, k, h, i, oi, h1 => by
    simp only [readsOk, Bool.and_eq_true, List.all_eq_true] at h
    obtain ⟨⟨h2, h3⟩, h4⟩ := h
    cases i with
    | zero =>
      simp at h1
      subst h1
      refine ⟨fun t ht j oj hj hd => ?_, fun gd want hg => ?_⟩
      · have := readOk_spec (h2 t ht) j oj hj hd
        simp only [Nat.zero_add] at this
        rcases this with ⟨rfl, q⟩ | q | q
        · exact .inl ⟨rfl, q⟩
        · exact .inr (.inl q)
        · exact .inr (.inr q)
      · rw [hg] at h3; exact h3
    | succ i =>
      simp at h1
      have := readsOk_spec h4 i oi h1
      rwa [show k + 1 + i = k + (i + 1) by omega] at this

/-- What the checks say. -/
structure RgOk (g : Rg) (pi : List Nat) : Prop where
  lin : ∀ pre i post, pi = pre ++ i :: post → i < g.ops.length ∧ i ∉ pre ∧ ∀ j, Bf g.bef i j → j ∈ pre
  all : ∀ i, i < g.ops.length → i ∈ pi
  ahead : ∀ pre h mid i post, pi = pre ++ h :: (mid ++ i :: post) → g.isAC h = true → ∃ e, e ∈ h :: mid ∧ Bf g.bef i e
  once : ∀ {i j : Nat} {oi oj : Oper} {d : Tmp}, g.ops[i]? = some oi → g.ops[j]? = some oj → oi.dst = some d → oj.dst = some d → i = j
  reads : ∀ {i : Nat} {oi : Oper}, g.ops[i]? = some oi → ∀ t ∈ tmpsOf oi.op.operands.toList, ∀ j oj, g.ops[j]? = some oj → oj.dst = some t → (i = j ∧ g.isAC j = true) ∨ Bf g.bef i j ∨ (Bf g.bef j i ∧ g.isAC j = true)
  guard : ∀ {i : Nat} {oi : Oper}, g.ops[i]? = some oi → ∀ gd want, oi.guard = some (gd, want) → Bf g.bef i gd
theorem testBit_full (n i : Nat) : (2 ^ n - 1).testBit i = true ↔ i < n := by
  rw [Nat.testBit_two_pow_sub_one]; simp
theorem rgOk_spec {g : Rg} {pi : List Nat} (h : rgOk g pi = true) : RgOk g pi := by
  simp only [rgOk, Bool.and_eq_true] at h
  obtain ⟨⟨⟨h1, h2⟩, h3⟩, h4⟩ := h
  obtain ⟨l1, l2⟩ := linOk_spec h1
  refine ⟨fun pre i post hp => ?_, fun i hi => ?_, fun pre h mid i post hp hac => ?_, fun a b c d => writesOps_once (onceB_spec h3) a b c d, fun hi => ?_, fun hi => ?_⟩
  · obtain ⟨a, _, b, c⟩ := l1 pre i post hp
    refine ⟨(testBit_full _ _).1 a, b, fun j hj => ?_⟩
    rcases c j hj with q | q
    · simp at q
    · exact q
  · rcases l2 i ((testBit_full _ _).2 hi) with q | q
    · simp at q
    · exact q
  · exact (piOk_spec h2 (pre ++ h :: mid) i post (by rw [hp]; simp)).2.1 pre h mid rfl hac
  · have := (readsOk_spec h4 _ _ hi).1
    simpa using this
  · have := (readsOk_spec h4 _ _ hi).2
    simpa using this
end Go.Am
