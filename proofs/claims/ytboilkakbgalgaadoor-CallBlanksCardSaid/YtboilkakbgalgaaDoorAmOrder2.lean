/-
Regions whose order is open: each operation, whenever it runs.
-/
import Derived.Test.YtboilkakbgalgaaDoorAmOrder
namespace Go.Am
open Go Go.RowKit Go.Proofs
section
variable {X : Ctx} {E : Env} {ops : Array Oper} {g : Rg} {pi : List Nat} {nt : Nat} {K : Fr → C} {r : AV × Mem} {fr0 : Fr} {μ0 μ μ' : Nat → Nat × Nat} {m0 m m' : Mem} {w0 w w' : World}
  {rest : List Nat} {seen : List (Nat × Nat)} {fr : Fr} {listed : Array Bool} {a : Act} {Q : Exit → Act → World → Prop}

theorem lst_set {i j : Nat} (hi : i < listed.size) : Lst (listed.setIfInBounds i true) j ↔ j = i ∨ Lst listed j := by
  unfold Lst
  by_cases h : i = j
  · subst h; simp [hi]
  · simp [Array.getElem?_setIfInBounds_ne h, Ne.symm h]
theorem put_tmps (a : Act) (d : Option Tmp) (u : Value) (t : Nat) : (a.put d u).tmps[t]? = if d = some t ∧ t < a.tmps.size then some u else a.tmps[t]? := by
  cases d with
  | none => simp [Act.put]
  | some d =>
    simp only [Act.put, Option.some.injEq]
    by_cases h : d = t
    · subst h
      by_cases hl : d < a.tmps.size
      · simp [hl]
      · simp [hl]
    · simp [Array.getElem?_setIfInBounds_ne h, h]
theorem put_size (a : Act) (d : Option Tmp) (u : Value) : (a.put d u).tmps.size = a.tmps.size := by cases d <;> simp [Act.put]
theorem put_defers' (a : Act) (d : Option Tmp) (u : Value) : (a.put d u).defers = a.defers := by cases d <;> rfl

theorem OInv.wanted (hg : RgOk g pi) (hops : g.ops = ops.toList) (h : OInv X E g pi nt K r fr0 μ0 m0 w0 rest seen fr m μ listed a w) {i : Nat} {o : Oper} (ho : g.ops[i]? = some o)
    (hb : ∀ j, Bf g.bef i j → Lst listed j) {b : Bool} (hw : Wants g.ops fr o b) : Region.wanted o (yielded ops a.tmps) = b := by
  unfold Wants at hw
  unfold Region.wanted
  cases hgd : o.guard with
  | none => rw [hgd] at hw; exact hw.symm
  | some p =>
    obtain ⟨gd, want⟩ := p
    rw [hgd] at hw
    obtain ⟨d, hd, hc⟩ := hw
    obtain ⟨og, hog, hdst⟩ : ∃ og, g.ops[gd]? = some og ∧ og.dst = some d := by
      unfold dstOf at hd
      split at hd
      · rename_i og hog; exact ⟨og, hog, hd⟩
      · cases hd
    have hno : ∀ (q : Nat) (oq : Oper), g.ops[q]? = some oq → q ∉ rest → ¬ Lst listed q → oq.dst ≠ some d := fun q oq hq _ hl he => by
      have := hg.once hq hog he hdst
      subst this
      exact hl (hb q (hg.guard ho q want hgd))
    have hy : ∀ u, a.tmps[d]? = some u → yielded ops a.tmps gd = (match u with
        | .bool b => some b
        | _ => none) := fun u hu => by
      have hog' : ops[gd]? = some og := by rw [← Array.getElem?_toList, ← hops]; exact hog
      unfold yielded
      rw [hog']
      simp only [Option.bind_some, hdst, hu]
      cases u <;> rfl
    rcases hc with ⟨c, hc, rfl⟩ | ⟨hc, rfl⟩
    · obtain ⟨u, hu, hv⟩ := h.slot d _ hc hno
      rw [hv.bool_eq] at hu
      simp only [hy _ hu]
      cases c <;> cases want <;> rfl
    · obtain ⟨u, hu, hv⟩ := h.slot d _ hc hno
      cases hv with
      | tup _ _ h1 =>
        simp only [hy _ hu]
        cases want <;> rfl
theorem tmps_mem {t : Tmp} : ∀ {l : List Operand}, Operand.tmp t ∈ l → t ∈ tmpsOf l
  | x :: l, h => by
    rcases List.mem_cons.1 h with rfl | h
    · simp [tmpsOf]
    · have := tmps_mem h
      cases x <;> simp [tmpsOf, this]
theorem OInv.operands (hg : RgOk g pi) (h : OInv X E g pi nt K r fr0 μ0 m0 w0 rest seen fr m μ listed a w) {i : Nat} {o : Oper} (ho : g.ops[i]? = some o)
    (hb : ∀ j, Bf g.bef i j → Lst listed j) {f : Fr} (hf : ∀ t ∈ tmpsOf o.op.operands.toList, f.get t = fr.get t) : ∀ x ∈ o.op.operands.toList, ∀ v, val f x = some v → VR μ m.next w v (a.eval x) := fun x hx v hv => by
  cases x with
  | const c => exact constAV_VR hv
  | global g => cases hv
  | func f => cases hv; exact .fn f [] [] #[] #[] .nil .nil
  | tmp t =>
    have ht := tmps_mem hx
    have hv : fr.get t = some v := by rw [← hf t ht]; exact hv
    obtain ⟨u, hu, hr⟩ := h.slot t v hv fun q oq hq hqr hql hd => by
      have hl := (h.late q oq hq hqr hql).1
      rcases hg.reads ho t ht q oq hq hd with ⟨_, q2⟩ | q1 | ⟨_, q2⟩
      · rw [hl] at q2; cases q2
      · exact hql (hb q q1)
      · rw [hl] at q2; cases q2
    simp only [Act.eval, Array.getD_eq_getD_getElem?, hu, Option.getD_some]
    exact hr

/-- An operation that was read already. -/
theorem OInv.runLate (hE : EnvOk X E) (hg : RgOk g pi) (hops : g.ops = ops.toList) (h : OInv X E g pi nt K r fr0 μ0 m0 w0 rest seen fr m μ listed a w) {i : Nat} {o : Oper} (ho : g.ops[i]? = some o)
    (hb : ∀ j, Bf g.bef i j → Lst listed j) (hir : i ∉ rest) (hil : ¬ Lst listed i) {Kw : Act → World → Prop}
    (hK : ∀ μ' a' w', OInv X E g pi nt K r fr0 μ0 m0 w0 rest seen fr m μ' (listed.setIfInBounds i true) a' w' → Kw a' w') : wpOp X.P ops Q i Kw a w := by
  have hlt : i < listed.size := by rw [h.lsize]; exact (List.getElem?_eq_some_iff.1 ho).1
  obtain ⟨hac, f, V, k1, k2, k3⟩ := h.late i o ho hir hil
  have hi' : ops[i]? = some o := by rw [← Array.getElem?_toList, ← hops]; exact ho
  have next : ∀ u μ' w', VR μ' m.next w' V u → R X μ' m w' → Step μ m w μ' m w' → Kw (a.put o.dst u) w' := fun u μ' w' hu hR hs => by
    refine hK μ' _ _ ⟨hR, by rw [put_size]; exact h.size, by rw [put_defers']; exact h.defers, h.pre, by simp [h.lsize], fun p q hp hq => ?_, fun p hp hl => ?_, fun t v ht hno => ?_, fun q oq hq hqr hql => ?_, h.eval, h.step.trans hs, h.outer⟩
    · rw [lst_set hlt] at hp ⊢
      rcases hp with rfl | hp
      · exact .inr (hb q hq)
      · exact .inr (h.closed p q hp hq)
    · rw [lst_set hlt] at hl
      rcases hl with rfl | hl
      · exact hir hp
      · exact h.notyet p hp hl
    · by_cases hd : o.dst = some t
      · have := (k2 t hd).1
        rw [this] at ht
        cases ht
        exact ⟨u, by rw [put_tmps, if_pos ⟨hd, by rw [h.size]; exact (k2 t hd).2⟩], hu⟩
      · obtain ⟨y, hy, hv⟩ := h.slot t v ht fun q oq hq hqr hql => by
          by_cases hqi : q = i
          · subst hqi; rw [ho] at hq; cases hq; exact hd
          · exact hno q oq hq hqr fun hl => by
              rcases (lst_set hlt).1 hl with e | e
              · exact hqi e
              · exact hql e
        exact ⟨y, by rw [put_tmps, if_neg fun e => hd e.1, hy], hv.mono hs.ext hs.next hs.grow⟩
    · exact h.late q oq hq hqr fun hl => hql ((lst_set hlt).2 (.inr hl))
  unfold wpOp
  simp only [hi']
  rcases k3 with ⟨q1, q2, q3⟩ | ⟨q1, q2⟩
  · rw [h.wanted hg hops ho hb q1]
    simp only [if_true]
    exact .inl (op_sound hE h.hR (h.operands hg ho hb k1) q2 Kw Q next)
  · rw [h.wanted hg hops ho hb q1]
    simp only [Bool.false_eq_true, if_false]
    subst q2
    exact next undef μ w (.tup [] #[] .nil) h.hR (.refl _ _ _)

theorem storeAt (hops : g.ops = ops.toList) {i : Nat} {o : Oper} (ho : g.ops[i]? = some o) (hs : Op.isStore o.op = true) : isStoreAt g.ops i = true := by
  unfold isStoreAt
  rw [ho]
  exact hs
/-- The next one that writes or makes new memory. -/
theorem OInv.runNext (hE : EnvOk X E) (hg : RgOk g pi) (hops : g.ops = ops.toList) (hcls : g.cls = g.ops.map fun o => Op.cl E.tt o.op) (hnt : ∀ o ∈ g.ops, ∀ d, o.dst = some d → d < nt) {i : Nat}
    (h : OInv X E g pi nt K r fr0 μ0 m0 w0 (i :: rest) seen fr m μ listed a w)
    (hb : ∀ j, Bf g.bef i j → Lst listed j) (hac : g.isAC i = true) {Kw : Act → World → Prop}
    (hK : ∀ fr1 m1 μ' a' w', OInv X E g pi nt K r fr0 μ0 m0 w0 rest seen fr1 m1 μ' (listed.setIfInBounds i true) a' w' → Kw a' w') : wpOp X.P ops Q i Kw a w := by
  obtain ⟨o, fr1, seen1, v, m1, ho, hfr, hev, hst⟩ := evOpsD_cons h.eval
  obtain ⟨pre, hp⟩ := h.pre
  have hcl := cl_of hcls ho
  have hlt : i < listed.size := by rw [h.lsize]; exact (List.getElem?_eq_some_iff.1 ho).1
  have hi' : ops[i]? = some o := by rw [← Array.getElem?_toList, ← hops]; exact ho
  have hirest : i ∉ rest := by
    intro hm
    obtain ⟨p1, p2, rfl⟩ := List.append_of_mem hm
    have := (hg.lin (pre ++ i :: p1) i p2 (by rw [hp]; simp)).2.1
    simp at this
  have hlate : ∀ (q : Nat) (oq : Oper), g.ops[q]? = some oq → q ∉ rest → q ≠ i → ¬ Lst listed q → q ∈ pre ∧ ¬ Bf g.bef q i ∧ ¬ Bf g.bef i q ∧ LateOk E g nt seen fr m q oq := fun q oq hq hqr hqi hql => by
    have hqr' : q ∉ i :: rest := by simp [hqi, hqr]
    have hqp : q ∈ pre := hg.in_pre hp hq hqr'
    exact ⟨hqp, (hg.order hp hqp).2, fun hbq => hql (hb q hbq), h.late q oq hq hqr' hql⟩
  -- what was read stays
  let Stay : Prop := ∀ (q : Nat) (oq : Oper), g.ops[q]? = some oq → q ∉ rest → q ≠ i → ¬ Lst listed q → ∀ f V, evOp E false oq f ret m = some (V, m) →
    (g.meets q false = true → (g.cl q).isR = true → ∃ b, addrId f oq.op = some b ∧ (q, b) ∈ seen) → evOp E false oq f ret m1 = some (V, m1)
  have next : ∀ u μ' w', VR μ' m1.next w' v u → R X μ' m1 w' → Step μ m w μ' m1 w' → Stay → seen1 = seen → Kw (a.put o.dst u) w' := fun u μ' w' hu hR hs stay hse => by
    subst hse
    refine hK (putD fr1 o.dst v) m1 μ' _ _ ⟨hR, by rw [put_size]; exact h.size, by rw [put_defers']; exact h.defers, ⟨pre ++ [i], by rw [hp]; simp⟩, by simp [h.lsize], fun p q hpl hq => ?_, fun p hpr hl => ?_, fun t x ht hno => ?_, fun q oq hq hqr hql => ?_, hev, h.step.trans hs, fun t ht => (by rw [putD_get, if_neg fun he => ht (mem_writesOps (List.mem_of_getElem? ho) he), hfr]; exact h.outer t ht)⟩
    · rw [lst_set hlt] at hpl ⊢
      rcases hpl with rfl | hpl
      · exact .inr (hb q hq)
      · exact .inr (h.closed p q hpl hq)
    · rw [lst_set hlt] at hl
      rcases hl with rfl | hl
      · exact hirest hpr
      · exact h.notyet p (by simp [hpr]) hl
    · rw [putD_get] at ht
      by_cases hd : o.dst = some t
      · rw [if_pos hd] at ht
        cases ht
        exact ⟨u, by rw [put_tmps, if_pos ⟨hd, by rw [h.size]; exact hnt o (List.mem_of_getElem? ho) t hd⟩], hu⟩
      · rw [if_neg hd, hfr] at ht
        obtain ⟨y, hy, hv⟩ := h.slot t x ht fun q oq hq hqr hql => by
          have hqi : q ≠ i := fun e => hqr (by simp [e])
          exact hno q oq hq (fun hm => hqr (by simp [hm])) fun hl => by
            rcases (lst_set hlt).1 hl with e | e
            · exact hqi e
            · exact hql e
        exact ⟨y, by rw [put_tmps, if_neg fun e => hd e.1, hy], hv.mono hs.ext hs.next hs.grow⟩
    · have hqi : q ≠ i := fun e => hql ((lst_set hlt).2 (.inl e))
      have hql' : ¬ Lst listed q := fun e => hql ((lst_set hlt).2 (.inr e))
      obtain ⟨hqp, hb1, hb2, k0, f, V, k1, k2, k3⟩ := hlate q oq hq hqr hqi hql'
      have hgd : ∀ gd want d, oq.guard = some (gd, want) → dstOf g.ops gd = some d → (putD fr1 o.dst v).get d = fr.get d := fun gd want d hgq hd => by
        rw [putD_get, if_neg, hfr]
        intro he
        unfold dstOf at hd
        split at hd
        · rename_i og hog
          have hgi := hg.once ho hog he hd
          subst hgi
          exact hb1 (hg.guard hq i want hgq)
        · cases hd
      refine ⟨k0, f, V, fun t ht => ?_, fun d hd => ⟨?_, (k2 d hd).2⟩, ?_⟩
      · rw [putD_get, if_neg, hfr]
        · exact k1 t ht
        · intro hd
          rcases hg.reads hq t ht i o ho hd with ⟨e, _⟩ | e | ⟨e, _⟩
          · exact hqi e
          · exact hb1 e
          · exact hb2 e
      · rw [putD_get, if_neg, hfr]
        · exact (k2 d hd).1
        · intro he
          exact hqi (hg.once hq ho hd he)
      · rcases k3 with ⟨q1, q2, q3⟩ | ⟨q1, q2⟩
        · exact .inl ⟨q1.same hgd, stay q oq hq hqr hqi hql' f V q2 q3, q3⟩
        · exact .inr ⟨q1.same hgd, q2⟩
  unfold wpOp
  simp only [hi']
  rcases hst with ⟨hw, hs⟩ | ⟨hw, hv, hs, hm⟩
  · rw [h.wanted hg hops ho hb hw]
    simp only [if_true]
    have hopnd := h.operands hg ho hb (f := fr1) fun t _ => hfr t
    -- readers and what they read
    have stayOf : seen1 = seen → (∀ w' μ', R X μ' m1 w' → m1.base = m.base) → (∀ (q : Nat) (oq : Oper) f b, g.ops[q]? = some oq → (g.cl q).isR = true → q ∈ pre → ¬ Bf g.bef q i → ¬ Bf g.bef i q → q ≠ i →
        (g.meets q false = true → ∃ b, addrId f oq.op = some b ∧ (q, b) ∈ seen) → m.get b ≠ none → (addrId f oq.op = some b ∨ addrId f oq.op = none) → m1.get b = m.get b) → ∀ w' μ', R X μ' m1 w' → Stay := fun _ hbase hag w' μ' hR' q oq hq hqr hqi hql f V hev' hme => by
      obtain ⟨hqp, hb1, hb2, k0, _⟩ := hlate q oq hq hqr hqi hql
      have hclq := cl_of hcls hq
      refine (evOp_read (by rw [← hclq]; exact isAC_false k0) hev').2 m1 (fun hr => ⟨fun b hb0 hG => ?_, hbase w' μ' hR'⟩) (hbase w' μ' hR')
      rw [← hclq] at hr
      exact hag q oq f b hq hr hqp hb1 hb2 hqi (fun hm => hme hm hr) hb0 hG
    have hbase : ∀ w' μ', R X μ' m1 w' → m1.base = m.base := fun w' μ' hR' => hR'.base.trans h.hR.base.symm
    have hwf : ∀ b, m.get b ≠ none → b < m.next := fun b hb => by
      cases hc : m.get b with
      | none => exact absurd hc hb
      | some c => exact h.hR.wf _ _ hc
    have hapart : ∀ q, ¬ Bf g.bef q i → ¬ Bf g.bef i q → q ≠ i → apart g.bef q i = true := fun q h1 h2 h3 => by
      unfold apart
      unfold Bf at h1 h2
      simp only [Bool.and_eq_true, Bool.not_eq_true', bne_iff_ne, ne_eq]
      exact ⟨⟨by simpa using h1, by simpa using h2⟩, h3⟩
    have hapart' : ∀ q, ¬ Bf g.bef q i → ¬ Bf g.bef i q → q ≠ i → apart g.bef i q = true := fun q h1 h2 h3 => by
      unfold apart
      unfold Bf at h1 h2
      simp only [Bool.and_eq_true, Bool.not_eq_true', bne_iff_ne, ne_eq]
      exact ⟨⟨by simpa using h2, by simpa using h1⟩, Ne.symm h3⟩
    have hql : ∀ q (oq : Oper), g.ops[q]? = some oq → q < g.ops.length := fun q oq hq => (List.getElem?_eq_some_iff.1 hq).1
    refine .inl ?_
    unfold StepV at hs
    rcases isAC_true hac with hc | hc
    · rw [hc] at hs
      obtain ⟨e1, rfl⟩ := hs
      have hk := maker_kept (hcl ▸ hc) e1
      exact op_sound hE h.hR hopnd e1 Kw Q fun u μ' w' h1 h2 h3 => next u μ' w' h1 h2 h3 (stayOf rfl hbase (fun q oq f b _ _ _ _ _ _ _ hb0 _ => hk b (hwf b hb0)) w' μ' h2) rfl
    · rw [hc] at hs
      cases hst : Op.isStore o.op with
      | true =>
        simp only [hst] at hs
        obtain ⟨e1, rfl, e2⟩ := hs
        obtain ⟨b1, hb1, hk⟩ := store_kept hst e1
        refine op_sound hE h.hR hopnd e1 Kw Q fun u μ' w' h1 h2 h3 => next u μ' w' h1 h2 h3 (stayOf rfl hbase (fun q oq f b hq hr hqp n1 n2 n3 hme hb0 hG => hk b fun hbb => ?_) w' μ' h2) rfl
        have m1' : g.meets q false = true := by
          unfold Rg.meets
          rw [List.any_eq_true]
          exact ⟨i, by simp; exact hql i o ho, by simp only [Bool.and_eq_true]; exact ⟨storeAt hops ho hst, hapart' q n1 n2 n3⟩⟩
        have m2' : g.meets i true = true := by
          unfold Rg.meets
          rw [List.any_eq_true]
          exact ⟨q, by simp; exact hql q oq hq, by simp only [Bool.and_eq_true]; exact ⟨hr, hapart q n1 n2 n3⟩⟩
        obtain ⟨b2, a2, a3⟩ := hme m1'
        obtain ⟨b3, c2, c3⟩ := e2 m2'
        rw [hb1] at c2
        cases c2
        have := c3 (q, b2) a3 (hapart q n1 n2 n3)
        rcases hG with hG | hG
        · rw [a2] at hG
          cases hG
          exact this hbb
        · rw [a2] at hG; cases hG
      | false =>
        simp only [hst] at hs
        obtain ⟨e1, rfl⟩ := hs
        cases hro : g.ro i with
        | true =>
          rw [hro] at e1
          exact op_ro hE h.hR (by rw [← hcl, hc]; rfl) hopnd e1 Kw Q fun u μ' w' h1 h2 h3 hk => next u μ' w' h1 h2 h3 (stayOf rfl hbase (fun q oq f b _ _ _ _ _ _ _ hb0 _ => hk b (hwf b hb0)) w' μ' h2) rfl
        | false =>
          rw [hro] at e1
          refine op_sound hE h.hR hopnd e1 Kw Q fun u μ' w' h1 h2 h3 => next u μ' w' h1 h2 h3 (stayOf rfl hbase (fun q oq f b hq hr hqp n1 n2 n3 hme hb0 hG => ?_) w' μ' h2) rfl
          exfalso
          unfold Rg.ro at hro
          rw [List.any_eq_false] at hro
          exact hro q (by simp; exact hql q oq hq) (by simp only [Bool.and_eq_true]; exact ⟨hr, hapart q n1 n2 n3⟩)
  · rw [h.wanted hg hops ho hb hw]
    simp only [Bool.false_eq_true, if_false]
    subst hv
    subst hm
    exact next undef μ w (.tup [] #[] .nil) h.hR (.refl _ _ _) (fun q oq hq hqr hqi hql f V he _ => he) hs

/-- In every order. -/
theorem first_unlisted : ∀ {l : List Nat}, (∃ i ∈ l, ¬ Lst listed i) → ∃ pre i post, l = pre ++ i :: post ∧ (∀ x ∈ pre, Lst listed x) ∧ ¬ Lst listed i
  | x :: l, h => by
    by_cases hx : Lst listed x
    · obtain ⟨i, hi, hn⟩ := h
      rcases List.mem_cons.1 hi with rfl | hi
      · exact absurd hx hn
      · obtain ⟨pre, j, post, rfl, h1, h2⟩ := first_unlisted ⟨i, hi, hn⟩
        exact ⟨x :: pre, j, post, rfl, fun y hy => by
          rcases List.mem_cons.1 hy with rfl | hy
          · exact hx
          · exact h1 y hy, h2⟩
    · exact ⟨[], x, l, rfl, by simp, hx⟩
theorem flt_le {p q : Nat → Bool} (h : ∀ i, q i = true → p i = true) : ∀ l : List Nat, (l.filter q).length ≤ (l.filter p).length
  | [] => by simp
  | x :: l => by
    have ih := flt_le h l
    simp only [List.filter_cons]
    cases hq : q x with
    | true => simp only [h x hq, if_true, List.length_cons]; omega
    | false => cases p x <;> simp <;> omega
theorem flt_lt {p q : Nat → Bool} (h : ∀ i, q i = true → p i = true) : ∀ {l : List Nat} {i : Nat}, i ∈ l → p i = true → q i = false → (l.filter q).length < (l.filter p).length
  | x :: l, i, hi, h1, h2 => by
    have hle := flt_le h l
    simp only [List.filter_cons]
    rcases List.mem_cons.1 hi with rfl | hi
    · simp only [h1, h2, if_true, Bool.false_eq_true, if_false, List.length_cons]; omega
    · have ih := flt_lt h hi h1 h2
      cases hq : q x with
      | true => simp only [h x hq, if_true, List.length_cons]; omega
      | false => cases p x <;> simp <;> omega
def unl (listed : Array Bool) (n : Nat) : Nat := ((List.range n).filter fun i => !listed.getD i false).length
theorem unl_lt {listed' : Array Bool} {n i : Nat} (hm : ∀ i, Lst listed i → Lst listed' i) (hi : i < n) (h1 : ¬ Lst listed i) (h2 : Lst listed' i) : unl listed' n < unl listed n := by
  unfold unl
  refine flt_lt (fun j hj => ?_) (i := i) (by simpa using hi) ?_ ?_
  · cases hl : listed.getD j false with
    | false => rfl
    | true =>
      have : listed'.getD j false = true := hm j hl
      rw [this] at hj
      cases hj
  · cases hl : listed.getD i false with
    | false => rfl
    | true => exact absurd hl h1
  · have : listed'.getD i false = true := h2
    rw [this]; rfl
theorem OInv.any (hE : EnvOk X E) (hg : RgOk g pi) (hops : g.ops = ops.toList) (hbef : g.bef = befGo ops.toList []) (hcls : g.cls = g.ops.map fun o => Op.cl E.tt o.op) (hnt : ∀ o ∈ g.ops, ∀ d, o.dst = some d → d < nt)
    (hQ : ∀ fr1 m1 μ1 a1 w1, K fr1 m1 = some r → R X μ1 m1 w1 → FrR μ1 m1.next w1 nt fr1 a1 → Step μ0 m0 w0 μ1 m1 w1 → (∀ t, t ∉ writesOps g.ops → fr1.get t = fr0.get t) → Q .normal a1 w1) :
    ∀ (fuel : Nat) {rest : List Nat} {seen : List (Nat × Nat)} {fr : Fr} {m : Mem} {μ : Nat → Nat × Nat} {listed : Array Bool} {a : Act} {w : World}, OInv X E g pi nt K r fr0 μ0 m0 w0 rest seen fr m μ listed a w →
      unl listed g.ops.length ≤ fuel → wpAny X.P .any ops Q fuel listed a w := by
  have fin : ∀ {rest : List Nat} {seen : List (Nat × Nat)} {fr : Fr} {m : Mem} {μ : Nat → Nat × Nat} {listed : Array Bool} {a : Act} {w : World}, OInv X E g pi nt K r fr0 μ0 m0 w0 rest seen fr m μ listed a w →
      (∀ i, i < g.ops.length → Lst listed i) → Q .normal a w := fun {rest seen fr m μ listed a w} h hall => by
    obtain ⟨pre, hp⟩ := h.pre
    cases rest with
    | nil =>
      refine hQ fr m μ a w h.eval h.hR ⟨h.size, h.defers, fun t v ht => h.slot t v ht fun q o hq _ hl => ?_⟩ h.step h.outer
      exact absurd (hall q (List.getElem?_eq_some_iff.1 hq).1) hl
    | cons i rest => exact absurd (hall i (hg.lin pre i rest hp).1) (h.notyet i (by simp))
  have rdy : ∀ {rest : List Nat} {seen : List (Nat × Nat)} {fr : Fr} {m : Mem} {μ : Nat → Nat × Nat} {listed : Array Bool} {a : Act} {w : World}, OInv X E g pi nt K r fr0 μ0 m0 w0 rest seen fr m μ listed a w →
      Region.ready .any ops listed = [] → ∀ i, i < g.ops.length → Lst listed i := fun {rest seen fr m μ listed a w} h hr i hi => by
    apply Classical.byContradiction
    intro hl
    obtain ⟨pre, j, post, hp, h1, h2⟩ := first_unlisted (listed := listed) ⟨i, hg.all i hi, hl⟩
    obtain ⟨k1, k2, k3⟩ := hg.lin pre j post hp
    have hoj : ∃ oj, g.ops[j]? = some oj := ⟨g.ops[j], List.getElem?_eq_getElem k1⟩
    obtain ⟨oj, hoj⟩ := hoj
    have : j ∈ Region.ready .any ops listed := by
      rw [mem_ready]
      refine ⟨?_, oj, by rw [← Array.getElem?_toList, ← hops]; exact hoj, fun e he hb => h1 e.on (k3 e.on ?_)⟩
      · unfold Lst at h2
        have hj : j < listed.size := by rw [h.lsize]; exact k1
        simp [hj] at h2 ⊢
        exact h2
      · rw [hbef]
        exact bef_edge (by rw [← hops]; exact hoj) he hb
    rw [hr] at this
    cases this
  intro fuel
  induction fuel with
  | zero =>
    intro rest seen fr m μ listed a w h hu
    have hall : ∀ i, i < g.ops.length → Lst listed i := fun i hi => by
      apply Classical.byContradiction
      intro hl
      have : 0 < unl listed g.ops.length := by
        unfold unl
        apply List.length_pos_of_mem (a := i)
        rw [List.mem_filter]
        exact ⟨by simpa using hi, by unfold Lst at hl; simpa using hl⟩
      omega
    refine ⟨?_, fin h hall⟩
    rw [List.eq_nil_iff_forall_not_mem]
    intro j hj
    obtain ⟨j1, oj, j2, _⟩ := mem_ready.1 hj
    have hjl : j < g.ops.length := by rw [hops, Array.length_toList]; exact (Array.getElem?_eq_some_iff.1 j2).1
    have := hall j hjl
    unfold Lst at this
    have hjs : j < listed.size := by rw [h.lsize]; exact hjl
    simp [hjs] at this j1
    rw [this] at j1
    cases j1
  | succ fuel ih =>
    intro rest seen fr m μ listed a w h hu
    refine ⟨fun hr => fin h (rdy h hr), fun i hi => ?_⟩
    obtain ⟨rest, seen, fr, h, hhd⟩ := h.advanceAll hg hcls hnt
    obtain ⟨i1, o, i2, i3⟩ := mem_ready.1 hi
    have ho : g.ops[i]? = some o := by rw [hops, Array.getElem?_toList]; exact i2
    have hil : i < listed.size := by rw [h.lsize]; exact (List.getElem?_eq_some_iff.1 ho).1
    have hnl : ¬ Lst listed i := by
      unfold Lst
      simp [hil] at i1 ⊢
      exact i1
    have hb : ∀ j, Bf g.bef i j → Lst listed j := fun j hj => by
      rw [hbef] at hj
      obtain ⟨e, he, hbe, hej⟩ := bef_of (by rw [← hops]; exact ho) hj
      have hl : Lst listed e.on := i3 e he hbe
      rcases hej with rfl | hej
      · exact hl
      · exact h.closed e.on j hl (by rw [hbef]; exact hej)
    have hmono : ∀ j, Lst listed j → Lst (listed.setIfInBounds i true) j := fun j hj => (lst_set hil).2 (.inr hj)
    have hlt : unl (listed.setIfInBounds i true) g.ops.length < unl listed g.ops.length := unl_lt hmono (List.getElem?_eq_some_iff.1 ho).1 hnl ((lst_set hil).2 (.inl rfl))
    by_cases hir : i ∈ rest
    · obtain ⟨pre, hp⟩ := h.pre
      cases rest with
      | nil => cases hir
      | cons j rest =>
        have hj := hhd j rest rfl
        have : i = j := by
          apply Classical.byContradiction
          intro hne
          have hir' : i ∈ rest := by
            rcases List.mem_cons.1 hir with e | e
            · exact absurd e hne
            · exact e
          obtain ⟨p1, p2, rfl⟩ := List.append_of_mem hir'
          obtain ⟨e, he, hbe⟩ := hg.ahead pre j p1 i p2 hp hj
          exact h.notyet e (by
            rcases List.mem_cons.1 he with rfl | he
            · simp
            · simp [he]) (hb e hbe)
        subst this
        exact h.runNext hE hg hops hcls hnt hb hj fun fr1 m1 μ' a' w' h' => ih h' (by omega)
    · exact h.runLate hE hg hops ho hb hir hnl fun μ' a' w' h' => ih h' (by omega)

/-- Operations in turn. -/
theorem evOps_cons {l : List Oper} {i : Nat} {fr : Fr} {m : Mem} (h : evOps E l (i :: rest) fr K m = some r) :
    ∃ o fr1 v m1, l[i]? = some o ∧ (∀ t, fr1.get t = fr.get t) ∧ evOps E l rest (putD fr1 o.dst v) K m1 = some r ∧
      ((Wants l fr o true ∧ evOp E false o fr1 ret m = some (v, m1)) ∨ (Wants l fr o false ∧ v = .tup [] ∧ m1 = m)) := by
  unfold evOps at h
  cases ho : l[i]? with
  | none => rw [ho] at h; cases h
  | some o =>
    rw [ho] at h
    simp only [] at h
    cases hg : o.guard with
    | none =>
      rw [hg] at h
      simp only [] at h
      obtain ⟨v, m1, h1, h2⟩ := evOp_ret h
      exact ⟨o, fr, v, m1, rfl, fun _ => rfl, h2, .inl ⟨by unfold Wants; rw [hg], h1⟩⟩
    | some p =>
      obtain ⟨gd, want⟩ := p
      rw [hg] at h
      simp only [] at h
      cases hd : dstOf l gd with
      | none => rw [hd] at h; cases h
      | some d =>
        rw [hd] at h
        simp only [] at h
        have hset : ∀ b : Bool, fr.get d = some (.bool b) → ∀ t, (fr.set (.bool b) d).get t = fr.get t := fun b hb t => by
          rw [PT.get_set]
          by_cases ht : t = d
          · rw [if_pos ht, ht, hb]
          · rw [if_neg ht]
        cases hf : fr.get d with
        | none => rw [hf] at h; cases h
        | some u =>
          rw [hf] at h
          cases u with
          | bool b =>
            simp only [] at h
            have hw : ∀ c, c = (b == want) → Wants l fr o c := fun c hc => by
              unfold Wants
              rw [hg]
              exact ⟨d, hd, .inl ⟨b, hf, hc⟩⟩
            cases b <;> cases want <;> simp only [bc] at h
            · obtain ⟨v, m1, h1, h2⟩ := evOp_ret h
              exact ⟨o, _, v, m1, rfl, hset _ hf, h2, .inl ⟨hw _ rfl, h1⟩⟩
            · exact ⟨o, _, .tup [], m, rfl, hset _ hf, h, .inr ⟨hw _ rfl, rfl, rfl⟩⟩
            · exact ⟨o, _, .tup [], m, rfl, hset _ hf, h, .inr ⟨hw _ rfl, rfl, rfl⟩⟩
            · obtain ⟨v, m1, h1, h2⟩ := evOp_ret h
              exact ⟨o, _, v, m1, rfl, hset _ hf, h2, .inl ⟨hw _ rfl, h1⟩⟩
          | tup q =>
            cases q with
            | nil => exact ⟨o, fr, .tup [], m, rfl, fun _ => rfl, h, .inr ⟨by unfold Wants; rw [hg]; exact ⟨d, hd, .inr ⟨hf, rfl⟩⟩, rfl, rfl⟩⟩
            | cons _ _ => cases h
          | _ => cases h
theorem FrR.wanted (hf : FrR μ m.next w nt fr a) {o : Oper} {b : Bool} (hw : Wants ops.toList fr o b) : Region.wanted o (yielded ops a.tmps) = b := by
  unfold Wants at hw
  unfold Region.wanted
  cases hgd : o.guard with
  | none => rw [hgd] at hw; exact hw.symm
  | some p =>
    obtain ⟨gd, want⟩ := p
    rw [hgd] at hw
    obtain ⟨d, hd, hc⟩ := hw
    have hy : ∀ u, a.tmps[d]? = some u → yielded ops a.tmps gd = (match u with
        | .bool b => some b
        | _ => none) := fun u hu => by
      unfold dstOf at hd
      rw [Array.getElem?_toList] at hd
      unfold yielded
      split at hd
      · rename_i og hog
        rw [hog]
        simp only [Option.bind_some, hd, hu]
        cases u <;> rfl
      · cases hd
    rcases hc with ⟨c, hc, rfl⟩ | ⟨hc, rfl⟩
    · obtain ⟨u, hu, hv⟩ := hf.slot d _ hc
      rw [hv.bool_eq] at hu
      simp only [hy _ hu]
      cases c <;> cases want <;> rfl
    · obtain ⟨u, hu, hv⟩ := hf.slot d _ hc
      cases hv with
      | tup _ _ h1 =>
        simp only [hy _ hu]
        cases want <;> rfl
theorem FrR.val (hf : FrR μ m.next w nt fr a) {f : Fr} (he : ∀ t, f.get t = fr.get t) (x : Operand) (v : AV) (hv : val f x = some v) : VR μ m.next w v (a.eval x) := by
  cases x with
  | const c => exact constAV_VR hv
  | global g => cases hv
  | func f => cases hv; exact .fn f [] [] #[] #[] .nil .nil
  | tmp t =>
    have hv : fr.get t = some v := by rw [← he t]; exact hv
    obtain ⟨u, hu, hr⟩ := hf.slot t v hv
    simp only [Act.eval, Array.getD_eq_getD_getElem?, hu, Option.getD_some]
    exact hr
theorem FrR.put (hf : FrR μ m.next w nt fr a) {f : Fr} (he : ∀ t, f.get t = fr.get t) {d : Option Tmp} (hd : ∀ t, d = some t → t < nt) {v : AV} {u : Value} (hv : VR μ m.next w v u) : FrR μ m.next w nt (putD f d v) (a.put d u) where
  size := by rw [put_size]; exact hf.size
  defers := by rw [put_defers']; exact hf.defers
  slot t x hx := by
    rw [putD_get] at hx
    by_cases ht : d = some t
    · rw [if_pos ht] at hx
      cases hx
      exact ⟨u, by rw [put_tmps, if_pos ⟨ht, by rw [hf.size]; exact hd t ht⟩], hv⟩
    · rw [if_neg ht, he] at hx
      obtain ⟨y, h1, h2⟩ := hf.slot t x hx
      exact ⟨y, by rw [put_tmps, if_neg fun e => ht e.1, h1], h2⟩
theorem ops_ok (hE : EnvOk X E) (hnt : ∀ o ∈ ops.toList, ∀ d, o.dst = some d → d < nt)
    (hQ : ∀ fr1 m1 μ1 a1 w1, K fr1 m1 = some r → R X μ1 m1 w1 → FrR μ1 m1.next w1 nt fr1 a1 → Step μ0 m0 w0 μ1 m1 w1 → (∀ t, t ∉ writesOps ops.toList → fr1.get t = fr0.get t) → Q .normal a1 w1) :
    ∀ (l : List Nat) {fr : Fr} {m : Mem} {μ : Nat → Nat × Nat} {a : Act} {w : World}, R X μ m w → FrR μ m.next w nt fr a → Step μ0 m0 w0 μ m w → (∀ t, t ∉ writesOps ops.toList → fr.get t = fr0.get t) → evOps E ops.toList l fr K m = some r → wpOps X.P ops Q l a w
  | [], fr, m, μ, a, w, hR, hf, hs, hz, he => hQ fr m μ a w he hR hf hs hz
  | i :: l, fr, m, μ, a, w, hR, hf, hs, hz, he => by
    obtain ⟨o, fr1, v, m1, ho, hfr, hnx, hst⟩ := evOps_cons he
    have hi : ops[i]? = some o := by rw [← Array.getElem?_toList]; exact ho
    have hd := hnt o (List.mem_of_getElem? ho)
    have hz' : ∀ v t, t ∉ writesOps ops.toList → (putD fr1 o.dst v).get t = fr0.get t := fun v t ht => by
      rw [putD_get, if_neg fun he => ht (mem_writesOps (List.mem_of_getElem? ho) he), hfr]; exact hz t ht
    unfold wpOps
    simp only [hi]
    rcases hst with ⟨hw, hv⟩ | ⟨hw, rfl, rfl⟩
    · rw [hf.wanted hw]
      simp only [if_true]
      exact .inl (op_sound hE hR (fun x _ v hv => hf.val hfr x v hv) hv _ Q fun u μ' w' h1 h2 h3 => ops_ok hE hnt hQ l h2 ((hf.step h3).put hfr hd h1) (hs.trans h3) (hz' v) hnx)
    · rw [hf.wanted hw]
      simp only [Bool.false_eq_true, if_false]
      exact ops_ok hE hnt hQ l hR (hf.put hfr hd (.tup [] #[] .nil)) hs (hz' _) hnx

/-- A REGION. -/
theorem region_ok {id : Nat} {draw : Bool} (hE : EnvOk X E) (hm : X.P.follows .mixedOrders = true) (hnt : ∀ o ∈ ops.toList, ∀ d, o.dst = some d → d < nt) {fr : Fr} {K : Fr → C} (hR : R X μ m w) (hf : FrR μ m.next w nt fr a)
    (he : evRegion E ops draw fr K m = some r)
    (hQ : ∀ fr1 m1 μ1 a1 w1, K fr1 m1 = some r → R X μ1 m1 w1 → FrR μ1 m1.next w1 nt fr1 a1 → Step μ m w μ1 m1 w1 → (∀ t, t ∉ writesOps ops.toList → fr1.get t = fr.get t) → Q .normal a1 w1) : (Code.region id ops draw).wp X.P Q a w := by
  unfold evRegion at he
  cases draw with
  | true =>
    simp only [] at he
    refine wp_region_any hm ?_
    generalize canonGo _ _ _ _ _ = pi at he
    cases hok : rgOk { ops := ops.toList, bef := befGo ops.toList [], cls := ops.toList.map fun o => Op.cl E.tt o.op } pi with
    | true =>
      rw [hok] at he
      simp only [] at he
      have hg := rgOk_spec hok
      obtain ⟨hR', hs'⟩ := hR.same (w' := { w with drawn := w.drawn + 1 }) rfl rfl rfl rfl
      refine OInv.any hE hg rfl rfl rfl hnt hQ ops.size (rest := pi) (seen := []) (fr := fr) (m := m) (μ := μ) ⟨hR', hf.size, hf.defers, ⟨[], rfl⟩, by simp, fun i j hi => ?_, fun i _ hi => ?_, fun t v ht _ => (hf.step hs').slot t v ht, fun q o hq hqr => absurd (hg.all q (List.getElem?_eq_some_iff.1 hq).1) hqr, he, hs', fun _ _ => rfl⟩ ?_
      · exfalso
        unfold Lst at hi
        simp [Array.getElem?_replicate] at hi
        split at hi <;> simp at hi
      · unfold Lst at hi
        simp [Array.getElem?_replicate] at hi
        split at hi <;> simp at hi
      · unfold unl
        refine Nat.le_trans (List.length_filter_le _ _) ?_
        simp
    | false => rw [hok] at he; cases he
  | false =>
    simp only [] at he
    exact wp_region (ops_ok hE hnt hQ _ hR hf (.refl _ _ _) (fun _ _ => rfl) he)
end
end Go.Am
