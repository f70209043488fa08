/-
Code, rounds, bodies: what the abstract machine answers, the model's function returns.
-/
import Derived.Test.YtboilkakbgalgaaDoorAmOrder2
namespace Go.Am
open Go Go.RowKit Go.Proofs

theorem eraseAll_get : ∀ (l : List Tmp) (fr : Fr) (t : Nat), (eraseAll fr l).get t = if t ∈ l then none else fr.get t
  | [], fr, t => by simp [eraseAll]
  | x :: l, fr, t => by
    unfold eraseAll
    rw [eraseAll_get l, PT.get_erase]
    by_cases h1 : t ∈ l
    · simp [h1]
    · by_cases h2 : t = x <;> simp [h1, h2]
theorem setO_get {fr : Fr} {c : Operand} {b : Bool} (h : val fr c = some (.bool b)) (t : Nat) : (setO fr c b).get t = fr.get t := by
  cases c with
  | tmp x =>
    simp only [setO, PT.get_set]
    by_cases ht : t = x
    · rw [if_pos ht, ht]; exact h.symm
    · rw [if_neg ht]
  | _ => rfl
/-- The slots that go on are what they were. -/
theorem putAll_some {E : Env} {fr1 : Fr} {K : Fr → C} {m : Mem} {r : AV × Mem} : ∀ {slots : List (Nat × TypeId)} {base : Fr} {l : List AV}, putAll E slots base K l m = some r → proj fr1 slots = some l →
    ∃ fr2, K fr2 m = some r ∧ ∀ t, fr2.get t = fr1.get t ∨ fr2.get t = base.get t
  | [], base, l, h, hp => by
    cases hp
    exact ⟨base, h, fun t => .inr rfl⟩
  | (s, ty) :: slots, base, l, h, hp => by
    unfold proj at hp
    split at hp
    · rename_i v l' hv hl
      cases hp
      unfold putAll un at h
      obtain ⟨i, hi, h⟩ := ti_some h
      have h := destr1_some h
      obtain ⟨fr2, h1, h2⟩ := putAll_some h hl
      refine ⟨fr2, h1, fun t => ?_⟩
      rcases h2 t with e | e
      · exact .inl e
      · rw [PT.get_set] at e
        by_cases ht : t = s
        · rw [if_pos ht] at e; exact .inl (by rw [e, ht, hv])
        · rw [if_neg ht] at e; exact .inr e
    · cases hp

def Ex.to : Ex → Exit
  | .normal => .normal
  | .exit i => .exit i
  | .ret => .ret

theorem least_of (J : Nat → Prop) (h : ∃ k, J k) : ∃ k, J k ∧ ∀ j, J j → k ≤ j := by
  obtain ⟨k, hk⟩ := h
  induction k using Nat.strongRecOn with
  | _ k ih =>
    by_cases hc : ∃ j, j < k ∧ J j
    · obtain ⟨j, h1, h2⟩ := hc
      exact ih j h1 h2
    · refine ⟨k, hk, fun j hj => ?_⟩
      rcases Nat.lt_or_ge j k with h | h
      · exact absurd ⟨j, h, hj⟩ hc
      · exact h

section
variable {X : Ctx} {E : Env} {nt : Nat} {r : AV × Mem}

/-- Where a round or a way begins. -/
structure At (X : Ctx) (nt : Nat) (μ0 : Nat → Nat × Nat) (m0 : Mem) (w0 : World) (W : List Tmp) (fr0 fr : Fr) (m : Mem) (μ : Nat → Nat × Nat) (a : Act) (w : World) : Prop where
  hR : R X μ m w
  hf : FrR μ m.next w nt fr a
  step : Step μ0 m0 w0 μ m w
  outer : ∀ t, t ∉ W → fr.get t = fr0.get t

theorem At.sub {μ0 μ : Nat → Nat × Nat} {m0 m : Mem} {w0 w : World} {W W' : List Tmp} {fr0 fr : Fr} {a : Act} (h : At X nt μ0 m0 w0 W fr0 fr m μ a w) (hs : ∀ t, t ∈ W → t ∈ W') : At X nt μ0 m0 w0 W' fr0 fr m μ a w :=
  ⟨h.hR, h.hf, h.step, fun t ht => h.outer t fun hm => ht (hs t hm)⟩
theorem At.trans {μ0 μ1 μ : Nat → Nat × Nat} {m0 m1 m : Mem} {w0 w1 w : World} {W : List Tmp} {fr0 fr1 fr : Fr} {a a1 : Act} (h : At X nt μ0 m0 w0 W fr0 fr1 m1 μ1 a1 w1) (k : At X nt μ1 m1 w1 W fr1 fr m μ a w) : At X nt μ0 m0 w0 W fr0 fr m μ a w :=
  ⟨k.hR, k.hf, h.step.trans k.step, fun t ht => (k.outer t ht).trans (h.outer t ht)⟩
theorem At.know {μ0 μ : Nat → Nat × Nat} {m0 m : Mem} {w0 w : World} {W : List Tmp} {fr0 fr fr' : Fr} {a : Act} (h : At X nt μ0 m0 w0 W fr0 fr m μ a w) (he : ∀ t, fr'.get t = fr.get t) : At X nt μ0 m0 w0 W fr0 fr' m μ a w :=
  ⟨h.hR, h.hf.sub fun t v hv => by rw [← he]; exact hv, h.step, fun t ht => (he t).trans (h.outer t ht)⟩
theorem At.rejoin {μ0 μ : Nat → Nat × Nat} {m0 m : Mem} {w0 w : World} {W : List Tmp} {fr0 fr fr2 : Fr} {a : Act} (h : At X nt μ0 m0 w0 W fr0 fr m μ a w)
    (h2 : ∀ t, fr2.get t = fr.get t ∨ fr2.get t = (eraseAll fr0 W).get t) : At X nt μ0 m0 w0 W fr0 fr2 m μ a w := by
  refine ⟨h.hR, h.hf.sub fun t v hv => ?_, h.step, fun t ht => ?_⟩
  · rcases h2 t with e | e
    · rw [← e]; exact hv
    · rw [e, eraseAll_get] at hv
      by_cases ht : t ∈ W
      · rw [if_pos ht] at hv; cases hv
      · rw [if_neg ht] at hv; rw [h.outer t ht]; exact hv
  · rcases h2 t with e | e
    · rw [e]; exact h.outer t ht
    · rw [e, eraseAll_get, if_neg ht]

/-- CODE. -/
theorem code_ok (hE : EnvOk X E) (hm : X.P.follows .mixedOrders = true) : ∀ (h : Hint) (c : Code) {fr : Fr} {K : Ex → Fr → C} {m : Mem} {μ : Nat → Nat × Nat} {a : Act} {w : World} {Q : Exit → Act → World → Prop}, (∀ t ∈ writes c, t < nt) →
    R X μ m w → FrR μ m.next w nt fr a → evCode E h c fr K m = some r →
    (∀ e fr1 m1 μ1 a1 w1, K e fr1 m1 = some r → At X nt μ m w (writes c) fr fr1 m1 μ1 a1 w1 → Q e.to a1 w1) → c.wp X.P Q a w := by
  intro h
  induction h with
  | z =>
    intro c fr K m μ a w Q hw hR hf he hQ
    have hat : At X nt μ m w (writes c) fr fr m μ a w := ⟨hR, hf, .refl _ _ _, fun _ _ => rfl⟩
    cases c <;> simp only [evCode] at he <;> try cases he
    · exact wp_skip (hQ .normal fr m μ a w he hat)
    · rename_i id ops draw
      refine region_ok (K := fun fr => K .normal fr) hE hm (fun o ho d hd => hw d (mem_writesOps ho hd)) hR hf he fun fr1 m1 μ1 a1 w1 h1 h2 h3 h4 h5 => hQ .normal fr1 m1 μ1 a1 w1 h1 ⟨h2, h3, h4, h5⟩
    all_goals first
      | exact wp_exit (hQ (.exit _) fr m μ a w he hat)
      | exact wp_label (hQ .normal fr m μ a w he hat)
      | exact wp_ret (hQ .ret fr m μ a w he hat)
  | seq ha hb iha ihb =>
    intro c fr K m μ a w Q hw hR hf he hQ
    cases c <;> simp only [evCode] at he <;> try cases he
    rename_i x y
    simp only [writes, List.mem_append] at hw
    refine wp_seq (iha x (fun t ht => hw t (.inl ht)) hR hf he fun e fr1 m1 μ1 a1 w1 h1 h2 => ?_)
    cases e with
    | normal =>
      refine ihb y (fun t ht => hw t (.inr ht)) h2.hR h2.hf h1 fun e fr2 m2 μ2 a2 w2 h3 h4 => hQ e fr2 m2 μ2 a2 w2 h3 ?_
      exact (h2.sub fun t ht => by simp [writes, ht]).trans (h4.sub fun t ht => by simp [writes, ht])
    | exit i => exact hQ _ fr1 m1 μ1 a1 w1 h1 (h2.sub fun t ht => by simp [writes, ht])
    | ret => exact hQ _ fr1 m1 μ1 a1 w1 h1 (h2.sub fun t ht => by simp [writes, ht])
  | cond ha hb iha ihb =>
    intro c fr K m μ a w Q hw hR hf he hQ
    cases c <;> simp only [evCode] at he <;> try cases he
    rename_i c x y
    simp only [writes, List.mem_append] at hw
    have h0 := un_app he
    clear he
    obtain ⟨G, hG, he⟩ := h0
    split at hG <;> subst hG
    · rename_i t hc
      have hcv := (hf.val (fun _ => rfl) c _ hc).bool_eq
      refine wp_cond_split hcv (fun ht => ?_) (fun ht => ?_)
      · subst ht
        refine iha x (fun t ht => hw t (.inl ht)) hR (hf.sub fun t v hv => by rw [← setO_get hc]; exact hv) he fun e fr1 m1 μ1 a1 w1 h1 h2 => hQ e fr1 m1 μ1 a1 w1 h1 ⟨h2.hR, h2.hf, h2.step, fun t ht => ?_⟩
        rw [h2.outer t fun hm => ht (by simp [writes, hm]), setO_get hc]
      · subst ht
        refine ihb y (fun t ht => hw t (.inr ht)) hR (hf.sub fun t v hv => by rw [← setO_get hc]; exact hv) he fun e fr1 m1 μ1 a1 w1 h1 h2 => hQ e fr1 m1 μ1 a1 w1 h1 ⟨h2.hR, h2.hf, h2.step, fun t ht => ?_⟩
        rw [h2.outer t fun hm => ht (by simp [writes, hm]), setO_get hc]
    · cases he
  | condJ slots ha hb iha ihb =>
    intro c fr K m μ a w Q hw hR hf he hQ
    cases c <;> simp only [evCode] at he <;> try cases he
    rename_i c x y
    simp only [writes, List.mem_append] at hw
    have h0 := un_app he
    clear he
    obtain ⟨G, hG, he⟩ := h0
    split at hG <;> subst hG
    · rename_i t hc
      have hcv := (hf.val (fun _ => rfl) c _ hc).bool_eq
      have fin : ∀ (e : Ex) fr1 m1 μ1 a1 w1, (match e with
          | .normal => projK fr1 slots (putAll E slots (eraseAll fr (writes x ++ writes y)) fun fr => K .normal fr)
          | e => K e fr1) m1 = some r → At X nt μ m w (writes x ++ writes y) fr fr1 m1 μ1 a1 w1 → Q e.to a1 w1 := fun e fr1 m1 μ1 a1 w1 h1 h2 => by
        cases e with
        | normal =>
          simp only [projK] at h1
          cases hp : proj fr1 slots with
          | none => rw [hp] at h1; cases h1
          | some l =>
            rw [hp] at h1
            obtain ⟨fr2, k1, k2⟩ := putAll_some h1 hp
            exact hQ .normal fr2 m1 μ1 a1 w1 k1 (h2.rejoin k2)
        | exit i => exact hQ _ fr1 m1 μ1 a1 w1 h1 h2
        | ret => exact hQ _ fr1 m1 μ1 a1 w1 h1 h2
      unfold jn at he
      refine wp_cond_split hcv (fun ht => ?_) (fun ht => ?_)
      · subst ht
        refine iha x (fun t ht => hw t (.inl ht)) hR (hf.sub fun t v hv => by rw [← setO_get hc]; exact hv) he fun e fr1 m1 μ1 a1 w1 h1 h2 => fin e fr1 m1 μ1 a1 w1 h1 ⟨h2.hR, h2.hf, h2.step, fun t ht => ?_⟩
        rw [h2.outer t fun hm => ht (by simp [hm]), setO_get hc]
      · subst ht
        refine ihb y (fun t ht => hw t (.inr ht)) hR (hf.sub fun t v hv => by rw [← setO_get hc]; exact hv) he fun e fr1 m1 μ1 a1 w1 h1 h2 => fin e fr1 m1 μ1 a1 w1 h1 ⟨h2.hR, h2.hf, h2.step, fun t ht => ?_⟩
        rw [h2.outer t fun hm => ht (by simp [hm]), setO_get hc]
    · cases he
  | block h ih =>
    intro c fr K m μ a w Q hw hR hf he hQ
    cases c <;> simp only [evCode] at he <;> try cases he
    rename_i id b
    refine wp_block (ih b hw hR hf he fun e fr1 m1 μ1 a1 w1 h1 h2 => ?_)
    cases e with
    | normal => exact hQ .normal fr1 m1 μ1 a1 w1 h1 h2
    | ret => exact hQ .ret fr1 m1 μ1 a1 w1 h1 h2
    | exit i =>
      simp only [] at h1
      show (if i = id then Q .normal a1 w1 else Q (.exit i) a1 w1)
      by_cases hi : i = id
      · simp only [hi, decide_true] at h1
        rw [if_pos hi]
        exact hQ .normal fr1 m1 μ1 a1 w1 h1 h2
      · simp only [hi, decide_false] at h1
        rw [if_neg hi]
        exact hQ (.exit i) fr1 m1 μ1 a1 w1 h1 h2
  | blockJ slots h ih =>
    intro c fr K m μ a w Q hw hR hf he hQ
    cases c <;> simp only [evCode] at he <;> try cases he
    rename_i id b
    unfold jn at he
    have fin : ∀ fr1 m1 μ1 a1 w1, projK fr1 slots (putAll E slots (eraseAll fr (writes b)) fun fr => K .normal fr) m1 = some r → At X nt μ m w (writes b) fr fr1 m1 μ1 a1 w1 → Q .normal a1 w1 := fun fr1 m1 μ1 a1 w1 h1 h2 => by
      simp only [projK] at h1
      cases hp : proj fr1 slots with
      | none => rw [hp] at h1; cases h1
      | some l =>
        rw [hp] at h1
        obtain ⟨fr2, k1, k2⟩ := putAll_some h1 hp
        exact hQ .normal fr2 m1 μ1 a1 w1 k1 (h2.rejoin k2)
    refine wp_block (ih b hw hR hf he fun e fr1 m1 μ1 a1 w1 h1 h2 => ?_)
    cases e with
    | normal => exact fin fr1 m1 μ1 a1 w1 h1 h2
    | ret => exact hQ .ret fr1 m1 μ1 a1 w1 h1 h2
    | exit i =>
      simp only [] at h1
      show (if i = id then Q .normal a1 w1 else Q (.exit i) a1 w1)
      by_cases hi : i = id
      · simp only [hi, decide_true] at h1
        rw [if_pos hi]
        exact fin fr1 m1 μ1 a1 w1 h1 h2
      · simp only [hi, decide_false] at h1
        rw [if_neg hi]
        exact hQ (.exit i) fr1 m1 μ1 a1 w1 h1 h2
  | join slots h ih =>
    intro c fr K m μ a w Q hw hR hf he hQ
    simp only [evCode, jn] at he
    refine ih c hw hR hf he fun e fr1 m1 μ1 a1 w1 h1 h2 => ?_
    cases e with
    | normal =>
      simp only [projK] at h1
      cases hp : proj fr1 slots with
      | none => rw [hp] at h1; cases h1
      | some l =>
        rw [hp] at h1
        obtain ⟨fr2, k1, k2⟩ := putAll_some h1 hp
        exact hQ .normal fr2 m1 μ1 a1 w1 k1 (h2.rejoin k2)
    | exit i => exact hQ _ fr1 m1 μ1 a1 w1 h1 h2
    | ret => exact hQ _ fr1 m1 μ1 a1 w1 h1 h2
  | loop slots h ih =>
    intro c fr K m μ a w Q hw hR hf he hQ
    cases c <;> simp only [evCode] at he <;> try cases he
    rename_i b
    let B : List AV → (List AV → C) → C := fun vs self => putAll E slots (eraseAll fr (writes b)) (fun fr =>
      evCode E h b fr fun e fr => match e with
        | .normal => projK fr slots self
        | e => K e fr) vs
    let J : Act → World → Nat → Prop := fun a' w' k => ∃ fr' m' μ' vs, lp k vs B m' = some r ∧ proj fr' slots = some vs ∧ At X nt μ m w (writes b) fr fr' m' μ' a' w'
    have hJ0 : ∃ k, J a w k := by
      unfold projK at he
      cases hp : proj fr slots with
      | none => rw [hp] at he; cases he
      | some l =>
        rw [hp] at he
        exact ⟨E.k, fr, m, μ, l, he, hp, hR, hf, .refl _ _ _, fun _ _ => rfl⟩
    classical
    let M : Act → World → Nat := fun a' w' => if hx : ∃ k, J a' w' k then (least_of _ hx).choose else 0
    refine wp_loop (fun a' w' => ∃ k, J a' w' k) M hJ0 fun a' w' hx => ?_
    have hM : J a' w' (M a' w') := by
      show J a' w' (if hx : ∃ k, J a' w' k then (least_of _ hx).choose else 0)
      rw [dif_pos hx]
      exact (least_of _ hx).choose_spec.1
    obtain ⟨fr', m', μ', vs, k1, k2, k3⟩ := hM
    generalize hk : M a' w' = k at k1
    cases k with
    | zero => cases k1
    | succ k =>
      have k1 : B vs (fun vals => lp k vals B) m' = some r := k1
      obtain ⟨fr2, q1, q2⟩ := putAll_some k1 k2
      have hat := k3.rejoin q2
      refine ih b hw hat.hR hat.hf q1 fun e fr1 m1 μ1 a1 w1 h1 h2 => ?_
      have h2' := hat.trans h2
      cases e with
      | normal =>
        simp only [projK] at h1
        cases hp : proj fr1 slots with
        | none => rw [hp] at h1; cases h1
        | some l =>
          rw [hp] at h1
          have hJ : J a1 w1 k := ⟨fr1, m1, μ1, l, h1, hp, h2'⟩
          refine ⟨⟨k, hJ⟩, ?_⟩
          show (if hx : ∃ k, J a1 w1 k then (least_of _ hx).choose else 0) < k + 1
          rw [dif_pos ⟨k, hJ⟩]
          have := (least_of _ (⟨k, hJ⟩ : ∃ k, J a1 w1 k)).choose_spec.2 k hJ
          omega
      | exit i => exact hQ _ fr1 m1 μ1 a1 w1 h1 h2'
      | ret => exact hQ _ fr1 m1 μ1 a1 w1 h1 h2'

theorem setArgs_get : ∀ (l : List AV) (i : Nat) (fr : Fr) (t : Nat) (v : AV), (setArgs i l fr).get t = some v → fr.get t = some v ∨ (i ≤ t ∧ l[t - i]? = some v)
  | [], i, fr, t, v, h => .inl h
  | x :: l, i, fr, t, v, h => by
    unfold setArgs at h
    rcases setArgs_get l (i + 1) _ t v h with h1 | ⟨h1, h2⟩
    · rw [PT.get_set] at h1
      by_cases ht : t = i
      · rw [if_pos ht] at h1; exact .inr ⟨by omega, by rw [ht]; simpa using h1⟩
      · rw [if_neg ht] at h1; exact .inl h1
    · exact .inr ⟨by omega, by rw [show t - i = (t - (i + 1)) + 1 by omega]; simpa using h2⟩
theorem loadVar_cell {t : TypeId} {i : TI} (hi : TIok X.P t i) {μ : Nat → Nat × Nat} {m : Mem} {w : World} (h : R X μ m w) {b o : Nat} {u : Value} (hu : VR μ m.next w (.ptr (some (b, o))) u) :
    (∀ {K : List AV → C}, i.kd.agg = true → ldN i.size b o K m = some r → ∃ l v, K l m = some r ∧ VR μ m.next w (.agg l) v ∧ (do loadVar t (← asAddr u) : Sem Value).run X.P w = .ok v w) ∧
    (∀ {K : AV → C}, i.kd.agg = false → ld b o K m = some r → ∃ x v, K x m = some r ∧ VR μ m.next w x v ∧ (do loadVar t (← asAddr u) : Sem Value).run X.P w = .ok v w) := by
  cases hu
  refine ⟨fun {K} hk he => ?_, fun {K} hk he => ?_⟩
  · unfold ldN at he
    cases hl : m.cells b with
    | none => rw [hl] at he; cases he
    | some l =>
      rw [hl] at he
      simp only [] at he
      by_cases hn : o + i.size ≤ l.length
      · simp only [hn, decide_true] at he
        obtain ⟨cs, e, fz, h1, h2, h3, h4, h5⟩ := h.cells hl
        have hrun := loadCells_run (P := X.P) (o := (μ b).2 + o) (n := i.size) h1 (by omega)
        refine ⟨_, _, he, .agg _ (((cs.drop ((μ b).2 + o)).take i.size).toArray) (h4.seg hn) ?_, ?_⟩
        · have h3' := List.all_eq_true.1 h3
          exact List.all_eq_true.2 fun x hx => h3' x (List.mem_of_mem_drop (List.mem_of_mem_take hx))
        · simp [asAddr, loadVar, hi.run_agg, hk, hi.run_size, hrun]
      · simp only [hn, decide_false] at he
        cases he
  · unfold ld at he
    cases hl : m.cells b with
    | none => rw [hl] at he; cases he
    | some l =>
      rw [hl] at he
      simp only [] at he
      cases hv : l[o]? with
      | none => rw [hv] at he; cases he
      | some x =>
        rw [hv] at he
        obtain ⟨cs, e, fz, h1, h2, h3, h4, h5⟩ := h.cells hl
        obtain ⟨y, hy1, hy2⟩ := h4.at hv
        have hc : w.cell? ⟨(μ b).1, (μ b).2 + o, none⟩ = some y := by simp [World.cell?, h1, hy1]
        exact ⟨_, _, he, hy2, by simp [asAddr, loadVar, hi.run_agg, hk, hc]⟩
/-- The results. -/
theorem results_ok (hE : EnvOk X E) {μ : Nat → Nat × Nat} {m : Mem} {w : World} {fr : Fr} {a : Act} (hR : R X μ m w) (hf : FrR μ m.next w nt fr a) : ∀ {rs : List ResultVar} {K : List AV → C}, readResults E fr rs K m = some r →
    ∃ vs us, K vs m = some r ∧ VRs μ m.next w vs us ∧ (rs.mapM fun x => match x with
      | .tmp t => pure (a.tmps.getD t undef)
      | .cell b t => do loadVar t (← asAddr (a.tmps.getD b undef)) : Sem (List Value)).run X.P w = .ok us w
  | [], K, h => ⟨[], [], h, .nil, by simp⟩
  | .tmp t :: rs, K, h => by
    unfold readResults at h
    obtain ⟨v, hv, h⟩ := optC_some h
    obtain ⟨vs, us, h1, h2, h3⟩ := results_ok hE hR hf h
    obtain ⟨u, hu, hr⟩ := hf.slot t v hv
    refine ⟨v :: vs, u :: us, h1, .cons _ _ _ _ hr h2, ?_⟩
    have ht : a.tmps.getD t undef = u := by simp [Array.getD_eq_getD_getElem?, hu]
    simp only [List.mapM_cons, pure_bind, ht, Sem.run_bind, h3, Result.andThen_ok, Sem.run_pure]
  | .cell b t :: rs, K, h => by
    unfold readResults at h
    have h0 := un_app h
    clear h
    obtain ⟨G, hG, h⟩ := h0
    split at hG <;> subst hG
    · rename_i i o hb
      obtain ⟨u, hu, hr⟩ := hf.slot b _ hb
      have ht : a.tmps.getD b undef = u := by simp [Array.getD_eq_getD_getElem?, hu]
      obtain ⟨ti, hti, h⟩ := ti_some h
      have h0 := un_app h
      clear h
      obtain ⟨G, hG, h⟩ := h0
      split at hG <;> subst hG
      · rename_i hk
        obtain ⟨l, v, h, hv, hrun⟩ := (loadVar_cell (hE.tt _ _ hti) hR hr).1 hk h
        obtain ⟨vs, us, h1, h2, h3⟩ := results_ok hE hR hf h
        refine ⟨.agg l :: vs, v :: us, h1, .cons _ _ _ _ hv h2, ?_⟩
        simp only [List.mapM_cons, ht]
        rw [Sem.run_bind, hrun]
        simp only [Result.andThen_ok, Sem.run_bind, h3, Sem.run_pure]
      · rename_i hk
        obtain ⟨x, v, h, hv, hrun⟩ := (loadVar_cell (hE.tt _ _ hti) hR hr).2 hk h
        obtain ⟨vs, us, h1, h2, h3⟩ := results_ok hE hR hf h
        refine ⟨x :: vs, v :: us, h1, .cons _ _ _ _ hv h2, ?_⟩
        simp only [List.mapM_cons, ht]
        rw [Sem.run_bind, hrun]
        simp only [Result.andThen_ok, Sem.run_bind, h3, Sem.run_pure]
    · cases h

/-- A FUNCTION. -/
theorem body_ok {f : FuncId} {fn : Func} {h : Hint} (hE : EnvOk X E) (hm : X.P.follows .mixedOrders = true) (hf : X.P.funcs[f]? = some fn) (hn : (fn.name == "runtime.NumGoroutine") = false) {F : AFn}
    (hF : ∀ args m v m', F args m = some (v, m') → evBody E fn h args m = some (v, m')) (hb : fn.body.isSome = true) : Snd X f F := by
  cases hbody : fn.body with
  | none => rw [hbody] at hb; cases hb
  | some c =>
    refine ⟨enters_of hf hn hbody, fun μ m m' w args us v hv hR hargs => ?_⟩
    have he := hF _ _ _ _ hv
    unfold evBody at he
    rw [hbody] at he
    simp only [] at he
    have h0 := un_app he
    clear he
    obtain ⟨G, hG, he⟩ := h0
    split at hG <;> subst hG
    · rename_i hchk
      simp only [Bool.and_eq_true, List.all_eq_true, decide_eq_true_eq] at hchk
      have hlen := hargs.length
      have hlu : us.size ≤ fn.ntmps := by
        have := hchk.2
        rw [hlen] at this
        simpa using this
      have hfr : FrR μ m.next w fn.ntmps (setArgs 0 args .nil) { tmps := us ++ Array.replicate (fn.ntmps - us.size) undef, defers := [] } := by
        refine ⟨by simp; omega, rfl, fun t x hx => ?_⟩
        rcases setArgs_get _ _ _ _ _ hx with e | ⟨_, e⟩
        · simp at e
        · simp only [Nat.sub_zero] at e
          obtain ⟨u, hu, hr⟩ := hargs.get e
          refine ⟨u, ?_, hr⟩
          have hlt : t < us.size := by
            have := (List.getElem?_eq_some_iff.1 hu).1
            simpa using this
          rw [Array.getElem?_append_left hlt]
          rw [← Array.getElem?_toList]
          exact hu
      refine calls_of_wp hf hbody (code_ok hE hm h c hchk.1 hR hfr he fun e fr1 m1 μ1 a1 w1 h1 h2 => ?_)
      have fin : readResults E fr1 fn.results.toList retAll m1 = some (v, m') → a1.defers = [] ∧ ∃ u, (results fn a1.tmps).run X.P w1 = .ok u w1 ∧ ∃ u' μ', Ending.returned u = .returned u' ∧ VR μ' m'.next w1 v u' ∧ R X μ' m' w1 ∧ Step μ m w μ' m' w1 := fun h1 => by
        obtain ⟨vs, us', k1, k2, k3⟩ := results_ok hE h2.hR h2.hf h1
        refine ⟨h2.hf.defers, ?_⟩
        have hrun : (results fn a1.tmps).run X.P w1 = .ok (if h : us'.toArray.size = 1 then us'.toArray[0] else .tuple us'.toArray) w1 := by
          unfold results
          rw [Array.mapM_eq_mapM_toList]
          simp only [bind_map_left]
          rw [Sem.run_bind]
          erw [k3]
          rfl
        rw [hrun]
        refine ⟨_, rfl, ?_⟩
        unfold retAll at k1
        rcases vs with _ | ⟨x, _ | ⟨y, vs⟩⟩
        · cases k2
          obtain ⟨rfl, rfl⟩ := ret_some k1
          exact ⟨_, μ1, rfl, .tup [] #[] .nil, h2.hR, h2.step⟩
        · cases k2 with
          | cons _ u _ us k2 k4 =>
            cases k4
            obtain ⟨rfl, rfl⟩ := ret_some k1
            exact ⟨_, μ1, rfl, k2, h2.hR, h2.step⟩
        · have hl := k2.length
          obtain ⟨rfl, rfl⟩ := ret_some k1
          refine ⟨_, μ1, rfl, ?_, h2.hR, h2.step⟩
          rw [dif_neg (by simp at hl ⊢; omega)]
          exact .tup _ _ (by simpa using k2)
      cases e with
      | normal => exact fin h1
      | ret => exact fin h1
      | exit i => cases h1
    · cases he
end
end Go.Am
