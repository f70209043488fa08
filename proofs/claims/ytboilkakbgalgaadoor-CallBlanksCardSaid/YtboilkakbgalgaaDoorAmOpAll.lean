/-
Each operation of the code: what the abstract machine hands on is what the model's operation comes to.
-/
import Derived.Test.YtboilkakbgalgaaDoorAmOps10
import Derived.Shelf.Abstract
namespace Go.Am
open Go Go.RowKit Go.Proofs

variable {X : Ctx} {μ : Nat → Nat × Nat} {m m' : Mem} {w : World} {E : Env} {fr : Fr} {a : Act} {o : Oper}

/-- A function is entered, and where the abstract one answers it returns what is related. -/
def Snd (X : Ctx) (f : FuncId) (F : AFn) : Prop :=
  Enters X.P f ∧ ∀ (μ : Nat → Nat × Nat) (m m' : Mem) (w : World) (args : List AV) (us : Array Value) (v : AV), F args m = some (v, m') → R X μ m w → VRs μ m.next w args us.toList →
    Calls X.P f us w fun e w' => ∃ u μ', e = .returned u ∧ VR μ' m'.next w' v u ∧ R X μ' m' w' ∧ Step μ m w μ' m' w'
structure EnvOk (X : Ctx) (E : Env) : Prop where
  tt : TTok X.P E.tt
  fn : ∀ f F, E.fn f = some F → Snd X f F
/-- An operation that goes on from any answer that is related. -/
def OpOk (X : Ctx) (μ : Nat → Nat × Nat) (m : Mem) (w : World) (o : Oper) (a : Act) (v : AV) (m' : Mem) : Prop :=
  ∀ (next : Act → World → Prop) (Q : Exit → Act → World → Prop), (∀ u μ' w', VR μ' m'.next w' v u → R X μ' m' w' → Step μ m w μ' m' w' → next (a.put o.dst u) w') → o.wp X.P a w next Q

theorem OpOk.value {v : AV} {s : Sem Value} (hx : execOp a.eval o = (do pure (Next.value (← s)))) (hd : Done X μ m w v m' (s.run X.P w)) : OpOk X μ m w o a v m' := fun next Q k => by
  obtain ⟨u, w', μ', h1, h2, h3, h4⟩ := hd
  unfold Oper.wp
  rw [hx]
  simp only [Sem.run_bind, h1, Result.andThen_ok, Sem.run_pure, Oper.upon_value]
  exact k u μ' w' h2 h3 h4
theorem OpOk.unit {s : Sem Unit} (hx : execOp a.eval o = (do s; pure Next.skip)) (hd : ∃ w', s.run X.P w = .ok () w' ∧ R X μ m' w' ∧ Step μ m w μ m' w') : OpOk X μ m w o a (.tup []) m' := fun next Q k => by
  obtain ⟨w', h1, h3, h4⟩ := hd
  unfold Oper.wp
  rw [hx]
  simp only [Sem.run_bind, h1, Result.andThen_ok, Sem.run_pure, Oper.upon_skip]
  exact k _ μ w' (.tup [] #[] .nil) h3 h4
theorem Done.pure {v : AV} {u : Value} (h : R X μ m w) (hv : VR μ m.next w v u) : Done X μ m w v m ((Pure.pure u : Sem Value).run X.P w) := .same h hv (by simp)

theorem VR.bool_eq {N : Nat} {b : Bool} {u : Value} (h : VR μ N w (.bool b) u) : u = .bool b := by cases h; rfl
theorem VR.int_eq {N : Nat} {k : IntKind} {n : Int} {u : Value} (h : VR μ N w (.int k n) u) : u = .int k n := by cases h; rfl
theorem optC_some {v : Option AV} {K : AV → C} {r : AV × Mem} (h : optC v K m = some r) : ∃ x, v = some x ∧ K x m = some r := by
  cases v with
  | none => cases h
  | some x => exact ⟨x, rfl, h⟩
theorem tv_some {t : TypeId} {K : TI → C} {r : AV × Mem} (h : E.tv t K m = some r) : ∃ i, E.tt.get t = some i ∧ i.kd.isTup = false ∧ K i m = some r := by
  obtain ⟨i, h1, h2⟩ := ti_some h
  refine ⟨i, h1, ?_⟩
  cases hk : i.kd.isTup with
  | true => simp only [hk] at h2; cases h2
  | false => simp only [hk] at h2; exact ⟨rfl, h2⟩
theorem vals_rel {N : Nat} : ∀ {l : List Operand} {vs : List AV}, (∀ x ∈ l, ∀ v, val fr x = some v → VR μ N w v (a.eval x)) → vals fr l = some vs → VRs μ N w vs (l.map a.eval)
  | [], vs, _, hv => by cases hv; exact .nil
  | x :: l, vs, h, hv => by
    unfold vals at hv
    split at hv
    · rename_i v l' h1 h2
      cases hv
      exact .cons _ _ _ _ (h x (by simp) v h1) (vals_rel (fun y hy => h y (by simp [hy])) h2)
    · cases hv
theorem valsAt_rel {N : Nat} : ∀ {l : List (Nat × Operand)} {vs : List (Nat × AV)}, (∀ x ∈ l.map (·.2), ∀ v, val fr x = some v → VR μ N w v (a.eval x)) → valsAt fr l = some vs →
    vs.map (·.1) = l.map (·.1) ∧ VRs μ N w (vs.map (·.2)) (l.map fun p => a.eval p.2)
  | [], vs, _, hv => by cases hv; exact ⟨rfl, .nil⟩
  | (i, x) :: l, vs, h, hv => by
    unfold valsAt at hv
    split at hv
    · rename_i v l' h1 h2
      cases hv
      obtain ⟨h3, h4⟩ := valsAt_rel (fun y hy => h y (by simp at hy ⊢; exact .inr hy)) h2
      exact ⟨by simp [h3], .cons _ _ _ _ (h x (by simp) v h1) h4⟩
    · cases hv


theorem roOk_some {ro : Bool} {K : C} {r : AV × Mem} (h : roOk ro K m = some r) : ro = false ∧ K m = some r := by
  cases ro with
  | false => exact ⟨rfl, h⟩
  | true => cases h
theorem optInt_rel {N : Nat} {x : Option Operand} {r : Option Int} (h : ∀ y ∈ x, ∀ v, val fr y = some v → VR μ N w v (a.eval y)) (hv : optInt fr x = some r) : OptR r (x.map a.eval) := by
  cases x with
  | none => cases hv; exact .none
  | some y =>
    simp only [optInt] at hv
    split at hv
    · rename_i k n hk
      cases hv
      have := h y rfl _ hk
      generalize hq : a.eval y = q at this
      cases this
      simp only [Option.map_some, hq]
      exact .some _ _
    · cases hv

/-- One operation. -/
theorem op_value (hE : EnvOk X E) (h : R X μ m w) (hv : ∀ x ∈ o.op.operands.toList, ∀ v, val fr x = some v → VR μ m.next w v (a.eval x)) {v : AV} (hc : ∀ c, o.op ≠ .call c) {ro : Bool} (he : evOp E ro o fr ret m = some (v, m')) :
    OpOk X μ m w o a v m' := by
  have hT := hE.tt
  have h0 := un_app he
  clear he
  obtain ⟨G, hG, he⟩ := h0
  unfold evOp at hG
  split at hG <;> subst hG
  · rename_i x hop
    obtain ⟨z, hz, he⟩ := optC_some he
    obtain ⟨rfl, rfl⟩ := ret_some he
    refine .value (s := Pure.pure (a.eval x)) (by unfold execOp; simp only [hop, pure_bind]) (.pure h (hv x (by rw [hop]; simp [Op.operands]) _ hz))
  · rename_i x hop
    obtain ⟨z, hz, he⟩ := optC_some he
    obtain ⟨rfl, rfl⟩ := ret_some he
    refine .value (s := Pure.pure (a.eval x)) (by unfold execOp; simp only [hop, pure_bind]) (.pure h (hv x (by rw [hop]; simp [Op.operands]) _ hz))
  · rename_i c x y hop
    have m1 : c ∈ o.op.operands.toList := by rw [hop]; simp [Op.operands]
    have m2 : x ∈ o.op.operands.toList := by rw [hop]; simp [Op.operands]
    have m3 : y ∈ o.op.operands.toList := by rw [hop]; simp [Op.operands]
    have hx : execOp a.eval o = (do pure (Next.value (← (do pure (if ← asBool (a.eval c) then a.eval x else a.eval y) : Sem Value)))) := by
      unfold execOp; simp only [hop, bind_assoc, pure_bind]
    (have h0 := un_app he; clear he; obtain ⟨G, hG, he⟩ := h0; split at hG <;> subst hG)
    · rename_i b hb
      have hcb := (hv c m1 _ hb).bool_eq
      have run : ∀ u, (if b = true then a.eval x else a.eval y) = u → ((do pure (if ← asBool (a.eval c) then a.eval x else a.eval y) : Sem Value)).run X.P w = .ok u w := fun u hu => by
        rw [hcb]
        simp only [asBool, pure_bind, Sem.run_pure]
        rw [hu]
      (have h0 := un_app he; clear he; obtain ⟨G, hG, he⟩ := h0; split at hG <;> subst hG)
      · rename_i p q hp hq
        obtain ⟨rfl, rfl⟩ := ret_some he
        refine .value hx (.same h (.bool _) (run _ ?_))
        rw [(hv x m2 _ hp).bool_eq, (hv y m3 _ hq).bool_eq]
        cases b <;> rfl
      · cases b with
        | true =>
          obtain ⟨z, hz, he⟩ := optC_some he
          obtain ⟨rfl, rfl⟩ := ret_some he
          exact .value hx (.same h (hv x m2 _ hz) (run _ rfl))
        | false =>
          obtain ⟨z, hz, he⟩ := optC_some he
          obtain ⟨rfl, rfl⟩ := ret_some he
          exact .value hx (.same h (hv y m3 _ hz) (run _ rfl))
    · cases he
  · rename_i t hop
    obtain ⟨i, hi, hk, he⟩ := tv_some he
    exact .value (by unfold execOp; simp only [hop]) (alloc_done (hT _ _ hi) hk h he)
  · rename_i t x hop
    obtain ⟨i, hi, he⟩ := ti_some he
    obtain ⟨z, hz, he⟩ := optC_some he
    exact .value (by unfold execOp; simp only [hop]) (box_done (t := t) h (hv x (by rw [hop]; simp [Op.operands]) _ hz) he)
  · rename_i t ps hop
    obtain ⟨i, hi, he⟩ := ti_some he
    have hx : execOp a.eval o = (do pure (Next.value (← Instr.build t (ps.map fun p => (p.1, a.eval p.2))))) := by unfold execOp; simp only [hop]
    (have h0 := un_app he; clear he; obtain ⟨G, hG, he⟩ := h0; split at hG <;> subst hG)
    · rename_i l hl
      obtain ⟨k1, k2⟩ := valsAt_rel (a := a) (fun y hy => hv y (by rw [hop]; simpa [Op.operands] using hy)) hl
      (have h0 := un_app he; clear he; obtain ⟨G, hG, he⟩ := h0; split at hG <;> subst hG)
      · rename_i fs hfs
        (have h0 := un_app he; clear he; obtain ⟨G, hG, he⟩ := h0; split at hG <;> subst hG)
        · rename_i hin
          exact .value hx (buildS_done hT (hT _ _ hi) hfs h (by simpa [Function.comp_def] using k1) (by simpa [Function.comp_def] using k2) hin he)
        · cases he
      · rename_i n e hk
        (have h0 := un_app he; clear he; obtain ⟨G, hG, he⟩ := h0; split at hG <;> subst hG)
        · rename_i hin
          obtain ⟨ie, hie, he⟩ := ti_some he
          obtain ⟨hb, he⟩ := bc_true he
          exact .value hx (buildA_done (hT _ _ hi) hk (hT _ _ hie) h (by simpa [Function.comp_def] using k1) (by simpa [Function.comp_def] using k2) hin (by simpa using hb) he)
        · cases he
      · cases he
    · cases he
  · rename_i t n ps hop
    obtain ⟨i, hi, he⟩ := ti_some he
    have hx : execOp a.eval o = (do pure (Next.value (← Instr.buildSlice t n (ps.map fun p => (p.1, a.eval p.2))))) := by unfold execOp; simp only [hop]
    (have h0 := un_app he; clear he; obtain ⟨G, hG, he⟩ := h0; split at hG <;> subst hG)
    · rename_i l hl
      obtain ⟨k1, k2⟩ := valsAt_rel (a := a) (fun y hy => hv y (by rw [hop]; simpa [Op.operands] using hy)) hl
      (have h0 := un_app he; clear he; obtain ⟨G, hG, he⟩ := h0; split at hG <;> subst hG)
      · rename_i e hk
        (have h0 := un_app he; clear he; obtain ⟨G, hG, he⟩ := h0; split at hG <;> subst hG)
        · rename_i hin
          simp only [Bool.and_eq_true, decide_eq_true_eq] at hin
          obtain ⟨ie, hie, htup, he⟩ := tv_some he
          (have h0 := un_app he; clear he; obtain ⟨G, hG, he⟩ := h0; split at hG <;> subst hG)
          · rename_i hs
            exact .value hx (buildSl_done (hT _ _ hi) hk (hT _ _ hie) htup h (by simpa [Function.comp_def] using k1) (by simpa [Function.comp_def] using k2) hin.1 hin.2 (by simpa using hs) he)
          · cases he
        · cases he
      · cases he
    · cases he
  · rename_i t x hop
    obtain ⟨i, hi, he⟩ := ti_some he
    have m1 : x ∈ o.op.operands.toList := by rw [hop]; simp [Op.operands]
    have hx : execOp a.eval o = (do pure (Next.value (← Instr.loadAt t (a.eval x)))) := by unfold execOp; simp only [hop]
    (have h0 := un_app he; clear he; obtain ⟨G, hG, he⟩ := h0; split at hG <;> subst hG)
    · rename_i b q hb
      (have h0 := un_app he; clear he; obtain ⟨G, hG, he⟩ := h0; split at hG <;> subst hG)
      · rename_i hk
        exact .value hx (loadN_done (hT _ _ hi) hk h (hv x m1 _ hb) he)
      · rename_i hk
        exact .value hx (load1_done (hT _ _ hi) hk h (hv x m1 _ hb) he)
    · cases he
  · rename_i t x y hop
    obtain ⟨-, he⟩ := roOk_some he
    obtain ⟨i, hi, he⟩ := ti_some he
    have m1 : x ∈ o.op.operands.toList := by rw [hop]; simp [Op.operands]
    have m2 : y ∈ o.op.operands.toList := by rw [hop]; simp [Op.operands]
    have hx : execOp a.eval o = (do Instr.storeAt t (a.eval x) (a.eval y); pure Next.skip) := by unfold execOp; simp only [hop]
    (have h0 := un_app he; clear he; obtain ⟨G, hG, he⟩ := h0; split at hG <;> subst hG)
    · rename_i b q z hb hz
      (have h0 := un_app he; clear he; obtain ⟨G, hG, he⟩ := h0; split at hG <;> subst hG)
      · rename_i l
        obtain ⟨rfl, hr⟩ := storeN_done (hT _ _ hi) h (hv x m1 _ hb) (hv y m2 _ hz) he
        exact .unit hx hr
      · (have h0 := un_app he; clear he; obtain ⟨G, hG, he⟩ := h0; split at hG <;> subst hG)
        · rename_i hs
          obtain ⟨rfl, hr⟩ := store1_done (hT _ _ hi) hs h (hv x m1 _ hb) (hv y m2 _ hz) he
          exact .unit hx hr
        · cases he
    · cases he
  · rename_i x hop
    have m1 : x ∈ o.op.operands.toList := by rw [hop]; simp [Op.operands]
    (have h0 := un_app he; clear he; obtain ⟨G, hG, he⟩ := h0; split at hG <;> subst hG)
    · rename_i p hp
      have hr := hv x m1 _ hp
      cases p with
      | none => cases he
      | some p =>
        obtain ⟨rfl, rfl⟩ := ret_some he
        generalize hq : a.eval x = u at hr
        refine .value (s := Pure.pure u) ?_ (.pure h hr)
        cases hr
        unfold execOp
        simp only [hop, hq, pure_bind]
    · cases he
  · rename_i op t x y ty hop
    have m1 : x ∈ o.op.operands.toList := by rw [hop]; simp [Op.operands]
    have m2 : y ∈ o.op.operands.toList := by rw [hop]; simp [Op.operands]
    (have h0 := un_app he; clear he; obtain ⟨G, hG, he⟩ := h0; split at hG <;> subst hG)
    · rename_i p q hp hq
      simp only [evBinN_eq] at he
      exact .value (s := do eqGuard op t x y (a.eval x) (a.eval y); binOp op t (a.eval x) (a.eval y)) (by unfold execOp; simp only [hop]) (bin_done hT h (hv x m1 _ hp) (hv y m2 _ hq) (fun hc => by cases y <;> first | exact ⟨_, rfl⟩ | cases hc) he)
    · cases he
  · rename_i op t x hop
    have m1 : x ∈ o.op.operands.toList := by rw [hop]; simp [Op.operands]
    (have h0 := un_app he; clear he; obtain ⟨G, hG, he⟩ := h0; split at hG <;> subst hG)
    · rename_i p hp
      exact .value (by unfold execOp; simp only [hop]) (un_done h (hv x m1 _ hp) he)
    · cases he
  · rename_i t t' x hop
    obtain ⟨i, hi, he⟩ := ti_some he
    obtain ⟨j, hj, he⟩ := ti_some he
    have m1 : x ∈ o.op.operands.toList := by rw [hop]; simp [Op.operands]
    (have h0 := un_app he; clear he; obtain ⟨G, hG, he⟩ := h0; split at hG <;> subst hG)
    · rename_i p hp
      exact .value (by unfold execOp; simp only [hop]) (conv_done hT h (hT _ _ hi) (hT _ _ hj) (hv x m1 _ hp) he)
    · cases he
  · rename_i t x hop
    have m1 : x ∈ o.op.operands.toList := by rw [hop]; simp [Op.operands]
    (have h0 := un_app he; clear he; obtain ⟨G, hG, he⟩ := h0; split at hG <;> subst hG)
    · rename_i p hp
      obtain ⟨i, hi, he⟩ := ti_some he
      obtain ⟨d, hd, hkd⟩ := (hT _ _ hi).und
      (have h0 := un_app he; clear he; obtain ⟨G, hG, he⟩ := h0; split at hG <;> subst hG)
      · cases he
      · rename_i hne
        obtain ⟨rfl, rfl⟩ := ret_some he
        refine .value (s := Instr.makeInterface t (a.eval x)) (by unfold execOp; simp only [hop]) (.same h (.iface t _ _ (hv x m1 _ hp)) ?_)
        have hni : ∀ ms, d ≠ .interface ms := fun ms e => by
          subst e
          generalize i.kd = kk at hkd hne
          cases hkd
          exact hne rfl
        unfold Instr.makeInterface
        simp only [Sem.run_bind, run_und hd, Result.andThen_ok]
        simp
    · cases he
  · rename_i f first caps hop
    (have h0 := un_app he; clear he; obtain ⟨G, hG, he⟩ := h0; split at hG <;> subst hG)
    · rename_i p q hp hq
      obtain ⟨rfl, rfl⟩ := ret_some he
      refine .value (s := Instr.makeFunc (.func f) (first.map a.eval) (caps.map a.eval)) (by unfold execOp; simp only [hop]) (.same h (.fn f _ _ (first.map a.eval) (caps.map a.eval) ?_ ?_) (by simp [Instr.makeFunc]))
      · have := vals_rel (a := a) (fun y hy => hv y (by rw [hop]; simp [Op.operands]; exact .inl (by simpa using hy))) hp
        simpa using this
      · have := vals_rel (a := a) (fun y hy => hv y (by rw [hop]; simp [Op.operands]; exact .inr (by simpa using hy))) hq
        simpa using this
    · cases he
  · rename_i t hop
    obtain ⟨i, hi, he⟩ := ti_some he
    (have h0 := un_app he; clear he; obtain ⟨G, hG, he⟩ := h0; split at hG <;> subst hG)
    · obtain ⟨ik, hik, he⟩ := ti_some he
      (have h0 := un_app he; clear he; obtain ⟨G, hG, he⟩ := h0; split at hG <;> subst hG)
      · exact .value (s := Instr.makeMap t none) (by unfold execOp; simp only [hop, Option.map_none]) (newMap_done h he)
      · cases he
    · cases he
  · rename_i t x y hop
    obtain ⟨i, hi, he⟩ := ti_some he
    have m1 : x ∈ o.op.operands.toList := by rw [hop]; simp [Op.operands]
    have m2 : y ∈ o.op.operands.toList := by rw [hop]; simp [Op.operands]
    (have h0 := un_app he; clear he; obtain ⟨G, hG, he⟩ := h0; split at hG <;> subst hG)
    · rename_i e k1 n k2 c hk hn hc
      obtain ⟨ie, hie, htup, he⟩ := tv_some he
      have hx : execOp a.eval o = (do pure (Next.value (← Instr.makeSlice t (.int k1 n) (.int k2 c)))) := by
        unfold execOp
        simp only [hop, (hv x m1 _ hn).int_eq, (hv y m2 _ hc).int_eq]
      exact .value hx (mk_done (hT _ _ hi) hk (hT _ _ hie) htup h he)
    · cases he
  · rename_i t x lo hi' mx hop
    have m1 : x ∈ o.op.operands.toList := by rw [hop]; simp [Op.operands]
    have hx : execOp a.eval o = (do pure (Next.value (← Instr.sliceAt t (a.eval x) (lo.map a.eval) (hi'.map a.eval) (mx.map a.eval)))) := by unfold execOp; simp only [hop]
    (have h0 := un_app he; clear he; obtain ⟨G, hG, he⟩ := h0; split at hG <;> subst hG)
    · rename_i l hh q hl hh' hq
      have r1 := optInt_rel (a := a) (fun y hy => hv y (by rw [hop]; simp [Op.operands]; simp at hy; simp [hy])) hl
      have r2 := optInt_rel (a := a) (fun y hy => hv y (by rw [hop]; simp [Op.operands]; simp at hy; simp [hy])) hh'
      have r3 := optInt_rel (a := a) (fun y hy => hv y (by rw [hop]; simp [Op.operands]; simp at hy; simp [hy])) hq
      obtain ⟨i, hi, he⟩ := ti_some he
      (have h0 := un_app he; clear he; obtain ⟨G, hG, he⟩ := h0; split at hG <;> subst hG)
      · rename_i s hk hs
        (have h0 := un_app he; clear he; obtain ⟨G, hG, he⟩ := h0; split at hG <;> subst hG)
        · have hmx : mx = none := by
            cases mx with
            | none => rfl
            | some y =>
              simp only [optInt] at hq
              split at hq <;> cases hq
          subst hmx
          exact .value hx (cutStr_done (hT _ _ hi) hk h (hv x m1 _ hs) r1 r2 he)
        · cases he
      · rename_i e s hk hs
        obtain ⟨ie, hie, he⟩ := ti_some he
        exact .value hx (cut_done (hT _ _ hi) hk (hT _ _ hie) h (hv x m1 _ hs) r1 r2 r3 he)
      · rename_i n e b q hk hs
        obtain ⟨ie, hie, he⟩ := ti_some he
        exact .value hx (cutArr_done (hT _ _ hi) hk (hT _ _ hie) h (hv x m1 _ hs) r1 r2 r3 he)
      · cases he
    · cases he
  · rename_i t x f hop
    obtain ⟨i, hi, he⟩ := ti_some he
    have m1 : x ∈ o.op.operands.toList := by rw [hop]; simp [Op.operands]
    have hx : execOp a.eval o = (do pure (Next.value (← Instr.fieldAt t (a.eval x) f))) := by unfold execOp; simp only [hop]
    (have h0 := un_app he; clear he; obtain ⟨G, hG, he⟩ := h0; split at hG <;> subst hG)
    · rename_i fs b q hk hp
      (have h0 := un_app he; clear he; obtain ⟨G, hG, he⟩ := h0; split at hG <;> subst hG)
      · rename_i off ft hf
        obtain ⟨ift, hift, he⟩ := ti_some he
        (have h0 := un_app he; clear he; obtain ⟨G, hG, he⟩ := h0; split at hG <;> subst hG)
        · cases he
        · rename_i n hn
          obtain ⟨rfl, rfl⟩ := ret_some he
          exact .value hx (fieldAddr_done (hT _ _ hi) hk hf (hT _ _ hift) (by omega) h (hv x m1 _ hp))
      · cases he
    · cases he
  · rename_i t x f hop
    obtain ⟨i, hi, he⟩ := ti_some he
    have m1 : x ∈ o.op.operands.toList := by rw [hop]; simp [Op.operands]
    have hx : execOp a.eval o = (do pure (Next.value (← Instr.field t (a.eval x) f))) := by unfold execOp; simp only [hop]
    (have h0 := un_app he; clear he; obtain ⟨G, hG, he⟩ := h0; split at hG <;> subst hG)
    · rename_i fs l hk hp
      (have h0 := un_app he; clear he; obtain ⟨G, hG, he⟩ := h0; split at hG <;> subst hG)
      · rename_i off ft hf
        obtain ⟨ift, hift, he⟩ := ti_some he
        have hd := field_done (m' := m') (hT _ _ hi) hk hf (hT _ _ hift) h (hv x m1 _ hp)
        (have h0 := un_app he; clear he; obtain ⟨G, hG, he⟩ := h0; split at hG <;> subst hG)
        · rename_i hag
          obtain ⟨rfl, rfl⟩ := ret_some he
          exact .value hx (hd.1 hag)
        · rename_i hag
          exact .value hx (hd.2 hag _ he)
      · cases he
    · cases he
  · rename_i t x y hop
    obtain ⟨i, hi, he⟩ := ti_some he
    have m1 : x ∈ o.op.operands.toList := by rw [hop]; simp [Op.operands]
    have m2 : y ∈ o.op.operands.toList := by rw [hop]; simp [Op.operands]
    (have h0 := un_app he; clear he; obtain ⟨G, hG, he⟩ := h0; split at hG <;> subst hG)
    · rename_i e s k n hk hp hq
      have hx : execOp a.eval o = (do pure (Next.value (← Instr.indexAt t (a.eval x) (.int k n)))) := by unfold execOp; simp only [hop, (hv y m2 _ hq).int_eq]
      obtain ⟨ie, hie, he⟩ := ti_some he
      exact .value hx (ixS_done (hT _ _ hi) hk (hT _ _ hie) h (hv x m1 _ hp) he)
    · rename_i len e b q k n hk hp hq
      have hx : execOp a.eval o = (do pure (Next.value (← Instr.indexAt t (a.eval x) (.int k n)))) := by unfold execOp; simp only [hop, (hv y m2 _ hq).int_eq]
      obtain ⟨ie, hie, he⟩ := ti_some he
      exact .value hx (ixA_done (hT _ _ hi) hk (hT _ _ hie) h (hv x m1 _ hp) he)
    · cases he
  · rename_i t x y hop
    obtain ⟨i, hi, he⟩ := ti_some he
    have m1 : x ∈ o.op.operands.toList := by rw [hop]; simp [Op.operands]
    have m2 : y ∈ o.op.operands.toList := by rw [hop]; simp [Op.operands]
    (have h0 := un_app he; clear he; obtain ⟨G, hG, he⟩ := h0; split at hG <;> subst hG)
    · rename_i s k n hk hp hq
      have hx : execOp a.eval o = (do pure (Next.value (← Instr.index t (a.eval x) (.int k n)))) := by unfold execOp; simp only [hop, (hv y m2 _ hq).int_eq]
      exact .value hx (ixStr_done (hT _ _ hi) hk h (hv x m1 _ hp) he)
    · rename_i len e l k n hk hp hq
      have hx : execOp a.eval o = (do pure (Next.value (← Instr.index t (a.eval x) (.int k n)))) := by unfold execOp; simp only [hop, (hv y m2 _ hq).int_eq]
      obtain ⟨ie, hie, he⟩ := ti_some he
      have hd := ixV_done (m' := m') (k := k) (x := n) (hT _ _ hi) hk (hT _ _ hie) h (hv x m1 _ hp)
      (have h0 := un_app he; clear he; obtain ⟨G, hG, he⟩ := h0; split at hG <;> subst hG)
      · rename_i hag
        exact .value hx (hd.1 hag _ he)
      · rename_i hag
        exact .value hx (hd.2 hag _ he)
    · cases he
  · rename_i t x y hop
    obtain ⟨i, hi, he⟩ := ti_some he
    have m1 : x ∈ o.op.operands.toList := by rw [hop]; simp [Op.operands]
    have m2 : y ∈ o.op.operands.toList := by rw [hop]; simp [Op.operands]
    (have h0 := un_app he; clear he; obtain ⟨G, hG, he⟩ := h0; split at hG <;> subst hG)
    · rename_i kt e r n hk hp hq
      obtain ⟨ik, hik, he⟩ := ti_some he
      obtain ⟨ie, hie, htup, he⟩ := tv_some he
      have hx : execOp a.eval o = (do pure (Next.value (← Instr.lookup t (a.eval x) (.int .i64 n) false))) := by unfold execOp; simp only [hop, (hv y m2 _ hq).int_eq]
      obtain ⟨z, z1, z2, z3, z4, z5, z6, z7⟩ := (hT _ _ hie).zero (μ := μ) (m := m) (w := w) htup
      (have h0 := un_app he; clear he; obtain ⟨G, hG, he⟩ := h0; split at hG <;> subst hG)
      · rename_i hkk
        refine .value hx (look_done (hT _ _ hi) hk (hT _ _ hik) hkk (hT _ _ hie) htup h (hv x m1 _ hp) ⟨fun hag => ?_, fun hag => ?_⟩ he)
        · simp only [hag]
        · have h1 : ie.zero.length = 1 := by
            have := z2.length
            rw [z7 hag] at this
            simpa using this
          simp only [hag]
          match hz : ie.zero, h1 with
          | [q], _ => rfl
      · cases he
    · cases he
  · rename_i t x y z hop
    obtain ⟨-, he⟩ := roOk_some he
    obtain ⟨i, hi, he⟩ := ti_some he
    have m1 : x ∈ o.op.operands.toList := by rw [hop]; simp [Op.operands]
    have m2 : y ∈ o.op.operands.toList := by rw [hop]; simp [Op.operands]
    have m3 : z ∈ o.op.operands.toList := by rw [hop]; simp [Op.operands]
    (have h0 := un_app he; clear he; obtain ⟨G, hG, he⟩ := h0; split at hG <;> subst hG)
    · rename_i kt e r n p hk hp hq hz
      obtain ⟨ik, hik, he⟩ := ti_some he
      have hx : execOp a.eval o = (do Instr.mapUpdate t (a.eval x) (.int .i64 n) (a.eval z); pure Next.skip) := by unfold execOp; simp only [hop, (hv y m2 _ hq).int_eq]
      (have h0 := un_app he; clear he; obtain ⟨G, hG, he⟩ := h0; split at hG <;> subst hG)
      · rename_i hkk
        obtain ⟨rfl, hr⟩ := upd_done (hT _ _ hi) hk (hT _ _ hik) hkk h (hv x m1 _ hp) (hv z m3 _ hz) he
        exact .unit hx hr
      · cases he
    · cases he
  · rename_i t j hop
    have m1 : t ∈ o.op.operands.toList := by rw [hop]; simp [Op.operands]
    (have h0 := un_app he; clear he; obtain ⟨G, hG, he⟩ := h0; split at hG <;> subst hG)
    · rename_i l hl
      obtain ⟨z, hz, he⟩ := optC_some he
      obtain ⟨rfl, rfl⟩ := ret_some he
      have hr := hv t m1 _ hl
      generalize hq : a.eval t = u at hr
      cases hr with
      | tup _ arr hs =>
        obtain ⟨y, y1, y2⟩ := hs.get hz
        refine .value (s := Instr.extract (a.eval t) j) (by unfold execOp; simp only [hop]) (.same h y2 ?_)
        rw [hq]
        rw [Array.getElem?_toList] at y1
        simp [Instr.extract, y1]
    · cases he
  · rename_i hop; exact absurd hop (hc _)
  · rename_i hop; exact absurd hop (hc _)
  · rename_i hop; exact absurd hop (hc _)
  · cases he
end Go.Am
