/-
Each operation of the code: calls of what is built in.
-/
import Derived.Test.YtboilkakbgalgaaDoorAmOpAll
namespace Go.Am
open Go Go.RowKit Go.Proofs

variable {X : Ctx} {μ : Nat → Nat × Nat} {m m' : Mem} {w : World} {E : Env} {fr : Fr} {a : Act} {o : Oper}

/-- Held to new memory alone: what is done is done, and the hold ends. -/
theorem Done.unhold (h : R X μ m w) {v : AV} {m1 : Mem} {res : Result Value} (hd : Done X μ { m with lo := m.next } w v m1 res) : Done X μ m w v { m1 with lo := m.lo } res := by
  obtain ⟨u, w', μ', h1, h2, h3, h4⟩ := hd
  exact ⟨u, w', μ', h1, h2, h3.setLo h.lo.1 (Nat.le_trans h.lo.2 h4.next), Step.ofRo h h4⟩
theorem withRo_done {α : Type} {Y : (α → C) → C} (hY : LawA Y) (g : α → AV) (h : R X μ m w) {res : Result Value}
    (hd : ∀ m0 m1 v, R X μ m0 w → m0.next = m.next → Y (fun a => ret (g a)) m0 = some (v, m1) → Done X μ m0 w v m1 res) {ro : Bool} {v : AV} (he : withRo ro Y (fun a => ret (g a)) m = some (v, m')) : Done X μ m w v m' res := by
  cases ro with
  | false => exact hd m m' v h rfl he
  | true =>
    obtain ⟨D, hD⟩ := hY
    have he : Y (fun a m1 => ret (g a) { m1 with lo := m.lo }) { m with lo := m.next } = some (v, m') := he
    rw [hD] at he
    cases hq : D { m with lo := m.next } with
    | none => rw [hq] at he; cases he
    | some p =>
      rw [hq] at he
      obtain ⟨rfl, rfl⟩ := ret_some he
      refine Done.unhold h (hd _ p.2 (g p.1) (h.setLo (Nat.le_trans h.lo.1 h.lo.2) (Nat.le_refl _)) rfl ?_)
      rw [hD, hq]
      rfl
theorem toList_get {α : Type} {ts : Array α} {l : List α} (h : ts.toList = l) (k : Nat) : ts[k]? = l[k]? := by rw [← h, Array.getElem?_toList]
theorem capS_some {s : Option SV} {K : Int → C} {r : AV × Mem} (h : capS s K m = some r) : (s = none ∧ K 0 m = some r) ∨ ∃ q, s = some q ∧ q.ex = true ∧ K q.cap m = some r := by
  cases s with
  | none => exact .inl ⟨rfl, h⟩
  | some q =>
    obtain ⟨h1, h2⟩ := bc_true h
    exact .inr ⟨q, rfl, h1, h2⟩

theorem VR.slice_cap {N : Nat} {q : SV} {u : Value} (hx : VR μ N w (.slice (some q)) u) (he : q.ex = true) : ∃ a l, u = .slice (some a) l q.cap := by
  cases hx with
  | slice _ c h1 h2 h3 h4 h5 => exact ⟨_, _, by rw [h4 he]⟩
  | emptyslice _ a h1 h2 h3 => exact ⟨_, _, by rw [h3]⟩

/-- What is built in. -/
theorem builtin_done (hE : EnvOk X E) (h : R X μ m w) {ro : Bool} {b : Builtin} {ts : Array TypeId} (ty : TypeId) (cs : Array Bool) {l : List AV} {us : List Value} (hv : VRs μ m.next w l us) {v : AV}
    (he : evBuiltin E ro b ts.toList l ret m = some (v, m')) : ∃ s : Sem Value, builtin b ts ty cs us.toArray = (do pure (Next.value (← s))) ∧ Done X μ m w v m' (s.run X.P w) := by
  have hT := hE.tt
  have h0 := un_app he
  clear he
  obtain ⟨G, hG, he⟩ := h0
  unfold evBuiltin at hG
  split at hG <;> subst hG
  · rename_i t r x hts
    have ht : ts[0]? = some t := by rw [toList_get hts]; rfl
    have h0 := ti_some he
    clear he
    obtain ⟨i, hi, he⟩ := h0
    obtain ⟨d, hd, hkd⟩ := (hT _ _ hi).und
    cases hv with
    | cons _ u _ us h1 h2 =>
      cases h2
      refine ⟨Builtin.len_ ts ty #[u], rfl, ?_⟩
      (have h0 := un_app he; clear he; obtain ⟨G, hG, he⟩ := h0; split at hG <;> subst hG)
      · rename_i s hk
        rw [hk] at hkd
        cases hkd
        obtain ⟨rfl, rfl⟩ := ret_some he
        cases h1
        refine .same h (.int _ _) ?_
        have hsz : ∀ l : List UInt8, (ByteArray.mk l.toArray).size = l.length := fun l => by simp [ByteArray.size]
        simp only [Builtin.len_, ht, List.getElem?_toArray, List.getElem?_cons_zero, Sem.run_bind, run_und hd, Result.andThen_ok, hsz, goInt, Sem.run_pure]
      · rename_i e s hk
        rw [hk] at hkd
        cases hkd
        obtain ⟨rfl, rfl⟩ := ret_some he
        obtain ⟨base, c, rfl, _, _⟩ := h1.slice_shape
        refine .same h (.int _ _) ?_
        have : ((slen s).toNat : Int) = slen s := by cases s <;> simp [slen]
        simp [Builtin.len_, ht, run_und hd, goInt, this]
      · rename_i n e hk
        rw [hk] at hkd
        cases hkd
        obtain ⟨rfl, rfl⟩ := ret_some he
        exact .same h (.int _ _) (by simp [Builtin.len_, ht, run_und hd, goInt])
      · rename_i e hk
        rw [hk] at hkd
        cases hkd
        have h0 := ti_some he
        clear he
        obtain ⟨ie, hie, he⟩ := h0
        obtain ⟨de, hde, hkde⟩ := (hT _ _ hie).und
        (have h0 := un_app he; clear he; obtain ⟨G, hG, he⟩ := h0; split at hG <;> subst hG)
        · rename_i n e' hke
          rw [hke] at hkde
          cases hkde
          obtain ⟨rfl, rfl⟩ := ret_some he
          exact .same h (.int _ _) (by simp [Builtin.len_, ht, run_und hd, run_und hde, goInt])
        · cases he
      · cases he
  · rename_i t r s hts
    have ht : ts[0]? = some t := by rw [toList_get hts]; rfl
    have h0 := ti_some he
    clear he
    obtain ⟨i, hi, he⟩ := h0
    obtain ⟨d, hd, hkd⟩ := (hT _ _ hi).und
    cases hv with
    | cons _ u _ us h1 h2 =>
      cases h2
      refine ⟨Builtin.cap_ ts ty #[u], rfl, ?_⟩
      (have h0 := un_app he; clear he; obtain ⟨G, hG, he⟩ := h0; split at hG <;> subst hG)
      · rename_i e hk
        rw [hk] at hkd
        cases hkd
        rcases capS_some he with ⟨rfl, he⟩ | ⟨q, rfl, hex, he⟩
        · obtain ⟨rfl, rfl⟩ := ret_some he
          cases h1
          exact .same h (.int _ _) (by simp [Builtin.cap_, ht, run_und hd, goInt])
        · obtain ⟨rfl, rfl⟩ := ret_some he
          obtain ⟨a, l, rfl⟩ := h1.slice_cap hex
          exact .same h (.int _ _) (by simp [Builtin.cap_, ht, run_und hd, goInt])
      · cases he
  · have h0 := optC_some he
    clear he
    obtain ⟨z, hz, he⟩ := h0
    obtain ⟨rfl, rfl⟩ := ret_some he
    exact ⟨_, rfl, min_done h hv hz ts ty⟩
  · have h0 := optC_some he
    clear he
    obtain ⟨z, hz, he⟩ := h0
    obtain ⟨rfl, rfl⟩ := ret_some he
    exact ⟨_, rfl, max_done h hv hz ts ty⟩
  · rename_i t u' r s x hts
    have ht : ts[0]? = some t := by rw [toList_get hts]; rfl
    have htx : ts[1]? = some u' := by rw [toList_get hts]; rfl
    have h0 := ti_some he
    clear he
    obtain ⟨i, hi, he⟩ := h0
    have h0 := ti_some he
    clear he
    obtain ⟨iu, hiu, he⟩ := h0
    cases hv with
    | cons _ u _ us h1 h2 =>
      cases h2 with
      | cons _ y _ us h2 h3 =>
        cases h3
        refine ⟨Builtin.append_ ts ty #[u, y], rfl, ?_⟩
        (have h0 := un_app he; clear he; obtain ⟨G, hG, he⟩ := h0; split at hG <;> subst hG)
        · rename_i e e' q hk hk'
          have h0 := tv_some he
          clear he
          obtain ⟨ie, hie, htup, he⟩ := h0
          refine withRo_done (law_app _ _ _ _) (fun r => .slice r) h (fun m0 m1 v hR hn he => ?_) he
          exact app_done (hT _ _ hi) hk (hT _ _ hiu) hk' ht htx (hT _ _ hie) htup hR (by rw [hn]; exact h1) (by rw [hn]; exact h2) he
        · rename_i e q hk hk'
          have h0 := tv_some he
          clear he
          obtain ⟨ie, hie, htup, he⟩ := h0
          (have h0 := un_app he; clear he; obtain ⟨G, hG, he⟩ := h0; split at hG <;> subst hG)
          · rename_i hs hb
            refine withRo_done (law_appStr _ _) (fun r => .slice r) h (fun m0 m1 v hR hn he => ?_) he
            exact appStr_done (hT _ _ hi) hk (hT _ _ hiu) hk' ht htx (hT _ _ hie) htup hs hb hR (by rw [hn]; exact h1) (by rw [hn]; exact h2) he
          · cases he
        · cases he
  · rename_i t u' r d x hts
    have ht : ts[0]? = some t := by rw [toList_get hts]; rfl
    have h0 := roOk_some he
    clear he
    obtain ⟨hro, he⟩ := h0
    have h0 := ti_some he
    clear he
    obtain ⟨i, hi, he⟩ := h0
    have h0 := ti_some he
    clear he
    obtain ⟨iu, hiu, he⟩ := h0
    cases hv with
    | cons _ u _ us h1 h2 =>
      cases h2 with
      | cons _ y _ us h2 h3 =>
        cases h3
        refine ⟨Builtin.copy_ ts ty #[u, y], rfl, ?_⟩
        (have h0 := un_app he; clear he; obtain ⟨G, hG, he⟩ := h0; split at hG <;> subst hG)
        · rename_i e e' q hk hk'
          have h0 := ti_some he
          clear he
          obtain ⟨ie, hie, he⟩ := h0
          exact cpy_done (hT _ _ hi) hk ht (hT _ _ hie) h h1 h2 he
        · cases he
  · rename_i t r d hts
    have ht : ts[0]? = some t := by rw [toList_get hts]; rfl
    have h0 := roOk_some he
    clear he
    obtain ⟨hro, he⟩ := h0
    have h0 := ti_some he
    clear he
    obtain ⟨i, hi, he⟩ := h0
    cases hv with
    | cons _ u _ us h1 h2 =>
      cases h2
      refine ⟨Builtin.clear_ ts ty #[u], rfl, ?_⟩
      (have h0 := un_app he; clear he; obtain ⟨G, hG, he⟩ := h0; split at hG <;> subst hG)
      · rename_i e hk
        have h0 := tv_some he
        clear he
        obtain ⟨ie, hie, htup, he⟩ := h0
        exact clr_done (hT _ _ hi) hk ht (hT _ _ hie) htup h h1 he
      · cases he
  · rename_i t r d k hts
    have ht : ts[0]? = some t := by rw [toList_get hts]; rfl
    have h0 := roOk_some he
    clear he
    obtain ⟨hro, he⟩ := h0
    have h0 := ti_some he
    clear he
    obtain ⟨i, hi, he⟩ := h0
    cases hv with
    | cons _ u _ us h1 h2 =>
      cases h2 with
      | cons _ y _ us h2 h3 =>
        cases h3
        obtain rfl := h2.int_eq
        refine ⟨Builtin.delete_ ts ty #[u, .int .i64 k], rfl, ?_⟩
        (have h0 := un_app he; clear he; obtain ⟨G, hG, he⟩ := h0; split at hG <;> subst hG)
        · rename_i kt e hk
          have h0 := ti_some he
          clear he
          obtain ⟨ik, hik, he⟩ := h0
          (have h0 := un_app he; clear he; obtain ⟨G, hG, he⟩ := h0; split at hG <;> subst hG)
          · rename_i hkk
            exact del_done ht (hT _ _ hi) hk (hT _ _ hik) hkk h h1 he
          · cases he
        · cases he
  · cases he

theorem call_ok {f : FuncId} {F : AFn} (hS : Snd X f F) (h : R X μ m w) {us : Array Value} {args : List AV} (hrun : (execOp a.eval o).run X.P w = .ok (.enter f us) w) (hv : VRs μ m.next w args us.toList) {v : AV}
    (hF : F args m = some (v, m')) : OpOk X μ m w o a v m' := fun next Q k => by
  unfold Oper.wp
  rw [hrun, Oper.upon_enter]
  refine Calls.mono (hS.2 μ m m' w args us v hF h hv) fun e w' he => ?_
  obtain ⟨u, μ', rfl, h1, h2, h3⟩ := he
  exact k u μ' w' h1 h2 h3
theorem callRo_ok {f : FuncId} {F : AFn} (hS : Snd X f F) (h : R X μ m w) {us : Array Value} {args : List AV} (hrun : (execOp a.eval o).run X.P w = .ok (.enter f us) w) (hv : VRs μ m.next w args us.toList) {v : AV} {m1 : Mem}
    (hF : F args { m with lo := m.next } = some (v, m1)) : OpOk X μ m w o a v { m1 with lo := m.lo } := fun next Q k => by
  have hR := h.setLo (Nat.le_trans h.lo.1 h.lo.2) (Nat.le_refl _)
  refine call_ok hS hR hrun hv hF next Q fun u μ' w' h1 h2 h3 => ?_
  exact k u μ' w' h1 (h2.setLo h.lo.1 (Nat.le_trans h.lo.2 h3.next)) (Step.ofRo h h3)

theorem call_some {F : AFn} {l : List AV} {K : AV → C} {r : AV × Mem} (h : call F l K m = some r) : ∃ v m1, F l m = some (v, m1) ∧ K v m1 = some r := by
  unfold call at h
  cases hF : F l m with
  | none => rw [hF] at h; cases h
  | some p => rw [hF] at h; exact ⟨p.1, p.2, rfl, h⟩
theorem callRo_some {F : AFn} {l : List AV} {K : AV → C} {r : AV × Mem} (h : callRo F l K m = some r) : ∃ v m1, F l { m with lo := m.next } = some (v, m1) ∧ K v { m1 with lo := m.lo } = some r := by
  unfold callRo at h
  cases hF : F l { m with lo := m.next } with
  | none => rw [hF] at h; cases h
  | some p => rw [hF] at h; exact ⟨p.1, p.2, rfl, h⟩

theorem op_call (hE : EnvOk X E) (h : R X μ m w) {ro : Bool} {c : Call} (hop : o.op = .call c) (hv : ∀ x ∈ o.op.operands.toList, ∀ v, val fr x = some v → VR μ m.next w v (a.eval x)) {v : AV}
    (he : evOp E ro o fr ret m = some (v, m')) : OpOk X μ m w o a v m' := by
  have hvals : ∀ l, vals fr c.args.toList = some l → VRs μ m.next w l (c.args.map a.eval).toList := fun l hl => by
    have := vals_rel (a := a) (fun y hy => hv y (by rw [hop]; simp only [Op.operands, Call.operands]; cases c.callee <;> simp_all)) hl
    simpa using this
  have h0 := un_app he
  clear he
  obtain ⟨G, hG, he⟩ := h0
  unfold evOp at hG
  rw [hop] at hG
  obtain ⟨callee, args, argTypes⟩ := c
  cases callee with
  | builtin b =>
    simp only [] at hG
    subst hG
    (have h0 := un_app he; clear he; obtain ⟨G, hG, he⟩ := h0; split at hG <;> subst hG)
    · rename_i l hl
      obtain ⟨s, h1, h2⟩ := builtin_done hE h o.type (args.map fun | .const _ => true | _ => false) (hvals l hl) he
      exact .value (s := s) (by unfold execOp; simp only [hop, resolve, pure_bind, invoke]; rw [Array.toArray_toList] at h1; exact h1) h2
    · cases he
  | invoke r n => simp only [] at hG; subst hG; cases he
  | value f =>
    cases f with
    | func f =>
      simp only [] at hG
      subst hG
      (have h0 := un_app he; clear he; obtain ⟨G, hG, he⟩ := h0; split at hG <;> subst hG)
      · rename_i l F hl hF
        have hS := hE.fn _ _ hF
        have hrun : (execOp a.eval o).run X.P w = .ok (.enter f (args.map a.eval)) w := by
          have := hS.1 (args.map a.eval) w
          unfold execOp
          simp only [hop, resolve, Act.eval, Deferred.ofValue, pure_bind, invoke, Array.append_empty, Array.empty_append]
          exact this
        cases ro with
        | true =>
          obtain ⟨v1, m1, e1, e2⟩ := callRo_some he
          obtain ⟨rfl, rfl⟩ := ret_some (destr_some e2)
          exact callRo_ok hS h hrun (hvals l hl) e1
        | false =>
          obtain ⟨v1, m1, e1, e2⟩ := call_some he
          obtain ⟨rfl, rfl⟩ := ret_some (destr_some e2)
          exact call_ok hS h hrun (hvals l hl) e1
      · cases he
    | tmp t =>
      simp only [] at hG
      subst hG
      (have h0 := un_app he; clear he; obtain ⟨G, hG, he⟩ := h0; split at hG <;> subst hG)
      · rename_i fv l hf hl
        have hr := hv (.tmp t) (by rw [hop]; simp [Op.operands, Call.operands]) fv hf
        unfold callV at he
        cases fv <;> try cases he
        rename_i g first caps
        simp only [] at he
        cases hF : E.fn g with
        | none => rw [hF] at he; cases he
        | some F =>
          rw [hF] at he
          simp only [] at he
          have hS := hE.fn _ _ hF
          generalize hq : a.eval (.tmp t) = q at hr
          cases hr with
          | fn _ _ _ a1 b1 r1 r2 =>
            have hrun : (execOp a.eval o).run X.P w = .ok (.enter g (a1 ++ args.map a.eval ++ b1)) w := by
              have := hS.1 (a1 ++ args.map a.eval ++ b1) w
              unfold execOp
              simp only [hop, resolve, hq, Deferred.ofValue, pure_bind, invoke]
              exact this
            have hvv : VRs μ m.next w (first ++ l ++ caps) (a1 ++ args.map a.eval ++ b1).toList := by
              simp only [Array.toList_append]
              exact (r1.append (hvals l hl)).append r2
            cases ro with
            | true =>
              obtain ⟨v1, m1, e1, e2⟩ := callRo_some he
              obtain ⟨rfl, rfl⟩ := ret_some (destr_some e2)
              exact callRo_ok hS h hrun hvv e1
            | false =>
              obtain ⟨v1, m1, e1, e2⟩ := call_some he
              obtain ⟨rfl, rfl⟩ := ret_some (destr_some e2)
              exact call_ok hS h hrun hvv e1
      · cases he
    | const c => simp only [] at hG; subst hG; cases he
    | global g => simp only [] at hG; subst hG; cases he

/-- EACH OPERATION. -/
theorem op_sound (hE : EnvOk X E) (h : R X μ m w) {ro : Bool} (hv : ∀ x ∈ o.op.operands.toList, ∀ v, val fr x = some v → VR μ m.next w v (a.eval x)) {v : AV}
    (he : evOp E ro o fr ret m = some (v, m')) : OpOk X μ m w o a v m' := by
  by_cases hc : ∃ c, o.op = .call c
  · obtain ⟨c, hop⟩ := hc
    exact op_call hE h hop hv he
  · exact op_value hE h hv (fun c e => hc ⟨c, e⟩) he
end Go.Am
