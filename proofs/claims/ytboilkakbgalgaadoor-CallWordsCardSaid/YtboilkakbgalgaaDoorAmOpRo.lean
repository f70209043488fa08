/-
Each operation of the code that is held to new memory alone leaves all that was there as it was.
-/
import Derived.Test.YtboilkakbgalgaaDoorAmOpCall
import Derived.Test.YtboilkakbgalgaaDoorAmLawR
namespace Go.Am
open Go Go.RowKit Go.Proofs

variable {X : Ctx} {μ : Nat → Nat × Nat} {m m' : Mem} {w : World} {E : Env} {fr : Fr} {a : Act} {o : Oper}

/-- All that was there is there. -/
def Kept (m m' : Mem) : Prop := ∀ b, b < m.next → m'.get b = m.get b
def OpKeeps (X : Ctx) (μ : Nat → Nat × Nat) (m : Mem) (w : World) (o : Oper) (a : Act) (v : AV) (m' : Mem) (k : Prop) : Prop :=
  ∀ (next : Act → World → Prop) (Q : Exit → Act → World → Prop), (∀ u μ' w', VR μ' m'.next w' v u → R X μ' m' w' → Step μ m w μ' m' w' → k → next (a.put o.dst u) w') → o.wp X.P a w next Q
theorem OpOk.keeps {v : AV} {k : Prop} (h : OpOk X μ m w o a v m') (hk : k) : OpKeeps X μ m w o a v m' k := fun next Q hn => h next Q fun u μ' w' h1 h2 h3 => hn u μ' w' h1 h2 h3 hk

theorem appL_kept {sz bytes n : Nat} {s : Option SV} {cells : List AV} {K : Option SV → C} {r : AV × Mem} (hl : m.lo = m.next) (h : appL sz bytes s n cells K m = some r) :
    ∃ v m1, K v m1 = some r ∧ Kept m m1 ∧ m.next ≤ m1.next := by
  have hadd : ∀ b : Blk, Kept m (m.add b) := fun b i hi => by rw [Mem.get_add, if_neg (by omega)]
  unfold appL at h
  cases n with
  | zero => exact ⟨s, m, h, fun _ _ => rfl, Nat.le_refl _⟩
  | succ n =>
    simp only [] at h
    cases s with
    | none =>
      simp only [] at h
      split at h
      · exact ⟨_, _, h, hadd _, Nat.le_succ _⟩
      · cases h
    | some s =>
      simp only [] at h
      cases hc : m.cells s.id with
      | none => rw [hc] at h; cases h
      | some l =>
        rw [hc] at h
        simp only [] at h
        split at h
        · cases h
        · split at h
          · split at h
            · rename_i hd
              simp only [decide_eq_true_eq] at hd
              exact ⟨_, _, h, fun i hi => by rw [Mem.get_set, if_neg (by omega)], Nat.le_refl _⟩
            · cases h
          · split at h
            · exact ⟨_, _, h, hadd _, Nat.le_succ _⟩
            · split at h
              · rename_i hd
                simp only [decide_eq_true_eq] at hd
                exact ⟨_, _, h, fun i hi => by rw [Mem.get_add, Mem.next_kill, if_neg (by omega), Mem.get_kill, if_neg (by omega)], Nat.le_succ _⟩
              · cases h
theorem app_kept {sz bytes : Nat} {s t : Option SV} {K : Option SV → C} {r : AV × Mem} (hl : m.lo = m.next) (h : app sz bytes s t K m = some r) :
    ∃ v m1, K v m1 = some r ∧ Kept m m1 ∧ m.next ≤ m1.next := by
  unfold app at h
  split at h
  · exact appL_kept hl h
  · cases h
theorem withRo_kept {α : Type} {Y : (α → C) → C} {K : α → C} {r : AV × Mem} (hY : ∀ (K : α → C) (m : Mem), m.lo = m.next → Y K m = some r → ∃ v m1, K v m1 = some r ∧ Kept m m1 ∧ m.next ≤ m1.next)
    (h : withRo true Y K m = some r) : ∃ v m1, K v m1 = some r ∧ Kept m m1 := by
  obtain ⟨v, m1, h1, h2, h3⟩ := hY (fun a m1 => K a { m1 with lo := m.lo }) { m with lo := m.next } rfl h
  exact ⟨v, { m1 with lo := m.lo }, h1, fun b hb => h2 b hb⟩

theorem builtin_kept {b : Builtin} {ts : List TypeId} {l : List AV} {v : AV} (hb : (Op.cl E.tt (.call { callee := .builtin b, args := #[], argTypes := #[] })).isC = true) (he : evBuiltin E true b ts l ret m = some (v, m')) : Kept m m' := by
  have h0 := un_app he
  clear he
  obtain ⟨G, hG, he⟩ := h0
  unfold evBuiltin at hG
  split at hG <;> subst hG
  · simp [Op.cl, Cl.isC] at hb
  · simp [Op.cl, Cl.isC] at hb
  · simp [Op.cl, Cl.isC] at hb
  · simp [Op.cl, Cl.isC] at hb
  · have h0 := ti_some he
    clear he
    obtain ⟨i, hi, he⟩ := h0
    have h0 := ti_some he
    clear he
    obtain ⟨iu, hiu, he⟩ := h0
    (have h0 := un_app he; clear he; obtain ⟨G, hG, he⟩ := h0; split at hG <;> subst hG)
    · have h0 := tv_some he
      clear he
      obtain ⟨ie, hie, htup, he⟩ := h0
      obtain ⟨v1, m1, h1, h2⟩ := withRo_kept (fun K m hl h => app_kept hl h) he
      obtain ⟨rfl, rfl⟩ := ret_some h1
      exact h2
    · have h0 := tv_some he
      clear he
      obtain ⟨ie, hie, htup, he⟩ := h0
      (have h0 := un_app he; clear he; obtain ⟨G, hG, he⟩ := h0; split at hG <;> subst hG)
      · obtain ⟨v1, m1, h1, h2⟩ := withRo_kept (fun K m hl h => appL_kept hl h) he
        obtain ⟨rfl, rfl⟩ := ret_some h1
        exact h2
      · cases he
    · cases he
  · cases he
  · cases he
  · cases he
  · cases he

theorem value_kept (hc : ∀ c, o.op ≠ .call c) (hcl : (Op.cl E.tt o.op).isC = true) {v : AV} (he : evOp E true o fr ret m = some (v, m')) : Kept m m' := by
  have h0 := un_app he
  clear he
  obtain ⟨G, hG, he⟩ := h0
  unfold evOp at hG
  split at hG <;> subst hG
  · rename_i x hop; rw [hop] at hcl; cases hcl
  · obtain ⟨z, hz, he⟩ := optC_some he
    obtain ⟨rfl, rfl⟩ := ret_some he
    exact fun _ _ => rfl
  · rename_i hop; rw [hop] at hcl; cases hcl
  · rename_i hop; rw [hop] at hcl; cases hcl
  · rename_i hop; rw [hop] at hcl; cases hcl
  · rename_i hop; rw [hop] at hcl; cases hcl
  · rename_i hop; rw [hop] at hcl; cases hcl
  · rename_i hop; rw [hop] at hcl; cases hcl
  · cases he
  · rename_i hop; rw [hop] at hcl; cases hcl
  · rename_i op t x y yt hop
    exfalso
    rw [hop] at hcl
    simp only [Op.cl, binCl] at hcl
    split at hcl
    · split at hcl
      · split at hcl <;> cases hcl
      · cases hcl
    · split at hcl
      · split at hcl <;> cases hcl
      · cases hcl
    · cases hcl
  · rename_i hop; rw [hop] at hcl; cases hcl
  · rename_i s d x hop
    rw [hop] at hcl
    have h0 := ti_some he
    clear he
    obtain ⟨i, hi, he⟩ := h0
    have h0 := ti_some he
    clear he
    obtain ⟨j, hj, he⟩ := h0
    (have h0 := un_app he; clear he; obtain ⟨G, hG, he⟩ := h0; split at hG <;> subst hG)
    · have h0 := un_app he
      clear he
      obtain ⟨G, hG, he⟩ := h0
      unfold evConv at hG
      split at hG <;> subst hG
      · rename_i h1 h2 _; simp [Op.cl, convCl, hi, hj, h1, h2, Cl.isC] at hcl
      · rename_i h1 h2 _; simp [Op.cl, convCl, hi, hj, h1, h2, Cl.isC] at hcl
      · rename_i h1 h2 _; simp [Op.cl, convCl, hi, hj, h1, h2, Cl.isC] at hcl
      · cases he
    · cases he
  · rename_i hop; rw [hop] at hcl; cases hcl
  · rename_i hop; rw [hop] at hcl; cases hcl
  · rename_i hop; rw [hop] at hcl; cases hcl
  · rename_i hop; rw [hop] at hcl; cases hcl
  · rename_i hop
    exfalso
    rw [hop] at hcl
    simp only [Op.cl, sliceCl] at hcl
    split at hcl
    · split at hcl <;> cases hcl
    · cases hcl
  · rename_i hop; rw [hop] at hcl; cases hcl
  · rename_i hop; rw [hop] at hcl; cases hcl
  · rename_i hop; rw [hop] at hcl; cases hcl
  · rename_i hop; rw [hop] at hcl; cases hcl
  · rename_i hop; rw [hop] at hcl; cases hcl
  · cases he
  · rename_i hop; rw [hop] at hcl; cases hcl
  · rename_i hop; exact absurd hop (hc _)
  · rename_i hop; exact absurd hop (hc _)
  · rename_i hop; exact absurd hop (hc _)
  · cases he

theorem callRo_keeps {f : FuncId} {F : AFn} (hS : Snd X f F) (h : R X μ m w) {us : Array Value} {args : List AV} (hrun : (execOp a.eval o).run X.P w = .ok (.enter f us) w) (hv : VRs μ m.next w args us.toList) {v : AV} {m1 : Mem}
    (hF : F args { m with lo := m.next } = some (v, m1)) : OpKeeps X μ m w o a v { m1 with lo := m.lo } (Kept m { m1 with lo := m.lo }) := fun next Q k => by
  have hR := h.setLo (Nat.le_trans h.lo.1 h.lo.2) (Nat.le_refl _)
  refine call_ok hS hR hrun hv hF next Q fun u μ' w' h1 h2 h3 => ?_
  exact k u μ' w' h1 (h2.setLo h.lo.1 (Nat.le_trans h.lo.2 h3.next)) (Step.ofRo h h3) fun b hb => h3.keep b hb

theorem op_ro (hE : EnvOk X E) (h : R X μ m w) (hcl : (Op.cl E.tt o.op).isC = true) (hv : ∀ x ∈ o.op.operands.toList, ∀ v, val fr x = some v → VR μ m.next w v (a.eval x)) {v : AV}
    (he : evOp E true o fr ret m = some (v, m')) : OpKeeps X μ m w o a v m' (Kept m m') := by
  by_cases hc : ∃ c, o.op = .call c
  · obtain ⟨c, hop⟩ := hc
    obtain ⟨callee, args, argTypes⟩ := c
    have hvals : ∀ l, vals fr args.toList = some l → VRs μ m.next w l (args.map a.eval).toList := fun l hl => by
      have := vals_rel (a := a) (fun y hy => hv y (by rw [hop]; simp only [Op.operands, Call.operands]; cases callee <;> simp_all)) hl
      simpa using this
    have he0 := he
    have h0 := un_app he
    clear he
    obtain ⟨G, hG, he⟩ := h0
    unfold evOp at hG
    rw [hop] at hG
    cases callee with
    | builtin b =>
      simp only [] at hG
      subst hG
      refine (op_sound hE h hv he0).keeps ?_
      (have h0 := un_app he; clear he; obtain ⟨G, hG, he⟩ := h0; split at hG <;> subst hG)
      · refine builtin_kept ?_ he
        rw [hop] at hcl
        cases b <;> first | exact hcl | (simp [Op.cl, Cl.isC] at hcl ⊢; done)
      · cases he
    | invoke r n => simp only [] at hG; subst hG; cases he
    | value f =>
      cases f with
      | func f =>
        simp only [] at hG
        subst hG
        (have h0 := un_app he; clear he; obtain ⟨G, hG, he⟩ := h0; split at hG <;> subst hG)
        · rename_i l F hl hF
          have hS := hE.fn _ _ hF
          have hrun : (execOp a.eval o).run X.P w = .ok (.enter f (args.map a.eval)) w := by
            have := hS.1 (args.map a.eval) w
            unfold execOp
            simp only [hop, resolve, Act.eval, Deferred.ofValue, pure_bind, invoke, Array.append_empty, Array.empty_append]
            exact this
          obtain ⟨v1, m1, e1, e2⟩ := callRo_some he
          obtain ⟨rfl, rfl⟩ := ret_some (destr_some e2)
          exact callRo_keeps hS h hrun (hvals l hl) e1
        · cases he
      | tmp t =>
        simp only [] at hG
        subst hG
        (have h0 := un_app he; clear he; obtain ⟨G, hG, he⟩ := h0; split at hG <;> subst hG)
        · rename_i fv l hf hl
          have hr := hv (.tmp t) (by rw [hop]; simp [Op.operands, Call.operands]) fv hf
          unfold callV at he
          cases fv <;> try cases he
          rename_i g first caps
          simp only [] at he
          cases hF : E.fn g with
          | none => rw [hF] at he; cases he
          | some F =>
            rw [hF] at he
            simp only [] at he
            have hS := hE.fn _ _ hF
            generalize hq : a.eval (.tmp t) = q at hr
            cases hr with
            | fn _ _ _ a1 b1 r1 r2 =>
              have hrun : (execOp a.eval o).run X.P w = .ok (.enter g (a1 ++ args.map a.eval ++ b1)) w := by
                have := hS.1 (a1 ++ args.map a.eval ++ b1) w
                unfold execOp
                simp only [hop, resolve, hq, Deferred.ofValue, pure_bind, invoke]
                exact this
              have hvv : VRs μ m.next w (first ++ l ++ caps) (a1 ++ args.map a.eval ++ b1).toList := by
                simp only [Array.toList_append]
                exact (r1.append (hvals l hl)).append r2
              obtain ⟨v1, m1, e1, e2⟩ := callRo_some he
              obtain ⟨rfl, rfl⟩ := ret_some (destr_some e2)
              exact callRo_keeps hS h hrun hvv e1
        · cases he
      | const c => simp only [] at hG; subst hG; cases he
      | global g => simp only [] at hG; subst hG; cases he
  · exact (op_sound hE h hv he).keeps (value_kept (fun c e => hc ⟨c, e⟩) hcl he)

/-- A store leaves all but its own block. -/
theorem store_kept (hst : Op.isStore o.op = true) {v : AV} (he : evOp E false o fr ret m = some (v, m')) : ∃ b, addrId fr o.op = some b ∧ ∀ i, i ≠ b → m'.get i = m.get i := by
  have h0 := un_app he
  clear he
  obtain ⟨G, hG, he⟩ := h0
  unfold evOp at hG
  split at hG <;> subst hG
  all_goals first | (rename_i hop; rw [hop] at hst; cases hst; done) | skip
  · rename_i t x y hop
    obtain ⟨-, he⟩ := roOk_some he
    obtain ⟨i, hi, he⟩ := ti_some he
    (have h0 := un_app he; clear he; obtain ⟨G, hG, he⟩ := h0; split at hG <;> subst hG)
    · rename_i b q u hb hu
      refine ⟨b, by rw [hop]; simp only [addrId, hb], ?_⟩
      (have h0 := un_app he; clear he; obtain ⟨G, hG, he⟩ := h0; split at hG <;> subst hG)
      · unfold stN at he
        split at he
        · split at he
          · obtain ⟨-, rfl⟩ := ret_some he
            exact fun j hj => by rw [Mem.get_set, if_neg hj]
          · cases he
        · cases he
      · (have h0 := un_app he; clear he; obtain ⟨G, hG, he⟩ := h0; split at hG <;> subst hG)
        · unfold st at he
          split at he
          · split at he
            · obtain ⟨-, rfl⟩ := ret_some he
              exact fun j hj => by rw [Mem.get_set, if_neg hj]
            · cases he
          · cases he
        · cases he
    · cases he
  · cases he
theorem LawR.some {α : Type} {G : Nat → Prop} {Y : (α → C) → C} (h : LawR G Y) {K : α → C} {r : AV × Mem} (hr : Y K m = some r) : ∃ a, K a m = some r := by
  rcases h m with ⟨a, h1, _⟩ | h1
  · exact ⟨a, (h1 K).symm.trans hr⟩
  · rw [h1] at hr; cases hr
/-- What makes new memory leaves what was there. -/
theorem maker_kept (hcl : Op.cl E.tt o.op = .a) {ro : Bool} {v : AV} (he : evOp E ro o fr ret m = some (v, m')) : Kept m m' := by
  have hadd : ∀ b : Blk, Kept m (m.add b) := fun b i hi => by rw [Mem.get_add, if_neg (by omega)]
  have hnew : ∀ {l : List AV} {K : Nat → C} {r : AV × Mem}, Am.new l K m = some r → K m.next (m.add (.cells l)) = some r := fun {l K r} h => by
    unfold Am.new at h
    split at h
    · exact h
    · cases h
  have h0 := un_app he
  clear he
  obtain ⟨G, hG, he⟩ := h0
  unfold evOp at hG
  split at hG <;> subst hG
  all_goals first | (rename_i hop; rw [hop] at hcl; cases hcl; done) | skip
  · obtain ⟨i, hi, hk, he⟩ := tv_some he
    obtain ⟨-, rfl⟩ := ret_some (hnew he)
    exact hadd _
  · obtain ⟨i, hi, he⟩ := ti_some he
    obtain ⟨z, hz, he⟩ := optC_some he
    obtain ⟨l, he⟩ := LawR.some (G := fun _ => True) (lawr_gather _) he
    obtain ⟨-, rfl⟩ := ret_some (hnew he)
    exact hadd _
  · obtain ⟨i, hi, he⟩ := ti_some he
    (have h0 := un_app he; clear he; obtain ⟨G, hG, he⟩ := h0; split at hG <;> subst hG)
    · (have h0 := un_app he; clear he; obtain ⟨G, hG, he⟩ := h0; split at hG <;> subst hG)
      · (have h0 := un_app he; clear he; obtain ⟨G, hG, he⟩ := h0; split at hG <;> subst hG)
        · obtain ⟨ie, hie, htup, he⟩ := tv_some he
          (have h0 := un_app he; clear he; obtain ⟨G, hG, he⟩ := h0; split at hG <;> subst hG)
          · obtain ⟨l, he⟩ := LawR.some (G := fun _ => True) (lawr_gather _) he
            obtain ⟨-, rfl⟩ := ret_some (hnew he)
            exact hadd _
          · cases he
        · cases he
      · cases he
    · cases he
  · rename_i t x y b hop
    rw [hop] at hcl
    simp only [Op.cl, binCl] at hcl
    split at hcl
    · split at hcl
      · split at hcl <;> cases hcl
      · cases hcl
    · split at hcl
      · split at hcl <;> cases hcl
      · cases hcl
    · cases hcl
  · rename_i s d x hop
    rw [hop] at hcl
    simp only [Op.cl, convCl] at hcl
    split at hcl
    · split at hcl <;> cases hcl
    · cases hcl
  · obtain ⟨i, hi, he⟩ := ti_some he
    (have h0 := un_app he; clear he; obtain ⟨G, hG, he⟩ := h0; split at hG <;> subst hG)
    · obtain ⟨ik, hik, he⟩ := ti_some he
      (have h0 := un_app he; clear he; obtain ⟨G, hG, he⟩ := h0; split at hG <;> subst hG)
      · unfold newMap at he
        obtain ⟨-, rfl⟩ := ret_some he
        exact hadd _
      · cases he
    · cases he
  · obtain ⟨i, hi, he⟩ := ti_some he
    (have h0 := un_app he; clear he; obtain ⟨G, hG, he⟩ := h0; split at hG <;> subst hG)
    · obtain ⟨ie, hie, htup, he⟩ := tv_some he
      unfold mk at he
      split at he
      · obtain ⟨-, rfl⟩ := ret_some he
        exact hadd _
      · cases he
    · cases he
  · rename_i hop
    rw [hop] at hcl
    simp only [Op.cl, sliceCl] at hcl
    split at hcl
    · split at hcl <;> cases hcl
    · cases hcl
  · rename_i b args ts hop
    rw [hop] at hcl
    cases b <;> simp [Op.cl] at hcl
  · cases he
end Go.Am
