/-
What the model's operations come to where the abstract machine's do: operators, all of them; conversions; the least and the greatest.
-/
import Derived.Test.YtboilkakbgalgaaDoorAmOps9
import Derived.Laws.Cover3
namespace Go.Am
open Go Go.RowKit

variable {X : Ctx} {μ : Nat → Nat × Nat} {m m' : Mem} {w : World} {E : Env}

theorem un_app {F : C} {r : AV × Mem} (h : F m = some r) : ∃ G, F = G ∧ G m = some r := ⟨F, rfl, h⟩
theorem eqAgg_some {ks : List Bool} {l r : List AV} {K : Bool → C} {z : AV × Mem} (h : eqAgg ks l r K m = some z) : ∃ b, eqCells ks l r = some b ∧ K b m = some z := by
  unfold eqAgg at h
  cases hq : eqCells ks l r with
  | none => rw [hq] at h; cases h
  | some b => rw [hq] at h; exact ⟨b, rfl, h⟩
theorem eqCells_len : ∀ {ks : List Bool} {l r : List AV} {b : Bool}, eqCells ks l r = some b → l.length = ks.length ∧ r.length = ks.length
  | [], l, r, b, h => by
    unfold eqCells at h
    split at h
    · exact ⟨rfl, rfl⟩
    · rename_i h0; cases h0
    · rename_i h0; cases h0
    · cases h
  | k :: ks, l, r, b, h => by
    unfold eqCells at h
    split at h
    · rename_i h0; cases h0
    · rename_i h0
      cases h0
      split at h
      · rename_i u hu
        obtain ⟨h1, h2⟩ := eqCells_len hu
        simp [h1, h2]
      · cases h
    · rename_i h0
      cases h0
      split at h
      · rename_i u hu
        obtain ⟨h1, h2⟩ := eqCells_len hu
        simp [h1, h2]
      · cases h
    · cases h

theorem VR.slice_base {N : Nat} {q : SV} {u : Value} (hx : VR μ N w (.slice (some q)) u) : ∃ a l c, u = .slice (some a) l c := by
  cases hx with
  | slice => exact ⟨_, _, _, rfl⟩
  | emptyslice => exact ⟨_, _, _, rfl⟩
/-- Two values held against each other by either word. -/
theorem eqne {op : BinOp} {t : TypeId} {x y : Operand} {ua ub : Value} {b : Bool} {v : AV} (hop : op = .eql ∨ op = .neq) (h : R X μ m w)
    (hg : (eqGuard op t x y ua ub).run X.P w = .ok () w) (hr : (Op.equal t ua ub).run X.P w = .ok b w)
    (h1 : binOp .eql t ua ub = (do pure (.bool (← Op.equal t ua ub)))) (h2 : binOp .neq t ua ub = (do pure (.bool (!(← Op.equal t ua ub)))))
    (he : (op = .eql → v = .bool b) ∧ (op = .neq → v = .bool (!b))) : Done X μ m w v m ((do eqGuard op t x y ua ub; binOp op t ua ub : Sem Value).run X.P w) := by
  rcases hop with rfl | rfl
  · rw [he.1 rfl]
    exact .same h (.bool _) (by simp [hg, h1, hr])
  · rw [he.2 rfl]
    exact .same h (.bool _) (by simp [hg, h2, hr])

theorem bin_done (hE : TTok X.P E.tt) (h : R X μ m w) {op : BinOp} {t : TypeId} {x y : Operand} {a b : AV} {ua ub : Value} (hx : VR μ m.next w a ua) (hy : VR μ m.next w b ub)
    (hyc : isConstO y = true → ∃ c, y = .const c) {v : AV} (he : binT E t (isConstO y) b (fun ks => evBin ks op a b ret) m = some (v, m')) :
    Done X μ m w v m' ((do eqGuard op t x y ua ub; binOp op t ua ub : Sem Value).run X.P w) := by
  unfold binT at he
  cases b with
  | int k n =>
    obtain ⟨k', n', rfl⟩ := evBin_int he
    cases hx
    cases hy
    have := binInt_done t h he
    simpa [eqGuard_at_int] using this
  | str s =>
    obtain ⟨s', rfl⟩ := evBin_str he
    cases hx
    cases hy
    have := binStr_done t h he
    simpa [eqGuard_at_string] using this
  | bool q =>
    obtain ⟨i, hi, he⟩ := ti_some he
    obtain ⟨d, hd, hkd⟩ := (hE _ _ hi).und
    obtain ⟨G, hG, he⟩ := un_app he
    split at hG
    · subst hG; rename_i hk
      rw [hk] at hkd
      cases hkd
      obtain ⟨hop, q', rfl⟩ := evBin_bool he
      cases hx
      cases hy
      have hm : m = m' := by rcases hop with rfl | rfl <;> exact (ret_some he).2
      subst hm
      refine eqne hop h (by simp [eqGuard_at_bool]) (run_equalIn_bool w 9999 t q' q hd) rfl rfl ⟨fun e => ?_, fun e => ?_⟩
      · subst e; exact (ret_some he).1.symm
      · subst e; exact (ret_some he).1.symm
    · subst hG; cases he
  | ptr p =>
    obtain ⟨i, hi, he⟩ := ti_some he
    obtain ⟨d, hd, hkd⟩ := (hE _ _ hi).und
    obtain ⟨G, hG, he⟩ := un_app he
    split at hG
    · subst hG; rename_i e hk
      rw [hk] at hkd
      cases hkd
      obtain ⟨ie, hie, he⟩ := ti_some he
      obtain ⟨f, hf, hfs, _⟩ := (hE _ _ hie).info
      obtain ⟨G, hG, he⟩ := un_app he
      split at hG
      · subst hG; cases he
      · subst hG; rename_i n hn
        obtain ⟨hop, q, rfl⟩ := evBin_ptr he
        have key : ∃ b, (Op.equal t ua ub).run X.P w = .ok b w ∧ m = m' ∧ (op = .eql → v = .bool b) ∧ (op = .neq → v = .bool (!b)) := by
          have hE : evBin [] op (.ptr q) (.ptr p) ret m = some (v, m') := he
          clear he
          rcases hop with rfl | rfl
          · have hq : ptrEqC q p (fun e => ret (.bool e)) m = some (v, m') := hE
            obtain ⟨b, h1, h2⟩ := ptrEq_run h hx hy hd hf (by omega) hq
            obtain ⟨h3, h4⟩ := ret_some h2
            exact ⟨b, h1, h4, fun _ => h3.symm, by intro e; cases e⟩
          · have hq : ptrEqC q p (fun e => ret (.bool (!e))) m = some (v, m') := hE
            obtain ⟨b, h1, h2⟩ := ptrEq_run h hx hy hd hf (by omega) hq
            obtain ⟨h3, h4⟩ := ret_some h2
            exact ⟨b, h1, h4, (by intro e; cases e), fun _ => h3.symm⟩
        obtain ⟨b, h1, rfl, h3⟩ := key
        cases hx with
        | nilptr => cases hy <;> exact eqne hop h (by simp [eqGuard_at_pointer]) h1 rfl rfl h3
        | ptr => cases hy <;> exact eqne hop h (by simp [eqGuard_at_pointer]) h1 rfl rfl h3
    · subst hG; cases he
  | slice s =>
    obtain ⟨i, hi, he⟩ := ti_some he
    obtain ⟨d, hd, hkd⟩ := (hE _ _ hi).und
    obtain ⟨G, hG, he⟩ := un_app he
    split at hG
    · subst hG; rename_i e hk
      rw [hk] at hkd
      cases hkd
      obtain ⟨hop, rfl, q, rfl⟩ := evBin_slice he
      cases hy
      obtain ⟨base, c, rfl, _, hn⟩ := hx.slice_shape
      have hb : base.isNone = q.isNone := by
        cases q with
        | none => rw [(hn rfl).1]; rfl
        | some q => obtain ⟨a, l, c', e⟩ := hx.slice_base; cases e; rfl
      have hm : m = m' := by rcases hop with rfl | rfl <;> exact (ret_some he).2
      subst hm
      refine eqne hop h (by simp [eqGuard_at_slice]) (run_equalIn_slice_nil w 9999 t e base _ c hd) rfl rfl ⟨fun e => ?_, fun e => ?_⟩
      · subst e; rw [hb]; exact (ret_some he).1.symm
      · subst e; rw [hb]; exact (ret_some he).1.symm
    · subst hG; cases he
  | map s =>
    obtain ⟨i, hi, he⟩ := ti_some he
    obtain ⟨d, hd, hkd⟩ := (hE _ _ hi).und
    obtain ⟨G, hG, he⟩ := un_app he
    split at hG
    · subst hG; rename_i k e hk
      rw [hk] at hkd
      cases hkd
      obtain ⟨hop, rfl, q, rfl⟩ := evBin_map he
      cases hy
      have hm : m = m' := by rcases hop with rfl | rfl <;> exact (ret_some he).2
      subst hm
      cases hx with
      | nilmap =>
        refine eqne hop h (by simp [eqGuard_at_map]) (run_equalIn_map_nil w 9999 t k e none hd) rfl rfl ⟨fun e => ?_, fun e => ?_⟩
        · subst e; exact (ret_some he).1.symm
        · subst e; exact (ret_some he).1.symm
      | map r hr =>
        refine eqne hop h (by simp [eqGuard_at_map]) (run_equalIn_map_nil w 9999 t k e (some _) hd) rfl rfl ⟨fun e => ?_, fun e => ?_⟩
        · subst e; exact (ret_some he).1.symm
        · subst e; exact (ret_some he).1.symm
    · subst hG; cases he
  | nilif =>
    cases hc : isConstO y with
    | false => rw [hc] at he; cases he
    | true =>
      rw [hc] at he
      obtain ⟨c, rfl⟩ := hyc hc
      obtain ⟨i, hi, he⟩ := ti_some he
      obtain ⟨d, hd, hkd⟩ := (hE _ _ hi).und
      obtain ⟨G, hG, he⟩ := un_app he
      split at hG
      · subst hG; rename_i hk
        rw [hk] at hkd
        cases hkd
        obtain ⟨hop, hs⟩ := evBin_nilif he
        cases hy
        rcases hs with rfl | ⟨ty, z, rfl⟩
        · cases hx
          have hm : m = m' := by rcases hop with rfl | rfl <;> exact (ret_some he).2
          subst hm
          have hq : ∀ d', (Op.equalIn (d' + 1) t .nilIface .nilIface).run X.P w = .ok true w := fun d' => by simp [Op.equalIn, run_und hd]
          refine eqne hop h (by simp [eqGuard_nil_constR]) (hq 9999) rfl rfl ⟨fun e => ?_, fun e => ?_⟩
          · subst e; exact (ret_some he).1.symm
          · subst e; exact (ret_some he).1.symm
        · cases hx
          have hm : m = m' := by rcases hop with rfl | rfl <;> exact (ret_some he).2
          subst hm
          have hq : ∀ d' u, (Op.equalIn (d' + 1) t (.iface ty u) .nilIface).run X.P w = .ok false w := fun d' u => by simp [Op.equalIn, run_und hd]
          refine eqne hop h (by simp [eqGuard_at_iface]) (hq 9999 _) rfl rfl ⟨fun e => ?_, fun e => ?_⟩
          · subst e; exact (ret_some he).1.symm
          · subst e; exact (ret_some he).1.symm
      · subst hG; cases he
  | nilfn =>
    obtain ⟨i, hi, he⟩ := ti_some he
    obtain ⟨d, hd, hkd⟩ := (hE _ _ hi).und
    obtain ⟨G, hG, he⟩ := un_app he
    split at hG
    · subst hG; rename_i hk
      rw [hk] at hkd
      cases hkd
      obtain ⟨hop, hs⟩ := evBin_nilfn he
      cases hy
      rcases hs with rfl | ⟨f, z1, z2, rfl⟩
      · cases hx
        have hm : m = m' := by rcases hop with rfl | rfl <;> exact (ret_some he).2
        subst hm
        have hq : ∀ d', (Op.equalIn (d' + 1) t .nilFunc .nilFunc).run X.P w = .ok true w := fun d' => by simp [Op.equalIn, run_und hd]
        refine eqne hop h (by simp [eqGuard_at_nilFunc]) (hq 9999) rfl rfl ⟨fun e => ?_, fun e => ?_⟩
        · subst e; exact (ret_some he).1.symm
        · subst e; exact (ret_some he).1.symm
      · cases hx
        have hm : m = m' := by rcases hop with rfl | rfl <;> exact (ret_some he).2
        subst hm
        have hq : ∀ d' f a c, (Op.equalIn (d' + 1) t (.func f a c) .nilFunc).run X.P w = .ok false w := fun d' f a c => by simp [Op.equalIn, run_und hd]
        refine eqne hop h (by simp [eqGuard_at_func]) (hq 9999 _ _ _) rfl rfl ⟨fun e => ?_, fun e => ?_⟩
        · subst e; exact (ret_some he).1.symm
        · subst e; exact (ret_some he).1.symm
    · subst hG; cases he
  | agg l =>
    obtain ⟨i, hi, he⟩ := ti_some he
    have hok := hE _ _ hi
    obtain ⟨G, hG, he⟩ := un_app he
    split at hG
    · subst hG; cases he
    · subst hG; rename_i k ks hks
      have hq := hok.eqf (by rw [hks]; simp)
      unfold eqB at hq
      simp only [Bool.and_eq_true, beq_iff_eq, Bool.not_eq_true'] at hq
      obtain ⟨⟨q1, q2⟩, q3⟩ := hq
      obtain ⟨hop, l', rfl⟩ := evBin_agg he
      rw [hks] at q2
      obtain ⟨d, hd, hkd⟩ := hok.und
      have hagg : aggT X.P t = true := by
        unfold aggT
        rw [hd]
        revert q1 hkd
        generalize i.kd = kk
        intro q1 hkd
        cases hkd <;> first | rfl | cases q1
      have key : ∃ b, eqCells (k :: ks) l' l = some b ∧ m = m' ∧ (op = .eql → v = .bool b) ∧ (op = .neq → v = .bool (!b)) := by
        have hE : evBin (k :: ks) op (.agg l') (.agg l) ret m = some (v, m') := he
        clear he
        rcases hop with rfl | rfl
        · have hq : eqAgg (k :: ks) l' l (fun e => ret (.bool e)) m = some (v, m') := hE
          obtain ⟨b, h1, h2⟩ := eqAgg_some hq
          obtain ⟨h3, h4⟩ := ret_some h2
          exact ⟨b, h1, h4, fun _ => h3.symm, by intro e; cases e⟩
        · have hq : eqAgg (k :: ks) l' l (fun e => ret (.bool (!e))) m = some (v, m') := hE
          obtain ⟨b, h1, h2⟩ := eqAgg_some hq
          obtain ⟨h3, h4⟩ := ret_some h2
          exact ⟨b, h1, h4, (by intro e; cases e), fun _ => h3.symm⟩
      obtain ⟨b, h1, rfl, h3⟩ := key
      obtain ⟨n1, n2⟩ := eqCells_len h1
      obtain ⟨c1, c2, c3⟩ := hx.cells_agg
      obtain ⟨d1, d2, d3⟩ := hy.cells_agg
      generalize ua.cells = ca at c1 c3
      generalize ub.cells = cb at d1 d3
      subst c3
      subst d3
      have hrun := flat_eq 20 t μ m.next w (k :: ks) 9980 (.agg ca) (.agg cb) ca.toList cb.toList l' l b q2 (by unfold FlatV; rw [hagg]) (by unfold FlatV; rw [hagg]) c1 d1 n1 n2 h1
      exact eqne hop h (by simp [run_eqGuard_agg w op t x y ca cb q3]) hrun rfl rfl h3
  | _ => cases he

theorem un_done (h : R X μ m w) {op : UnOp} {x : AV} {u : Value} (hx : VR μ m.next w x u) {v : AV} (he : evUn op x ret m = some (v, m')) : Done X μ m w v m' ((Op.unary op u).run X.P w) := by
  have he0 := un_app he
  clear he
  obtain ⟨G, hG, he⟩ := he0
  unfold evUn at hG
  split at hG <;> subst hG
  · obtain ⟨rfl, rfl⟩ := ret_some he
    cases hx
    exact .same h (.bool _) (by simp [Op.unary])
  · obtain ⟨rfl, rfl⟩ := ret_some he
    cases hx
    exact .same h (.int _ _) (by simp [Op.unary, Op.intArith])
  · obtain ⟨rfl, rfl⟩ := ret_some he
    cases hx
    exact .same h (.int _ _) (by simp [Op.unary, Op.intBits, bits])
  · cases he
theorem conv_done (hE : TTok X.P E.tt) (h : R X μ m w) {s t : TypeId} {i j : TI} (hi : TIok X.P s i) (hj : TIok X.P t j) {x : AV} {u : Value} (hx : VR μ m.next w x u) {v : AV}
    (he : evConv E i j x ret m = some (v, m')) : Done X μ m w v m' ((convert s t u).run X.P w) := by
  obtain ⟨d, hd, hkd⟩ := hi.und
  obtain ⟨d', hd', hkd'⟩ := hj.und
  have he0 := un_app he
  clear he
  obtain ⟨G, hG, he⟩ := he0
  unfold evConv at hG
  split at hG
  · subst hG; rename_i k k' k'' n hk hk'
    obtain ⟨rfl, rfl⟩ := ret_some he
    rw [hk] at hkd
    rw [hk'] at hkd'
    cases hkd
    cases hkd'
    cases hx
    exact .same h (.int _ _) (by simp [convert, run_und hd, run_und hd', Conv.intToInt])
  · subst hG; rename_i q hk hk'
    obtain ⟨rfl, rfl⟩ := ret_some he
    rw [hk] at hkd
    rw [hk'] at hkd'
    cases hkd
    cases hkd'
    cases hx
    exact .same h (.str _) (by simp [convert, run_und hd, run_und hd'])
  · subst hG; rename_i e q hk hk'
    rw [hk] at hkd
    rw [hk'] at hkd'
    cases hkd
    cases hkd'
    obtain ⟨ie, hie, he⟩ := ti_some he
    obtain ⟨de, hde, hkde⟩ := (hE _ _ hie).und
    obtain ⟨G, hG, he⟩ := un_app he
    split at hG
    · subst hG; rename_i hke
      rw [hke] at hkde
      cases hkde
      obtain ⟨base, c, rfl, _, _⟩ := hx.slice_shape
      rw [run_convert_bytes_string w s t e base _ c hd hde hd']
      exact strOf_done h hx he
    · subst hG; cases he
  · subst hG; cases he
theorem min_done (h : R X μ m w) {l : List AV} {us : List Value} (hx : VRs μ m.next w l us) {v : AV} (hv : minI l = some v) (ts : Array TypeId) (ty : TypeId) :
    Done X μ m w v m ((Builtin.min_ ts ty us.toArray).run X.P w) := by
  have go : ∀ (l : List AV) (us : List Value) (k : IntKind) (a : Int) (v : AV), VRs μ m.next w l us → minA k a l = some v → ∃ z, v = .int k z ∧ (us.foldlM Builtin.min2 (.int k a)).run X.P w = .ok (.int k z) w := by
    intro l
    induction l with
    | nil =>
      intro us k a v hx hv
      cases hx
      unfold minA at hv
      cases hv
      exact ⟨a, rfl, by simp⟩
    | cons y l ih =>
      intro us k a v hx hv
      cases hx with
      | cons _ u _ us h1 h2 =>
        cases y <;> unfold minA at hv <;> try cases hv
        rename_i k' b
        cases h1
        obtain ⟨z, h3, h4⟩ := ih us k _ v h2 hv
        exact ⟨z, h3, by simp [Builtin.min2, h4]⟩
  cases l with
  | nil => cases hv
  | cons x l =>
    cases hx with
    | cons _ u _ us h1 h2 =>
      cases x <;> unfold minI at hv <;> try cases hv
      rename_i k a
      cases h1
      obtain ⟨z, rfl, h4⟩ := go l us k a v h2 hv
      exact .same h (.int _ _) (by simpa [Builtin.min_] using h4)
theorem max_done (h : R X μ m w) {l : List AV} {us : List Value} (hx : VRs μ m.next w l us) {v : AV} (hv : maxI l = some v) (ts : Array TypeId) (ty : TypeId) :
    Done X μ m w v m ((Builtin.max_ ts ty us.toArray).run X.P w) := by
  have go : ∀ (l : List AV) (us : List Value) (k : IntKind) (a : Int) (v : AV), VRs μ m.next w l us → maxA k a l = some v → ∃ z, v = .int k z ∧ (us.foldlM Builtin.max2 (.int k a)).run X.P w = .ok (.int k z) w := by
    intro l
    induction l with
    | nil =>
      intro us k a v hx hv
      cases hx
      unfold maxA at hv
      cases hv
      exact ⟨a, rfl, by simp⟩
    | cons y l ih =>
      intro us k a v hx hv
      cases hx with
      | cons _ u _ us h1 h2 =>
        cases y <;> unfold maxA at hv <;> try cases hv
        rename_i k' b
        cases h1
        obtain ⟨z, h3, h4⟩ := ih us k _ v h2 hv
        exact ⟨z, h3, by simp [Builtin.max2, h4]⟩
  cases l with
  | nil => cases hv
  | cons x l =>
    cases hx with
    | cons _ u _ us h1 h2 =>
      cases x <;> unfold maxI at hv <;> try cases hv
      rename_i k a
      cases h1
      obtain ⟨z, rfl, h4⟩ := go l us k a v h2 hv
      exact .same h (.int _ _) (by simpa [Builtin.max_] using h4)
end Go.Am
