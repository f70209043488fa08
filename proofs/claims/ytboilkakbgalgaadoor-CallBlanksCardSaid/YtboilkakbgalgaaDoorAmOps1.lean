/-
What the model's operations come to where the abstract machine's do: memory.
-/
import Derived.Test.YtboilkakbgalgaaDoorAmLawOp
namespace Go.Am
open Go Go.RowKit

variable {X : Ctx} {μ : Nat → Nat × Nat} {m m' : Mem} {w : World} {nt : Nat} {fr : Fr} {a : Act}

/-- An operation of the model comes to what the abstract one handed on. -/
def Done (X : Ctx) (μ : Nat → Nat × Nat) (m : Mem) (w : World) (v : AV) (m' : Mem) (r : Result Value) : Prop :=
  ∃ u w' μ', r = .ok u w' ∧ VR μ' m'.next w' v u ∧ R X μ' m' w' ∧ Step μ m w μ' m' w'
theorem Done.same {v : AV} {u : Value} {r : Result Value} (h : R X μ m w) (hv : VR μ m.next w v u) (hr : r = .ok u w) : Done X μ m w v m r :=
  ⟨u, w, μ, hr, hv, h, Step.refl μ m w⟩

theorem eval_val (h : FrR μ m.next w nt fr a) {x : Operand} {v : AV} (hv : val fr x = some v) : VR μ m.next w v (a.eval x) := by
  cases x with
  | tmp t =>
    obtain ⟨u, h1, h2⟩ := h.slot t v hv
    simpa [Act.eval, Array.getD_eq_getD_getElem?, h1] using h2
  | const c => exact constAV_VR hv
  | global g => cases hv
  | func f => cases hv; exact .fn f [] [] #[] #[] .nil .nil
theorem eval_vals (h : FrR μ m.next w nt fr a) : ∀ {l : List Operand} {vs : List AV}, vals fr l = some vs → VRs μ m.next w vs (l.map a.eval)
  | [], vs, hv => by cases hv; exact .nil
  | x :: l, vs, hv => by
    unfold vals at hv
    split at hv
    · rename_i v l' h1 h2
      cases hv
      exact .cons _ _ _ _ (eval_val h h1) (eval_vals h h2)
    · cases hv
theorem eval_valsAt (h : FrR μ m.next w nt fr a) : ∀ {l : List (Nat × Operand)} {vs : List (Nat × AV)}, valsAt fr l = some vs →
    vs.map (·.1) = l.map (·.1) ∧ VRs μ m.next w (vs.map (·.2)) (l.map fun p => a.eval p.2)
  | [], vs, hv => by cases hv; exact ⟨rfl, .nil⟩
  | (i, x) :: l, vs, hv => by
    unfold valsAt at hv
    split at hv
    · rename_i v l' h1 h2
      cases hv
      obtain ⟨h3, h4⟩ := eval_valsAt h h2
      exact ⟨by simp [h3], .cons _ _ _ _ (eval_val h h1) h4⟩
    · cases hv

theorem ret_some {v v' : AV} {m m' : Mem} (h : ret v m = some (v', m')) : v = v' ∧ m = m' := by
  unfold ret at h
  simpa using h
theorem TIok.zero {t : TypeId} {i : TI} (h : TIok X.P t i) (hk : i.kd.isTup = false) : ∃ z : Value, (∀ w', (zeroValue t).run X.P w' = .ok z w') ∧ VRs μ m.next w i.zero z.cells.toList ∧ i.zero.all AV.one = true ∧ i.zero.length = i.size ∧ z.cells.size = i.size ∧
    ((i.kd.agg = true → ∃ c, z = .agg c) ∧ (i.kd.agg = false → z.cells = #[z])) := by
  obtain ⟨f, h1, h2, h3, h4⟩ := h.info
  obtain ⟨z, h5, h6, h7, h8⟩ := h4 hk
  obtain ⟨h9, h10⟩ := constsB_VRs (μ := μ) (N := m.next) (w := w) h6
  refine ⟨z, fun w' => by simp [zeroValue, run_ti h1, h5], h9, h10, h7, ?_, h8⟩
  have := h9.length
  rw [Array.length_toList] at this
  omega
theorem VR.cells_agg {N : Nat} {l : List AV} {u : Value} (h : VR μ N w (.agg l) u) : VRs μ N w l u.cells.toList ∧ l.all AV.one = true ∧ u = .agg u.cells := by
  cases h with
  | agg l a h1 h2 => exact ⟨h1, h2, rfl⟩
theorem VR.cells_one {N : Nat} {v : AV} {u : Value} (h : VR μ N w v u) (h1 : v.one = true) : u.cells = #[u] := by
  cases h <;> first | rfl | simp [AV.one] at h1

/-! ### reading -/
theorem loadN_done {t : TypeId} {i : TI} (hi : TIok X.P t i) (hk : i.kd.agg = true) (h : R X μ m w) {b o : Nat} {u : Value} (hu : VR μ m.next w (.ptr (some (b, o))) u) {v : AV}
    (he : ldN i.size b o (fun l => ret (.agg l)) m = some (v, m')) : Done X μ m w v m' ((Instr.loadAt t u).run X.P w) := by
  cases hu
  unfold ldN at he
  cases hl : m.cells b with
  | none => rw [hl] at he; cases he
  | some l =>
    rw [hl] at he
    simp only [] at he
    by_cases hn : o + i.size ≤ l.length
    · simp only [hn, decide_true] at he
      obtain ⟨rfl, rfl⟩ := ret_some he
      obtain ⟨cs, e, fz, h1, h2, h3, h4, h5⟩ := h.cells hl
      have hrun := loadCells_run (P := X.P) (o := (μ b).2 + o) (n := i.size) h1 (by omega)
      refine .same h (.agg _ (((cs.drop ((μ b).2 + o)).take i.size).toArray) (h4.seg hn) ?_) ?_
      · have h3' := List.all_eq_true.1 h3
        exact List.all_eq_true.2 fun x hx => h3' x (List.mem_of_mem_drop (List.mem_of_mem_take hx))
      · simp [Instr.loadAt, Instr.sureAddr, loadVar, hi.run_agg, hk, hi.run_size, hrun]
    · simp only [hn, decide_false] at he
      cases he
theorem load1_done {t : TypeId} {i : TI} (hi : TIok X.P t i) (hk : i.kd.agg = false) (h : R X μ m w) {b o : Nat} {u : Value} (hu : VR μ m.next w (.ptr (some (b, o))) u) {v : AV}
    (he : ld b o (destr1 i ret) m = some (v, m')) : Done X μ m w v m' ((Instr.loadAt t u).run X.P w) := by
  cases hu
  unfold ld at he
  cases hl : m.cells b with
  | none => rw [hl] at he; cases he
  | some l =>
    rw [hl] at he
    simp only [] at he
    cases hv : l[o]? with
    | none => rw [hv] at he; cases he
    | some x =>
      rw [hv] at he
      obtain ⟨rfl, rfl⟩ := ret_some (destr1_some he)
      obtain ⟨cs, e, fz, h1, h2, h3, h4, h5⟩ := h.cells hl
      obtain ⟨y, hy1, hy2⟩ := h4.at hv
      refine .same h hy2 ?_
      have hc : w.cell? ⟨(μ b).1, (μ b).2 + o, none⟩ = some y := by simp [World.cell?, h1, hy1]
      simp [Instr.loadAt, Instr.sureAddr, loadVar, hi.run_agg, hk, hc]

/-! ### writing -/
theorem write_done (h : R X μ m w) {b o : Nat} {l new : List AV} {r : List Value} (hl : m.cells b = some l) (hlo : m.lo ≤ b) (ho : o + new.length ≤ l.length)
    (hn : VRs μ m.next w new r) (h1 : new.all AV.one = true) :
    ∃ w', (storeCells ⟨(μ b).1, (μ b).2 + o, none⟩ r).run X.P w = .ok () w' ∧ R X μ (m.set b (.cells (splice l o new))) w' ∧ Step μ m w μ (m.set b (.cells (splice l o new))) w' := by
  obtain ⟨cs, e, fz, g1, g2, g3, g4, g5⟩ := h.cells hl
  have hf := g5 (Nat.le_trans h.lo.1 hlo)
  have hlen := hn.length
  have hrun := run_storeCells (P := X.P) (o := (μ b).2 + o) r 0 cs w g1 (by omega) (fun j hj => hf j (Nat.le_of_lt hj)) (hn.oneCells h1)
  simp only [Nat.add_zero] at hrun
  have hsz : (cs.take ((μ b).2 + o) ++ r ++ cs.drop ((μ b).2 + o + r.length)).length = cs.length := by simp; omega
  obtain ⟨hR, hS⟩ := h.update (w' := putRow w (μ b).1 (cs.take ((μ b).2 + o) ++ r ++ cs.drop ((μ b).2 + o + r.length)) e fz) hlo (by rw [Mem.cells_some hl]; simp) (b := .cells (splice l o new))
    (fun k hk => putRow_ne hk) (by simp [putRow]) rfl rfl rfl (putRow_grow g1 hsz) (CellsR.splice g1 g2 g3 g4 hf ho hn h1)
  exact ⟨_, hrun, hR, hS⟩
theorem storeN_done {t : TypeId} {i : TI} (hi : TIok X.P t i) (h : R X μ m w) {b o : Nat} {u y : Value} {l : List AV} (hu : VR μ m.next w (.ptr (some (b, o))) u) (hy : VR μ m.next w (.agg l) y)
    {v v' : AV} (he : stN i.size b o l (ret v) m = some (v', m')) :
    v = v' ∧ ∃ w', (Instr.storeAt t u y).run X.P w = .ok () w' ∧ R X μ m' w' ∧ Step μ m w μ m' w' := by
  cases hu
  unfold stN at he
  cases hl : m.cells b with
  | none => rw [hl] at he; cases he
  | some c =>
    rw [hl] at he
    simp only [] at he
    split at he
    · rename_i hc
      simp only [Bool.and_eq_true, decide_eq_true_eq] at hc
      obtain ⟨⟨hlo, hn, ho⟩, h1⟩ := hc
      obtain ⟨hvv, rfl⟩ := ret_some he
      obtain ⟨hy1, hy2, hy3⟩ := hy.cells_agg
      obtain ⟨w', hr, hR, hS⟩ := write_done (o := o) h hl hlo (by omega) hy1 hy2
      have hsz : y.cells.size = i.size := by
        rw [← hn, hy1.length, Array.length_toList]
      refine ⟨hvv, w', ?_, hR, hS⟩
      simp [Instr.storeAt, Instr.sureAddr, storeVar, hi.run_size, hsz, hr]
    · cases he
theorem set_eq_splice (l : List AV) (o : Nat) (v : AV) (h : o < l.length) : l.set o v = splice l o [v] := by
  rw [List.set_eq_take_append_cons_drop, if_pos h]
  simp [splice]
theorem store1_done {t : TypeId} {i : TI} (hi : TIok X.P t i) (hs : i.size = 1) (h : R X μ m w) {b o : Nat} {u y : Value} {x : AV} (hu : VR μ m.next w (.ptr (some (b, o))) u) (hy : VR μ m.next w x y)
    {v v' : AV} (he : st b o x (ret v) m = some (v', m')) :
    v = v' ∧ ∃ w', (Instr.storeAt t u y).run X.P w = .ok () w' ∧ R X μ m' w' ∧ Step μ m w μ m' w' := by
  cases hu
  unfold st at he
  cases hl : m.cells b with
  | none => rw [hl] at he; cases he
  | some c =>
    rw [hl] at he
    simp only [] at he
    split at he
    · rename_i hc
      simp only [Bool.and_eq_true, decide_eq_true_eq] at hc
      obtain ⟨⟨hlo, ho⟩, h1⟩ := hc
      obtain ⟨hvv, rfl⟩ := ret_some he
      rw [set_eq_splice c o x ho]
      obtain ⟨w', hr, hR, hS⟩ := write_done (o := o) h hl hlo (new := [x]) (by simp; omega) (.cons _ _ _ _ hy .nil) (by simp [h1])
      refine ⟨hvv, w', ?_, hR, hS⟩
      simp [Instr.storeAt, Instr.sureAddr, storeVar, hi.run_size, hs, hy.cells_one h1, hr]
    · cases he

/-! ### new memory -/
theorem new_done (h : R X μ m w) {l : List AV} {r : List Value} {t : TypeId} (hl : VRs μ m.next w l (r.take l.length)) (hlen : l.length ≤ r.length) (h1 : l.all AV.one = true) :
    ∃ w' μ', (newRow t r.toArray).run X.P w = .ok ⟨(μ' m.next).1, (μ' m.next).2, none⟩ w' ∧ R X μ' (m.add (.cells l)) w' ∧ Step μ m w μ' (m.add (.cells l)) w' ∧
      w' = { w with heap := w.heap.push (.cells r.toArray t) } ∧ μ' m.next = (w.heap.size, 0) := by
  obtain ⟨hR, hS⟩ := h.alloc (w' := { w with heap := w.heap.push (.cells r.toArray t) }) (b := .cells l) rfl (CellsR.new rfl hl hlen h1)
  exact ⟨_, _, by simp [newRow], hR, hS, rfl, by simp⟩
theorem VRs.takeAll {N : Nat} {l : List AV} {r : List Value} (h : VRs μ N w l r) : VRs μ N w l (r.take l.length) := by
  rw [h.length, List.take_length]; exact h
theorem alloc_done {t : TypeId} {i : TI} (hi : TIok X.P t i) (hk : i.kd.isTup = false) (h : R X μ m w) {v : AV} (he : new i.zero (fun id => ret (.ptr (some (id, 0)))) m = some (v, m')) :
    Done X μ m w v m' ((Instr.alloc t true (.tuple #[])).run X.P w) := by
  obtain ⟨z, h1, h2, h3, h4, h5, _⟩ := hi.zero (μ := μ) (m := m) (w := w) hk
  unfold new at he
  rw [h3] at he
  obtain ⟨rfl, rfl⟩ := ret_some he
  obtain ⟨w', μ', hr, hR, hS, _, _⟩ := new_done (t := t) h h2.takeAll (by rw [h2.length]; exact Nat.le_refl _) h3
  refine ⟨_, w', μ', ?_, .ptr m.next 0 (by simp), hR, hS⟩
  simp only [Array.toArray_toList] at hr
  simp [Instr.alloc, h1, newVar, hr]

/-- Values' cells, side by side. -/
theorem gather_some : ∀ {l : List (AV × Nat)} {K : List AV → C} {r : AV × Mem}, gather l K m = some r → ∃ cs, K cs m = some r ∧ cs.length = (l.map (·.2)).sum ∧
    ∀ {us : List Value}, VRs μ m.next w (l.map (·.1)) us → (∀ p ∈ l, p.1.one = true ∨ ∃ c, p.1 = .agg c) ∧ VRs μ m.next w cs (us.flatMap fun u => u.cells.toList) ∧ cs.all AV.one = true ∧
      us.map (fun u => u.cells.size) = l.map (·.2)
  | [], K, r, h => ⟨[], h, rfl, fun {us} hu => by cases hu; exact ⟨by simp, .nil, rfl, rfl⟩⟩
  | (v, n) :: l, K, r, h => by
    unfold gather at h
    split at h
    · rename_i c
      unfold lenIs bc at h
      by_cases hc : c.length = n
      · simp only [hc, decide_true] at h
        obtain ⟨cs, h1, h2, h3⟩ := gather_some h
        refine ⟨c ++ cs, h1, by simp [h2, hc], fun {us} hu => ?_⟩
        cases hu with
        | cons _ u _ us hu1 hu2 =>
          obtain ⟨g1, g2, g3⟩ := hu1.cells_agg
          obtain ⟨k1, k2, k3, k4⟩ := h3 hu2
          refine ⟨fun p hp => ?_, g1.append k2, by simp [g2, k3], ?_⟩
          · rcases List.mem_cons.1 hp with rfl | hp
            · exact .inr ⟨_, rfl⟩
            · exact k1 p hp
          · have e : u.cells.size = n := by rw [← hc, g1.length, Array.length_toList]
            simp [k4, e]
      · simp only [hc, decide_false] at h
        cases h
    · cases h
    · rename_i hna hnt
      split at h
      · obtain ⟨cs, h1, h2, h3⟩ := gather_some h
        refine ⟨v :: cs, h1, by simp [h2]; omega, fun {us} hu => ?_⟩
        have hv1 : v.one = true := by cases v <;> first | rfl | (exfalso; first | exact hna _ rfl | exact hnt _ rfl)
        cases hu with
        | cons _ u _ us hu1 hu2 =>
          obtain ⟨k1, k2, k3, k4⟩ := h3 hu2
          refine ⟨fun p hp => ?_, ?_, by simp [hv1, k3], by simp [k4, hu1.cells_one hv1]⟩
          · rcases List.mem_cons.1 hp with rfl | hp
            · exact .inl hv1
            · exact k1 p hp
          · rw [List.flatMap_cons, hu1.cells_one hv1]
            exact .cons _ _ _ _ hu1 k2
      · cases h
theorem box_done {t : TypeId} (h : R X μ m w) {i : TI} {x : AV} {y : Value} (hy : VR μ m.next w x y) {v : AV}
    (he : gather [(x, i.size)] (fun l => new l fun id => ret (.ptr (some (id, 0)))) m = some (v, m')) : Done X μ m w v m' ((Instr.box t y).run X.P w) := by
  obtain ⟨cs, h1, h2, h3⟩ := gather_some (μ := μ) (w := w) he
  obtain ⟨_, k2, k3, _⟩ := h3 (us := [y]) (.cons _ _ _ _ hy .nil)
  unfold new at h1
  rw [k3] at h1
  obtain ⟨rfl, rfl⟩ := ret_some h1
  simp only [List.flatMap_cons, List.flatMap_nil, List.append_nil] at k2
  obtain ⟨w', μ', hr, hR, hS, _, _⟩ := new_done (t := t) h k2.takeAll (by rw [k2.length]; exact Nat.le_refl _) k3
  refine ⟨_, w', μ', ?_, .ptr m.next 0 (by simp), hR, hS⟩
  simp only [Array.toArray_toList] at hr
  simp [Instr.box, newVar, hr]

end Go.Am
