/-
What the model's operations come to where the abstract machine's do: operators.
-/
import Derived.Test.YtboilkakbgalgaaDoorAmOps8
namespace Go.Am
open Go Go.RowKit

variable {X : Ctx} {μ : Nat → Nat × Nat} {m m' : Mem} {w : World} {E : Env}

theorem zdiv_some {y : Int} {K : C} {r : AV × Mem} (h : zdiv y K m = some r) : y ≠ 0 ∧ K m = some r := by
  unfold zdiv at h
  by_cases hy : y = 0
  · rw [decide_eq_true hy] at h; cases h
  · rw [decide_eq_false hy] at h; exact ⟨hy, h⟩
theorem shamt_some {y : Int} {K : C} {r : AV × Mem} (h : shamt y K m = some r) : 0 ≤ y ∧ K m = some r := by
  obtain ⟨h1, h2⟩ := bc_true h
  exact ⟨by simpa using h1, h2⟩
theorem cat_some {a b : List UInt8} {K : List UInt8 → C} {r : AV × Mem} (h : cat a b K m = some r) : a.length + b.length ≤ 4611686018427387904 ∧ K (a ++ b) m = some r := by
  obtain ⟨h1, h2⟩ := bc_true h
  exact ⟨by simpa using h1, h2⟩

theorem binInt_done {ks : List Bool} {op : BinOp} {k k' : IntKind} {a b : Int} {v : AV} (t : TypeId) (h : R X μ m w) (he : evBin ks op (.int k a) (.int k' b) ret m = some (v, m')) :
    Done X μ m w v m' ((binOp op t (.int k a) (.int k' b)).run X.P w) := by
  cases op <;> simp only [evBin] at he
  case shl =>
    obtain ⟨h0, he⟩ := shamt_some he
    obtain ⟨rfl, rfl⟩ := ret_some he
    exact .same h (.int _ _) (by simp [binOp, Op.shift, Int.not_lt.2 h0])
  case shr =>
    obtain ⟨h0, he⟩ := shamt_some he
    obtain ⟨rfl, rfl⟩ := ret_some he
    exact .same h (.int _ _) (by simp [binOp, Op.shift, Int.not_lt.2 h0])
  all_goals
    have hb := bc_true he
    clear he
    obtain ⟨hk, he⟩ := hb
    simp only [decide_eq_true_eq] at hk
    subst hk
  case quo =>
    obtain ⟨h0, he⟩ := zdiv_some he
    obtain ⟨rfl, rfl⟩ := ret_some he
    exact .same h (.int _ _) (by simp [binOp, Op.intDiv, h0])
  case rem =>
    obtain ⟨h0, he⟩ := zdiv_some he
    obtain ⟨rfl, rfl⟩ := ret_some he
    exact .same h (.int _ _) (by simp [binOp, Op.intDiv, h0])
  all_goals
    obtain ⟨rfl, rfl⟩ := ret_some he
    first
    | exact .same h (.int _ _) (by simp [binOp, Op.intArith, Op.intBits, bits])
    | exact .same h (.bool _) (by simp [binOp, Op.intCmp])
theorem ba_toList (s : List UInt8) : (ByteArray.mk s.toArray).toList = s := by rw [ByteArray.toList_eq]
theorem binStr_done {ks : List Bool} {op : BinOp} {a b : List UInt8} {v : AV} (t : TypeId) (h : R X μ m w) (he : evBin ks op (.str a) (.str b) ret m = some (v, m')) :
    Done X μ m w v m' ((binOp op t (.string ⟨a.toArray⟩) (.string ⟨b.toArray⟩)).run X.P w) := by
  cases op <;> simp only [evBin] at he
  case add =>
    obtain ⟨h0, he⟩ := cat_some he
    obtain ⟨rfl, rfl⟩ := ret_some he
    refine .same h (.str _) ?_
    have hn : ¬ (((ByteArray.mk a.toArray).size + (ByteArray.mk b.toArray).size : Nat) : Int) > IntKind.i64.max := by
      have h1 : (ByteArray.mk a.toArray).size = a.length := by simp [ByteArray.size]
      have h2 : (ByteArray.mk b.toArray).size = b.length := by simp [ByteArray.size]
      have h3 : IntKind.i64.max = 9223372036854775807 := by decide
      rw [h1, h2, h3]; omega
    have happ : ByteArray.mk a.toArray ++ ByteArray.mk b.toArray = ByteArray.mk (a ++ b).toArray := by
      apply ByteArray.ext
      rw [ByteArray.data_append]
      simp
    simp only [binOp, Op.stringOp, if_neg hn, happ, Sem.run_pure]
  case eql =>
    obtain ⟨rfl, rfl⟩ := ret_some he
    exact .same h (.bool _) (by simp [binOp, Op.stringOp])
  case neq =>
    obtain ⟨rfl, rfl⟩ := ret_some he
    exact .same h (.bool _) (by simp [binOp, Op.stringOp])
  all_goals cases he
theorem equal_done {t : TypeId} {x y : Value} {r : Bool} (h : R X μ m w) (hr : (Op.equal t x y).run X.P w = .ok r w)
    (h1 : binOp .eql t x y = (do pure (.bool (← Op.equal t x y)))) (h2 : binOp .neq t x y = (do pure (.bool (!(← Op.equal t x y))))) :
    Done X μ m w (.bool r) m ((binOp .eql t x y).run X.P w) ∧ Done X μ m w (.bool (!r)) m ((binOp .neq t x y).run X.P w) :=
  ⟨.same h (.bool _) (by rw [h1]; simp [hr]), .same h (.bool _) (by rw [h2]; simp [hr])⟩
theorem sameAddr_two {P : Program} {a b : Addr} {ca cb : Array Value} {ta tb : TypeId} {fa fb : Nat × Nat} (hne : a.block ≠ b.block) (ha : w.heap[a.block]? = some (.cells ca ta fa)) (hb : w.heap[b.block]? = some (.cells cb tb fb))
    (hc : 0 < ca.size) (hd : 0 < cb.size) (hf : (∀ o, o ≤ ca.size → ¬ (fa.1 ≤ o ∧ o < fa.2)) ∧ a.off ≤ ca.size ∨ (∀ o, o ≤ cb.size → ¬ (fb.1 ≤ o ∧ o < fb.2)) ∧ b.off ≤ cb.size) :
    (sameAddr a b).run P w = .ok false w := by
  have hca : ca.size ≠ 0 := by omega
  have hcb : cb.size ≠ 0 := by omega
  obtain ⟨fa1, fa2⟩ := fa
  obtain ⟨fb1, fb2⟩ := fb
  have key : (w.frozen? a = false ∧ w.frozen? { block := a.block, off := ca.size } = false) ∨ (w.frozen? b = false ∧ w.frozen? { block := b.block, off := cb.size } = false) := by
    rcases hf with ⟨h1, h2⟩ | ⟨h1, h2⟩
    · left
      have e1 := h1 _ h2
      have e2 := h1 _ (Nat.le_refl _)
      simp only [World.frozen?, ha, Bool.and_eq_false_iff, decide_eq_false_iff_not] at e1 e2 ⊢
      constructor <;> omega
    · right
      have e1 := h1 _ h2
      have e2 := h1 _ (Nat.le_refl _)
      simp only [World.frozen?, hb, Bool.and_eq_false_iff, decide_eq_false_iff_not] at e1 e2 ⊢
      constructor <;> omega
  have sha : w.shape? a.block = some (ta, ca.size) := by simp [World.shape?, ha]
  have shb : w.shape? b.block = some (tb, cb.size) := by simp [World.shape?, hb]
  have zero : ∀ n : Nat, n ≠ 0 → ∀ t : TypeId, (match some (t, n) with | some (_, 0) => true | _ => false) = false := fun n hn t => by
    cases n with
    | zero => exact absurd rfl hn
    | succ n => rfl
  cases hca' : ca.size with
  | zero => omega
  | succ na =>
    cases hcb' : cb.size with
    | zero => omega
    | succ nb =>
      rw [hca'] at sha key
      rw [hcb'] at shb key
      rcases key with ⟨k1, k2⟩ | ⟨k1, k2⟩
      · simp [sameAddr, hne, k1, k2, noView, viewAt, sha, shb, mayBeOne, stringish]
      · simp [sameAddr, hne, k1, k2, noView, viewAt, sha, shb, mayBeOne, stringish]

section shapes
variable {ks : List Bool} {op : BinOp} {a : AV} {r : AV × Mem}
theorem evBin_int {k : IntKind} {n : Int} (he : evBin ks op a (.int k n) ret m = some r) : ∃ k' n', a = .int k' n' := by
  cases a with
  | int k' n' => exact ⟨k', n', rfl⟩
  | _ => exfalso; cases op <;> cases he
theorem evBin_str {s : List UInt8} (he : evBin ks op a (.str s) ret m = some r) : ∃ s', a = .str s' := by
  cases a with
  | str s' => exact ⟨s', rfl⟩
  | _ => exfalso; cases op <;> cases he
theorem evBin_bool {b : Bool} (he : evBin ks op a (.bool b) ret m = some r) : (op = .eql ∨ op = .neq) ∧ ∃ b', a = .bool b' := by
  cases a with
  | bool b' => exact ⟨by cases op <;> first | exact .inl rfl | exact .inr rfl | (cases he), b', rfl⟩
  | _ => exfalso; cases op <;> cases he
theorem evBin_ptr {p : Option (Nat × Nat)} (he : evBin ks op a (.ptr p) ret m = some r) : (op = .eql ∨ op = .neq) ∧ ∃ q, a = .ptr q := by
  cases a with
  | ptr q => exact ⟨by cases op <;> first | exact .inl rfl | exact .inr rfl | (cases he), q, rfl⟩
  | _ => exfalso; cases op <;> cases he
theorem evBin_slice {s : Option SV} (he : evBin ks op a (.slice s) ret m = some r) : (op = .eql ∨ op = .neq) ∧ s = none ∧ ∃ q, a = .slice q := by
  cases s with
  | some s => exfalso; cases a <;> cases op <;> cases he
  | none =>
    cases a with
    | slice q => exact ⟨by cases op <;> first | exact .inl rfl | exact .inr rfl | (cases he), rfl, q, rfl⟩
    | _ => exfalso; cases op <;> cases he
theorem evBin_map {s : Option Nat} (he : evBin ks op a (.map s) ret m = some r) : (op = .eql ∨ op = .neq) ∧ s = none ∧ ∃ q, a = .map q := by
  cases s with
  | some s => exfalso; cases a <;> cases op <;> cases he
  | none =>
    cases a with
    | map q => exact ⟨by cases op <;> first | exact .inl rfl | exact .inr rfl | (cases he), rfl, q, rfl⟩
    | _ => exfalso; cases op <;> cases he
theorem evBin_agg {l : List AV} (he : evBin ks op a (.agg l) ret m = some r) : (op = .eql ∨ op = .neq) ∧ ∃ q, a = .agg q := by
  cases a with
  | agg q => exact ⟨by cases op <;> first | exact .inl rfl | exact .inr rfl | (cases he), q, rfl⟩
  | _ => exfalso; cases op <;> cases he
theorem evBin_nilif (he : evBin ks op a .nilif ret m = some r) : (op = .eql ∨ op = .neq) ∧ (a = .nilif ∨ ∃ t v, a = .iface t v) := by
  cases a with
  | nilif => exact ⟨by cases op <;> first | exact .inl rfl | exact .inr rfl | (cases he), .inl rfl⟩
  | iface t v => exact ⟨by cases op <;> first | exact .inl rfl | exact .inr rfl | (cases he), .inr ⟨t, v, rfl⟩⟩
  | _ => exfalso; cases op <;> cases he
theorem evBin_nilfn (he : evBin ks op a .nilfn ret m = some r) : (op = .eql ∨ op = .neq) ∧ (a = .nilfn ∨ ∃ f x y, a = .fn f x y) := by
  cases a with
  | nilfn => exact ⟨by cases op <;> first | exact .inl rfl | exact .inr rfl | (cases he), .inl rfl⟩
  | fn f x y => exact ⟨by cases op <;> first | exact .inl rfl | exact .inr rfl | (cases he), .inr ⟨f, x, y, rfl⟩⟩
  | _ => exfalso; cases op <;> cases he
end shapes

theorem ti_some {t : TypeId} {K : TI → C} {r : AV × Mem} (h : E.ti t K m = some r) : ∃ i, E.tt.get t = some i ∧ K i m = some r := by
  unfold Env.ti at h
  cases hg : E.tt.get t with
  | none => rw [hg] at h; cases h
  | some i => rw [hg] at h; exact ⟨i, rfl, h⟩

theorem equal_nil2 {P : Program} {t e : TypeId} (hu : P.underlying t = some (.pointer e)) (d : Nat) : (Op.equalIn (d + 1) t (.pointer none) (.pointer none)).run P w = .ok true w := by
  simp [Op.equalIn, run_und hu]
theorem equal_nilL {P : Program} {t e : TypeId} (hu : P.underlying t = some (.pointer e)) (a : Addr) (d : Nat) : (Op.equalIn (d + 1) t (.pointer none) (.pointer (some a))).run P w = .ok false w := by
  simp [Op.equalIn, run_und hu]
theorem equal_nilR {P : Program} {t e : TypeId} (hu : P.underlying t = some (.pointer e)) (a : Addr) (d : Nat) : (Op.equalIn (d + 1) t (.pointer (some a)) (.pointer none)).run P w = .ok false w := by
  simp [Op.equalIn, run_und hu]
theorem equal_two {P : Program} {t e : TypeId} {ie : TypeInfo} (hu : P.underlying t = some (.pointer e)) (hi : P.info? e = some ie) (hs : ie.size ≠ 0) (a c : Addr) {b : Bool} (hb : (sameAddr a c).run P w = .ok b w) (d : Nat) :
    (Op.equalIn (d + 1) t (.pointer (some a)) (.pointer (some c))).run P w = .ok b w := by
  have hso : (sizeOf e).run P w = .ok ie.size w := by simp [Go.sizeOf, run_ti hi]
  simp [Op.equalIn, run_und hu, hso, hs, hb]
theorem ptrEq_run {p q : Option (Nat × Nat)} {ua ub : Value} (h : R X μ m w) (hx : VR μ m.next w (.ptr p) ua) (hy : VR μ m.next w (.ptr q) ub) {t e : TypeId} {ie : TypeInfo} (hu : X.P.underlying t = some (.pointer e)) (hi : X.P.info? e = some ie) (hs : ie.size ≠ 0)
    {K : Bool → C} {r : AV × Mem} (he : ptrEqC p q K m = some r) : ∃ b, (Op.equal t ua ub).run X.P w = .ok b w ∧ K b m = some r := by
  unfold ptrEqC at he
  cases hx with
  | nilptr =>
    cases hy with
    | nilptr => exact ⟨true, equal_nil2 hu 9999, he⟩
    | ptr j u hj => exact ⟨false, equal_nilL hu _ 9999, he⟩
  | ptr i o hi' =>
    cases hy with
    | nilptr => exact ⟨false, equal_nilR hu _ 9999, he⟩
    | ptr j u hj =>
      have hrun : ∀ b, (sameAddr ⟨(μ i).1, (μ i).2 + o, none⟩ ⟨(μ j).1, (μ j).2 + u, none⟩).run X.P w = .ok b w →
          (Op.equal t (.pointer (some ⟨(μ i).1, (μ i).2 + o, none⟩)) (.pointer (some ⟨(μ j).1, (μ j).2 + u, none⟩))).run X.P w = .ok b w := fun b hb => equal_two hu hi hs _ _ hb 9999
      simp only [] at he
      by_cases hij : i = j
      · rw [decide_eq_true hij] at he
        subst hij
        refine ⟨decide (o = u), hrun _ ?_, he⟩
        simp only [sameAddr, beq_self_eq_true, if_true, Sem.run_pure]
        congr 1
        by_cases hou : o = u
        · subst hou; simp
        · simp [hou]
      · rw [decide_eq_false hij] at he
        simp only [] at he
        cases hl : m.cells i with
        | none => rw [hl] at he; cases he
        | some l =>
          cases hr : m.cells j with
          | none => rw [hl, hr] at he; cases he
          | some l' =>
            rw [hl, hr] at he
            simp only [] at he
            by_cases hc : (m.base ≤ i ∨ m.base ≤ j) ∧ o < l.length ∧ u < l'.length
            · rw [decide_eq_true hc] at he
              obtain ⟨hb, ho, hu'⟩ := hc
              refine ⟨false, hrun _ ?_, he⟩
              obtain ⟨cs, e1, fz, g1, g2, g3, g4, g5⟩ := h.cells hl
              obtain ⟨cs', e1', fz', g1', g2', g3', g4', g5'⟩ := h.cells hr
              rw [h.base] at hb
              have hne : (μ i).1 ≠ (μ j).1 := by
                rcases hb with hb | hb
                · exact h.inj i j hb (by rw [Mem.cells_some hl]; simp) (by rw [Mem.cells_some hr]; simp) hij
                · exact fun e => h.inj j i hb (by rw [Mem.cells_some hr]; simp) (by rw [Mem.cells_some hl]; simp) (Ne.symm hij) e.symm
              refine sameAddr_two (ca := cs.toArray) (cb := cs'.toArray) hne g1 g1' (by simp; omega) (by simp; omega) ?_
              rcases hb with hb | hb
              · exact .inl ⟨by simpa using g5 hb, by simp; omega⟩
              · exact .inr ⟨by simpa using g5' hb, by simp; omega⟩
            · rw [decide_eq_false hc] at he; cases he
end Go.Am
