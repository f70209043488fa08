/-
From the abstract machine to a row: the memory in which a call begins, the wrap that keeps what is laid and the world's shape, arguments opened.
-/
import Derived.Test.YtboilkakbgalgaaDoorAmLeaf
import Derived.HandedShaped
import Derived.Handed
import Derived.LaidLaws
import Derived.LaidSub
import Derived.Lay
import Derived.Lib.LaidTab
import Derived.Carry
import Derived.OpenShut
import Derived.WideShapes
import Derived.ShutString
import Derived.SevenTiedAt
import Derived.ProofKit
import Derived.LaidMore
import Derived.Stop.Joined
import Derived.WalkKit
import Derived.ChangeOld
namespace Go.Am
open Go Go.RowKit Go.Proofs Go.ChangeShapes Go.WideShapes

/-- The memory in which a call begins that is handed no block. -/
def m00 : Mem := ⟨0, 0, 0, .nil⟩
theorem m00_get (i : Nat) : m00.get i = none := by unfold m00 Mem.get; simp
theorem R.init (P : Program) (W : World) (μ : Nat → Nat × Nat) : R ⟨P, W, 0⟩ μ m00 W where
  below := .refl _ _
  wf id b h := by rw [m00_get] at h; cases h
  lo := ⟨Nat.le_refl _, Nat.le_refl _⟩
  blk id b h := by rw [m00_get] at h; cases h
  inj i j _ h := absurd (m00_get i) h
  new i _ h := absurd (m00_get i) h
  base := rfl

theorem returnsInHanded_of_change_and_shaped {H : Type} {enc : TypeId × Value → H} {a : Assume} {C : Checked} {os : Os} {f : FuncId} {fn : Func} {s : ChangeSpec} {conds : List PathCond} {apart fresh handsOn again : Bool} {X : World → Array Value → Prop}
    (hX : ∀ (w w' : World) (args : Array Value), w.heap = w'.heap → X w args → X w' args)
    (own : ownKnob C.prog.godebug = none) (started : os.Started) (noInit : C.prog.inits.idxOf? f = none) (hfn : C.prog.funcs[f]? = some fn)
    (witness : ∃ (w : World) (tape : Tape) (i : Input), w.os = os ∧ (w.forCall tape i).Shaped C.prog ∧ i.vars = [] ∧ Input.okWide C.prog (w.forCall tape i) .any w.heap.size f i ∧
      ((s.pre enc C.prog fn conds apart (w.forCall tape i).memory i.args ∧ X (w.forCall tape i).memory i.args) ∧ sizedMet enc C.prog fn (OpenSpec.ofChange s) apart (w.forCall tape i).memory i.args) ∧ a.holds C.prog (lone (Frame.enter C.prog f i.args .normal) [] (w.forCall tape i)))
    (contract : ∀ (W : World) (base : Nat) (args : Array Value) (ds gs : List (DataW H)) (before : List MemPlace),
      (∀ (j : Nat) t v, fn.params[j]? = some t → args[j]? = some v → Value.okWide C.prog W .any base t v) →
      DataW.Whole enc C.prog fn.params.toList s.vars apart W args.toList ds gs before →
      conds.all (PathCond.test C.prog ⟨fn.params.toList, ds, s.plain.varTypes C.prog, gs⟩) = true →
      (DataW.weightsEach C.prog (fn.params.toList ++ s.plain.varTypes C.prog) (ds ++ gs)).all (· ≤ reachBytes) = true → X W args → W.ShapedOpen C.prog →
      a.holds C.prog (lone (Frame.enter C.prog f args .normal) [] W) →
      Calls C.prog f args W fun e W' => ∃ v, e = .returned v ∧ s.post enc C.prog fn apart fresh handsOn again W args v W') :
    ReturnsInHanded a C os f .any (fun w args => (s.pre enc C.prog fn conds apart w args ∧ X w args) ∧ sizedMet enc C.prog fn (OpenSpec.ofChange s) apart w args) (s.post enc C.prog fn apart fresh handsOn again) := by
  refine returnsInHanded_of_calls own started noInit witness ?_
  intro w tape i _ hsh _ hok hpre hholds
  obtain ⟨_, _, _, fn', hfn', _, _, _, _, hval⟩ := hok
  have e : fn' = fn := Option.some.inj (hfn'.symm.trans hfn)
  subst e
  obtain ⟨⟨⟨ds, gs, before, hw, hc⟩, hx⟩, hz⟩ := hpre
  have hw' := DataW.Whole.of_heap (w' := w.forCall tape i) (by rfl) hw
  refine (contract (w.forCall tape i) w.heap.size i.args ds gs before hval hw' hc (hz.weights hw) (hX _ _ _ (by rfl) hx) hsh hholds).mono fun e W' ⟨v, he, hp⟩ => ?_
  subst he
  exact ChangeSpec.post_blind hp

/-- What a listed variable holds. -/
theorem laid_one {P : Program} {W : World} {l : List (String × DataW Unit)} {n : String} {d : DataW Unit} (hf : l.filter (fun x => x.1 == n) = [(n, d)]) (h : laidMet P l W) :
    ∃ g t cs fuel p, P.globalNamed n = some g ∧ (P.globals[g]?).map (·.type) = some t ∧ W.var? P n = some cs ∧ DataW.trod (fun _ => ()) P W 0 (fun _ => true) false fuel t cs.toList = some (d, p) := by
  have h1 := h.filter fun x => x.1 == n
  rw [hf] at h1
  obtain ⟨ps, ⟨g, t, cs, fuel, p, q, h2, h3, h4, h5, _⟩, _⟩ := h1
  exact ⟨g, t, cs, fuel, p, h2, h3, h4, h5⟩
def tabB (P : Program) (n : String) (k : IntKind) : Bool :=
  match P.globalNamed n with
  | some g => match (P.globals[g]?).map (·.type) with
    | some t => match P.underlying t with
      | some (.array c e) => (match P.underlying e with
        | some (.int k') => decide (k' = k)
        | _ => false) && decide (P.cellsOf e = 1) && decide (P.cellsOf t = c)
      | _ => false
    | none => false
  | none => false
theorem laid_tab {P : Program} {W : World} {l : List (String × DataW Unit)} {n : String} {k : IntKind} {zs : List Int} (hb : tabB P n k = true) (hf : l.filter (fun x => x.1 == n) = [(n, Lib.tabData k zs)]) (h : laidMet P l W) : W.var? P n = some (zs.map fun z => Value.int k z).toArray := by
  have h1 := h.filter fun x => x.1 == n
  rw [hf] at h1
  unfold tabB at hb
  split at hb
  · rename_i g hg
    split at hb
    · rename_i t hty
      split at hb
      · rename_i c e ht
        simp only [Bool.and_eq_true, decide_eq_true_eq] at hb
        obtain ⟨⟨hb, hce⟩, hct⟩ := hb
        split at hb
        · rename_i k' he
          obtain rfl : k' = k := by simpa using hb
          exact Lib.tabIs_of_head hg hty ht he hce hct h1
        · cases hb
      · cases hb
    · cases hb
  · cases hb
def ifaceB (P : Program) (n : String) : Bool :=
  match P.globalNamed n with
  | some g => match (P.globals[g]?).map (·.type) with
    | some t => match P.underlying t with
      | some (.interface _) => true
      | _ => false
    | none => false
  | none => false
def ifaceL (n : String) : List (String × DataW Unit) → Bool
  | [(m, .iface _ _)] => m == n
  | _ => false
theorem laid_iface {P : Program} {W : World} {l : List (String × DataW Unit)} {n : String} (hb : ifaceB P n = true) (hf : ifaceL n (l.filter (fun x => x.1 == n)) = true) (h : laidMet P l W) : ∃ tp p, W.var? P n = some #[.iface tp p] := by
  obtain ⟨nm, d, hf⟩ : ∃ nm d, l.filter (fun x => x.1 == n) = [(n, .iface nm d)] := by
    unfold ifaceL at hf
    split at hf
    · rename_i m nm d he
      obtain rfl : m = n := by simpa using hf
      exact ⟨nm, d, he⟩
    · cases hf
  obtain ⟨g', t', cs, fuel, p, h1, h2, h3, h4⟩ := laid_one hf h
  unfold ifaceB at hb
  rw [h1] at hb
  simp only [] at hb
  rw [h2] at hb
  simp only [] at hb
  split at hb
  · rename_i ms ht
    obtain ⟨_, u, v, h5, _⟩ := iface_of_trod ht h4
    refine ⟨u, v, ?_⟩
    rw [h3]
    congr 1
    exact Array.toList_inj.1 (by simpa using h5)
  · cases hb

theorem okWide_array {P : Program} {w : World} {r : Reach} {base n : Nat} {t e : TypeId} {v : Value} (ht : P.underlying t = some (.array n e)) (h : Value.okWide P w r base t v) : ∃ cs, v = .agg cs ∧ cs.size = P.cellsOf t := by
  unfold Value.okWide at h
  rw [ht] at h
  obtain ⟨cs, h1, h2, _⟩ := h
  exact ⟨cs, h1, h2⟩
/-- An array of whole numbers that came in. -/
theorem open_arr {H : Type} {enc : TypeId × Value → H} {P : Program} {w : World} {r : Reach} {base b0 n : Nat} {sp : Nat → Bool} {held : Bool} {t e : TypeId} {k : IntKind} {v : Value} {d : DataW H} {ps : List MemPlace} (ht : P.underlying t = some (.array n e)) (he : P.underlying e = some (.int k)) (hce : P.cellsOf e = 1) (hct : P.cellsOf t = n)
    (hval : Value.okWide P w r b0 t v) (hd : DataW.Trod enc P w base sp held t v d ps) : ∃ xs : List Int, xs.length = n ∧ v = .agg (xs.map fun x => Value.int k x).toArray ∧ ∀ x ∈ xs, (Lit.int k x).wf = true := by
  obtain ⟨cs, rfl, hs⟩ := okWide_array ht hval
  obtain ⟨fuel, hf⟩ := hd
  have hcl : (Value.agg cs).cells.toList = cs.toList := rfl
  rw [hcl] at hf
  obtain ⟨xs, m, _, _, hl, hn, hel⟩ := DataW.trod_array ht hf
  rw [hct] at hl
  have key : ∀ i, i < n → ∃ z, cs.toList[i]? = some (.int k z) ∧ (Lit.int k z).wf = true := fun i hi => by
    have h1 := hel i hi
    rw [hce, Nat.mul_one, List.getElem?_eq_getElem (by omega)] at h1
    obtain ⟨z, e1, _, e3⟩ := DataW.trod_int he h1
    refine ⟨z, ?_, e3⟩
    have h0 : ((cs.toList.drop i).take 1)[0]? = some (.int k z) := by rw [e1]; rfl
    simpa using h0
  have all : ∀ l : List Value, (∀ i, i < l.length → ∃ z, l[i]? = some (.int k z) ∧ (Lit.int k z).wf = true) → ∃ xs : List Int, l = xs.map (fun x => Value.int k x) ∧ ∀ x ∈ xs, (Lit.int k x).wf = true := fun l => by
    induction l with
    | nil => exact fun _ => ⟨[], rfl, by simp⟩
    | cons c l ih =>
      intro h
      obtain ⟨z, h1, h2⟩ := h 0 (by simp)
      obtain ⟨xs, h3, h4⟩ := ih fun i hi => by simpa using h (i + 1) (by simpa using hi)
      refine ⟨z :: xs, by simp at h1; rw [h1, h3]; rfl, fun x hx => ?_⟩
      rcases List.mem_cons.1 hx with rfl | hx
      · exact h2
      · exact h4 x hx
  obtain ⟨ys, h1, h2⟩ := all cs.toList fun i hi => key i (by omega)
  refine ⟨ys, by rw [← hl, h1, List.length_map], ?_, h2⟩
  rw [← h1]
theorem VRs.ints {μ : Nat → Nat × Nat} {N : Nat} {w : World} (k : IntKind) : ∀ xs : List Int, VRs μ N w (xs.map fun x => AV.int k x) (xs.map fun x => Value.int k x)
  | [] => .nil
  | _ :: xs => .cons _ _ _ _ (.int _ _) (VRs.ints k xs)
theorem VR.ints {μ : Nat → Nat × Nat} {N : Nat} {w : World} (k : IntKind) (xs : List Int) : VR μ N w (.agg (xs.map fun x => AV.int k x)) (.agg (xs.map fun x => Value.int k x).toArray) :=
  .agg _ _ (by simpa using VRs.ints k xs) (by rw [List.all_eq_true]; intro x hx; obtain ⟨y, _, rfl⟩ := List.mem_map.1 hx; rfl)
theorem VR.str' {μ : Nat → Nat × Nat} {N : Nat} {w : World} (s : ByteArray) : VR μ N w (.str s.data.toList) (.string s) := by
  have := VR.str (μ := μ) (N := N) (w := w) s.data.toList
  simpa using this
end Go.Am
