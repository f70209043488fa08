/-
detentlaw25.CallWords: whatever it is handed, it answers true, and leaves what it was handed as it was.
Conditions: none beyond the given statement.
-/
import Derived.Test.YtboilkakbgalgaaDoorCallWords
import Derived.Test.YtboilkakbgalgaaDoorAmRow
import Derived.Test.YtboilkakbgalgaaDoorAmSnd
import Derived.Test.YtboilkakbgalgaaDoorChecked
import Derived.Test.YtboilkakbgalgaaDoorRows
import Derived.Test.YtboilkakbgalgaaDoorTie
import Derived.Test.YtboilkakbgalgaaDoorCards
namespace Go.Proofs.YtboilkakbgalgaaDoor
open Go Go.Am Go.ChangeShapes Go.WideShapes Go.ChangeAt Go.RowKit
open Go.ChangeMaps (open_string shut_string)
set_option linter.unusedVariables false
set_option maxRecDepth 100000
theorem callWords_own : ownKnob Tryd.prog.godebug = none := by kernel_rfl
theorem callWords_laidOut : laidOutB Tryd.prog = true := by kernel_rfl
theorem callWords_wok {W : World} (hsh : W.ShapedOpen Tryd.prog) (hL0 : laidMetH Tryd.prog Rows.callWordsRow.laid W) : Go.AmT.WOk W := by
  have hL : laidMet Tryd.prog Rows.callWordsRow.laid W := by rw [MakeChecks.laidMetH_plain _ _ _ (by kernel_rfl)] at hL0; exact hL0
  exact ⟨Tryd.laysM146.s1_3 W hsh, laid_tab (zs := Lib.pow10Tab) (by kernel_rfl) (by kernel_rfl) hL, laid_iface (n := "strconv.ErrSyntax") (by kernel_rfl) (by kernel_rfl) hL, laid_iface (n := "strconv.ErrRange") (by kernel_rfl) (by kernel_rfl) hL⟩
theorem callWords_lifted (os : Os) (started : os.Started) (H : Type) (enc : TypeId × Value → H) :
    ReturnsInHanded {} Tryd.checked os 7 .any (fun w args => (Rows.callWordsSpec.pre enc Tryd.prog Tryd.f7 Rows.callWordsRow.domain false w args ∧ laidMetH Tryd.prog Rows.callWordsRow.laid w) ∧ sizedMet enc Tryd.prog Tryd.f7 (OpenSpec.ofChange Rows.callWordsSpec) false w args)
      (Rows.callWordsSpec.post enc Tryd.prog Tryd.f7 false true false false) := by
  refine returnsInHanded_of_change_and_shaped (C := Tryd.checked) (X := fun w _ => laidMetH Tryd.prog Rows.callWordsRow.laid w) (fun _ _ _ hh h => h.of_heap hh) callWords_own started (by kernel_rfl) Tryd.func7
    (ChangeSpec.witness_shaped (enc := enc) (C := Tryd.checked) (os := os) (X := fun w _ => laidMetH Tryd.prog Rows.callWordsRow.laid w) false (World.laidAll Tryd.prog os Rows.callWordsRow.laid) #[.int .i64 0, .string ⟨#[]⟩] 8 (World.laidAll_os _ _ _)
      (World.shaped_of_ZipB (by kernel_rfl) (by kernel_rfl)) (by kernel_rfl) (by kernel_rfl) (by kernel_rfl)
      (by rw [MakeChecks.laidMetH_plain _ _ _ (by kernel_rfl)]; exact laidMet_laidAll _ (by kernel_rfl) (by kernel_rfl))) ?_
  intro W base args ds gs before hval0 hW hcnd hsz0 hL hsh _
  have hsz : (DataW.weightsEach Tryd.prog (Tryd.f7.params.toList ++ Rows.callWordsSpec.plain.varTypes Tryd.prog) (ds ++ gs)).all (· ≤ reachBytes) = true := hsz0
  have hval : ∀ (j : Nat) t v, Tryd.f7.params[j]? = some t → args[j]? = some v → Value.okWide Tryd.prog W .any base t v := hval0
  have hW' := hW
  obtain ⟨p, q, hA0, hV, rfl, hfz, hnd⟩ := hW
  have hA : DataW.TrodAll enc Tryd.prog W 0 (fun _ => true) true Tryd.f7.params.toList args.toList ds p := hA0
  rw [Tryd.params7] at hA hval hsz
  obtain ⟨v0, vs0, d0, ds0, p0, q0, hargs, rfl, rfl, h0, r0⟩ := trodAll_cons hA
  obtain ⟨v1, vs1, d1, ds1, p1, q1, rfl, rfl, rfl, h1, r1⟩ := trodAll_cons r0
  obtain ⟨rfl, rfl, rfl⟩ := trodAll_nil r1
  obtain rfl : args = #[v0, v1] := by cases args; simp_all
  obtain ⟨rfl, rfl⟩ := trodVars_none hV
  have k0 := h0
  have lt0 : ∀ x ∈ p0, x.block < W.heap.size := by obtain ⟨m, hm⟩ := k0; exact DataW.trod_lt m _ _ _ hm
  obtain ⟨a0, rfl, _, _, w0⟩ := open_int Tryd.underlying3 (hval 0 3 v0 rfl rfl) h0
  have k1 := h1
  have lt1 : ∀ x ∈ p1, x.block < W.heap.size := by obtain ⟨m, hm⟩ := k1; exact DataW.trod_lt m _ _ _ hm
  obtain ⟨a1, rfl, _, _, y1⟩ := open_string Tryd.underlying9 (hval 1 9 v1 rfl rfl) h1
  obtain ⟨k, m', hF⟩ := Go.AmT.pureCallWords a0 w0 a1.data.toList
  refine ((Go.AmT.S7 (callWords_wok hsh hL) k).2 (fun _ => (0, 0)) m00 m' W _ _ _ hF (R.init _ _ _) (.cons _ _ _ _ (.int _ _) (.cons _ _ _ _ (VR.str' _) .nil))).mono fun e W' he => ?_
  obtain ⟨u, μ', rfl, hu, hR, _⟩ := he
  obtain rfl := hu.bool_eq
  have bel : Below W.heap.size W W' := hR.below
  exact ⟨_, rfl, _, _, _, [], _, [], hW', trodAll_mk1 (shut_bool Tryd.underlying4 _), (trodAll_cons_mk (Below.trod callWords_laidOut (by kernel_rfl) (of_decide_eq_true (by kernel_rfl)) k0 bel lt0) (trodAll_cons_mk (Below.trod callWords_laidOut (by kernel_rfl) (of_decide_eq_true (by kernel_rfl)) k1 bel lt1) trodAll_mk0)), rfl, bel.frame _, fun h => by cases h⟩
theorem callWords_holds : Rows.CallWordsSaid :=
  OpenClaim.holds_of_wide 7 Tryd.f7 rfl rfl rfl rfl rfl rfl rfl ⟨rfl, rfl, rfl, rfl, rfl⟩ rfl rfl rfl rfl rfl (by kernel_rfl) Tryd.func7 (by kernel_rfl)
    (of_decide_eq_true (by kernel_rfl)) (by unfold Func.isWrapper; first | (rw [if_pos (by decide +kernel)]; kernel_rfl) | (rw [if_neg (by decide +kernel)]; exact ⟨rfl, rfl⟩))
    (fun os started H enc _ => callWords_lifted os started H enc)
theorem callWords_card : Rows.CallWordsCardSaid :=
  Claim7.holds_tied_plain_at .later [] [.data, .data, .data, .data, .sentinel, .sentinel, .pinned] true (true, "6581397cd3a30432c7b33fbca537ace5faae6046696f54d5b54399d23b1a0e25") true callWords_holds (fun _ h => by cases h) (by kernel_rfl) (fun _ h => by cases h) callWords_row_tie rfl ⟨rfl, rfl⟩ (by kernel_rfl) rfl
    (fun f fn hf hfn => by
      obtain rfl : f = 7 := Option.some.inj ((show Tryd.prog.funcNamed "detent/detentlaw25.CallWords" = some 7 by kernel_rfl).symm.trans hf) |>.symm
      obtain rfl : fn = Tryd.f7 := (Option.some.inj (Tryd.func7.symm.trans hfn)).symm
      exact ⟨by kernel_rfl, fun j t ht => by
        rw [Tryd.params7] at ht
        rcases j with _ | j
        · obtain rfl : t = 3 := by simpa using ht.symm
          exact (show Tryd.prog.wantsStandIn 3 = false by kernel_rfl)
        rcases j with _ | j
        · obtain rfl : t = 9 := by simpa using ht.symm
          exact (show Tryd.prog.wantsStandIn 9 = false by kernel_rfl)
        simp at ht⟩)
    (by kernel_rfl)
#print axioms callWords_card
end Go.Proofs.YtboilkakbgalgaaDoor
