/-
detentlaw25.CallBlanks: whatever it is handed, it answers true, and leaves what it was handed as it was.
Conditions: none beyond the given statement.
-/
import Derived.Test.YtboilkakbgalgaaDoorCallBlanks
import Derived.Test.YtboilkakbgalgaaDoorAmRow
import Derived.Test.YtboilkakbgalgaaDoorAmSnd
import Derived.Test.YtboilkakbgalgaaDoorChecked
import Derived.Test.YtboilkakbgalgaaDoorRows
import Derived.Test.YtboilkakbgalgaaDoorTie
import Derived.Test.YtboilkakbgalgaaDoorCards
namespace Go.Proofs.YtboilkakbgalgaaDoor
open Go Go.Am Go.ChangeShapes Go.WideShapes Go.ChangeAt Go.RowKit
open Go.ChangeMaps (open_string shut_string)
set_option linter.unusedVariables false
set_option maxRecDepth 100000
theorem callBlanks_own : ownKnob Tryd.prog.godebug = none := by kernel_rfl
theorem callBlanks_laidOut : laidOutB Tryd.prog = true := by kernel_rfl
theorem callBlanks_wok {W : World} (hsh : W.ShapedOpen Tryd.prog) (hL0 : laidMetH Tryd.prog Rows.callBlanksRow.laid W) : Go.AmT.WOk W := by
  have hL : laidMet Tryd.prog Rows.callBlanksRow.laid W := by rw [MakeChecks.laidMetH_plain _ _ _ (by kernel_rfl)] at hL0; exact hL0
  exact ⟨Tryd.laysM146.s1_3 W hsh, laid_tab (zs := Lib.pow10Tab) (by kernel_rfl) (by kernel_rfl) hL, laid_iface (n := "strconv.ErrSyntax") (by kernel_rfl) (by kernel_rfl) hL, laid_iface (n := "strconv.ErrRange") (by kernel_rfl) (by kernel_rfl) hL⟩
theorem callBlanks_lifted (os : Os) (started : os.Started) (H : Type) (enc : TypeId × Value → H) :
    ReturnsInHanded {} Tryd.checked os 6 .any (fun w args => (Rows.callBlanksSpec.pre enc Tryd.prog Tryd.f6 Rows.callBlanksRow.domain false w args ∧ laidMetH Tryd.prog Rows.callBlanksRow.laid w) ∧ sizedMet enc Tryd.prog Tryd.f6 (OpenSpec.ofChange Rows.callBlanksSpec) false w args)
      (Rows.callBlanksSpec.post enc Tryd.prog Tryd.f6 false true false false) := by
  refine returnsInHanded_of_change_and_shaped (C := Tryd.checked) (X := fun w _ => laidMetH Tryd.prog Rows.callBlanksRow.laid w) (fun _ _ _ hh h => h.of_heap hh) callBlanks_own started (by kernel_rfl) Tryd.func6
    (ChangeSpec.witness_shaped (enc := enc) (C := Tryd.checked) (os := os) (X := fun w _ => laidMetH Tryd.prog Rows.callBlanksRow.laid w) false (World.laidAll Tryd.prog os Rows.callBlanksRow.laid) #[.int .i64 0, .agg #[.int .i64 0, .int .i64 0, .int .i64 0, .int .i64 0], .int .i64 0] 8 (World.laidAll_os _ _ _)
      (World.shaped_of_ZipB (by kernel_rfl) (by kernel_rfl)) (by kernel_rfl) (by kernel_rfl) (by kernel_rfl)
      (by rw [MakeChecks.laidMetH_plain _ _ _ (by kernel_rfl)]; exact laidMet_laidAll _ (by kernel_rfl) (by kernel_rfl))) ?_
  intro W base args ds gs before hval0 hW hcnd hsz0 hL hsh _
  have hsz : (DataW.weightsEach Tryd.prog (Tryd.f6.params.toList ++ Rows.callBlanksSpec.plain.varTypes Tryd.prog) (ds ++ gs)).all (· ≤ reachBytes) = true := hsz0
  have hval : ∀ (j : Nat) t v, Tryd.f6.params[j]? = some t → args[j]? = some v → Value.okWide Tryd.prog W .any base t v := hval0
  have hW' := hW
  obtain ⟨p, q, hA0, hV, rfl, hfz, hnd⟩ := hW
  have hA : DataW.TrodAll enc Tryd.prog W 0 (fun _ => true) true Tryd.f6.params.toList args.toList ds p := hA0
  rw [Tryd.params6] at hA hval hsz
  obtain ⟨v0, vs0, d0, ds0, p0, q0, hargs, rfl, rfl, h0, r0⟩ := trodAll_cons hA
  obtain ⟨v1, vs1, d1, ds1, p1, q1, rfl, rfl, rfl, h1, r1⟩ := trodAll_cons r0
  obtain ⟨v2, vs2, d2, ds2, p2, q2, rfl, rfl, rfl, h2, r2⟩ := trodAll_cons r1
  obtain ⟨rfl, rfl, rfl⟩ := trodAll_nil r2
  obtain rfl : args = #[v0, v1, v2] := by cases args; simp_all
  obtain ⟨rfl, rfl⟩ := trodVars_none hV
  have k0 := h0
  have lt0 : ∀ x ∈ p0, x.block < W.heap.size := by obtain ⟨m, hm⟩ := k0; exact DataW.trod_lt m _ _ _ hm
  obtain ⟨a0, rfl, _, _, w0⟩ := open_int Tryd.underlying3 (hval 0 3 v0 rfl rfl) h0
  have k1 := h1
  have lt1 : ∀ x ∈ p1, x.block < W.heap.size := by obtain ⟨m, hm⟩ := k1; exact DataW.trod_lt m _ _ _ hm
  obtain ⟨a1, z1, rfl, w1⟩ := open_arr Tryd.underlying23 Tryd.underlying2 (by kernel_rfl) (by kernel_rfl) (hval 1 23 v1 rfl rfl) h1
  have k2 := h2
  have lt2 : ∀ x ∈ p2, x.block < W.heap.size := by obtain ⟨m, hm⟩ := k2; exact DataW.trod_lt m _ _ _ hm
  obtain ⟨a2, rfl, _, _, w2⟩ := open_int Tryd.underlying3 (hval 2 3 v2 rfl rfl) h2
  obtain ⟨k, m', hF⟩ := Go.AmT.pureCallBlanks a0 w0 a1 z1 w1 a2 w2
  refine ((Go.AmT.S6 (callBlanks_wok hsh hL) k).2 (fun _ => (0, 0)) m00 m' W _ _ _ hF (R.init _ _ _) (.cons _ _ _ _ (.int _ _) (.cons _ _ _ _ (VR.ints _ _) (.cons _ _ _ _ (.int _ _) .nil)))).mono fun e W' he => ?_
  obtain ⟨u, μ', rfl, hu, hR, _⟩ := he
  obtain rfl := hu.bool_eq
  have bel : Below W.heap.size W W' := hR.below
  exact ⟨_, rfl, _, _, _, [], _, [], hW', trodAll_mk1 (shut_bool Tryd.underlying4 _), (trodAll_cons_mk (Below.trod callBlanks_laidOut (by kernel_rfl) (of_decide_eq_true (by kernel_rfl)) k0 bel lt0) (trodAll_cons_mk (Below.trod callBlanks_laidOut (by kernel_rfl) (of_decide_eq_true (by kernel_rfl)) k1 bel lt1) (trodAll_cons_mk (Below.trod callBlanks_laidOut (by kernel_rfl) (of_decide_eq_true (by kernel_rfl)) k2 bel lt2) trodAll_mk0))), rfl, bel.frame _, fun h => by cases h⟩
theorem callBlanks_holds : Rows.CallBlanksSaid :=
  OpenClaim.holds_of_wide 6 Tryd.f6 rfl rfl rfl rfl rfl rfl rfl ⟨rfl, rfl, rfl, rfl, rfl⟩ rfl rfl rfl rfl rfl (by kernel_rfl) Tryd.func6 (by kernel_rfl)
    (of_decide_eq_true (by kernel_rfl)) (by unfold Func.isWrapper; first | (rw [if_pos (by decide +kernel)]; kernel_rfl) | (rw [if_neg (by decide +kernel)]; exact ⟨rfl, rfl⟩))
    (fun os started H enc _ => callBlanks_lifted os started H enc)
theorem callBlanks_card : Rows.CallBlanksCardSaid :=
  Claim7.holds_tied_plain_at .later [] [.data, .data, .data, .data, .sentinel, .sentinel, .pinned] true (true, "6581397cd3a30432c7b33fbca537ace5faae6046696f54d5b54399d23b1a0e25") true callBlanks_holds (fun _ h => by cases h) (by kernel_rfl) (fun _ h => by cases h) callBlanks_row_tie rfl ⟨rfl, rfl⟩ (by kernel_rfl) rfl
    (fun f fn hf hfn => by
      obtain rfl : f = 6 := Option.some.inj ((show Tryd.prog.funcNamed "detent/detentlaw25.CallBlanks" = some 6 by kernel_rfl).symm.trans hf) |>.symm
      obtain rfl : fn = Tryd.f6 := (Option.some.inj (Tryd.func6.symm.trans hfn)).symm
      exact ⟨by kernel_rfl, fun j t ht => by
        rw [Tryd.params6] at ht
        rcases j with _ | j
        · obtain rfl : t = 3 := by simpa using ht.symm
          exact (show Tryd.prog.wantsStandIn 3 = false by kernel_rfl)
        rcases j with _ | j
        · obtain rfl : t = 23 := by simpa using ht.symm
          exact (show Tryd.prog.wantsStandIn 23 = false by kernel_rfl)
        rcases j with _ | j
        · obtain rfl : t = 3 := by simpa using ht.symm
          exact (show Tryd.prog.wantsStandIn 3 = false by kernel_rfl)
        simp at ht⟩)
    (by kernel_rfl)
#print axioms callBlanks_card
end Go.Proofs.YtboilkakbgalgaaDoor
