/-
Each operation of the code hands its one answer on.
-/
import Derived.Test.YtboilkakbgalgaaDoorAmLaw
namespace Go.Am
open Go

theorem law_evBin (ks : List Bool) (op : BinOp) (x y : AV) : LawA fun K => evBin ks op x y K := by
  unfold evBin
  split <;> first
    | exact LawA.fail
    | exact LawA.pure _
    | exact LawA.bc _ (LawA.pure _) LawA.fail
    | exact LawA.bind (law_cat _ _) fun _ => LawA.pure _
    | exact LawA.bind (law_ptrEqC _ _) fun _ => LawA.pure _
    | exact LawA.bind (law_eqAgg _ _ _) fun _ => LawA.pure _
    | exact LawA.bind (law_ifNilIf _) fun _ => LawA.pure _
    | exact LawA.bind (law_ifNilFn _) fun _ => LawA.pure _
    | skip
  refine LawA.bc _ ?_ LawA.fail
  split <;> first
    | exact LawA.fail
    | exact LawA.pure _
    | exact LawA.bc _ LawA.fail (LawA.pure _)
theorem law_evBinN (ks : List Bool) (op : BinOp) (x y : AV) : LawA fun K => evBinN ks op x y K := (law_evBin ks op x y).congr fun K m => by rw [evBinN_eq]
theorem law_binT (E : Env) (t : TypeId) (c : Bool) (b : AV) {Y : List Bool → (AV → C) → C} (h' : ∀ ks, LawA (Y ks)) : LawA fun K => binT E t c b fun ks => Y ks K := by
  unfold binT
  split
  · exact h' _
  · exact h' _
  · refine law_ti _ _ fun _ => ?_
    split
    · exact h' _
    · exact LawA.fail
  · refine law_ti _ _ fun _ => ?_
    split
    · refine law_ti _ _ fun _ => ?_
      split
      · exact LawA.fail
      · exact h' _
    · exact LawA.fail
  · refine law_ti _ _ fun _ => ?_
    split
    · exact h' _
    · exact LawA.fail
  · refine law_ti _ _ fun _ => ?_
    split
    · exact h' _
    · exact LawA.fail
  · split
    · refine law_ti _ _ fun _ => ?_
      split
      · exact h' _
      · exact LawA.fail
    · exact LawA.fail
  · refine law_ti _ _ fun _ => ?_
    split
    · exact h' _
    · exact LawA.fail
  · refine law_ti _ _ fun _ => ?_
    split
    · exact LawA.fail
    · exact h' _
  · exact LawA.fail
theorem law_evUn (op : UnOp) (x : AV) : LawA fun K => evUn op x K := by
  unfold evUn
  split <;> first
    | exact LawA.fail
    | exact LawA.pure _
theorem law_evConv (E : Env) (i j : TI) (x : AV) : LawA fun K => evConv E i j x K := by
  unfold evConv
  split
  · exact LawA.pure _
  · exact LawA.pure _
  · refine law_ti _ _ fun _ => ?_
    split
    · exact LawA.bind (law_strOf _) fun _ => LawA.pure _
    · exact LawA.fail
  · exact LawA.fail
theorem law_evBuiltin (E : Env) (ro : Bool) (b : Builtin) (ts : List TypeId) (args : List AV) : LawA fun K => evBuiltin E ro b ts args K := by
  unfold evBuiltin
  split
  · refine law_ti _ _ fun _ => ?_
    split
    · exact LawA.pure _
    · exact LawA.pure _
    · exact LawA.pure _
    · refine law_ti _ _ fun _ => ?_
      split
      · exact LawA.pure _
      · exact LawA.fail
    · exact LawA.fail
  · refine law_ti _ _ fun _ => ?_
    split
    · exact LawA.bind (law_capS _) fun _ => LawA.pure _
    · exact LawA.fail
  · exact law_optC _
  · exact law_optC _
  · refine law_ti _ _ fun _ => law_ti _ _ fun _ => ?_
    split
    · exact law_tv _ _ fun _ => LawA.bind (law_withRo _ (law_app _ _ _ _)) fun _ => LawA.pure _
    · refine law_tv _ _ fun _ => ?_
      split
      · exact LawA.bind (law_withRo _ (law_appStr _ _)) fun _ => LawA.pure _
      · exact LawA.fail
    · exact LawA.fail
  · refine law_roOk _ (law_ti _ _ fun _ => law_ti _ _ fun _ => ?_)
    split
    · exact law_ti _ _ fun _ => LawA.bind (law_cpy _ _ _) fun _ => LawA.pure _
    · exact LawA.fail
  · refine law_roOk _ (law_ti _ _ fun _ => ?_)
    split
    · exact law_tv _ _ fun _ => LawA.bind (law_clr _ _ _) fun _ => LawA.pure _
    · exact LawA.fail
  · refine law_roOk _ (law_ti _ _ fun _ => ?_)
    split
    · refine law_ti _ _ fun _ => ?_
      split
      · exact LawA.bind (law_del _ _) fun _ => LawA.pure _
      · exact LawA.fail
    · exact LawA.fail
  · exact LawA.fail

theorem law_evOp (E : Env) (ro : Bool) (o : Oper) (fr : Fr) : LawA fun K => evOp E ro o fr K := by
  unfold evOp
  split
  · exact law_optC _
  · exact law_optC _
  · split
    · split
      · exact LawA.pure _
      · exact LawA.bc _ (law_optC _) (law_optC _)
    · exact LawA.fail
  · exact law_tv _ _ fun _ => LawA.bind (law_new _) fun _ => LawA.pure _
  · exact law_ti _ _ fun _ => LawA.bind (law_optC _) fun _ => LawA.bind (law_gather _) fun _ => LawA.bind (law_new _) fun _ => LawA.pure _
  · refine law_ti _ _ fun _ => ?_
    split
    · split
      · split
        · exact LawA.bind (law_fields _ _ _ _ _) fun _ => LawA.bind (law_gather _) fun _ => LawA.pure _
        · exact LawA.fail
      · split
        · exact law_ti _ _ fun _ => LawA.bc _ (LawA.bind (law_gather _) fun _ => LawA.pure _) LawA.fail
        · exact LawA.fail
      · exact LawA.fail
    · exact LawA.fail
  · refine law_ti _ _ fun _ => ?_
    split
    · split
      · split
        · refine law_tv _ _ fun _ => ?_
          split
          · exact LawA.bind (law_gather _) fun _ => LawA.bind (law_new _) fun _ => LawA.pure _
          · exact LawA.fail
        · exact LawA.fail
      · exact LawA.fail
    · exact LawA.fail
  · refine law_ti _ _ fun i => ?_
    split
    · split
      · exact LawA.bind (law_ldN _ _ _) fun _ => LawA.pure _
      · exact LawA.bind (law_ld _ _) (Z := fun v K => destr1 i K v) fun v => law_destr1 i v
    · exact LawA.fail
  · refine law_roOk _ (law_ti _ _ fun _ => ?_)
    split
    · split
      · exact LawA.bind (law_stN _ _ _ _) fun _ => LawA.pure _
      · split
        · exact LawA.bind (law_st _ _ _) fun _ => LawA.pure _
        · exact LawA.fail
    · exact LawA.fail
  · split
    · exact LawA.bind (law_chk _) (Z := fun p (K : AV → C) => K (AV.ptr (some (p.1, p.2)))) fun _ => LawA.pure _
    · exact LawA.fail
  · split
    · exact law_binT _ _ _ _ fun ks => law_evBinN ks _ _ _
    · exact LawA.fail
  · split
    · exact law_evUn _ _
    · exact LawA.fail
  · refine law_ti _ _ fun _ => law_ti _ _ fun _ => ?_
    split
    · exact law_evConv _ _ _ _
    · exact LawA.fail
  · split
    · refine law_ti _ _ fun _ => ?_
      split
      · exact LawA.fail
      · exact LawA.pure _
    · exact LawA.fail
  · split
    · exact LawA.pure _
    · exact LawA.fail
  · refine law_ti _ _ fun _ => ?_
    split
    · refine law_ti _ _ fun _ => ?_
      split
      · exact LawA.bind law_newMap fun _ => LawA.pure _
      · exact LawA.fail
    · exact LawA.fail
  · refine law_ti _ _ fun _ => ?_
    split
    · exact law_tv _ _ fun _ => LawA.bind (law_mk _ _ _ _ _) fun _ => LawA.pure _
    · exact LawA.fail
  · split
    · refine law_ti _ _ fun _ => ?_
      split
      · split
        · exact LawA.bind (law_cutStr _ _ _) fun _ => LawA.pure _
        · exact LawA.fail
      · exact law_ti _ _ fun _ => LawA.bind (law_cut _ _ _ _ _) fun _ => LawA.pure _
      · exact law_ti _ _ fun _ => LawA.bind (law_cutArr _ _ _ _ _ _ _) fun _ => LawA.pure _
      · exact LawA.fail
    · exact LawA.fail
  · refine law_ti _ _ fun _ => ?_
    split
    · split
      · refine law_ti _ _ fun _ => ?_
        split
        · exact LawA.fail
        · exact LawA.pure _
      · exact LawA.fail
    · exact LawA.fail
  · refine law_ti _ _ fun _ => ?_
    split
    · split
      · refine law_ti _ _ fun ift => ?_
        split
        · exact LawA.pure _
        · exact LawA.bind (law_one1 _) (Z := fun v K => destr1 ift K v) fun _ => law_destr1 _ _
      · exact LawA.fail
    · exact LawA.fail
  · refine law_ti _ _ fun _ => ?_
    split
    · exact law_ti _ _ fun _ => LawA.bind (law_ixS _ _ _) (Z := fun p (K : AV → C) => K (AV.ptr (some (p.1, p.2)))) fun _ => LawA.pure _
    · exact law_ti _ _ fun _ => LawA.bind (law_ixA _ _ _ _ _) (Z := fun p (K : AV → C) => K (AV.ptr (some (p.1, p.2)))) fun _ => LawA.pure _
    · exact LawA.fail
  · refine law_ti _ _ fun _ => ?_
    split
    · exact LawA.bind (law_ixStr _ _) fun _ => LawA.pure _
    · refine law_ti _ _ fun ie => ?_
      split
      · exact LawA.bind (law_ixV _ _ _ _) fun _ => LawA.pure _
      · exact LawA.bind (law_ixV _ _ _ _) (Z := fun l K => one1 (destr1 ie K) l) fun l => LawA.bind (law_one1 l) (Z := fun v K => destr1 ie K v) fun _ => law_destr1 _ _
    · exact LawA.fail
  · refine law_ti _ _ fun _ => ?_
    split
    · refine law_ti _ _ fun _ => law_tv _ _ fun ie => ?_
      split
      · exact LawA.bind (law_look _ _ _) (Z := fun v K => destr1 ie K v) fun _ => law_destr1 _ _
      · exact LawA.fail
    · exact LawA.fail
  · refine law_roOk _ (law_ti _ _ fun _ => ?_)
    split
    · refine law_ti _ _ fun _ => ?_
      split
      · exact LawA.bind (law_upd _ _ _) fun _ => LawA.pure _
      · exact LawA.fail
    · exact LawA.fail
  · split
    · exact law_optC _
    · exact LawA.fail
  · split
    · exact law_evBuiltin _ _ _ _ _
    · exact LawA.fail
  · split
    · split
      · exact LawA.bind (law_callRo _ _) (Z := fun v K => destr E _ K v) fun _ => law_destr _ _ _
      · exact LawA.bind (law_call _ _) (Z := fun v K => destr E _ K v) fun _ => law_destr _ _ _
    · exact LawA.fail
  · split
    · exact LawA.bind (law_callV _ _ _ _) (Z := fun v K => destr E _ K v) fun _ => law_destr _ _ _
    · exact LawA.fail
  · exact LawA.fail
/-- What an operation hands on. -/
theorem evOp_ret {E : Env} {ro : Bool} {o : Oper} {fr : Fr} {K : AV → C} {m : Mem} {r : AV × Mem} (h : evOp E ro o fr K m = some r) :
    ∃ v m', evOp E ro o fr ret m = some (v, m') ∧ K v m' = some r := (law_evOp E ro o fr).ret h

end Go.Am
