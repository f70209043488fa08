/-
Each operation is a partial function of memory; what goes on goes on from its answer.
-/
import Derived.Test.YtboilkakbgalgaaDoorAmBase
namespace Go.Am
open Go

/-- What is read hands its answer on, and does nothing else. -/
def LawA {α : Type} (Y : (α → C) → C) : Prop := ∃ D : Mem → Option (α × Mem), ∀ K m, Y K m = match D m with
  | some (a, m') => K a m'
  | none => none
theorem LawA.pure {α : Type} (a : α) : LawA fun K : α → C => K a := ⟨fun m => some (a, m), fun _ _ => rfl⟩
theorem LawA.fail {α : Type} : LawA fun _ : α → C => fail := ⟨fun _ => none, fun _ _ => rfl⟩
theorem LawA.bind {α β : Type} {Y : (α → C) → C} {Z : α → (β → C) → C} (h : LawA Y) (k : ∀ a, LawA (Z a)) : LawA fun K => Y fun a => Z a K := by
  obtain ⟨D, hD⟩ := h
  obtain ⟨DZ, hZ⟩ : ∃ DZ : α → Mem → Option (β × Mem), ∀ a K m, Z a K m = match DZ a m with
      | some (a, m') => K a m'
      | none => none := ⟨fun a => (k a).choose, fun a => (k a).choose_spec⟩
  refine ⟨fun m => match D m with
    | some (a, m') => DZ a m'
    | none => none, fun K m => ?_⟩
  show Y (fun a => Z a K) m = _
  rw [hD]
  simp only []
  cases D m with
  | none => rfl
  | some p => exact hZ p.1 K p.2
/-- At each memory: handed on, or refused. -/
theorem LawA.at {α : Type} {Y : (α → C) → C} (h : ∀ m, (∃ a m', ∀ K, Y K m = K a m') ∨ (∀ K, Y K m = none)) : LawA Y := by
  have hd : ∀ m, ∃ d : Option (α × Mem), ∀ K, Y K m = match d with
      | some (a, m') => K a m'
      | none => none := fun m => by
    rcases h m with ⟨a, m', h⟩ | h
    · exact ⟨some (a, m'), h⟩
    · exact ⟨none, h⟩
  exact ⟨fun m => (hd m).choose, fun K m => (hd m).choose_spec K⟩
theorem LawA.bc {α : Type} {Y Z : (α → C) → C} (b : Bool) (h : LawA Y) (k : LawA Z) : LawA fun K => bc b (Y K) (Z K) := by
  cases b
  · exact k
  · exact h
theorem LawA.congr {α : Type} {Y Z : (α → C) → C} (h : LawA Y) (e : ∀ K m, Z K m = Y K m) : LawA Z := by
  obtain ⟨D, hD⟩ := h
  exact ⟨D, fun K m => (e K m).trans (hD K m)⟩
theorem LawA.ret {Y : (AV → C) → C} (h : LawA Y) {K : AV → C} {m : Mem} {r : AV × Mem} (hr : Y K m = some r) :
    ∃ v m', Y Am.ret m = some (v, m') ∧ K v m' = some r := by
  obtain ⟨D, hD⟩ := h
  rw [hD] at hr
  cases hd : D m with
  | none => rw [hd] at hr; cases hr
  | some p => rw [hd] at hr; exact ⟨p.1, p.2, by rw [hD, hd]; rfl, hr⟩

theorem evBinN_eq (ks : List Bool) (op : BinOp) (x y : AV) (K : AV → C) : evBinN ks op x y K = evBin ks op x y K := by
  cases y <;> first | rfl | (cases op <;> cases x <;> rfl)
section prim
theorem law_chk (p : Option (Nat × Nat)) : LawA fun K : Nat × Nat → C => chk p fun i o => K (i, o) := by
  cases p with
  | none => exact LawA.fail
  | some p => exact LawA.pure p
theorem law_ld (i o : Nat) : LawA (ld i o) := .at fun m => by
  unfold ld
  cases m.cells i with
  | none => exact .inr fun _ => rfl
  | some l =>
    simp only []
    cases l[o]? with
    | none => exact .inr fun _ => rfl
    | some v => exact .inl ⟨v, m, fun _ => rfl⟩
theorem law_ldN (n i o : Nat) : LawA (ldN n i o) := .at fun m => by
  unfold ldN
  cases m.cells i with
  | none => exact .inr fun _ => rfl
  | some l =>
    simp only []
    cases decide (o + n ≤ l.length) with
    | false => exact .inr fun _ => rfl
    | true => exact .inl ⟨_, m, fun _ => rfl⟩
theorem law_stN (n i o : Nat) (new : List AV) : LawA fun K : Unit → C => stN n i o new (K ()) := .at fun m => by
  unfold stN
  cases m.cells i with
  | none => exact .inr fun _ => rfl
  | some l =>
    simp only []
    generalize (decide (m.lo ≤ i ∧ new.length = n ∧ o + n ≤ l.length) && new.all AV.one) = b
    cases b with
    | false => exact .inr fun _ => rfl
    | true => exact .inl ⟨(), _, fun _ => rfl⟩
theorem law_st (i o : Nat) (v : AV) : LawA fun K : Unit → C => st i o v (K ()) := .at fun m => by
  unfold st
  cases m.cells i with
  | none => exact .inr fun _ => rfl
  | some l =>
    simp only []
    generalize (decide (m.lo ≤ i ∧ o < l.length) && v.one) = b
    cases b with
    | false => exact .inr fun _ => rfl
    | true => exact .inl ⟨(), _, fun _ => rfl⟩
theorem law_new (l : List AV) : LawA (new l) := .at fun m => by
  unfold new
  cases l.all AV.one with
  | false => exact .inr fun _ => rfl
  | true => exact .inl ⟨_, _, fun _ => rfl⟩
theorem law_newMap : LawA newMap := ⟨fun m => some (m.next, m.add (.map [])), fun _ _ => rfl⟩
theorem law_call (F : AFn) (args : List AV) : LawA (call F args) := ⟨F args, fun K m => by
  unfold call
  cases F args m with
  | none => rfl
  | some p => rfl⟩
theorem law_callRo (F : AFn) (args : List AV) : LawA (callRo F args) := .at fun m => by
  unfold callRo
  cases F args { m with lo := m.next } with
  | none => exact .inr fun _ => rfl
  | some p => exact .inl ⟨p.1, { p.2 with lo := m.lo }, fun _ => rfl⟩
theorem law_callV (ro : Bool) (tbl : FuncId → Option AFn) (f : AV) (args : List AV) : LawA (callV ro tbl f args) := by
  unfold callV
  cases f <;> first | exact LawA.fail | skip
  rename_i g first caps
  simp only []
  cases tbl g with
  | none => exact LawA.fail
  | some F => cases ro with
    | true => exact law_callRo _ _
    | false => exact law_call _ _
theorem law_ixS (sz : Nat) (s : Option SV) (x : Int) : LawA fun K : Nat × Nat → C => ixS sz s x fun i o => K (i, o) := by
  unfold ixS
  cases s with
  | none => exact LawA.fail
  | some s => exact LawA.bc _ (LawA.pure _) LawA.fail
theorem law_ixA (n sz i o : Nat) (x : Int) : LawA fun K : Nat × Nat → C => ixA n sz i o x fun i o => K (i, o) := LawA.bc _ (LawA.pure _) LawA.fail
theorem law_ixStr (s : List UInt8) (x : Int) : LawA (ixStr s x) := by
  unfold ixStr
  cases decide (0 ≤ x) <;> cases s[x.toNat]? <;> first | exact LawA.fail | exact LawA.pure _
theorem law_ixV (n sz : Nat) (l : List AV) (x : Int) : LawA (ixV n sz l x) := LawA.bc _ (LawA.pure _) LawA.fail
theorem law_one1 (l : List AV) : LawA fun K : AV → C => one1 K l := by
  unfold one1
  rcases l with _ | ⟨v, _ | ⟨u, l⟩⟩
  · exact LawA.fail
  · exact LawA.bc _ (LawA.pure _) LawA.fail
  · exact LawA.fail
theorem law_cut (sz : Nat) (s : Option SV) (lo hi mx : Option Int) : LawA (cut sz s lo hi mx) := by
  unfold cut
  cases s with
  | none =>
    simp only []
    cases cutBounds 0 0 lo hi mx with
    | none => exact LawA.fail
    | some p => exact LawA.pure _
  | some s =>
    refine LawA.bc _ ?_ LawA.fail
    cases cutBounds s.len s.cap lo hi mx with
    | none => exact LawA.fail
    | some p => exact LawA.pure _
theorem law_cutStr (s : List UInt8) (lo hi : Option Int) : LawA (cutStr s lo hi) := by
  unfold cutStr
  cases cutBounds s.length s.length lo hi none with
  | none => exact LawA.fail
  | some p => exact LawA.pure _
theorem law_cutArr (n sz i o : Nat) (lo hi mx : Option Int) : LawA (cutArr n sz i o lo hi mx) := .at fun m => by
  unfold cutArr
  cases m.cells i with
  | none => exact .inr fun _ => rfl
  | some c =>
    simp only []
    cases decide (o + n * sz ≤ c.length) with
    | false => exact .inr fun _ => rfl
    | true => cases cutBounds n n lo hi mx with
      | none => exact .inr fun _ => rfl
      | some p => exact .inl ⟨_, m, fun _ => rfl⟩
theorem law_appL (sz bytes : Nat) (s : Option SV) (n : Nat) (cells : List AV) : LawA (appL sz bytes s n cells) := .at fun m => by
  unfold appL
  cases n with
  | zero => exact .inl ⟨s, m, fun _ => rfl⟩
  | succ n =>
    cases s with
    | none =>
      simp only []
      generalize (decide (cells.length = (n + 1) * sz ∧ n + 1 ≤ most ∧ bytes ≤ 65536 ∧ 0 < bytes) && cells.all AV.one) = b
      cases b with
      | false => exact .inr fun _ => rfl
      | true => exact .inl ⟨_, _, fun _ => rfl⟩
    | some s =>
      simp only []
      cases m.cells s.id with
      | none => exact .inr fun _ => rfl
      | some l =>
        simp only []
        generalize (decide (s.sz = sz ∧ cells.length = (n + 1) * sz ∧ s.len + (n + 1) ≤ most ∧ bytes ≤ 65536 ∧ 0 < bytes ∧ s.off + s.len * sz ≤ l.length) && cells.all AV.one) = b
        cases b with
        | false => exact .inr fun _ => rfl
        | true =>
          simp only []
          cases decide (s.len + (n + 1) ≤ s.cap) with
          | true =>
            simp only []
            cases decide (m.lo ≤ s.id ∧ s.off + (s.len + (n + 1)) * sz ≤ l.length) with
            | false => exact .inr fun _ => rfl
            | true => exact .inl ⟨_, _, fun _ => rfl⟩
          | false =>
            simp only []
            cases s.ex with
            | true => exact .inl ⟨_, _, fun _ => rfl⟩
            | false =>
              simp only []
              cases decide (m.lo ≤ s.id) with
              | false => exact .inr fun _ => rfl
              | true => exact .inl ⟨_, _, fun _ => rfl⟩
theorem LawA.mem {α : Type} {Y : Mem → (α → C) → C} (h : ∀ m, LawA (Y m)) : LawA fun K m => Y m K m := .at fun m => by
  obtain ⟨D, hD⟩ := h m
  cases hd : D m with
  | none => exact .inr fun K => by show Y m K m = none; rw [hD, hd]
  | some p => exact .inl ⟨p.1, p.2, fun K => by show Y m K m = _; rw [hD, hd]⟩
theorem law_app (sz bytes : Nat) (s t : Option SV) : LawA (app sz bytes s t) := by
  refine LawA.mem (Y := fun m K => match m.row t sz (slen t).toNat with
    | some l => appL sz bytes s (slen t).toNat l K
    | none => fail) (fun m => ?_) |>.congr fun K m => ?_
  · cases m.row t sz (slen t).toNat with
    | none => exact LawA.fail
    | some l => exact law_appL _ _ _ _ _
  · unfold app
    cases m.row t sz (slen t).toNat <;> rfl
theorem law_appStr (s : Option SV) (t : List UInt8) : LawA (appStr s t) := law_appL _ _ _ _ _
theorem law_cpyL (sz : Nat) (d : Option SV) (n : Nat) (cells : List AV) : LawA (cpyL sz d n cells) := .at fun m => by
  unfold cpyL
  cases n with
  | zero => exact .inl ⟨0, m, fun _ => rfl⟩
  | succ n =>
    cases d with
    | none => exact .inr fun _ => rfl
    | some d =>
      simp only []
      cases m.cells d.id with
      | none => exact .inr fun _ => rfl
      | some l =>
        simp only []
        generalize (decide (m.lo ≤ d.id ∧ d.sz = sz ∧ cells.length = (n + 1) * sz ∧ n + 1 ≤ d.len ∧ d.off + (n + 1) * sz ≤ l.length) && cells.all AV.one) = b
        cases b with
        | false => exact .inr fun _ => rfl
        | true => exact .inl ⟨_, _, fun _ => rfl⟩
theorem law_cpy (sz : Nat) (d t : Option SV) : LawA (cpy sz d t) := by
  refine LawA.mem (Y := fun m K => match m.row t sz (min (slen t).toNat (slen d).toNat) with
    | some l => cpyL sz d (min (slen t).toNat (slen d).toNat) l K
    | none => fail) (fun m => ?_) |>.congr fun K m => ?_
  · cases m.row t sz (min (slen t).toNat (slen d).toNat) with
    | none => exact LawA.fail
    | some l => exact law_cpyL _ _ _ _
  · unfold cpy
    simp only []
    cases m.row t sz (min (slen t).toNat (slen d).toNat) <;> rfl
theorem law_clr (sz : Nat) (zero : List AV) (d : Option SV) : LawA fun K : Unit → C => clr sz zero d (K ()) := .at fun m => by
  unfold clr
  cases d with
  | none => exact .inl ⟨(), m, fun _ => rfl⟩
  | some s =>
    simp only []
    cases s.len with
    | zero => exact .inl ⟨(), m, fun _ => rfl⟩
    | succ n =>
      simp only []
      cases m.cells s.id with
      | none => exact .inr fun _ => rfl
      | some l =>
        simp only []
        generalize (decide (m.lo ≤ s.id ∧ s.sz = sz ∧ zero.length = sz ∧ s.off + (n + 1) * sz ≤ l.length) && zero.all AV.one) = b
        cases b with
        | false => exact .inr fun _ => rfl
        | true => exact .inl ⟨(), _, fun _ => rfl⟩
theorem law_mk (sz bytes : Nat) (zero : List AV) (n c : Int) : LawA (mk sz bytes zero n c) := .at fun m => by
  unfold mk
  generalize (decide (0 ≤ n ∧ n ≤ c ∧ c ≤ most ∧ bytes ≤ 65536 ∧ zero.length = sz ∧ 0 < sz) && zero.all AV.one) = b
  cases b with
  | false => exact .inr fun _ => rfl
  | true => exact .inl ⟨_, _, fun _ => rfl⟩
theorem law_look (r : Option Nat) (k : Int) (zero : AV) : LawA (look r k zero) := .at fun m => by
  unfold look
  cases r with
  | none => exact .inl ⟨zero, m, fun _ => rfl⟩
  | some r =>
    simp only []
    cases m.maps r with
    | none => exact .inr fun _ => rfl
    | some l => exact .inl ⟨_, m, fun _ => rfl⟩
theorem law_upd (r : Option Nat) (k : Int) (v : AV) : LawA fun K : Unit → C => upd r k v (K ()) := .at fun m => by
  unfold upd
  cases r with
  | none => exact .inr fun _ => rfl
  | some r =>
    simp only []
    cases m.maps r with
    | none => exact .inr fun _ => rfl
    | some l => cases decide (m.lo ≤ r) with
      | false => exact .inr fun _ => rfl
      | true => exact .inl ⟨(), _, fun _ => rfl⟩
theorem law_del (r : Option Nat) (k : Int) : LawA fun K : Unit → C => del r k (K ()) := .at fun m => by
  unfold del
  cases r with
  | none => exact .inl ⟨(), m, fun _ => rfl⟩
  | some r =>
    simp only []
    cases m.maps r with
    | none => exact .inr fun _ => rfl
    | some l => cases decide (m.lo ≤ r) with
      | false => exact .inr fun _ => rfl
      | true => exact .inl ⟨(), _, fun _ => rfl⟩
theorem law_cat (a b : List UInt8) : LawA (cat a b) := LawA.bc _ (LawA.pure _) LawA.fail
theorem law_strOf (s : Option SV) : LawA (strOf s) := .at fun m => by
  unfold strOf
  cases m.row s 1 (slen s).toNat with
  | none => exact .inr fun _ => rfl
  | some l =>
    simp only []
    cases asBytes l with
    | none => exact .inr fun _ => rfl
    | some b => exact .inl ⟨b, m, fun _ => rfl⟩
theorem law_ifNilIf (v : AV) : LawA (ifNilIf v) := by
  unfold ifNilIf
  cases v <;> first | exact LawA.pure _ | exact LawA.fail
theorem law_ifNilFn (v : AV) : LawA (ifNilFn v) := by
  unfold ifNilFn
  cases v <;> first | exact LawA.pure _ | exact LawA.fail
theorem law_ptrEqC (p q : Option (Nat × Nat)) : LawA (ptrEqC p q) := .at fun m => by
  unfold ptrEqC
  cases p with
  | none => cases q <;> exact .inl ⟨_, m, fun _ => rfl⟩
  | some p =>
    cases q with
    | none => exact .inl ⟨_, m, fun _ => rfl⟩
    | some q =>
      simp only []
      cases decide (p.1 = q.1) with
      | true => exact .inl ⟨_, m, fun _ => rfl⟩
      | false =>
        simp only []
        cases m.cells p.1 with
        | none => exact .inr fun _ => rfl
        | some l => cases m.cells q.1 with
          | none => exact .inr fun _ => rfl
          | some r =>
            simp only []
            cases decide ((m.base ≤ p.1 ∨ m.base ≤ q.1) ∧ p.2 < l.length ∧ q.2 < r.length) with
            | true => exact .inl ⟨_, m, fun _ => rfl⟩
            | false => exact .inr fun _ => rfl
theorem law_eqAgg (ks : List Bool) (l r : List AV) : LawA (eqAgg ks l r) := by
  unfold eqAgg
  split
  · exact LawA.pure _
  · exact LawA.fail
theorem law_optC (v : Option AV) : LawA (optC v) := by
  unfold optC
  cases v with
  | none => exact LawA.fail
  | some v => exact LawA.pure _
theorem law_capS (s : Option SV) : LawA (capS s) := by
  unfold capS
  cases s with
  | none => exact LawA.pure _
  | some s => exact LawA.bc _ (LawA.pure _) LawA.fail
theorem law_withRo {α : Type} (ro : Bool) {Y : (α → C) → C} (h : LawA Y) : LawA (withRo ro Y) := by
  unfold withRo
  cases ro with
  | false => exact h
  | true =>
    obtain ⟨D, hD⟩ := h
    refine .at fun m => ?_
    simp only [hD]
    cases D { m with lo := m.next } with
    | none => exact .inr fun _ => rfl
    | some p => exact .inl ⟨p.1, { p.2 with lo := m.lo }, fun _ => rfl⟩
theorem law_roOk {α : Type} (ro : Bool) {Y : (α → C) → C} (h : LawA Y) : LawA fun K => roOk ro (Y K) := by
  unfold roOk
  cases ro with
  | false => exact h
  | true => exact LawA.fail
theorem law_ti {α : Type} (E : Env) (t : TypeId) {Y : TI → (α → C) → C} (h : ∀ i, LawA (Y i)) : LawA fun K => E.ti t fun i => Y i K := by
  unfold Env.ti
  cases E.tt.get t with
  | none => exact LawA.fail
  | some i => exact h i
theorem law_tv {α : Type} (E : Env) (t : TypeId) {Y : TI → (α → C) → C} (h : ∀ i, LawA (Y i)) : LawA fun K => E.tv t fun i => Y i K := by
  unfold Env.tv
  refine law_ti E t fun i => ?_
  split
  · exact LawA.fail
  · exact h i
theorem dA_or (n : Nat) (v : AV) : (∀ K : AV → C, dA n (fun l => K (.agg l)) v = K v) ∨ (∀ K : AV → C, dA n (fun l => K (.agg l)) v = fail) := by
  cases v with
  | agg l =>
    by_cases h : l.length = n
    · exact .inl fun _ => by simp [dA, h]
    · exact .inr fun _ => by simp [dA, h]
  | _ => exact .inr fun _ => rfl
/-- What is taken apart is handed on, or refused. -/
theorem destr1_or (i : TI) (v : AV) : (∀ K, destr1 i K v = K v) ∨ (∀ K, destr1 i K v = fail) := by
  cases hk : i.kd with
  | bool =>
    simp only [destr1, hk]
    cases v <;> first | exact .inl fun _ => rfl | exact .inr fun _ => rfl
  | int k =>
    simp only [destr1, hk]
    cases v with
    | int k' n =>
      by_cases h : k' = k
      · subst h; exact .inl fun _ => by simp [dI]
      · exact .inr fun _ => by simp [dI, h]
    | _ => exact .inr fun _ => rfl
  | str =>
    simp only [destr1, hk]
    cases v <;> first | exact .inl fun _ => rfl | exact .inr fun _ => rfl
  | ptr e =>
    simp only [destr1, hk]
    cases v <;> first | exact .inl fun _ => rfl | exact .inr fun _ => rfl
  | slice e =>
    simp only [destr1, hk]
    cases v <;> first | exact .inl fun _ => rfl | exact .inr fun _ => rfl
  | map k e =>
    simp only [destr1, hk]
    cases v <;> first | exact .inl fun _ => rfl | exact .inr fun _ => rfl
  | fn => exact .inl fun _ => by simp only [destr1, hk, dV]
  | iface => exact .inl fun _ => by simp only [destr1, hk, dV]
  | struct fs => simp only [destr1, hk]; exact dA_or _ _
  | arr n e => simp only [destr1, hk]; exact dA_or _ _
  | tup ts =>
    cases ts with
    | nil =>
      simp only [destr1, hk]
      cases v with
      | tup l => cases l with
        | nil => exact .inl fun _ => rfl
        | cons _ _ => exact .inr fun _ => rfl
      | _ => exact .inr fun _ => rfl
    | cons a l => exact .inr fun _ => by simp only [destr1, hk]
  | other => exact .inr fun _ => by simp only [destr1, hk]
theorem law_destr1 (i : TI) (v : AV) : LawA fun K => destr1 i K v := by
  rcases destr1_or i v with h | h
  · simp only [h]; exact LawA.pure v
  · simp only [h]; exact LawA.fail
theorem destr1_some {i : TI} {K : AV → C} {v : AV} {m : Mem} {r : AV × Mem} (h : destr1 i K v m = some r) : K v m = some r := by
  rcases destr1_or i v with h1 | h1
  · rwa [h1] at h
  · rw [h1] at h; cases h
theorem destr_or (E : Env) (t : TypeId) (v : AV) : (∀ K, destr E t K v = K v) ∨ (∀ K, destr E t K v = fail) := by
  unfold destr Env.ti
  cases E.tt.get t with
  | none => exact .inr fun _ => rfl
  | some i =>
    simp only []
    split
    · rename_i a b _
      cases E.tt.get a with
      | none => exact .inr fun _ => rfl
      | some ia => cases E.tt.get b with
        | none => exact .inr fun _ => rfl
        | some ib =>
          simp only []
          rcases v with _ | _ | _ | _ | _ | _ | _ | _ | _ | _ | _ | l <;> try exact .inr fun _ => rfl
          rcases l with _ | ⟨x, _ | ⟨y, _ | ⟨_, _⟩⟩⟩ <;> try exact .inr fun _ => rfl
          rcases destr1_or ia x with h1 | h1
          · rcases destr1_or ib y with h2 | h2
            · exact .inl fun _ => by simp only [d2, h1, h2]
            · exact .inr fun _ => by simp only [d2, h1, h2]
          · exact .inr fun _ => by simp only [d2, h1]
    · rename_i a b c _
      cases E.tt.get a with
      | none => exact .inr fun _ => rfl
      | some ia => cases E.tt.get b with
        | none => exact .inr fun _ => rfl
        | some ib => cases E.tt.get c with
          | none => exact .inr fun _ => rfl
          | some ic =>
            simp only []
            rcases v with _ | _ | _ | _ | _ | _ | _ | _ | _ | _ | _ | l <;> try exact .inr fun _ => rfl
            rcases l with _ | ⟨x, _ | ⟨y, _ | ⟨z, _ | ⟨_, _⟩⟩⟩⟩ <;> try exact .inr fun _ => rfl
            rcases destr1_or ia x with h1 | h1
            · rcases destr1_or ib y with h2 | h2
              · rcases destr1_or ic z with h3 | h3
                · exact .inl fun _ => by simp only [d3, h1, h2, h3]
                · exact .inr fun _ => by simp only [d3, h1, h2, h3]
              · exact .inr fun _ => by simp only [d3, h1, h2]
            · exact .inr fun _ => by simp only [d3, h1]
    · rename_i a b c d _
      cases E.tt.get a with
      | none => exact .inr fun _ => rfl
      | some ia => cases E.tt.get b with
        | none => exact .inr fun _ => rfl
        | some ib => cases E.tt.get c with
          | none => exact .inr fun _ => rfl
          | some ic => cases E.tt.get d with
            | none => exact .inr fun _ => rfl
            | some id =>
              simp only []
              rcases v with _ | _ | _ | _ | _ | _ | _ | _ | _ | _ | _ | l <;> try exact .inr fun _ => rfl
              rcases l with _ | ⟨x, _ | ⟨y, _ | ⟨z, _ | ⟨u, _ | ⟨_, _⟩⟩⟩⟩⟩ <;> try exact .inr fun _ => rfl
              rcases destr1_or ia x with h1 | h1
              · rcases destr1_or ib y with h2 | h2
                · rcases destr1_or ic z with h3 | h3
                  · rcases destr1_or id u with h4 | h4
                    · exact .inl fun _ => by simp only [d4, h1, h2, h3, h4]
                    · exact .inr fun _ => by simp only [d4, h1, h2, h3, h4]
                  · exact .inr fun _ => by simp only [d4, h1, h2, h3]
                · exact .inr fun _ => by simp only [d4, h1, h2]
              · exact .inr fun _ => by simp only [d4, h1]
    · exact destr1_or i v
theorem law_destr (E : Env) (t : TypeId) (v : AV) : LawA fun K => destr E t K v := by
  rcases destr_or E t v with h | h
  · simp only [h]; exact LawA.pure v
  · simp only [h]; exact LawA.fail
theorem destr_some {E : Env} {t : TypeId} {K : AV → C} {v : AV} {m : Mem} {r : AV × Mem} (h : destr E t K v m = some r) : K v m = some r := by
  rcases destr_or E t v with h1 | h1
  · rwa [h1] at h
  · rw [h1] at h; cases h
theorem law_gather : ∀ l : List (AV × Nat), LawA fun K => gather l K
  | [] => LawA.pure _
  | (v, n) :: r => by
    have ih := law_gather r
    simp only [gather]
    split
    · exact LawA.bc _ (LawA.bind ih fun t => LawA.pure _) LawA.fail
    · exact LawA.fail
    · split
      · exact LawA.bind ih fun t => LawA.pure _
      · exact LawA.fail
theorem law_fields (E : Env) (zero : List AV) (ps : List (Nat × AV)) : ∀ (fs : List (Nat × TypeId)) (i : Nat), LawA fun K => fields E zero ps i fs K
  | [], _ => LawA.pure _
  | (off, t) :: r, i => by
    have ih := law_fields E zero ps r (i + 1)
    simp only [fields]
    refine law_ti E t fun ti => ?_
    split
    · exact LawA.bind ih fun l => LawA.pure _
    · exact LawA.bind ih fun l => LawA.pure _
end prim

end Go.Am
