/-
What only reads answers alike at every memory that holds the blocks which it reads.
-/
import Derived.Test.YtboilkakbgalgaaDoorAmLawOp
namespace Go.Am
open Go

/-- Memories alike at the blocks that are told. -/
structure Agree (G : Nat → Prop) (m m' : Mem) : Prop where
  get : ∀ b, m.get b ≠ none → G b → m'.get b = m.get b
  base : m'.base = m.base
def LawR {α : Type} (G : Nat → Prop) (Y : (α → C) → C) : Prop :=
  ∀ m, (∃ a, (∀ K, Y K m = K a m) ∧ ∀ m', Agree G m m' → ∀ K, Y K m' = K a m') ∨ (∀ K, Y K m = none)
variable {G : Nat → Prop}
theorem LawR.pure {α : Type} (a : α) : LawR G fun K : α → C => K a := fun _ => .inl ⟨a, fun _ => rfl, fun _ _ _ => rfl⟩
theorem LawR.fail {α : Type} : LawR G fun _ : α → C => fail := fun _ => .inr fun _ => rfl
theorem LawR.bind {α β : Type} {Y : (α → C) → C} {Z : α → (β → C) → C} (h : LawR G Y) (k : ∀ a, LawR G (Z a)) : LawR G fun K => Y fun a => Z a K := fun m => by
  rcases h m with ⟨a, h1, h2⟩ | h1
  · rcases k a m with ⟨b, k1, k2⟩ | k1
    · exact .inl ⟨b, fun K => (h1 _).trans (k1 K), fun m' hm K => (h2 m' hm _).trans (k2 m' hm K)⟩
    · exact .inr fun K => (h1 _).trans (k1 K)
  · exact .inr fun K => h1 _
theorem LawR.bc {α : Type} {Y Z : (α → C) → C} (b : Bool) (h : LawR G Y) (k : LawR G Z) : LawR G fun K => bc b (Y K) (Z K) := by
  cases b
  · exact k
  · exact h
theorem Agree.cells {m m' : Mem} (h : Agree G m m') {i : Nat} {l : List AV} (hi : m.cells i = some l) (hG : G i) : m'.cells i = some l := by
  have h1 := Mem.cells_some hi
  have h2 := h.get i (by rw [h1]; simp) hG
  unfold Mem.cells
  rw [h2, h1]
theorem Agree.maps {m m' : Mem} (h : Agree G m m') {i : Nat} {l : List (Int × AV)} (hi : m.maps i = some l) (hG : G i) : m'.maps i = some l := by
  have h1 := Mem.maps_some hi
  have h2 := h.get i (by rw [h1]; simp) hG
  unfold Mem.maps
  rw [h2, h1]
theorem Agree.row {m m' : Mem} (h : Agree G m m') (hG : ∀ i, G i) {s : Option SV} {sz n : Nat} {l : List AV} (hs : m.row s sz n = some l) : m'.row s sz n = some l := by
  unfold Mem.row at *
  cases s with
  | none => exact hs
  | some s =>
    simp only [] at *
    cases hc : m.cells s.id with
    | none => rw [hc] at hs; cases hs
    | some c => rw [h.cells hc (hG _)]; rw [hc] at hs; exact hs

theorem lawr_chk (p : Option (Nat × Nat)) : LawR G fun K : Nat × Nat → C => chk p fun i o => K (i, o) := by
  cases p with
  | none => exact LawR.fail
  | some p => exact LawR.pure p
theorem lawr_ld (i o : Nat) (hG : G i) : LawR G (ld i o) := fun m => by
  unfold ld
  cases hc : m.cells i with
  | none => exact .inr fun _ => rfl
  | some l =>
    cases hv : l[o]? with
    | none => exact .inr fun _ => by simp only [hv]
    | some v => exact .inl ⟨v, fun _ => by simp only [hv], fun m' hm _ => by simp only [hm.cells hc hG, hv]⟩
theorem lawr_ldN (n i o : Nat) (hG : G i) : LawR G (ldN n i o) := fun m => by
  unfold ldN
  cases hc : m.cells i with
  | none => exact .inr fun _ => rfl
  | some l =>
    cases hv : decide (o + n ≤ l.length) with
    | false => exact .inr fun _ => by simp only [hv]
    | true => exact .inl ⟨(l.drop o).take n, fun _ => by simp only [hv], fun m' hm _ => by simp only [hm.cells hc hG, hv]⟩
theorem lawr_ixS (sz : Nat) (s : Option SV) (x : Int) : LawR G fun K : Nat × Nat → C => ixS sz s x fun i o => K (i, o) := by
  unfold ixS
  cases s with
  | none => exact LawR.fail
  | some s => exact LawR.bc _ (LawR.pure _) LawR.fail
theorem lawr_ixA (n sz i o : Nat) (x : Int) : LawR G fun K : Nat × Nat → C => ixA n sz i o x fun i o => K (i, o) := LawR.bc _ (LawR.pure _) LawR.fail
theorem lawr_ixStr (s : List UInt8) (x : Int) : LawR G (ixStr s x) := by
  unfold ixStr
  cases decide (0 ≤ x) <;> cases s[x.toNat]? <;> first | exact LawR.fail | exact LawR.pure _
theorem lawr_ixV (n sz : Nat) (l : List AV) (x : Int) : LawR G (ixV n sz l x) := LawR.bc _ (LawR.pure _) LawR.fail
theorem lawr_one1 (l : List AV) : LawR G fun K : AV → C => one1 K l := by
  unfold one1
  rcases l with _ | ⟨v, _ | ⟨u, l⟩⟩
  · exact LawR.fail
  · exact LawR.bc _ (LawR.pure _) LawR.fail
  · exact LawR.fail
theorem lawr_cut (sz : Nat) (s : Option SV) (lo hi mx : Option Int) : LawR G (cut sz s lo hi mx) := by
  unfold cut
  cases s with
  | none =>
    simp only []
    cases cutBounds 0 0 lo hi mx with
    | none => exact LawR.fail
    | some p => exact LawR.pure _
  | some s =>
    refine LawR.bc _ ?_ LawR.fail
    cases cutBounds s.len s.cap lo hi mx with
    | none => exact LawR.fail
    | some p => exact LawR.pure _
theorem lawr_cutStr (s : List UInt8) (lo hi : Option Int) : LawR G (cutStr s lo hi) := by
  unfold cutStr
  cases cutBounds s.length s.length lo hi none with
  | none => exact LawR.fail
  | some p => exact LawR.pure _
theorem lawr_cutArr (n sz i o : Nat) (lo hi mx : Option Int) (hG : G i) : LawR G (cutArr n sz i o lo hi mx) := fun m => by
  unfold cutArr
  cases hc : m.cells i with
  | none => exact .inr fun _ => rfl
  | some c =>
    cases h1 : decide (o + n * sz ≤ c.length) with
    | false => exact .inr fun _ => by simp only [h1]
    | true => cases h2 : cutBounds n n lo hi mx with
      | none => exact .inr fun _ => by simp only [h1]
      | some p => exact .inl ⟨some { id := i, off := o + p.1 * sz, sz, len := p.2.1 - p.1, cap := p.2.2 - p.1, ex := true }, fun _ => by simp only [h1], fun m' hm _ => by simp only [hm.cells hc hG, h1]⟩
theorem lawr_look (r : Option Nat) (k : Int) (zero : AV) (hG : ∀ i, G i) : LawR G (look r k zero) := fun m => by
  unfold look
  cases r with
  | none => exact .inl ⟨zero, fun _ => rfl, fun _ _ _ => rfl⟩
  | some r =>
    cases hc : m.maps r with
    | none => exact .inr fun _ => by simp only [hc]
    | some l => exact .inl ⟨(mget l k).getD zero, fun _ => by simp only [hc], fun m' hm _ => by simp only [hm.maps hc (hG _)]⟩
theorem lawr_cat (a b : List UInt8) : LawR G (cat a b) := LawR.bc _ (LawR.pure _) LawR.fail
theorem lawr_strOf (s : Option SV) (hG : ∀ i, G i) : LawR G (strOf s) := fun m => by
  unfold strOf
  cases hc : m.row s 1 (slen s).toNat with
  | none => exact .inr fun _ => rfl
  | some l =>
    cases hb : asBytes l with
    | none => exact .inr fun _ => by simp only [hb]
    | some b => exact .inl ⟨b, fun _ => by simp only [hb], fun m' hm _ => by simp only [hm.row hG hc, hb]⟩
theorem lawr_ifNilIf (v : AV) : LawR G (ifNilIf v) := by
  unfold ifNilIf
  cases v <;> first | exact LawR.pure _ | exact LawR.fail
theorem lawr_ifNilFn (v : AV) : LawR G (ifNilFn v) := by
  unfold ifNilFn
  cases v <;> first | exact LawR.pure _ | exact LawR.fail
theorem lawr_ptrEqC (p q : Option (Nat × Nat)) (hG : (p = none ∨ q = none) ∨ ∀ i, G i) : LawR G (ptrEqC p q) := fun m => by
  unfold ptrEqC
  cases p with
  | none => cases q <;> exact .inl ⟨_, fun _ => rfl, fun _ _ _ => rfl⟩
  | some p =>
    cases q with
    | none => exact .inl ⟨_, fun _ => rfl, fun _ _ _ => rfl⟩
    | some q =>
      have hG : ∀ i, G i := by rcases hG with (h | h) | h <;> first | cases h | exact h
      simp only []
      cases hd : decide (p.1 = q.1) with
      | true => exact .inl ⟨_, fun _ => rfl, fun _ _ _ => rfl⟩
      | false =>
        simp only []
        cases h1 : m.cells p.1 with
        | none => exact .inr fun _ => rfl
        | some l => cases h2 : m.cells q.1 with
          | none => exact .inr fun _ => by simp only []
          | some r =>
            cases hq : decide ((m.base ≤ p.1 ∨ m.base ≤ q.1) ∧ p.2 < l.length ∧ q.2 < r.length) with
            | true => exact .inl ⟨false, fun _ => by simp only [hq], fun m' hm _ => by simp only [hm.cells h1 (hG _), hm.cells h2 (hG _), hm.base, hq]⟩
            | false => exact .inr fun _ => by simp only [hq]
theorem lawr_eqAgg (ks : List Bool) (l r : List AV) : LawR G (eqAgg ks l r) := by
  unfold eqAgg
  split
  · exact LawR.pure _
  · exact LawR.fail
theorem lawr_optC (v : Option AV) : LawR G (optC v) := by
  unfold optC
  cases v with
  | none => exact LawR.fail
  | some v => exact LawR.pure _
theorem lawr_capS (s : Option SV) : LawR G (capS s) := by
  unfold capS
  cases s with
  | none => exact LawR.pure _
  | some s => exact LawR.bc _ (LawR.pure _) LawR.fail
theorem lawr_ti {α : Type} (E : Env) (t : TypeId) {Y : TI → (α → C) → C} (h : ∀ i, E.tt.get t = some i → LawR G (Y i)) : LawR G fun K => E.ti t fun i => Y i K := by
  unfold Env.ti
  cases hi : E.tt.get t with
  | none => exact LawR.fail
  | some i => exact h i hi
theorem lawr_tv {α : Type} (E : Env) (t : TypeId) {Y : TI → (α → C) → C} (h : ∀ i, LawR G (Y i)) : LawR G fun K => E.tv t fun i => Y i K := by
  unfold Env.tv
  refine lawr_ti E t fun i _ => ?_
  split
  · exact LawR.fail
  · exact h i
theorem lawr_destr1 (i : TI) (v : AV) : LawR G fun K => destr1 i K v := by
  rcases destr1_or i v with h | h
  · simp only [h]; exact LawR.pure v
  · simp only [h]; exact LawR.fail
theorem lawr_gather : ∀ l : List (AV × Nat), LawR G fun K => gather l K
  | [] => LawR.pure _
  | (v, n) :: r => by
    have ih := lawr_gather r
    simp only [gather]
    split
    · exact LawR.bc _ (LawR.bind ih fun t => LawR.pure _) LawR.fail
    · exact LawR.fail
    · split
      · exact LawR.bind ih fun t => LawR.pure _
      · exact LawR.fail
theorem lawr_fields (E : Env) (zero : List AV) (ps : List (Nat × AV)) : ∀ (fs : List (Nat × TypeId)) (i : Nat), LawR G fun K => fields E zero ps i fs K
  | [], _ => LawR.pure _
  | (off, t) :: r, i => by
    have ih := lawr_fields E zero ps r (i + 1)
    simp only [fields]
    refine lawr_ti E t fun ti _ => ?_
    split
    · exact LawR.bind ih fun l => LawR.pure _
    · exact LawR.bind ih fun l => LawR.pure _
theorem lawr_evBin (ks : List Bool) (op : BinOp) (x y : AV) (hG : (∀ p q, (op = .eql ∨ op = .neq) → x = .ptr (some p) → y = .ptr (some q) → ∀ i, G i)) : LawR G fun K => evBin ks op x y K := by
  have hp : ∀ p q, (op = .eql ∨ op = .neq) → x = .ptr p → y = .ptr q → (p = none ∨ q = none) ∨ ∀ i, G i := fun p q ho hx hy => by
    cases p with
    | none => exact .inl (.inl rfl)
    | some p => cases q with
      | none => exact .inl (.inr rfl)
      | some q => exact .inr (hG p q ho hx hy)
  unfold evBin
  split <;> first
    | exact LawR.fail
    | exact LawR.pure _
    | exact LawR.bc _ (LawR.pure _) LawR.fail
    | exact LawR.bind (lawr_cat _ _) fun _ => LawR.pure _
    | exact LawR.bind (lawr_ptrEqC _ _ (hp _ _ (by simp) rfl rfl)) fun _ => LawR.pure _
    | exact LawR.bind (lawr_eqAgg _ _ _) fun _ => LawR.pure _
    | exact LawR.bind (lawr_ifNilIf _) fun _ => LawR.pure _
    | exact LawR.bind (lawr_ifNilFn _) fun _ => LawR.pure _
    | skip
  refine LawR.bc _ ?_ LawR.fail
  split <;> first
    | exact LawR.fail
    | exact LawR.pure _
    | exact LawR.bc _ LawR.fail (LawR.pure _)
theorem lawr_evBinN (ks : List Bool) (op : BinOp) (x y : AV) (hG : (∀ p q, (op = .eql ∨ op = .neq) → x = .ptr (some p) → y = .ptr (some q) → ∀ i, G i)) : LawR G fun K => evBinN ks op x y K := by
  have h : (fun K => evBinN ks op x y K) = fun K => evBin ks op x y K := funext fun K => evBinN_eq ks op x y K
  rw [h]
  exact lawr_evBin ks op x y hG
theorem lawr_binT (E : Env) (t : TypeId) (c : Bool) (b : AV) {Y : List Bool → (AV → C) → C} (h' : ∀ ks, (∀ p, b = .ptr p → ∃ i e, E.tt.get t = some i ∧ i.kd = .ptr e) → LawR G (Y ks)) : LawR G fun K => binT E t c b fun ks => Y ks K := by
  unfold binT
  split
  · exact h' _ (by intro p h; cases h)
  · exact h' _ (by intro p h; cases h)
  · refine lawr_ti _ _ fun _ _ => ?_
    split
    · exact h' _ (by intro p h; cases h)
    · exact LawR.fail
  · refine lawr_ti _ _ fun i hi => ?_
    split
    · rename_i e he
      refine lawr_ti _ _ fun _ _ => ?_
      split
      · exact LawR.fail
      · exact h' _ (fun p _ => ⟨i, e, hi, he⟩)
    · exact LawR.fail
  · refine lawr_ti _ _ fun _ _ => ?_
    split
    · exact h' _ (by intro p h; cases h)
    · exact LawR.fail
  · refine lawr_ti _ _ fun _ _ => ?_
    split
    · exact h' _ (by intro p h; cases h)
    · exact LawR.fail
  · split
    · refine lawr_ti _ _ fun _ _ => ?_
      split
      · exact h' _ (by intro p h; cases h)
      · exact LawR.fail
    · exact LawR.fail
  · refine lawr_ti _ _ fun _ _ => ?_
    split
    · exact h' _ (by intro p h; cases h)
    · exact LawR.fail
  · refine lawr_ti _ _ fun _ _ => ?_
    split
    · exact LawR.fail
    · exact h' _ (by intro p h; cases h)
  · exact LawR.fail
theorem lawr_evUn (op : UnOp) (x : AV) : LawR G fun K => evUn op x K := by
  unfold evUn
  split <;> first
    | exact LawR.fail
    | exact LawR.pure _
/-- What is built in and touches no memory. -/
theorem lawr_evBuiltin (E : Env) (b : Builtin) (hb : b = .len ∨ b = .cap ∨ b = .min ∨ b = .max ∨ b = .unsafeSliceData) (ts : List TypeId) (args : List AV) : LawR G fun K => evBuiltin E false b ts args K := by
  unfold evBuiltin
  split
  · refine lawr_ti _ _ fun _ _ => ?_
    split
    · exact LawR.pure _
    · exact LawR.pure _
    · exact LawR.pure _
    · refine lawr_ti _ _ fun _ _ => ?_
      split
      · exact LawR.pure _
      · exact LawR.fail
    · exact LawR.fail
  · refine lawr_ti _ _ fun _ _ => ?_
    split
    · exact LawR.bind (lawr_capS _) fun _ => LawR.pure _
    · exact LawR.fail
  · exact lawr_optC _
  · exact lawr_optC _
  · simp at hb
  · simp at hb
  · simp at hb
  · simp at hb
  · exact LawR.fail

def Cl.isPR : Cl → Bool
  | .p | .r => true
  | _ => false
theorem val_constptr {fr : Fr} {x : Operand} {p : Nat × Nat} (h : val fr x = some (.ptr (some p))) : isConstO x = false := by
  cases x with
  | const v =>
    exfalso
    have h : constAV v = some (.ptr (some p)) := h
    unfold constAV at h
    split at h <;> cases h
  | _ => rfl

theorem lawr_evOp (E : Env) (o : Oper) (fr : Fr) (hc : (Op.cl E.tt o.op).isPR = true) (hG : (Op.cl E.tt o.op).isR = true → ∀ b, (addrId fr o.op = some b ∨ addrId fr o.op = none) → G b) : LawR G fun K => evOp E false o fr K := by
  unfold evOp
  split
  · exact lawr_optC _
  · exact lawr_optC _
  · split
    · split
      · exact LawR.pure _
      · exact LawR.bc _ (lawr_optC _) (lawr_optC _)
    · exact LawR.fail
  · rename_i hop; rw [hop] at hc; cases hc
  · rename_i hop; rw [hop] at hc; cases hc
  · refine lawr_ti _ _ fun _ _ => ?_
    split
    · split
      · split
        · exact LawR.bind (lawr_fields _ _ _ _ _) fun _ => LawR.bind (lawr_gather _) fun _ => LawR.pure _
        · exact LawR.fail
      · split
        · exact lawr_ti _ _ fun _ _ => LawR.bc _ (LawR.bind (lawr_gather _) fun _ => LawR.pure _) LawR.fail
        · exact LawR.fail
      · exact LawR.fail
    · exact LawR.fail
  · rename_i hop; rw [hop] at hc; cases hc
  · rename_i t a hop
    refine lawr_ti _ _ fun i _ => ?_
    split
    · rename_i b q hb
      have hGb : G b := hG (by rw [hop]; rfl) b (.inl (by rw [hop]; simp only [addrId, hb]))
      split
      · exact LawR.bind (lawr_ldN _ _ _ hGb) fun _ => LawR.pure _
      · exact LawR.bind (lawr_ld _ _ hGb) (Z := fun v K => destr1 i K v) fun v => lawr_destr1 i v
    · exact LawR.fail
  · rename_i hop; rw [hop] at hc; cases hc
  · split
    · exact LawR.bind (lawr_chk _) (Z := fun p (K : AV → C) => K (AV.ptr (some (p.1, p.2)))) fun _ => LawR.pure _
    · exact LawR.fail
  · rename_i op t x y yt hop
    split
    · rename_i a b ha hb
      refine lawr_binT _ _ _ _ fun ks hk => lawr_evBinN ks _ _ _ fun p q ho hx hy => ?_
      subst hx
      subst hy
      obtain ⟨i, e, hi, he⟩ := hk _ rfl
      have c1 := val_constptr ha
      have c2 := val_constptr hb
      have hr : (Op.cl E.tt o.op).isR = true := by
        rw [hop]
        rcases ho with rfl | rfl <;> simp [Op.cl, binCl, c1, c2, hi, he, Cl.isR]
      exact fun b => hG hr b (.inr (by rw [hop]; rfl))
    · exact LawR.fail
  · split
    · exact lawr_evUn _ _
    · exact LawR.fail
  · rename_i s d x hop
    refine lawr_ti _ _ fun i hi => lawr_ti _ _ fun j hj => ?_
    split
    · unfold evConv
      split
      · exact LawR.pure _
      · exact LawR.pure _
      · rename_i h0 h1 _
        have hr : (Op.cl E.tt o.op).isR = true := by rw [hop]; simp [Op.cl, convCl, hi, hj, h0, h1, Cl.isR]
        refine lawr_ti _ _ fun _ _ => ?_
        split
        · exact LawR.bind (lawr_strOf _ fun b => hG hr b (.inr (by rw [hop]; rfl))) fun _ => LawR.pure _
        · exact LawR.fail
      · exact LawR.fail
    · exact LawR.fail
  · split
    · refine lawr_ti _ _ fun _ _ => ?_
      split
      · exact LawR.fail
      · exact LawR.pure _
    · exact LawR.fail
  · split
    · exact LawR.pure _
    · exact LawR.fail
  · rename_i hop; rw [hop] at hc; cases hc
  · rename_i hop; rw [hop] at hc; cases hc
  · rename_i t x lo hi mx hop
    split
    · refine lawr_ti _ _ fun i hi => ?_
      split
      · split
        · exact LawR.bind (lawr_cutStr _ _ _) fun _ => LawR.pure _
        · exact LawR.fail
      · exact lawr_ti _ _ fun _ _ => LawR.bind (lawr_cut _ _ _ _ _) fun _ => LawR.pure _
      · rename_i n e b q hk hv
        have hr : (Op.cl E.tt o.op).isR = true := by rw [hop]; simp [Op.cl, sliceCl, hi, hk, Cl.isR]
        exact lawr_ti _ _ fun _ _ => LawR.bind (lawr_cutArr _ _ _ _ _ _ _ (hG hr b (.inr (by rw [hop]; rfl)))) fun _ => LawR.pure _
      · exact LawR.fail
    · exact LawR.fail
  · refine lawr_ti _ _ fun _ _ => ?_
    split
    · split
      · refine lawr_ti _ _ fun _ _ => ?_
        split
        · exact LawR.fail
        · exact LawR.pure _
      · exact LawR.fail
    · exact LawR.fail
  · refine lawr_ti _ _ fun _ _ => ?_
    split
    · split
      · refine lawr_ti _ _ fun ift _ => ?_
        split
        · exact LawR.pure _
        · exact LawR.bind (lawr_one1 _) (Z := fun v K => destr1 ift K v) fun _ => lawr_destr1 _ _
      · exact LawR.fail
    · exact LawR.fail
  · refine lawr_ti _ _ fun _ _ => ?_
    split
    · exact lawr_ti _ _ fun _ _ => LawR.bind (lawr_ixS _ _ _) (Z := fun p (K : AV → C) => K (AV.ptr (some (p.1, p.2)))) fun _ => LawR.pure _
    · exact lawr_ti _ _ fun _ _ => LawR.bind (lawr_ixA _ _ _ _ _) (Z := fun p (K : AV → C) => K (AV.ptr (some (p.1, p.2)))) fun _ => LawR.pure _
    · exact LawR.fail
  · refine lawr_ti _ _ fun _ _ => ?_
    split
    · exact LawR.bind (lawr_ixStr _ _) fun _ => LawR.pure _
    · refine lawr_ti _ _ fun ie _ => ?_
      split
      · exact LawR.bind (lawr_ixV _ _ _ _) fun _ => LawR.pure _
      · exact LawR.bind (lawr_ixV _ _ _ _) (Z := fun l K => one1 (destr1 ie K) l) fun l => LawR.bind (lawr_one1 l) (Z := fun v K => destr1 ie K v) fun _ => lawr_destr1 _ _
    · exact LawR.fail
  · rename_i t x ix hop
    have hGA : ∀ b, G b := fun b => hG (by rw [hop]; rfl) b (.inr (by rw [hop]; rfl))
    refine lawr_ti _ _ fun _ _ => ?_
    split
    · refine lawr_ti _ _ fun _ _ => lawr_tv _ _ fun ie => ?_
      split
      · exact LawR.bind (lawr_look _ _ _ hGA) (Z := fun v K => destr1 ie K v) fun _ => lawr_destr1 _ _
      · exact LawR.fail
    · exact LawR.fail
  · rename_i hop; rw [hop] at hc; cases hc
  · split
    · exact lawr_optC _
    · exact LawR.fail
  · rename_i b args ts hop
    rw [hop] at hc
    split
    · refine lawr_evBuiltin _ _ ?_ _ _
      cases b <;> first | (simp; done) | (simp [Op.cl, Cl.isPR] at hc; done)
    · exact LawR.fail
  · rename_i hop; rw [hop] at hc; cases hc
  · rename_i hop; rw [hop] at hc; cases hc
  · exact LawR.fail
/-- What only reads leaves memory as it was, and answers alike where its blocks are alike. -/
theorem evOp_read {E : Env} {o : Oper} {fr : Fr} (hc : (Op.cl E.tt o.op).isPR = true) {m m1 : Mem} {v : AV} (h : evOp E false o fr ret m = some (v, m1)) :
    m1 = m ∧ ∀ m', ((Op.cl E.tt o.op).isR = true → Agree (fun b => addrId fr o.op = some b ∨ addrId fr o.op = none) m m') → m'.base = m.base → evOp E false o fr ret m' = some (v, m') := by
  have key : ∀ G : Nat → Prop, ((Op.cl E.tt o.op).isR = true → ∀ b, (addrId fr o.op = some b ∨ addrId fr o.op = none) → G b) →
      m1 = m ∧ ∀ m', Agree G m m' → evOp E false o fr ret m' = some (v, m') := fun G hG => by
    rcases lawr_evOp (G := G) E o fr hc hG m with ⟨a, h1, h2⟩ | h1
    · have h3 := (h1 ret).symm.trans h
      cases h3
      exact ⟨rfl, fun m' hm => h2 m' hm ret⟩
    · have h3 := (h1 ret).symm.trans h
      cases h3
  cases hr : (Op.cl E.tt o.op).isR with
  | true =>
    obtain ⟨k1, k2⟩ := key _ fun _ b hb => hb
    exact ⟨k1, fun m' hm _ => k2 m' (hm rfl)⟩
  | false =>
    obtain ⟨k1, k2⟩ := key (fun _ => False) fun h => by rw [hr] at h; cases h
    exact ⟨k1, fun m' _ hb => k2 m' ⟨fun _ _ h => h.elim, hb⟩⟩

end Go.Am
