/-
Regions whose order is open: in every order what the reading order came to.
-/
import Derived.Test.YtboilkakbgalgaaDoorAmRegion
namespace Go.Am
open Go Go.RowKit Go.Proofs

/-- Does an operation run at all? -/
def Wants (ops : List Oper) (fr : Fr) (o : Oper) (b : Bool) : Prop :=
  match o.guard with
  | none => b = true
  | some (gd, want) => ∃ d, dstOf ops gd = some d ∧ ((∃ c, fr.get d = some (.bool c) ∧ b = (c == want)) ∨ (fr.get d = some (.tup []) ∧ b = false))
theorem Wants.same {ops : List Oper} {fr fr' : Fr} {o : Oper} {b : Bool} (h : Wants ops fr o b) (hd : ∀ gd want d, o.guard = some (gd, want) → dstOf ops gd = some d → fr'.get d = fr.get d) : Wants ops fr' o b := by
  unfold Wants at *
  cases hg : o.guard with
  | none => rw [hg] at h; exact h
  | some p =>
    rw [hg] at h
    obtain ⟨d, h1, h2⟩ := h
    refine ⟨d, h1, ?_⟩
    rw [hd p.1 p.2 d (by rw [hg]) h1]
    exact h2

/-- What one operation of an open region came to. -/
def StepV (E : Env) (g : Rg) (i : Nat) (o : Oper) (seen : List (Nat × Nat)) (fr : Fr) (m : Mem) (seen1 : List (Nat × Nat)) (v : AV) (m1 : Mem) : Prop :=
  match g.cl i with
  | .r => evOp E false o fr ret m = some (v, m1) ∧ (g.meets i false = true → ∃ b, addrId fr o.op = some b ∧ seen1 = (i, b) :: seen) ∧ (g.meets i false = false → seen1 = seen)
  | .c => match Op.isStore o.op with
    | true => evOp E false o fr ret m = some (v, m1) ∧ seen1 = seen ∧ (g.meets i true = true → ∃ b, addrId fr o.op = some b ∧ ∀ s ∈ seen, apart g.bef s.1 i = true → s.2 ≠ b)
    | false => evOp E (g.ro i) o fr ret m = some (v, m1) ∧ seen1 = seen
  | _ => evOp E false o fr ret m = some (v, m1) ∧ seen1 = seen
theorem nes_some {b : Nat} {K : C} {m : Mem} {r : AV × Mem} : ∀ {l : List Nat}, nes b l K m = some r → (∀ e ∈ l, e ≠ b) ∧ K m = some r
  | [], h => ⟨by simp, h⟩
  | e :: l, h => by
    unfold nes ne at h
    cases hd : decide (e = b) with
    | true => rw [hd] at h; cases h
    | false =>
      rw [hd] at h
      obtain ⟨h1, h2⟩ := nes_some (l := l) h
      refine ⟨fun x hx => ?_, h2⟩
      rcases List.mem_cons.1 hx with rfl | hx
      · simpa using hd
      · exact h1 x hx
theorem evOpD_some {E : Env} {g : Rg} {i : Nat} {o : Oper} {seen : List (Nat × Nat)} {fr : Fr} {K : List (Nat × Nat) → AV → C} {m : Mem} {r : AV × Mem} (h : evOpD E g i o seen fr K m = some r) :
    ∃ seen1 v m1, StepV E g i o seen fr m seen1 v m1 ∧ K seen1 v m1 = some r := by
  unfold evOpD at h
  unfold StepV
  cases hc : g.cl i with
  | p => simp only [hc] at h; obtain ⟨v, m1, h1, h2⟩ := evOp_ret h; exact ⟨_, v, m1, ⟨h1, rfl⟩, h2⟩
  | a => simp only [hc] at h; obtain ⟨v, m1, h1, h2⟩ := evOp_ret h; exact ⟨_, v, m1, ⟨h1, rfl⟩, h2⟩
  | r =>
    simp only [hc] at h
    cases hm : g.meets i false with
    | false => simp only [hm] at h; obtain ⟨v, m1, h1, h2⟩ := evOp_ret h; exact ⟨_, v, m1, ⟨h1, fun q => (by cases q), fun _ => rfl⟩, h2⟩
    | true =>
      simp only [hm] at h
      cases ha : addrId fr o.op with
      | none => simp only [ha] at h; cases h
      | some b => simp only [ha] at h; obtain ⟨v, m1, h1, h2⟩ := evOp_ret h; exact ⟨_, v, m1, ⟨h1, fun _ => ⟨b, rfl, rfl⟩, fun q => (by cases q)⟩, h2⟩
  | c =>
    simp only [hc] at h
    cases hs : Op.isStore o.op with
    | false => simp only [hs] at h; obtain ⟨v, m1, h1, h2⟩ := evOp_ret h; exact ⟨_, v, m1, ⟨h1, rfl⟩, h2⟩
    | true =>
      simp only [hs] at h
      cases hm : g.meets i true with
      | false => simp only [hm] at h; obtain ⟨v, m1, h1, h2⟩ := evOp_ret h; exact ⟨_, v, m1, ⟨h1, rfl, fun q => (by cases q)⟩, h2⟩
      | true =>
        simp only [hm] at h
        cases ha : addrId fr o.op with
        | none => simp only [ha] at h; cases h
        | some b =>
          simp only [ha] at h
          obtain ⟨hn, h⟩ := nes_some h
          obtain ⟨v, m1, h1, h2⟩ := evOp_ret h
          refine ⟨_, v, m1, ⟨h1, rfl, fun _ => ⟨b, rfl, fun s hs1 hs2 => hn s.2 ?_⟩⟩, h2⟩
          exact List.mem_map.2 ⟨s, List.mem_filter.2 ⟨hs1, hs2⟩, rfl⟩
/-- One operation taken off the reading order. -/
theorem evOpsD_cons {E : Env} {g : Rg} {i : Nat} {rest : List Nat} {seen : List (Nat × Nat)} {fr : Fr} {K : Fr → C} {m : Mem} {r : AV × Mem} (h : evOpsD E g (i :: rest) seen fr K m = some r) :
    ∃ o fr1 seen1 v m1, g.ops[i]? = some o ∧ (∀ t, fr1.get t = fr.get t) ∧ evOpsD E g rest seen1 (putD fr1 o.dst v) K m1 = some r ∧
      ((Wants g.ops fr o true ∧ StepV E g i o seen fr1 m seen1 v m1) ∨ (Wants g.ops fr o false ∧ v = .tup [] ∧ seen1 = seen ∧ m1 = m)) := by
  unfold evOpsD at h
  cases ho : g.ops[i]? with
  | none => rw [ho] at h; cases h
  | some o =>
    rw [ho] at h
    simp only [] at h
    cases hg : o.guard with
    | none =>
      rw [hg] at h
      simp only [] at h
      obtain ⟨seen1, v, m1, h1, h2⟩ := evOpD_some h
      exact ⟨o, fr, seen1, v, m1, rfl, fun _ => rfl, h2, .inl ⟨by unfold Wants; rw [hg], h1⟩⟩
    | some p =>
      obtain ⟨gd, want⟩ := p
      rw [hg] at h
      simp only [] at h
      cases hd : dstOf g.ops gd with
      | none => rw [hd] at h; cases h
      | some d =>
        rw [hd] at h
        simp only [] at h
        have hset : ∀ b : Bool, fr.get d = some (.bool b) → ∀ t, (fr.set (.bool b) d).get t = fr.get t := fun b hb t => by
          rw [PT.get_set]
          by_cases ht : t = d
          · rw [if_pos ht, ht, hb]
          · rw [if_neg ht]
        cases hf : fr.get d with
        | none => rw [hf] at h; cases h
        | some u =>
          rw [hf] at h
          cases u with
          | bool b =>
            simp only [] at h
            have hw : ∀ c, c = (b == want) → Wants g.ops fr o c := fun c hc => by
              unfold Wants
              rw [hg]
              exact ⟨d, hd, .inl ⟨b, hf, hc⟩⟩
            cases b <;> cases want <;> simp only [bc] at h
            · obtain ⟨seen1, v, m1, h1, h2⟩ := evOpD_some h
              exact ⟨o, _, seen1, v, m1, rfl, hset _ hf, h2, .inl ⟨hw _ rfl, h1⟩⟩
            · exact ⟨o, _, seen, .tup [], m, rfl, hset _ hf, h, .inr ⟨hw _ rfl, rfl, rfl, rfl⟩⟩
            · exact ⟨o, _, seen, .tup [], m, rfl, hset _ hf, h, .inr ⟨hw _ rfl, rfl, rfl, rfl⟩⟩
            · obtain ⟨seen1, v, m1, h1, h2⟩ := evOpD_some h
              exact ⟨o, _, seen1, v, m1, rfl, hset _ hf, h2, .inl ⟨hw _ rfl, h1⟩⟩
          | tup l =>
            cases l with
            | nil => exact ⟨o, fr, seen, .tup [], m, rfl, fun _ => rfl, h, .inr ⟨by unfold Wants; rw [hg]; exact ⟨d, hd, .inr ⟨hf, rfl⟩⟩, rfl, rfl, rfl⟩⟩
            | cons _ _ => cases h
          | _ => cases h
theorem putD_get (fr : Fr) (d : Option Tmp) (v : AV) (t : Nat) : (putD fr d v).get t = if d = some t then some v else fr.get t := by
  cases d with
  | none => simp [putD]
  | some d =>
    simp only [putD, PT.get_set, Option.some.injEq]
    by_cases h : t = d
    · rw [if_pos h, if_pos h.symm]
    · rw [if_neg h, if_neg (Ne.symm h)]

def Lst (listed : Array Bool) (i : Nat) : Prop := listed.getD i false = true
/-- An operation that was read already and runs later comes to what was read. -/
def LateOk (E : Env) (g : Rg) (nt : Nat) (seen : List (Nat × Nat)) (fr : Fr) (m : Mem) (q : Nat) (o : Oper) : Prop :=
  g.isAC q = false ∧ ∃ f V, (∀ t ∈ tmpsOf o.op.operands.toList, f.get t = fr.get t) ∧ (∀ d, o.dst = some d → fr.get d = some V ∧ d < nt) ∧
    ((Wants g.ops fr o true ∧ evOp E false o f ret m = some (V, m) ∧ (g.meets q false = true → (g.cl q).isR = true → ∃ b, addrId f o.op = some b ∧ (q, b) ∈ seen)) ∨ (Wants g.ops fr o false ∧ V = .tup []))

structure OInv (X : Ctx) (E : Env) (g : Rg) (pi : List Nat) (nt : Nat) (K : Fr → C) (r : AV × Mem) (fr0 : Fr) (μ0 : Nat → Nat × Nat) (m0 : Mem) (w0 : World)
    (rest : List Nat) (seen : List (Nat × Nat)) (fr : Fr) (m : Mem) (μ : Nat → Nat × Nat) (listed : Array Bool) (a : Act) (w : World) : Prop where
  hR : R X μ m w
  size : a.tmps.size = nt
  defers : a.defers = []
  pre : ∃ pre, pi = pre ++ rest
  lsize : listed.size = g.ops.length
  closed : ∀ i j, Lst listed i → Bf g.bef i j → Lst listed j
  notyet : ∀ i ∈ rest, ¬ Lst listed i
  slot : ∀ t v, fr.get t = some v → (∀ (q : Nat) (o : Oper), g.ops[q]? = some o → q ∉ rest → ¬ Lst listed q → o.dst ≠ some t) → ∃ u, a.tmps[t]? = some u ∧ VR μ m.next w v u
  late : ∀ (q : Nat) (o : Oper), g.ops[q]? = some o → q ∉ rest → ¬ Lst listed q → LateOk E g nt seen fr m q o
  eval : evOpsD E g rest seen fr K m = some r
  step : Step μ0 m0 w0 μ m w
  outer : ∀ t, t ∉ writesOps g.ops → fr.get t = fr0.get t

section
variable {X : Ctx} {E : Env} {g : Rg} {pi : List Nat} {nt : Nat} {K : Fr → C} {r : AV × Mem} {fr0 : Fr} {μ0 μ μ' : Nat → Nat × Nat} {m0 m m' : Mem} {w0 w w' : World}
  {rest : List Nat} {seen : List (Nat × Nat)} {fr : Fr} {listed : Array Bool} {a : Act}

theorem isAC_false {i : Nat} (h : g.isAC i = false) : (g.cl i).isPR = true := by
  unfold Rg.isAC at h
  cases hc : g.cl i <;> simp [hc, Cl.isPR] at h ⊢
theorem isAC_true {i : Nat} (h : g.isAC i = true) : g.cl i = .a ∨ g.cl i = .c := by
  unfold Rg.isAC at h
  cases hc : g.cl i <;> simp [hc] at h ⊢
theorem cl_of (hcls : g.cls = g.ops.map fun o => Op.cl E.tt o.op) {i : Nat} {o : Oper} (ho : g.ops[i]? = some o) : g.cl i = Op.cl E.tt o.op := by
  unfold Rg.cl
  rw [hcls, List.getElem?_map, ho]
  rfl
/-- What stands ahead in the order is another operation, and does not follow. -/
theorem RgOk.order (hg : RgOk g pi) {pre rest : List Nat} {i q : Nat} (hp : pi = pre ++ i :: rest) (hq : q ∈ pre) : q ≠ i ∧ ¬ Bf g.bef q i := by
  obtain ⟨h1, h2, h3⟩ := hg.lin pre i rest hp
  refine ⟨fun e => h2 (e ▸ hq), fun hb => ?_⟩
  obtain ⟨p1, p2, rfl⟩ := List.append_of_mem hq
  obtain ⟨k1, k2, k3⟩ := hg.lin p1 q (p2 ++ i :: rest) (by rw [hp]; simp)
  exact h2 (by simp [k3 i hb])
theorem RgOk.in_pre (hg : RgOk g pi) {pre rest : List Nat} (hp : pi = pre ++ rest) {q : Nat} {o : Oper} (ho : g.ops[q]? = some o) (hq : q ∉ rest) : q ∈ pre := by
  have := hg.all q (List.getElem?_eq_some_iff.1 ho).1
  rw [hp] at this
  rcases List.mem_append.1 this with h | h
  · exact h
  · exact absurd h hq

theorem mem_writesOps {o : Oper} {d : Tmp} : ∀ {l : List Oper}, o ∈ l → o.dst = some d → d ∈ writesOps l
  | x :: l, ho, hd => by
    rcases List.mem_cons.1 ho with rfl | ho
    · simp [writesOps, hd]
    · have := mem_writesOps ho hd
      unfold writesOps
      split
      · simp [this]
      · exact this
/-- A reader taken off the order is known, and late. -/
theorem OInv.advance (hg : RgOk g pi) (hcls : g.cls = g.ops.map fun o => Op.cl E.tt o.op) (hnt : ∀ o ∈ g.ops, ∀ d, o.dst = some d → d < nt) {i : Nat}
    (h : OInv X E g pi nt K r fr0 μ0 m0 w0 (i :: rest) seen fr m μ listed a w) (hi : g.isAC i = false) : ∃ seen1 fr1, OInv X E g pi nt K r fr0 μ0 m0 w0 rest seen1 fr1 m μ listed a w := by
  obtain ⟨o, fr1, seen1, v, m1, ho, hfr, hev, hst⟩ := evOpsD_cons h.eval
  obtain ⟨pre, hp⟩ := h.pre
  have hcl := cl_of hcls ho
  have hpr := isAC_false hi
  have hm : m1 = m ∧ (seen1 = seen ∨ ∃ b, seen1 = (i, b) :: seen) ∧ ((Wants g.ops fr o true ∧ evOp E false o fr1 ret m = some (v, m) ∧ (g.meets i false = true → (g.cl i).isR = true → ∃ b, addrId fr1 o.op = some b ∧ (i, b) ∈ seen1)) ∨ (Wants g.ops fr o false ∧ v = .tup [])) := by
    rcases hst with ⟨hw, hs⟩ | ⟨hw, hv, hs, hm⟩
    · unfold StepV at hs
      cases hc : g.cl i with
      | p =>
        rw [hc] at hs
        obtain ⟨e1, e2⟩ := hs
        obtain ⟨rfl, -⟩ := evOp_read (by rw [← hcl]; exact hpr) e1
        exact ⟨rfl, .inl e2, .inl ⟨hw, e1, fun _ q => (by cases q)⟩⟩
      | r =>
        rw [hc] at hs
        obtain ⟨e1, e2, e3⟩ := hs
        obtain ⟨rfl, -⟩ := evOp_read (by rw [← hcl]; exact hpr) e1
        cases hme : g.meets i false with
        | false => exact ⟨rfl, .inl (e3 hme), .inl ⟨hw, e1, fun q => (by cases q)⟩⟩
        | true =>
          obtain ⟨b, b1, b2⟩ := e2 hme
          exact ⟨rfl, .inr ⟨b, b2⟩, .inl ⟨hw, e1, fun _ _ => ⟨b, b1, by rw [b2]; simp⟩⟩⟩
      | a => rw [hc] at hpr; cases hpr
      | c => rw [hc] at hpr; cases hpr
    · exact ⟨hm, .inl hs, .inr ⟨hw, hv⟩⟩
  obtain ⟨rfl, hseen, hval⟩ := hm
  have hsub : ∀ s ∈ seen, s ∈ seen1 := fun s hs => by
    rcases hseen with rfl | ⟨b, rfl⟩
    · exact hs
    · simp [hs]
  have hirest : i ∉ rest := by
    intro hm
    obtain ⟨p1, p2, rfl⟩ := List.append_of_mem hm
    have := (hg.lin (pre ++ i :: p1) i p2 (by rw [hp]; simp)).2.1
    simp at this
  have hnl : ¬ Lst listed i := h.notyet i (by simp)
  -- a slot that another operation reads is not written here
  have hslot : ∀ (q : Nat) (oq : Oper), g.ops[q]? = some oq → q ∈ pre → ∀ t ∈ tmpsOf oq.op.operands.toList, o.dst ≠ some t := fun q oq hq hqp t ht hd => by
    obtain ⟨hne, hnb⟩ := hg.order hp hqp
    rcases hg.reads hq t ht i o ho hd with ⟨q1, _⟩ | q1 | ⟨_, q2⟩
    · exact hne q1
    · exact hnb q1
    · rw [hi] at q2; cases q2
  have hguard : ∀ (q : Nat) (oq : Oper), g.ops[q]? = some oq → q ∈ pre ∨ q = i → ∀ gd want d, oq.guard = some (gd, want) → dstOf g.ops gd = some d → (putD fr1 o.dst v).get d = fr.get d := fun q oq hq hqp gd want d hgd hd => by
    rw [putD_get, if_neg, hfr]
    intro he
    unfold dstOf at hd
    split at hd
    · rename_i og hog
      have hgi := hg.once ho hog he hd
      subst hgi
      have hb := hg.guard hq i want hgd
      rcases hqp with hqp | rfl
      · exact (hg.order hp hqp).2 hb
      · have := (hg.lin pre q rest hp).2.2 q hb
        exact (hg.lin pre q rest hp).2.1 this
    · cases hd
  refine ⟨seen1, putD fr1 o.dst v, ⟨h.hR, h.size, h.defers, ⟨pre ++ [i], by rw [hp]; simp⟩, h.lsize, h.closed, fun j hj => h.notyet j (by simp [hj]), fun t u ht hno => ?_, fun q oq hq hqr hql => ?_, hev, h.step, fun t ht => ?_⟩⟩
  · have hti : o.dst ≠ some t := hno i o ho hirest hnl
    rw [putD_get, if_neg hti, hfr] at ht
    exact h.slot t u ht fun q oq hq hqr hql => hno q oq hq (fun hm => hqr (by simp [hm])) hql
  · by_cases hqi : q = i
    · subst hqi
      rw [ho] at hq
      cases hq
      refine ⟨hi, fr1, v, fun t ht => ?_, fun d hd => ⟨by rw [putD_get, if_pos hd], hnt o (List.mem_of_getElem? ho) d hd⟩, ?_⟩
      · rw [putD_get, if_neg]
        intro hd
        rcases hg.reads ho t ht q o ho hd with ⟨_, q2⟩ | q1 | ⟨_, q2⟩
        · rw [hi] at q2; cases q2
        · exact (hg.lin pre q rest hp).2.1 ((hg.lin pre q rest hp).2.2 q q1)
        · rw [hi] at q2; cases q2
      · rcases hval with ⟨k1, k2, k3⟩ | ⟨k1, k2⟩
        · exact .inl ⟨k1.same (hguard q o ho (.inr rfl)), k2, k3⟩
        · exact .inr ⟨k1.same (hguard q o ho (.inr rfl)), k2⟩
    · have hqr' : q ∉ i :: rest := by simp [hqi, hqr]
      have hqp : q ∈ pre := hg.in_pre hp hq hqr'
      obtain ⟨k0, f, V, k1, k2, k3⟩ := h.late q oq hq hqr' hql
      refine ⟨k0, f, V, fun t ht => ?_, fun d hd => ⟨?_, (k2 d hd).2⟩, ?_⟩
      · rw [putD_get, if_neg (hslot q oq hq hqp t ht), hfr]; exact k1 t ht
      · rw [putD_get, if_neg, hfr]
        · exact (k2 d hd).1
        · intro he
          exact hqi (hg.once hq ho hd he)
      · rcases k3 with ⟨q1, q2, q3⟩ | ⟨q1, q2⟩
        · refine .inl ⟨q1.same (hguard q oq hq (.inl hqp)), q2, fun hme hr => ?_⟩
          obtain ⟨b, b1, b2⟩ := q3 hme hr
          exact ⟨b, b1, hsub _ b2⟩
        · exact .inr ⟨q1.same (hguard q oq hq (.inl hqp)), q2⟩
  · rw [putD_get, if_neg fun he => ht (mem_writesOps (List.mem_of_getElem? ho) he), hfr]; exact h.outer t ht
theorem OInv.advanceAll (hg : RgOk g pi) (hcls : g.cls = g.ops.map fun o => Op.cl E.tt o.op) (hnt : ∀ o ∈ g.ops, ∀ d, o.dst = some d → d < nt) : ∀ {rest : List Nat} {seen : List (Nat × Nat)} {fr : Fr},
    OInv X E g pi nt K r fr0 μ0 m0 w0 rest seen fr m μ listed a w → ∃ rest1 seen1 fr1, OInv X E g pi nt K r fr0 μ0 m0 w0 rest1 seen1 fr1 m μ listed a w ∧ ∀ i t, rest1 = i :: t → g.isAC i = true
  | [], seen, fr, h => ⟨[], seen, fr, h, by simp⟩
  | i :: rest, seen, fr, h => by
    cases hi : g.isAC i with
    | true => exact ⟨i :: rest, seen, fr, h, fun j t hj => by cases hj; exact hi⟩
    | false =>
      obtain ⟨seen1, fr1, h1⟩ := h.advance hg hcls hnt hi
      exact OInv.advanceAll hg hcls hnt h1
end
end Go.Am
