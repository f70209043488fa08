/-
What the model's operations come to where the abstract machine's do: append.
-/
import Derived.Test.YtboilkakbgalgaaDoorAmOps4
namespace Go.Am
open Go Go.RowKit

variable {X : Ctx} {μ : Nat → Nat × Nat} {m m' : Mem} {w : World} {E : Env}

/-- The cells of a slice, as the model reads them. -/
theorem row_run (h : R X μ m w) {s : Option SV} {u : Value} (hu : VR μ m.next w (.slice s) u) {sz n : Nat} {l : List AV} (hr : m.row s sz n = some l) (hn : (n : Int) ≤ slen s) :
    ∃ us : List Value, VRs μ m.next w l us ∧ l.all AV.one = true ∧ l.length = n * sz ∧ ∀ w', w'.heap = w.heap → (Builtin.firstCells sz n u).run X.P w' = .ok us.toArray w' := by
  unfold Mem.row at hr
  cases s with
  | none =>
    simp only [] at hr
    split at hr
    · rename_i h0
      cases hr
      cases hu
      exact ⟨[], .nil, rfl, by simp [h0], fun w' _ => rfl⟩
    · cases hr
  | some s =>
    simp only [] at hr
    cases hl : m.cells s.id with
    | none => rw [hl] at hr; cases hr
    | some c =>
      rw [hl] at hr
      simp only [] at hr
      split at hr
      · rename_i hc
        cases hr
        obtain ⟨hsz, hle⟩ := hc
        obtain ⟨cs, e, fz, g1, g2, g3, g4, g5⟩ := h.cells hl
        have hone : ((c.drop s.off).take (n * sz)).all AV.one = true := List.all_eq_true.2 fun x hx => List.all_eq_true.1 g3 x (List.mem_of_mem_drop (List.mem_of_mem_take hx))
        have hlen : ((c.drop s.off).take (n * sz)).length = n * sz := by rw [List.length_take, List.length_drop]; omega
        cases hu with
        | emptyslice _ a _ h1 _ =>
          have h0 : n = 0 := by simp only [slen, h1] at hn; omega
          subst h0
          exact ⟨[], by simpa using VRs.nil, by simp, by simp, fun w' _ => by simp [Builtin.firstCells, loadCells, loadCellsFrom]⟩
        | slice _ ca h1 h2 h3 h4 h5 =>
          refine ⟨_, g4.seg hle, hone, hlen, fun w' hw => ?_⟩
          have := loadCells_run (P := X.P) (w := w') (b := (μ s.id).1) (o := (μ s.id).2 + s.off) (n := n * sz) (cs := cs) (e := e) (fz := fz) (by rw [hw]; exact g1) (by omega)
          simpa [Builtin.firstCells] using this
      · cases hr

theorem growBy_le (need : Nat) : ∀ (r c : Nat), c < need → Builtin.growBy need r c ≤ 2 * need + 768
  | 0, c, h => by unfold Builtin.growBy; omega
  | r + 1, c, h => by
    unfold Builtin.growBy
    rw [if_neg (by omega)]
    by_cases h2 : c + (c + 768) / 4 < need
    · exact growBy_le need r _ h2
    · cases r with
      | zero => unfold Builtin.growBy; omega
      | succ r => unfold Builtin.growBy; rw [if_pos (by omega)]; omega
theorem nextcap_le (need old : Nat) (h : old < need) : Builtin.nextslicecap need old ≤ 2 * need + 768 := by
  unfold Builtin.nextslicecap
  split
  · omega
  · split
    · omega
    · exact growBy_le need 4 old h
theorem zeroCells_len (c : Array Value) (n : Nat) : (Builtin.zeroCells c n).toList.length = n * c.size := by simp [Builtin.zeroCells]
theorem zeroCells_size (c : Array Value) (n : Nat) : (Builtin.zeroCells c n).size = n * c.size := by simp [Builtin.zeroCells]

/-- A slice's value as the model has it. -/
theorem VR.slice_shape {N : Nat} {s : Option SV} {u : Value} (hu : VR μ N w (.slice s) u) : ∃ base c, u = .slice base (slen s).toNat c ∧ (slen s).toNat ≤ c ∧ (s = none → base = none ∧ c = 0) := by
  cases hu with
  | nilslice => exact ⟨none, 0, rfl, Nat.le_refl _, fun _ => ⟨rfl, rfl⟩⟩
  | emptyslice s a _ h1 _ => exact ⟨some a, 0, by simp [slen, h1], by simp [slen, h1], by simp⟩
  | slice s c h1 h2 h3 h4 h5 => exact ⟨_, c, rfl, by simp [slen]; omega, by simp⟩

/-- append, where there is room. -/
theorem append_room {ts : Array TypeId} {ty : TypeId} {t tx e : TypeId} {ie : TI} {x : Value} {dx : TypeDesc} {base : Option Addr} {len c n : Nat} {us : List Value} (ht : ts[0]? = some t) (hx : ts[1]? = some tx) (hd : X.P.underlying t = some (.slice e))
    (hdx : X.P.underlying tx = some dx) (hni : ∀ k, dx ≠ .int k) (hie : TIok X.P e ie) (hlen : (Builtin.lenOf x).run X.P w = .ok n w) (hus : (Builtin.firstCells ie.size n x).run X.P w = .ok us.toArray w) (hc : len + n ≤ c) :
    (Builtin.append_ ts ty #[.slice base len c, x]).run X.P w = (match base with
      | some a => (storeCells (a.add (len * ie.size)) us).run X.P w
      | none => .ok () w).andThen fun _ w' => .ok (.slice base (len + n) c) w' := by
  have hz : (match dx with | .int _ => true | _ => false) = false := by
    cases dx <;> first | rfl | exact absurd rfl (hni _)
  cases base with
  | none => simp [Builtin.append_, ht, hx, run_und hd, run_und hdx, hie.run_size, hz, hlen, hc, hus]
  | some a => simp [Builtin.append_, ht, hx, run_und hd, run_und hdx, hie.run_size, hz, hlen, hc, hus]
/-- append, where there is none. -/
theorem append_grow {ts : Array TypeId} {ty : TypeId} {t tx e : TypeId} {ie : TI} {x : Value} {dx : TypeDesc} {base : Option Addr} {len c n : Nat} {us os : List Value} {z : Value} (ht : ts[0]? = some t) (hx : ts[1]? = some tx) (hd : X.P.underlying t = some (.slice e))
    (hdx : X.P.underlying tx = some dx) (hni : ∀ k, dx ≠ .int k) (hie : TIok X.P e ie) (hb0 : 0 < ie.bytes) (hb1 : ie.bytes ≤ 65536) (hlen : (Builtin.lenOf x).run X.P w = .ok n w)
    (hz : ∀ w', (zeroValue e).run X.P w' = .ok z w')
    (hus : ∀ w', w'.heap = w.heap → (Builtin.firstCells ie.size n x).run X.P w' = .ok us.toArray w') (hos : ∀ w', w'.heap = w.heap → (Builtin.firstCells ie.size len (.slice base len c)).run X.P w' = .ok os.toArray w')
    (hc : ¬ len + n ≤ c) (hm : len + n ≤ most) :
    ∃ nc, len + n ≤ nc ∧ (Builtin.append_ ts ty #[.slice base len c, x]).run X.P w =
      .ok (.slice (some ⟨w.heap.size, 0, none⟩) (len + n) nc) (w.drew.alloc (.cells (os.toArray ++ (us.toArray ++ Builtin.zeroCells z.cells (nc - (len + n)))) e)) := by
  obtain ⟨f, hf1, hf2, hf3, _⟩ := hie.info
  have hcap : ¬ Builtin.nextslicecap (len + n) c * f.bytes > 2 ^ 48 := by
    have h1 := nextcap_le (len + n) c (by omega)
    have h2 : Builtin.nextslicecap (len + n) c * f.bytes ≤ (2 * most + 768) * 65536 := Nat.mul_le_mul (by omega) (by omega)
    have h3 : (2 * most + 768) * 65536 ≤ 2 ^ 48 := by decide
    omega
  have hbz : ¬ f.bytes = 0 := by omega
  refine ⟨(Question.appendCap (len + n) c e).cut (w.tape w.drawn (.appendCap (len + n) c e)), by simp [Question.cut], ?_⟩
  have hforce : (Question.appendCap (len + n) c e).forced = false := rfl
  have g1 := hos w.drew rfl
  have g2 := hus w.drew rfl
  simp [Builtin.append_, ht, hx, run_und hd, run_und hdx, hie.run_size, hlen, hc, run_ti hf1, hbz, hcap, hforce, g1, g2, hz, newRow]

/-- A new row behind a draw. -/
theorem grown_row (h : R X μ m w) {l : List AV} {r : List Value} {e : TypeId} {sz n c : Nat} (hl : VRs μ m.next w l (r.take l.length)) (hlen : l.length = n * sz) (hr : r.length = c * sz) (hnc : n ≤ c) (h1 : l.all AV.one = true) :
    Done X μ m w (.slice (some { id := m.next, off := 0, sz, len := n, cap := n, ex := false })) (m.add (.cells l)) (.ok (.slice (some ⟨w.heap.size, 0, none⟩) n c) (w.drew.alloc (.cells r.toArray e))) := by
  obtain ⟨hd1, hd2⟩ := h.same (w' := w.drew) rfl rfl rfl rfl
  have hle : l.length ≤ r.length := by rw [hlen, hr]; exact Nat.mul_le_mul_right _ hnc
  have hl' : VRs μ m.next w.drew l (r.take l.length) := hl.mono (fun _ _ => rfl) (Nat.le_refl _) hd2.grow
  obtain ⟨w', μ', k1, k2, k3, k4, k5⟩ := new_done (t := e) hd1 hl' hle h1
  have hw : w' = w.drew.alloc (.cells r.toArray e) := k4
  refine ⟨_, w', μ', by rw [hw], ?_, k2, hd2.trans k3⟩
  have hv := VR.slice (μ := μ') (N := (m.add (.cells l)).next) (w := w') { id := m.next, off := 0, sz, len := n, cap := n, ex := false } c (by simp) (Nat.le_refl _) hnc (fun h => by cases h) (by
    refine ⟨r.toArray, e, (0, 0), ?_, ?_⟩
    · subst k4; rw [k5]; exact Array.getElem?_push_size
    · simp only [k5]
      show 0 + 0 + c * sz ≤ r.length
      omega)
  simp only [k5, Nat.add_zero] at hv
  exact hv
theorem R.append_in (h : R X μ m w) {s : SV} {l cells : List AV} {us : List Value} {c k : Nat} {a : Addr} (hl : m.cells s.id = some l) (hlo : m.lo ≤ s.id) (hu : VR μ m.next w (.slice (some s)) (.slice (some a) s.len c))
    (hk : 0 < k) (hroom : s.len + k ≤ c) (hc : VRs μ m.next w cells us) (hc1 : cells.all AV.one = true) (hcl : cells.length = k * s.sz) (hle : s.off + s.len * s.sz ≤ l.length) :
    Done X μ m w (.slice (some { id := m.next, off := 0, sz := s.sz, len := s.len + k, cap := s.len + k, ex := false })) ((m.kill s.id).add (.cells ((l.drop s.off).take (s.len * s.sz) ++ cells)))
      (((storeCells (a.add (s.len * s.sz)) us).run X.P w).andThen fun _ w' => .ok (.slice (some a) (s.len + k) c) w') := by
  generalize hq : s.len = q at hu
  cases hu with
  | emptyslice _ _ _ h1 _ => omega
  | slice _ _ h1 h2 h3 h4 h5 =>
    clear hq
    obtain ⟨cs, e, fz, g1, g2, g3, g4, g5⟩ := h.cells hl
    have hf := g5 (Nat.le_trans h.lo.1 hlo)
    obtain ⟨cs', e', fz', q1, q2⟩ := h5
    rw [g1] at q1
    simp only [Option.some.injEq, Obj.cells.injEq] at q1
    obtain ⟨rfl, rfl, rfl⟩ := q1
    rw [List.size_toArray] at q2
    have hul : us.length = k * s.sz := by rw [← hc.length, hcl]
    have hmul : (s.len + k) * s.sz = s.len * s.sz + k * s.sz := Nat.add_mul _ _ _
    have hcm : (s.len + k) * s.sz ≤ c * s.sz := Nat.mul_le_mul_right _ hroom
    have hrun := run_storeCells (P := X.P) (o := (μ s.id).2 + s.off + s.len * s.sz) us 0 cs w g1 (by omega) (fun j hj => hf j (Nat.le_of_lt hj)) (hc.oneCells hc1)
    simp only [Nat.add_zero] at hrun
    rw [add_addr, hrun, Result.andThen_ok]
    have hsz : (cs.take ((μ s.id).2 + s.off + s.len * s.sz) ++ us ++ cs.drop ((μ s.id).2 + s.off + s.len * s.sz + us.length)).length = cs.length := by simp; omega
    have hlt : (μ s.id).1 < w.heap.size := (Array.getElem?_eq_some_iff.1 g1).1
    have hold : ((l.drop s.off).take (s.len * s.sz)).length = s.len * s.sz := by rw [List.length_take, List.length_drop]; omega
    have hall : ((l.drop s.off).take (s.len * s.sz) ++ cells).length = (s.len + k) * s.sz := by rw [List.length_append, hold, hcl, hmul]
    have hg := putRow_grow g1 hsz
    obtain ⟨hR, hS⟩ := h.move (i := s.id) (base := (μ s.id).2 + s.off) (b := .cells ((l.drop s.off).take (s.len * s.sz) ++ cells))
      (w' := putRow w (μ s.id).1 (cs.take ((μ s.id).2 + s.off + s.len * s.sz) ++ us ++ cs.drop ((μ s.id).2 + s.off + s.len * s.sz + us.length)) e fz) hlo (by rw [Mem.cells_some hl]; simp)
      (fun j hj => putRow_ne hj) (by simp [putRow]) rfl rfl rfl hg (by
        refine ⟨_, e, fz, by simp only [if_true]; exact putRow_get hlt, ?_, ?_, ?_, fun _ => ?_⟩
        · simp only [if_true]
          rw [List.size_toArray, hsz, hall]
          omega
        · rw [List.all_append, hc1, Bool.and_true]
          exact List.all_eq_true.2 fun x hx => List.all_eq_true.1 g3 x (List.mem_of_mem_drop (List.mem_of_mem_take hx))
        · simp only [if_true]
          rw [hall]
          have e1 : ((cs.take ((μ s.id).2 + s.off + s.len * s.sz) ++ us ++ cs.drop ((μ s.id).2 + s.off + s.len * s.sz + us.length)).drop ((μ s.id).2 + s.off)).take ((s.len + k) * s.sz) =
              (cs.drop ((μ s.id).2 + s.off)).take (s.len * s.sz) ++ us := by
            apply List.ext_getElem?
            intro j
            simp only [List.getElem?_append, List.getElem?_take, List.getElem?_drop, List.length_append, List.length_take, List.length_drop]
            by_cases a1 : j < s.len * s.sz
            · rw [if_pos (by omega), if_pos (by omega), if_pos (by omega), if_pos (by omega), if_pos (by omega), if_pos a1]
            · by_cases a2 : j < (s.len + k) * s.sz
              · rw [if_pos a2, if_pos (by omega), if_neg (by omega), if_neg (by omega)]
                congr 1; omega
              · rw [if_neg a2, if_neg (by omega)]
                exact (List.getElem?_eq_none (by omega)).symm
          rw [e1]
          exact ((g4.seg (by omega)).append hc).mono (fun i hi => by simp [Nat.ne_of_lt hi]) (Nat.le_succ _) hg
        · exact fun q hq => hf q (by rwa [List.size_toArray, hsz] at hq))
    refine ⟨_, _, _, rfl, ?_, hR, hS⟩
    have hv := VR.slice (μ := fun j => if j = m.next then ((μ s.id).1, (μ s.id).2 + s.off) else μ j) (N := ((m.kill s.id).add (.cells ((l.drop s.off).take (s.len * s.sz) ++ cells))).next)
      (w := putRow w (μ s.id).1 (cs.take ((μ s.id).2 + s.off + s.len * s.sz) ++ us ++ cs.drop ((μ s.id).2 + s.off + s.len * s.sz + us.length)) e fz)
      { id := m.next, off := 0, sz := s.sz, len := s.len + k, cap := s.len + k, ex := false } c (by simp) (Nat.le_refl _) hroom (fun h => by cases h) (by
      refine ⟨_, e, fz, by simp only [if_true]; exact putRow_get hlt, ?_⟩
      simp only [if_true]
      rw [List.size_toArray, hsz]
      show (μ s.id).2 + s.off + 0 + c * s.sz ≤ cs.length
      omega)
    simp only [if_true, Nat.add_zero] at hv
    exact hv

/-- append. -/
theorem appL_done {ts : Array TypeId} {ty : TypeId} {t tx e : TypeId} {i ie : TI} {x : Value} {dx : TypeDesc} (hi : TIok X.P t i) (hk : i.kd = .slice e) (ht : ts[0]? = some t) (hx : ts[1]? = some tx)
    (hdx : X.P.underlying tx = some dx) (hni : ∀ k, dx ≠ .int k) (hie : TIok X.P e ie) (htup : ie.kd.isTup = false) (h : R X μ m w) {s : Option SV} {u : Value} (hu : VR μ m.next w (.slice s) u) {n : Nat} {cells : List AV} {us : List Value}
    (hc : VRs μ m.next w cells us) (hcl : cells.length = n * ie.size) (hlen : (Builtin.lenOf x).run X.P w = .ok n w) (hus : ∀ w', w'.heap = w.heap → (Builtin.firstCells ie.size n x).run X.P w' = .ok us.toArray w') {v : AV}
    (he : appL ie.size ie.bytes s n cells (fun r => ret (.slice r)) m = some (v, m')) : Done X μ m w v m' ((Builtin.append_ ts ty #[u, x]).run X.P w) := by
  obtain ⟨d, hd, hkd⟩ := hi.und
  rw [hk] at hkd
  cases hkd
  obtain ⟨base, c, rfl, hbc, hnil⟩ := hu.slice_shape
  obtain ⟨z, hzr, _, _, _, z5, _⟩ := hie.zero (μ := μ) (m := m) (w := w) htup
  unfold appL at he
  cases n with
  | zero =>
    obtain ⟨rfl, rfl⟩ := ret_some he
    refine .same h hu ?_
    rw [append_room ht hx hd hdx hni hie hlen (hus w rfl) (by omega)]
    have hu0 : us = [] := by
      apply List.eq_nil_of_length_eq_zero
      rw [← hc.length, hcl, Nat.zero_mul]
    subst hu0
    cases base with
    | none => rfl
    | some a => rfl
  | succ n =>
    cases s with
    | none =>
      simp only [] at he
      split at he
      · rename_i hcond
        simp only [Bool.and_eq_true, decide_eq_true_eq] at hcond
        obtain ⟨⟨_, c2, c3, c4⟩, c5⟩ := hcond
        obtain ⟨rfl, rfl⟩ := ret_some he
        obtain ⟨rfl, rfl⟩ := hnil rfl
        obtain ⟨nc, g1, g2⟩ := append_grow (os := []) (base := none) (len := 0) (c := 0) (ty := ty) ht hx hd hdx hni hie c4 c3 hlen hzr hus (fun w' _ => rfl) (by omega) (by omega)
        rw [show (slen none).toNat = 0 from rfl, g2]
        have e1 : (([] : List Value).toArray ++ (us.toArray ++ Builtin.zeroCells z.cells (nc - (0 + (n + 1))))) = (us ++ (Builtin.zeroCells z.cells (nc - (0 + (n + 1)))).toList).toArray := by
          apply Array.ext'; simp
        rw [e1, Nat.zero_add]
        refine grown_row h ?_ hcl ?_ (by omega) c5
        · rw [hc.length, List.take_left']
          · exact hc
          · rfl
        · rw [List.length_append, zeroCells_len, z5, ← hc.length, hcl, ← Nat.add_mul]
          congr 1; omega
      · cases he
    | some s =>
      simp only [] at he
      cases hl : m.cells s.id with
      | none => rw [hl] at he; cases he
      | some l =>
        rw [hl] at he
        simp only [] at he
        split at he
        · cases he
        · rename_i hcond
          simp only [Bool.and_eq_true, decide_eq_true_eq] at hcond
          obtain ⟨⟨c1, c2, c3, c4, c5, c6⟩, c7⟩ := hcond
          have hsl : (slen (some s)).toNat = s.len := by simp [slen]
          rw [hsl] at hbc hu ⊢
          have hsome : ∃ a, base = some a := by
            generalize s.len = q at hu
            cases hu <;> exact ⟨_, rfl⟩
          obtain ⟨a, rfl⟩ := hsome
          have hcap : s.len ≤ s.cap ∧ s.cap ≤ c ∧ (s.ex = true → c = s.cap) := by
            generalize hlen' : s.len = q at hu
            cases hu with
            | emptyslice _ _ _ h1 h2 => exact ⟨by omega, by omega, fun _ => by omega⟩
            | slice _ _ h1 h2 h3 h4 h5 => exact ⟨h2, h3, h4⟩
          -- the old cells, as the model reads them
          have hold := row_run (sz := ie.size) (n := s.len) (l := (l.drop s.off).take (s.len * ie.size)) h hu (by
            simp only [Mem.row, hl]
            rw [if_pos ⟨c1, c6⟩]) (by simp [slen])
          obtain ⟨os, o1, o2, o3, o4⟩ := hold
          have grow : ¬ s.len + (n + 1) ≤ c → Done X μ m w (.slice (some { id := m.next, off := 0, sz := ie.size, len := s.len + (n + 1), cap := s.len + (n + 1), ex := false })) (m.add (.cells ((l.drop s.off).take (s.len * ie.size) ++ cells)))
              ((Builtin.append_ ts ty #[.slice (some a) s.len c, x]).run X.P w) := fun hno => by
            obtain ⟨nc, g1, g2⟩ := append_grow (ty := ty) ht hx hd hdx hni hie c5 c4 hlen hzr hus o4 hno c3
            rw [g2]
            have e1 : (os.toArray ++ (us.toArray ++ Builtin.zeroCells z.cells (nc - (s.len + (n + 1))))) = ((os ++ us) ++ (Builtin.zeroCells z.cells (nc - (s.len + (n + 1)))).toList).toArray := by
              apply Array.ext'; simp
            rw [e1]
            have hll : ((l.drop s.off).take (s.len * ie.size) ++ cells).length = (s.len + (n + 1)) * ie.size := by rw [List.length_append, o3, hcl, ← Nat.add_mul]
            refine grown_row h ?_ hll ?_ g1 (by rw [List.all_append, o2, c7]; rfl)
            · have := o1.append hc
              rw [this.length, List.take_left']
              · exact this
              · rfl
            · have e2 := (o1.append hc).length
              rw [hll] at e2
              rw [List.length_append, ← e2, zeroCells_len, z5, ← Nat.add_mul]
              congr 1; omega
          split at he
          · rename_i hroom
            simp only [decide_eq_true_eq] at hroom
            split at he
            · rename_i hin
              simp only [decide_eq_true_eq] at hin
              obtain ⟨hlo, hle⟩ := hin
              obtain ⟨rfl, rfl⟩ := ret_some he
              rw [append_room ht hx hd hdx hni hie hlen (hus w rfl) (by omega)]
              generalize hlen' : s.len = q at hu
              cases hu with
              | emptyslice _ _ _ h1 h2 => omega
              | slice _ _ h1 h2 h3 h4 h5 =>
                clear hlen'
                obtain ⟨w', k1, k2, k3⟩ := write_done (o := s.off + s.len * ie.size) h hl hlo (new := cells) (by rw [hcl]; have := Nat.add_mul s.len (n + 1) ie.size; omega) hc c7
                have ea : (⟨(μ s.id).1, (μ s.id).2 + s.off, none⟩ : Addr).add (s.len * ie.size) = ⟨(μ s.id).1, (μ s.id).2 + (s.off + s.len * ie.size), none⟩ := by rw [add_addr, Nat.add_assoc]
                simp only [ea, k1, Result.andThen_ok]
                refine ⟨_, w', μ, rfl, ?_, k2, k3⟩
                obtain ⟨cs', e', fz', q1, q2⟩ := h5
                obtain ⟨cs'', fz'', q3, q4⟩ := k3.grow _ _ _ _ q1
                exact .slice { s with len := s.len + (n + 1) } c h1 (by exact hroom) h3 h4 ⟨cs'', e', fz'', q3, by rw [q4]; exact q2⟩
            · cases he
          · rename_i hroom
            simp only [decide_eq_false_iff_not] at hroom
            split at he
            · rename_i hex
              obtain ⟨rfl, rfl⟩ := ret_some he
              exact grow (by rw [hcap.2.2 hex]; exact hroom)
            · split at he
              · rename_i hlo
                simp only [decide_eq_true_eq] at hlo
                obtain ⟨rfl, rfl⟩ := ret_some he
                by_cases hno : s.len + (n + 1) ≤ c
                · rw [append_room ht hx hd hdx hni hie hlen (hus w rfl) hno]
                  have := h.append_in (k := n + 1) hl hlo hu (by omega) hno hc c7 (by rw [c1]; exact hcl) (by rw [c1]; exact c6)
                  rw [c1] at this
                  exact this
                · -- given up, and laid anew
                  obtain ⟨r1, r2⟩ := h.kill hlo
                  obtain ⟨nc, g1, g2⟩ := append_grow (ty := ty) ht hx hd hdx hni hie c5 c4 hlen hzr hus o4 hno c3
                  rw [g2]
                  have e1 : (os.toArray ++ (us.toArray ++ Builtin.zeroCells z.cells (nc - (s.len + (n + 1))))) = ((os ++ us) ++ (Builtin.zeroCells z.cells (nc - (s.len + (n + 1)))).toList).toArray := by
                    apply Array.ext'; simp
                  rw [e1]
                  have hll : ((l.drop s.off).take (s.len * ie.size) ++ cells).length = (s.len + (n + 1)) * ie.size := by rw [List.length_append, o3, hcl, ← Nat.add_mul]
                  have happ := o1.append hc
                  have hd2 := grown_row (m := m.kill s.id) (sz := ie.size) (n := s.len + (n + 1)) (c := nc) (e := e) (l := (l.drop s.off).take (s.len * ie.size) ++ cells) (r := (os ++ us) ++ (Builtin.zeroCells z.cells (nc - (s.len + (n + 1)))).toList) r1 (by
                    rw [happ.length, List.take_left']
                    · exact happ
                    · rfl) hll (by
                    have e2 := happ.length
                    rw [hll] at e2
                    rw [List.length_append, ← e2, zeroCells_len, z5, ← Nat.add_mul]
                    congr 1; omega) g1 (by rw [List.all_append, o2, c7]; rfl)
                  obtain ⟨y, w', μ', y1, y2, y3, y4⟩ := hd2
                  exact ⟨y, w', μ', y1, y2, y3, r2.trans y4⟩
              · cases he

end Go.Am
