/-
What the model's operations come to where the abstract machine's do: maps by int keys; bytes as a string.
-/
import Derived.Test.YtboilkakbgalgaaDoorAmOps6
import Derived.Laws.BytesArg
namespace Go.Am
open Go Go.RowKit

variable {X : Ctx} {μ : Nat → Nat × Nat} {m m' : Mem} {w : World} {E : Env}

theorem findNow_spec (k : Int) : ∀ (es : List MapEntry) (i : Nat), (∀ e ∈ es, ∃ k, e.key = .int .i64 k) →
    (∃ A e B, es = A ++ e :: B ∧ e.key = .int .i64 k ∧ Instr.findNow (.int .i64) (.int .i64 k) es i = some (some (i + A.length, e.val))) ∨
    ((∀ e ∈ es, e.key ≠ .int .i64 k) ∧ Instr.findNow (.int .i64) (.int .i64 k) es i = some none)
  | [], i, _ => .inr ⟨by simp, rfl⟩
  | e :: es, i, h => by
    obtain ⟨q, hq⟩ := h e (by simp)
    by_cases hk : k = q
    · subst hk
      exact .inl ⟨[], e, es, rfl, hq, by simp [Instr.findNow, hq, Instr.sameNow]⟩
    · have hb : (k == q) = false := by simpa using hk
      rcases findNow_spec k es (i + 1) fun e he => h e (by simp [he]) with ⟨A, e', B, h1, h2, h3⟩ | ⟨h1, h2⟩
      · refine .inl ⟨e :: A, e', B, by simp [h1], h2, ?_⟩
        simp only [Instr.findNow, hq, Instr.sameNow, if_true, hb, h3]
        simp; omega
      · refine .inr ⟨fun x hx => ?_, ?_⟩
        · rcases List.mem_cons.1 hx with rfl | hx
          · rw [hq]; simpa using fun h => hk h.symm
          · exact h1 x hx
        · simp only [Instr.findNow, hq, Instr.sameNow, if_true, hb, h2]
theorem checkKey_int {kt : TypeId} {kk : IntKind} (hu : X.P.underlying kt = some (.int kk)) (b : Bool) (k : Int) (n : Nat) : (Instr.checkKey b (n + 1) kt (.int .i64 k)).run X.P w = .ok () w := by
  simp [Instr.checkKey, run_und hu]
theorem findKey_int {kt : TypeId} (hu : X.P.underlying kt = some (.int .i64)) {k : Int} {es : List MapEntry} {r : Option (Nat × Value)} (h : Instr.findNow (.int .i64) (.int .i64 k) es 0 = some r) :
    (Instr.findKey kt (.int .i64 k) es).run X.P w = .ok r w := by
  simp [Instr.findKey, run_und hu, h]
theorem run_getMap {r : Nat} {es : Array MapEntry} {c : Nat} (h : w.heap[r]? = some (.map es c)) : (getObj r).run X.P w = .ok (.map es c) w := by
  simp [getObj, Sem.run, h]
theorem run_setMap {r : Nat} {es : Array MapEntry} {c : Nat} (h : w.heap[r]? = some (.map es c)) (o : Obj) : (setObj r o).run X.P w = .ok () { w with heap := w.heap.setIfInBounds r o } := by
  simp [setObj, Sem.run, h]
theorem mget_cons (l : List (Int × AV)) (k q : Int) (v : AV) : mget ((k, v) :: mdel l k) q = if q = k then some v else mget l q := by
  unfold mget mdel
  by_cases h : q = k
  · subst h; simp
  · rw [if_neg h, List.find?_cons]
    have hb : (k == q) = false := by simpa using fun e => h e.symm
    simp only [hb]
    congr 1
    rw [List.find?_filter]
    congr 1
    funext e
    by_cases he : e.1 = q
    · have : ¬ e.1 = k := fun h' => h (he.symm.trans h')
      simp [he, h]
    · simp [he]
theorem mget_mdel (l : List (Int × AV)) (k q : Int) : mget (mdel l k) q = if q = k then none else mget l q := by
  unfold mget mdel
  rw [List.find?_filter]
  by_cases h : q = k
  · subst h
    rw [if_pos rfl]
    simp
  · rw [if_neg h]
    congr 2
    funext e
    by_cases he : e.1 = q
    · simp [he, h]
    · simp [he]
theorem look_done {t kt e : TypeId} {i ik ie : TI} (hi : TIok X.P t i) (hk : i.kd = .map kt e) (hik : TIok X.P kt ik) (hkk : ik.kd = .int .i64) (hie : TIok X.P e ie) (htup : ie.kd.isTup = false) (h : R X μ m w) {r : Option Nat} {u : Value}
    (hu : VR μ m.next w (.map r) u) {k : Int} {zero : AV} (hz : (ie.kd.agg = true → zero = .agg ie.zero) ∧ (ie.kd.agg = false → ie.zero = [zero])) {v : AV}
    (he : look r k zero (destr1 ie ret) m = some (v, m')) : Done X μ m w v m' ((Instr.lookup t u (.int .i64 k) false).run X.P w) := by
  obtain ⟨d, hd, hkd⟩ := hi.und
  rw [hk] at hkd
  cases hkd
  obtain ⟨dk, hdk, hkdk⟩ := hik.und
  rw [hkk] at hkdk
  cases hkdk
  obtain ⟨z, z1, z2, z3, z4, z5, z6, z7⟩ := hie.zero (μ := μ) (m := m) (w := w) htup
  have hzv : VR μ m.next w zero z := by
    cases ha : ie.kd.agg with
    | true =>
      obtain ⟨c, rfl⟩ := z6 ha
      rw [hz.1 ha]
      exact .agg _ _ z2 z3
    | false =>
      rw [hz.2 ha, z7 ha] at z2
      cases z2 with
      | cons _ _ _ _ h1 _ => exact h1
  unfold look at he
  cases r with
  | none =>
    obtain ⟨rfl, rfl⟩ := ret_some (destr1_some he)
    cases hu
    refine .same h hzv ?_
    simp [Instr.lookup, run_und hd, checkKey_int hdk, findKey_int hdk (show Instr.findNow (.int .i64) (.int .i64 k) [] 0 = some none from rfl), z1]
  | some r =>
    simp only [] at he
    cases hm : m.maps r with
    | none => rw [hm] at he; cases he
    | some l =>
      rw [hm] at he
      obtain ⟨rfl, rfl⟩ := ret_some (destr1_some he)
      obtain ⟨es, c, g1, g2⟩ := h.maps hm
      cases hu with
      | map _ hr =>
        rcases findNow_spec k es.toList 0 g2.ints with ⟨A, e', B, h1, h2, h3⟩ | ⟨h1, h2⟩
        · cases hg : mget l k with
          | none => exact absurd h2 (g2.no k hg e' (by rw [h1]; simp))
          | some x =>
            obtain ⟨e2, q1, q2, q3⟩ := g2.to k x hg
            have hee : e2 = e' := by
              have ho := g2.once
              rw [h1] at ho q1
              rcases List.mem_append.1 q1 with q1 | q1
              · have := (List.pairwise_append.1 ho).2.2 e2 q1 e' (by simp) k q2
                exact absurd h2 this
              · rcases List.mem_cons.1 q1 with rfl | q1
                · rfl
                · have := (List.pairwise_cons.1 (List.pairwise_append.1 ho).2.1).1 e2 q1 k h2
                  exact absurd q2 this
            subst hee
            refine .same h (by simpa using q3) ?_
            simp [Instr.lookup, run_und hd, run_getMap g1, checkKey_int hdk, findKey_int hdk h3]
        · cases hg : mget l k with
          | some x =>
            obtain ⟨e2, q1, q2, q3⟩ := g2.to k x hg
            exact absurd q2 (h1 e2 q1)
          | none =>
            refine .same h (by simpa using hzv) ?_
            simp [Instr.lookup, run_und hd, run_getMap g1, checkKey_int hdk, findKey_int hdk h2, z1]

/-- A map in another state. -/
theorem R.setMap (h : R X μ m w) {r : Nat} {l l' : List (Int × AV)} {es es' : Array MapEntry} {c c' : Nat} (hl : m.maps r = some l) (hlo : m.lo ≤ r) (g1 : w.heap[(μ r).1]? = some (.map es c))
    (hr : MapR μ m.next w l' es'.toList) : R X μ (m.set r (.map l')) { w with heap := w.heap.setIfInBounds (μ r).1 (.map es' c') } ∧ Step μ m w μ (m.set r (.map l')) { w with heap := w.heap.setIfInBounds (μ r).1 (.map es' c') } := by
  have hg : Grow w { w with heap := w.heap.setIfInBounds (μ r).1 (.map es' c') } := fun b cs e fz hb => by
    by_cases hbr : b = (μ r).1
    · rw [hbr, g1] at hb; cases hb
    · exact ⟨cs, fz, by simp [Array.getElem?_setIfInBounds_ne (Ne.symm hbr), hb], rfl⟩
  refine h.update hlo (by rw [Mem.maps_some hl]; simp) (fun k hk => by simp [Array.getElem?_setIfInBounds_ne (Ne.symm hk)]) (by simp) rfl rfl rfl hg ?_
  have hlt : (μ r).1 < w.heap.size := (Array.getElem?_eq_some_iff.1 g1).1
  exact ⟨es', c', by simp [hlt], hr.mono (fun _ _ => rfl) (Nat.le_refl _) hg⟩
theorem modify_mid {α : Type} (f : α → α) : ∀ (A : List α) (e : α) (B : List α), (A ++ e :: B).modify A.length f = A ++ f e :: B
  | [], e, B => rfl
  | a :: A, e, B => by
    show (a :: (A ++ e :: B)).modify (A.length + 1) f = _
    rw [List.modify_succ_cons, modify_mid f A e B]
    rfl
theorem erase_mid {α : Type} : ∀ (A : List α) (e : α) (B : List α), (A ++ e :: B).eraseIdx A.length = A ++ B
  | [], e, B => rfl
  | a :: A, e, B => by
    show (a :: (A ++ e :: B)).eraseIdx (A.length + 1) = _
    rw [List.eraseIdx_cons_succ, erase_mid A e B]
    rfl
theorem upd_done {t kt e : TypeId} {i ik : TI} (hi : TIok X.P t i) (hk : i.kd = .map kt e) (hik : TIok X.P kt ik) (hkk : ik.kd = .int .i64) (h : R X μ m w) {r : Option Nat} {u y : Value}
    (hu : VR μ m.next w (.map r) u) {k : Int} {x : AV} (hy : VR μ m.next w x y) {v v' : AV} (he : upd r k x (ret v) m = some (v', m')) :
    v = v' ∧ ∃ w', (Instr.mapUpdate t u (.int .i64 k) y).run X.P w = .ok () w' ∧ R X μ m' w' ∧ Step μ m w μ m' w' := by
  obtain ⟨d, hd, hkd⟩ := hi.und
  rw [hk] at hkd
  cases hkd
  obtain ⟨dk, hdk, hkdk⟩ := hik.und
  rw [hkk] at hkdk
  cases hkdk
  unfold upd at he
  cases r with
  | none => cases he
  | some r =>
    simp only [] at he
    split at he
    · rename_i l hm hlo
      simp only [decide_eq_true_eq] at hlo
      obtain ⟨hvv, rfl⟩ := ret_some he
      obtain ⟨es, c, g1, g2⟩ := h.maps hm
      cases hu with
      | map _ hr =>
        rcases findNow_spec k es.toList 0 g2.ints with ⟨A, e', B, h1, h2, h3⟩ | ⟨h1, h2⟩
        · have hget : es[A.length]? = some e' := by rw [← Array.getElem?_toList, h1]; simp
          have hmod : (es.modify A.length fun q => { q with key := .int .i64 k, val := y }).toList = A ++ { e' with key := .int .i64 k, val := y } :: B := by
            rw [Array.toList_modify, h1, modify_mid]
          have hM : MapR μ m.next w ((k, x) :: mdel l k) (es.modify A.length fun q => { q with key := .int .i64 k, val := y }).toList := by
            rw [hmod]
            have hi' := g2.ints
            have ho := g2.once
            rw [h1] at hi' ho
            obtain ⟨o1, o2, o3⟩ := List.pairwise_append.1 ho
            obtain ⟨o4, o5⟩ := List.pairwise_cons.1 o2
            refine ⟨fun q hq => ?_, ?_, fun q z hz => ?_, fun q hz b hb => ?_⟩
            · rcases List.mem_append.1 hq with hq | hq
              · exact hi' q (by simp [hq])
              · rcases List.mem_cons.1 hq with rfl | hq
                · exact ⟨k, rfl⟩
                · exact hi' q (by simp [hq])
            · refine List.pairwise_append.2 ⟨o1, List.pairwise_cons.2 ⟨fun b hb q hq => o4 b hb q (by rw [h2]; exact hq), o5⟩, fun a ha b hb q hq => ?_⟩
              rcases List.mem_cons.1 hb with rfl | hb
              · have := o3 a ha e' (by simp) q hq
                rwa [h2] at this
              · exact o3 a ha b (by simp [hb]) q hq
            · rw [mget_cons] at hz
              by_cases hqk : q = k
              · subst hqk
                rw [if_pos rfl] at hz
                cases hz
                exact ⟨{ e' with key := .int .i64 q, val := y }, by simp, rfl, hy⟩
              · rw [if_neg hqk] at hz
                obtain ⟨b, b1, b2, b3⟩ := g2.to q z hz
                rw [h1] at b1
                refine ⟨b, ?_, b2, b3⟩
                rcases List.mem_append.1 b1 with b1 | b1
                · simp [b1]
                · rcases List.mem_cons.1 b1 with rfl | b1
                  · rw [h2] at b2; simp at b2; exact absurd b2.symm hqk
                  · simp [b1]
            · rw [mget_cons] at hz
              by_cases hqk : q = k
              · rw [if_pos hqk] at hz; cases hz
              · rw [if_neg hqk] at hz
                have := g2.no q hz
                rw [h1] at this
                rcases List.mem_append.1 hb with hb | hb
                · exact this b (by simp [hb])
                · rcases List.mem_cons.1 hb with rfl | hb
                  · simpa using fun e => hqk e.symm
                  · exact this b (by simp [hb])
          obtain ⟨k1, k2⟩ := h.setMap (c' := c) hm hlo g1 hM
          refine ⟨hvv, _, ?_, k1, k2⟩
          have hsame : Instr.sameBits 10000 (.int .i64 k) (.int .i64 k) = true := by simp [Instr.sameBits]
          simp only [Nat.zero_add] at h3
          simp [Instr.mapUpdate, run_und hd, run_getMap g1, checkKey_int hdk, findKey_int hdk h3, hget, h2, Instr.keyThatStays, hsame, run_setMap g1]
        · have hpush : (es.push { key := .int .i64 k, val := y, born := c }).toList = es.toList ++ [{ key := .int .i64 k, val := y, born := c }] := by simp
          have hM : MapR μ m.next w ((k, x) :: mdel l k) (es.push { key := .int .i64 k, val := y, born := c }).toList := by
            rw [hpush]
            refine ⟨fun q hq => ?_, ?_, fun q z hz => ?_, fun q hz b hb => ?_⟩
            · rcases List.mem_append.1 hq with hq | hq
              · exact g2.ints q hq
              · simp only [List.mem_singleton] at hq; subst hq; exact ⟨k, rfl⟩
            · refine List.pairwise_append.2 ⟨g2.once, by simp, fun a ha b hb q hq => ?_⟩
              simp only [List.mem_singleton] at hb
              subst hb
              have := h1 a ha
              rw [hq] at this
              simpa using fun e => this (by rw [e])
            · rw [mget_cons] at hz
              by_cases hqk : q = k
              · subst hqk
                rw [if_pos rfl] at hz
                cases hz
                exact ⟨{ key := .int .i64 q, val := y, born := c }, by simp, rfl, hy⟩
              · rw [if_neg hqk] at hz
                obtain ⟨b, b1, b2, b3⟩ := g2.to q z hz
                exact ⟨b, by simp [b1], b2, b3⟩
            · rw [mget_cons] at hz
              by_cases hqk : q = k
              · rw [if_pos hqk] at hz; cases hz
              · rw [if_neg hqk] at hz
                rcases List.mem_append.1 hb with hb | hb
                · exact g2.no q hz b hb
                · simp only [List.mem_singleton] at hb
                  subst hb
                  simpa using fun e => hqk e.symm
          obtain ⟨k1, k2⟩ := h.setMap (c' := c + 1) hm hlo g1 hM
          refine ⟨hvv, _, ?_, k1, k2⟩
          simp [Instr.mapUpdate, run_und hd, run_getMap g1, checkKey_int hdk, findKey_int hdk h2, run_setMap g1]
    · cases he
theorem del_done {ts : Array TypeId} {ty t kt e : TypeId} {i ik : TI} (ht : ts[0]? = some t) (hi : TIok X.P t i) (hk : i.kd = .map kt e) (hik : TIok X.P kt ik) (hkk : ik.kd = .int .i64) (h : R X μ m w) {r : Option Nat} {u : Value}
    (hu : VR μ m.next w (.map r) u) {k : Int} {v : AV} (he : del r k (ret (.tup [])) m = some (v, m')) : Done X μ m w v m' ((Builtin.delete_ ts ty #[u, .int .i64 k]).run X.P w) := by
  obtain ⟨d, hd, hkd⟩ := hi.und
  rw [hk] at hkd
  cases hkd
  obtain ⟨dk, hdk, hkdk⟩ := hik.und
  rw [hkk] at hkdk
  cases hkdk
  have htupv : ∀ {N : Nat} {μ : Nat → Nat × Nat} {w : World}, VR μ N w (.tup []) (.tuple #[]) := .tup [] #[] .nil
  unfold del at he
  cases r with
  | none =>
    obtain ⟨rfl, rfl⟩ := ret_some he
    cases hu
    exact .same h htupv (by simp [Builtin.delete_, ht, run_und hd, checkKey_int hdk])
  | some r =>
    simp only [] at he
    split at he
    · rename_i l hm hlo
      simp only [decide_eq_true_eq] at hlo
      obtain ⟨rfl, rfl⟩ := ret_some he
      obtain ⟨es, c, g1, g2⟩ := h.maps hm
      cases hu with
      | map _ hr =>
        rcases findNow_spec k es.toList 0 g2.ints with ⟨A, e', B, h1, h2, h3⟩ | ⟨h1, h2⟩
        · have hlen : A.length < es.size := by
            rw [← Array.length_toList, h1]; simp
          have hmod : (es.eraseIdxIfInBounds A.length).toList = A ++ B := by
            rw [Array.toList_eraseIdxIfInBounds, h1, erase_mid]
          have hM : MapR μ m.next w (mdel l k) (es.eraseIdxIfInBounds A.length).toList := by
            rw [hmod]
            have hi' := g2.ints
            have ho := g2.once
            rw [h1] at hi' ho
            obtain ⟨o1, o2, o3⟩ := List.pairwise_append.1 ho
            obtain ⟨o4, o5⟩ := List.pairwise_cons.1 o2
            refine ⟨fun q hq => ?_, ?_, fun q z hz => ?_, fun q hz b hb => ?_⟩
            · rcases List.mem_append.1 hq with hq | hq <;> exact hi' q (by simp [hq])
            · exact List.pairwise_append.2 ⟨o1, o5, fun a ha b hb q hq => o3 a ha b (by simp [hb]) q hq⟩
            · rw [mget_mdel] at hz
              by_cases hqk : q = k
              · rw [if_pos hqk] at hz; cases hz
              · rw [if_neg hqk] at hz
                obtain ⟨b, b1, b2, b3⟩ := g2.to q z hz
                rw [h1] at b1
                refine ⟨b, ?_, b2, b3⟩
                rcases List.mem_append.1 b1 with b1 | b1
                · simp [b1]
                · rcases List.mem_cons.1 b1 with rfl | b1
                  · rw [h2] at b2; simp at b2; exact absurd b2.symm hqk
                  · simp [b1]
            · by_cases hqk : q = k
              · subst hqk
                rcases List.mem_append.1 hb with hb | hb
                · have h5 := fun q' (hq' : b.key = .int .i64 q') => o3 b hb e' (by simp) q' hq'
                  intro hbk
                  exact h5 q hbk h2
                · exact fun hbk => o4 b hb q h2 hbk
              · rw [mget_mdel, if_neg hqk] at hz
                have := g2.no q hz
                rw [h1] at this
                rcases List.mem_append.1 hb with hb | hb <;> exact this b (by simp [hb])
          obtain ⟨k1, k2⟩ := h.setMap (c' := c) hm hlo g1 hM
          refine ⟨_, _, μ, ?_, htupv, k1, k2⟩
          simp only [Nat.zero_add] at h3
          simp [Builtin.delete_, ht, run_und hd, run_getMap g1, checkKey_int hdk, findKey_int hdk h3, run_setMap g1]
        · have hM : MapR μ m.next w (mdel l k) es.toList := by
            refine ⟨g2.ints, g2.once, fun q z hz => ?_, fun q hz b hb => ?_⟩
            · rw [mget_mdel] at hz
              by_cases hqk : q = k
              · rw [if_pos hqk] at hz; cases hz
              · rw [if_neg hqk] at hz; exact g2.to q z hz
            · by_cases hqk : q = k
              · subst hqk; exact h1 b hb
              · rw [mget_mdel, if_neg hqk] at hz; exact g2.no q hz b hb
          obtain ⟨k1, k2⟩ := h.setMap (c' := c) hm hlo g1 hM
          refine ⟨_, _, μ, ?_, htupv, k1, k2⟩
          simp [Builtin.delete_, ht, run_und hd, run_getMap g1, checkKey_int hdk, findKey_int hdk h2, run_setMap g1]
    · cases he
theorem newMap_done {t : TypeId} (h : R X μ m w) {v : AV} (he : newMap (fun id => ret (.map (some id))) m = some (v, m')) : Done X μ m w v m' ((Instr.makeMap t none).run X.P w) := by
  unfold newMap at he
  obtain ⟨rfl, rfl⟩ := ret_some he
  obtain ⟨hR, hS⟩ := h.alloc (b := .map []) (o := .map #[] 0) (w' := { w with heap := w.heap.push (.map #[] 0) }) rfl ⟨#[], 0, by simp, ⟨by simp, by simp, fun k v h => by simp [mget] at h, by simp⟩⟩
  refine ⟨_, _, _, ?_, .map m.next (by simp), hR, hS⟩
  simp [Instr.makeMap]

theorem asBytes_VRs {N : Nat} : ∀ {l : List AV} {us : List Value} {b : List UInt8}, VRs μ N w l us → asBytes l = some b → ∃ ns : List Int, us = ns.map (fun n => .int .u8 n) ∧ b = ns.map fun n => UInt8.ofNat n.toNat
  | [], us, b, h, hb => by cases h; cases hb; exact ⟨[], rfl, rfl⟩
  | v :: l, us, b, h, hb => by
    cases h with
    | cons _ u _ us h1 h2 =>
      unfold asBytes at hb
      split at hb
      · rename_i heq; cases heq
      · rename_i n r heq
        cases heq
        split at hb
        · rename_i l' hl'
          cases hb
          obtain ⟨ns, e1, e2⟩ := asBytes_VRs h2 hl'
          cases h1
          exact ⟨n :: ns, by simp [e1], by simp [e2]⟩
        · cases hb
      · cases hb
theorem strOf_done (h : R X μ m w) {s : Option SV} {u : Value} (hu : VR μ m.next w (.slice s) u) {v : AV} (he : strOf s (fun b => ret (.str b)) m = some (v, m')) : Done X μ m w v m' ((Conv.bytesToString u).run X.P w) := by
  unfold strOf at he
  cases hr : m.row s 1 (slen s).toNat with
  | none => rw [hr] at he; cases he
  | some l =>
    rw [hr] at he
    simp only [] at he
    cases hb : asBytes l with
    | none => rw [hb] at he; cases he
    | some b =>
      rw [hb] at he
      obtain ⟨rfl, rfl⟩ := ret_some he
      obtain ⟨us, h1, h2, h3, h4⟩ := row_run h hu hr (by cases s <;> simp [slen])
      obtain ⟨ns, e1, e2⟩ := asBytes_VRs h1 hb
      refine .same h (.str b) ?_
      obtain ⟨base, c, rfl, _, hn⟩ := hu.slice_shape
      cases base with
      | none =>
        obtain ⟨hs, _⟩ : us = [] ∧ True := by
          have := h4 w rfl
          simp [Builtin.firstCells] at this
          exact ⟨this.symm ▸ rfl, trivial⟩
        subst hs
        cases ns with
        | nil => subst e2; rfl
        | cons n ns => cases e1
      | some a =>
        have hl : (loadCells a (slen s).toNat).run X.P w = .ok (ns.map (Value.int .u8)).toArray w := by
          have := h4 w rfl
          rw [e1] at this
          simpa [Builtin.firstCells] using this
        rw [run_bytesToString w a _ c ns hl, foldl_push_bytes, e2]
        simp [ByteArray.empty, ByteArray.emptyWithCapacity]
        rfl

end Go.Am
