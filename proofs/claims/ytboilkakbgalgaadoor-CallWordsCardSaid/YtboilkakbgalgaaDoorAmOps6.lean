/-
What the model's operations come to where the abstract machine's do: copy, clear, make; maps; bytes as a string.
-/
import Derived.Test.YtboilkakbgalgaaDoorAmOps5
import Derived.IntWalk
namespace Go.Am
open Go Go.RowKit

variable {X : Ctx} {μ : Nat → Nat × Nat} {m m' : Mem} {w : World} {E : Env}

theorem lenOf_slice {N : Nat} {s : Option SV} {u : Value} (hu : VR μ N w (.slice s) u) : ∀ w', (Builtin.lenOf u).run X.P w' = .ok (slen s).toNat w' := by
  obtain ⟨base, c, rfl, _, _⟩ := hu.slice_shape
  exact fun _ => rfl
theorem app_done {ts : Array TypeId} {ty : TypeId} {t tx e ex : TypeId} {i ix ie : TI} (hi : TIok X.P t i) (hk : i.kd = .slice e) (hx : TIok X.P tx ix) (hkx : ix.kd = .slice ex) (ht : ts[0]? = some t) (htx : ts[1]? = some tx)
    (hie : TIok X.P e ie) (htup : ie.kd.isTup = false) (h : R X μ m w) {s q : Option SV} {u x : Value} (hu : VR μ m.next w (.slice s) u) (hq : VR μ m.next w (.slice q) x) {v : AV}
    (he : app ie.size ie.bytes s q (fun r => ret (.slice r)) m = some (v, m')) : Done X μ m w v m' ((Builtin.append_ ts ty #[u, x]).run X.P w) := by
  obtain ⟨d, hd, hkd⟩ := hx.und
  rw [hkx] at hkd
  cases hkd
  unfold app at he
  cases hr : m.row q ie.size (slen q).toNat with
  | none => rw [hr] at he; cases he
  | some l =>
    rw [hr] at he
    obtain ⟨us, h1, h2, h3, h4⟩ := row_run h hq hr (by cases q <;> simp [slen])
    exact appL_done hi hk ht htx hd (fun _ h => by cases h) hie htup h hu h1 h3 (lenOf_slice hq w) h4 he
theorem byteCells_VRs {N : Nat} : ∀ l : List UInt8, VRs μ N w (byteCells l) (l.map fun b => .int .u8 b.toNat)
  | [] => .nil
  | b :: l => .cons _ _ _ _ (.int _ _) (byteCells_VRs l)
theorem appStr_done {ts : Array TypeId} {ty : TypeId} {t tx e : TypeId} {i ix ie : TI} (hi : TIok X.P t i) (hk : i.kd = .slice e) (hx : TIok X.P tx ix) (hkx : ix.kd = .str) (ht : ts[0]? = some t) (htx : ts[1]? = some tx)
    (hie : TIok X.P e ie) (htup : ie.kd.isTup = false) (hs : ie.size = 1) (hb : ie.bytes = 1) (h : R X μ m w) {s : Option SV} {q : List UInt8} {u x : Value} (hu : VR μ m.next w (.slice s) u) (hq : VR μ m.next w (.str q) x) {v : AV}
    (he : appStr s q (fun r => ret (.slice r)) m = some (v, m')) : Done X μ m w v m' ((Builtin.append_ ts ty #[u, x]).run X.P w) := by
  obtain ⟨d, hd, hkd⟩ := hx.und
  rw [hkx] at hkd
  cases hkd
  cases hq
  unfold appStr at he
  have hsz : (ByteArray.mk q.toArray).size = q.length := by simp [ByteArray.size]
  refine appL_done (n := q.length) (cells := byteCells q) (us := q.map fun b => .int .u8 b.toNat) hi hk ht htx hd (fun _ h => by cases h) hie htup h hu (byteCells_VRs q) (by simp [byteCells, hs]) ?_ ?_ (by rw [hs, hb]; exact he)
  · simp [Builtin.lenOf, hsz]
  · intro w' _
    simp only [Builtin.firstCells, Sem.run_pure]
    congr 1
    have : (ByteArray.mk q.toArray).extract 0 q.length = ⟨q.toArray⟩ := by
      rw [bytes_extract]; simp
    rw [this]
    simp

theorem cpy_done {ts : Array TypeId} {ty : TypeId} {t e : TypeId} {i ie : TI} (hi : TIok X.P t i) (hk : i.kd = .slice e) (ht : ts[0]? = some t) (hie : TIok X.P e ie) (h : R X μ m w) {s q : Option SV} {u x : Value}
    (hu : VR μ m.next w (.slice s) u) (hq : VR μ m.next w (.slice q) x) {v : AV} (he : cpy ie.size s q (fun n => ret (.int .i64 n)) m = some (v, m')) : Done X μ m w v m' ((Builtin.copy_ ts ty #[u, x]).run X.P w) := by
  obtain ⟨d, hd, hkd⟩ := hi.und
  rw [hk] at hkd
  cases hkd
  unfold cpy at he
  simp only [] at he
  generalize hn : min (slen q).toNat (slen s).toNat = n at he
  cases hr : m.row q ie.size n with
  | none => rw [hr] at he; cases he
  | some l =>
    rw [hr] at he
    obtain ⟨us, h1, h2, h3, h4⟩ := row_run h hq hr (by
      have : 0 ≤ slen q := by cases q <;> simp [slen]
      omega)
    obtain ⟨base, c, rfl, hbc, hnil⟩ := hu.slice_shape
    have hrun : (Builtin.copy_ ts ty #[.slice base (slen s).toNat c, x]).run X.P w = (match base with
      | some a => (storeCells a us).run X.P w
      | none => .ok () w).andThen fun _ w' => .ok (.int .i64 n) w' := by
      have hn' : Nat.min (slen q).toNat (slen s).toNat = n := hn
      cases base with
      | none => simp [Builtin.copy_, ht, run_und hd, lenOf_slice hq w, hn', hie.run_size, h4 w rfl, goInt]
      | some a => simp [Builtin.copy_, ht, run_und hd, lenOf_slice hq w, hn', hie.run_size, h4 w rfl, goInt]
    rw [hrun]
    unfold cpyL at he
    cases n with
    | zero =>
      obtain ⟨rfl, rfl⟩ := ret_some he
      have hu0 : us = [] := by
        apply List.eq_nil_of_length_eq_zero
        rw [← h1.length, h3, Nat.zero_mul]
      subst hu0
      refine .same h (.int _ _) ?_
      cases base <;> rfl
    | succ n =>
      cases s with
      | none => cases he
      | some s =>
        simp only [] at he
        cases hl : m.cells s.id with
        | none => rw [hl] at he; cases he
        | some c' =>
          rw [hl] at he
          simp only [] at he
          split at he
          · rename_i hc
            simp only [Bool.and_eq_true, decide_eq_true_eq] at hc
            obtain ⟨⟨c1, c2, c3, c4, c5⟩, c6⟩ := hc
            obtain ⟨rfl, rfl⟩ := ret_some he
            have hsl : (slen (some s)).toNat = s.len := by simp [slen]
            rw [hsl] at hu
            generalize hlen' : s.len = y at hu
            cases hu with
            | emptyslice _ _ _ g1 g2 => omega
            | slice _ _ g1 g2 g3 g4 g5 =>
              clear hlen'
              obtain ⟨w', k1, k2, k3⟩ := write_done (o := s.off) h hl c1 (new := l) (by omega) h1 h2
              simp only [k1, Result.andThen_ok]
              exact ⟨_, w', μ, rfl, .int _ _, k2, k3⟩
          · cases he

theorem clr_done {ts : Array TypeId} {ty : TypeId} {t e : TypeId} {i ie : TI} (hi : TIok X.P t i) (hk : i.kd = .slice e) (ht : ts[0]? = some t) (hie : TIok X.P e ie) (htup : ie.kd.isTup = false) (h : R X μ m w) {s : Option SV} {u : Value}
    (hu : VR μ m.next w (.slice s) u) {v : AV} (he : clr ie.size ie.zero s (ret (.tup [])) m = some (v, m')) : Done X μ m w v m' ((Builtin.clear_ ts ty #[u]).run X.P w) := by
  obtain ⟨d, hd, hkd⟩ := hi.und
  rw [hk] at hkd
  cases hkd
  obtain ⟨z, z1, z2, z3, z4, z5, _⟩ := hie.zero (μ := μ) (m := m) (w := w) htup
  have htupv : ∀ {N : Nat} {μ : Nat → Nat × Nat} {w : World}, VR μ N w (.tup []) (.tuple #[]) := .tup [] #[] .nil
  unfold clr at he
  cases s with
  | none =>
    obtain ⟨rfl, rfl⟩ := ret_some he
    cases hu
    exact .same h htupv (by simp [Builtin.clear_, ht, run_und hd])
  | some s =>
    simp only [] at he
    cases hn : s.len with
    | zero =>
      rw [hn] at he
      obtain ⟨rfl, rfl⟩ := ret_some he
      refine .same h htupv ?_
      obtain ⟨base, c, rfl, _, _⟩ := hu.slice_shape
      have : (slen (some s)).toNat = 0 := by simp [slen, hn]
      rw [this]
      cases base <;> simp [Builtin.clear_, ht, run_und hd]
    | succ n =>
      rw [hn] at he
      simp only [] at he
      cases hl : m.cells s.id with
      | none => rw [hl] at he; cases he
      | some l =>
        rw [hl] at he
        simp only [] at he
        split at he
        · rename_i hc
          simp only [Bool.and_eq_true, decide_eq_true_eq] at hc
          obtain ⟨⟨c1, c2, c3, c4⟩, c5⟩ := hc
          obtain ⟨rfl, rfl⟩ := ret_some he
          generalize hlen' : s.len = y at hu
          cases hu with
          | emptyslice _ _ _ g1 g2 => omega
          | slice _ c g1 g2 g3 g4 g5 =>
            clear hlen'
            have hz := rep_flat_VRs z2 (n + 1)
            have hzl : (List.replicate (n + 1) ie.zero).flatten.length = (n + 1) * ie.size := by rw [zip_flat, c3]
            obtain ⟨w', k1, k2, k3⟩ := write_done (o := s.off) h hl c1 (new := (List.replicate (n + 1) ie.zero).flatten) (by omega) hz (rep_all z3 (n + 1))
            refine ⟨_, w', μ, ?_, htupv, k2, k3⟩
            have hrow : (Builtin.zeroCells z.cells (n + 1)).toList = (List.replicate (n + 1) z.cells.toList).flatten := by
              unfold Builtin.zeroCells
              rw [zero_row]
            simp [Builtin.clear_, ht, run_und hd, hn, z1, hrow, k1]
        · cases he

theorem mk_done {t e : TypeId} {i ie : TI} (hi : TIok X.P t i) (hk : i.kd = .slice e) (hie : TIok X.P e ie) (htup : ie.kd.isTup = false) (h : R X μ m w) {n c : Int} {kn kc : IntKind} {v : AV}
    (he : mk ie.size ie.bytes ie.zero n c (fun s => ret (.slice s)) m = some (v, m')) : Done X μ m w v m' ((Instr.makeSlice t (.int kn n) (.int kc c)).run X.P w) := by
  obtain ⟨d, hd, hkd⟩ := hi.und
  rw [hk] at hkd
  cases hkd
  obtain ⟨z, z1, z2, z3, z4, z5, _⟩ := hie.zero (μ := μ) (m := m) (w := w) htup
  obtain ⟨f, hf1, hf2, hf3, _⟩ := hie.info
  unfold mk at he
  split at he
  · rename_i hc
    simp only [Bool.and_eq_true, decide_eq_true_eq] at hc
    obtain ⟨⟨c1, c2, c3, c4, c5, c6⟩, c7⟩ := hc
    obtain ⟨rfl, rfl⟩ := ret_some he
    have hm : (most : Int) = 1073741824 := rfl
    have hwn : IntKind.i64.wrap n = n := IntWalk.i64_in n (by omega)
    have hwc : IntKind.i64.wrap c = c := IntWalk.i64_in c (by omega)
    have hbig : ∀ y : Int, 0 ≤ y → y ≤ c → ¬ ((f.bytes : Int) * y > 2 ^ 48) := fun y h0 h1 => by
      have : (f.bytes : Int) * y ≤ 65536 * 1073741824 := by
        have a1 : (f.bytes : Int) ≤ 65536 := by omega
        exact Int.mul_le_mul a1 (by omega) h0 (by omega)
      omega
    have hcells := CellsR.new (m := m) (μ := μ) (lo0 := X.lo0) (w := w) (e := e) (l := (List.replicate c.toNat ie.zero).flatten) (r := (List.replicate c.toNat z.cells.toList).flatten) rfl
    obtain ⟨w', μ', k1, k2, k3, k4, k5⟩ := new_done (t := e) h (rep_flat_VRs z2 c.toNat).takeAll (by rw [(rep_flat_VRs z2 c.toNat).length]; exact Nat.le_refl _) (rep_all z3 c.toNat)
    have hv := VR.slice (μ := μ') (N := (m.add (.cells (List.replicate c.toNat ie.zero).flatten)).next) (w := w') { id := m.next, off := 0, sz := ie.size, len := n.toNat, cap := c.toNat, ex := true } c.toNat (by simp) (by show n.toNat ≤ c.toNat; omega) (Nat.le_refl _) (fun _ => rfl) (by
      refine ⟨(List.replicate c.toNat z.cells.toList).flatten.toArray, e, (0, 0), ?_, ?_⟩
      · subst k4; rw [k5]; exact Array.getElem?_push_size
      · simp only [k5]
        show 0 + 0 + c.toNat * ie.size ≤ (List.replicate c.toNat z.cells.toList).flatten.length
        rw [← (rep_flat_VRs z2 c.toNat).length, zip_flat, z4]
        omega)
    refine ⟨_, w', μ', ?_, hv, k2, k3⟩
    have hrow : ((Array.range (c.toNat * ie.size)).map fun i => z.cells[i % z.cells.size]!) = (List.replicate c.toNat z.cells.toList).flatten.toArray := by
      rw [← z5]; exact zero_row z.cells c.toNat
    have hb : ¬ (281474976710656 : Int) < f.bytes * c := by have := hbig c (by omega) (Int.le_refl _); omega
    by_cases h0 : c.toNat * ie.size = 0
    · have hc0 : c.toNat = 0 := by
        rcases Nat.mul_eq_zero.1 h0 with h | h
        · exact h
        · omega
      have e2 : (Array.map (fun (_ : Nat) => (default : Value)) (Array.range 0)) = #[] := by simp
      rw [hc0] at k1
      have hk1 : (newRow e #[]).run X.P w = .ok ⟨(μ' m.next).1, (μ' m.next).2, none⟩ w' := k1
      simp [Instr.makeSlice, run_und hd, asInt, asIntOf, run_ti hf1, hwn, hwc, hb, Int.not_lt.2 (show (0 : Int) ≤ c by omega), Int.not_lt.2 c1, Int.not_lt.2 c2, hie.run_size, hc0, e2, hk1]
    · simp [Instr.makeSlice, run_und hd, asInt, asIntOf, run_ti hf1, hwn, hwc, hb, Int.not_lt.2 (show (0 : Int) ≤ c by omega), Int.not_lt.2 c1, Int.not_lt.2 c2, hie.run_size, h0, z1, hrow, k1]
  · cases he

end Go.Am
