/-
What the model's operations come to where the abstract machine's do: addresses of fields and elements; pieces of slices and strings.
-/
import Derived.Test.YtboilkakbgalgaaDoorAmOps3
namespace Go.Am
open Go Go.RowKit

variable {X : Ctx} {μ : Nat → Nat × Nat} {m m' : Mem} {w : World} {E : Env}

theorem fieldAddr_done {t : TypeId} {i ift : TI} (hi : TIok X.P t i) {fs : List (Nat × TypeId)} (hk : i.kd = .struct fs) {f off : Nat} {ft : TypeId} (hf : fs[f]? = some (off, ft)) (hft : TIok X.P ft ift) (h0 : ift.size ≠ 0)
    (h : R X μ m w) {b o : Nat} {u : Value} (hu : VR μ m.next w (.ptr (some (b, o))) u) : Done X μ m w (.ptr (some (b, o + off))) m ((Instr.fieldAt t u f).run X.P w) := by
  cases hu with
  | ptr _ _ hb =>
    obtain ⟨d, hd, hkd⟩ := hi.und
    rw [hk] at hkd
    cases hkd with
    | struct gs =>
      simp only [List.getElem?_map, Option.map_eq_some_iff] at hf
      obtain ⟨g, hg, he⟩ := hf
      cases he
      rw [Array.getElem?_toList] at hg
      have e : Value.pointer (some ⟨(μ b).1, (μ b).2 + o + g.offset, none⟩) = .pointer (some ⟨(μ b).1, (μ b).2 + (o + g.offset), none⟩) := by rw [Nat.add_assoc]
      refine .same h (.ptr b (o + g.offset) hb) ?_
      rw [← e]
      simp [Instr.fieldAt, run_und hd, hg, Instr.sureAddr, fieldPlace, hft.run_size, h0, add_addr]
theorem part_one {t : TypeId} {i : TI} (hi : TIok X.P t i) (hk : i.kd.agg = false) {cs : Array Value} {off : Nat} {u : Value} (hu : cs[off]? = some u) : (part t cs off).run X.P w = .ok u w := by
  simp [part, hi.run_agg, hk, hu]
theorem part_agg {t : TypeId} {i : TI} (hi : TIok X.P t i) (hk : i.kd.agg = true) {cs : Array Value} {off : Nat} : (part t cs off).run X.P w = .ok (.agg (cs.extract off (off + i.size))) w := by
  simp [part, hi.run_agg, hk, hi.run_size]
theorem extract_list (cs : Array Value) (o n : Nat) : (cs.extract o (o + n)).toList = (cs.toList.drop o).take n := by
  simp [List.extract_eq_take_drop]
theorem VR.agg_seg {N : Nat} {l : List AV} {u : Value} (h : VR μ N w (.agg l) u) (o n : Nat) : VR μ N w (.agg ((l.drop o).take n)) (.agg (u.cells.extract o (o + n))) := by
  obtain ⟨h1, h2, h3⟩ := h.cells_agg
  refine .agg _ _ ?_ ?_
  · rw [extract_list]; exact (h1.drop o).take n
  · exact List.all_eq_true.2 fun x hx => List.all_eq_true.1 h2 x (List.mem_of_mem_drop (List.mem_of_mem_take hx))
theorem bc_true {b : Bool} {K : C} {r : AV × Mem} (h : bc b K fail m = some r) : b = true ∧ K m = some r := by
  cases b
  · cases h
  · exact ⟨rfl, h⟩
theorem one1_some {K : AV → C} {l : List AV} {r : AV × Mem} (h : one1 K l m = some r) : ∃ v, l = [v] ∧ v.one = true ∧ K v m = some r := by
  unfold one1 at h
  split at h
  · rename_i v
    obtain ⟨h1, h2⟩ := bc_true h
    exact ⟨v, rfl, h1, h2⟩
  · cases h
theorem VR.agg_one {N : Nat} {l : List AV} {u : Value} (h : VR μ N w (.agg l) u) {o : Nat} {v : AV} (hv : (l.drop o).take 1 = [v]) : ∃ y, u.cells[o]? = some y ∧ VR μ N w v y := by
  obtain ⟨h1, _, _⟩ := h.cells_agg
  have hl : l[o]? = some v := by
    have := congrArg (fun l => l[0]?) hv
    simpa [List.getElem?_take, List.getElem?_drop] using this
  obtain ⟨y, h2, h3⟩ := h1.get hl
  exact ⟨y, by rwa [Array.getElem?_toList] at h2, h3⟩
theorem field_done {t : TypeId} {i ift : TI} (hi : TIok X.P t i) {fs : List (Nat × TypeId)} (hk : i.kd = .struct fs) {f off : Nat} {ft : TypeId} (hf : fs[f]? = some (off, ft)) (hft : TIok X.P ft ift)
    (h : R X μ m w) {l : List AV} {u : Value} (hu : VR μ m.next w (.agg l) u) :
    (ift.kd.agg = true → Done X μ m w (.agg ((l.drop off).take ift.size)) m ((Instr.field t u f).run X.P w)) ∧
    (ift.kd.agg = false → ∀ v, one1 (destr1 ift ret) ((l.drop off).take 1) m = some (v, m') → Done X μ m w v m' ((Instr.field t u f).run X.P w)) := by
  obtain ⟨d, hd, hkd⟩ := hi.und
  rw [hk] at hkd
  cases hkd with
  | struct gs =>
    simp only [List.getElem?_map, Option.map_eq_some_iff] at hf
    obtain ⟨g, hg, he⟩ := hf
    cases he
    rw [Array.getElem?_toList] at hg
    obtain ⟨h1, h2, h3⟩ := hu.cells_agg
    refine ⟨fun ha => .same h (hu.agg_seg _ _) ?_, fun ha v hv => ?_⟩
    · rw [h3]
      simp [Instr.field, run_und hd, hg, asAgg, part_agg hft ha, Value.cells]
    · obtain ⟨x, hx1, hx2, hx3⟩ := one1_some hv
      obtain ⟨rfl, rfl⟩ := ret_some (destr1_some hx3)
      obtain ⟨y, hy1, hy2⟩ := hu.agg_one hx1
      refine .same h hy2 ?_
      rw [h3]
      simp [Instr.field, run_und hd, hg, asAgg, part_one hft ha hy1]

theorem ixS_done {t : TypeId} {i ie : TI} (hi : TIok X.P t i) {e : TypeId} (hk : i.kd = .slice e) (hie : TIok X.P e ie) (h : R X μ m w) {s : Option SV} {x : Int} {k : IntKind} {u : Value}
    (hu : VR μ m.next w (.slice s) u) {v : AV} (he : ixS ie.size s x (fun b o => ret (.ptr (some (b, o)))) m = some (v, m')) : Done X μ m w v m' ((Instr.indexAt t u (.int k x)).run X.P w) := by
  unfold ixS at he
  cases s with
  | none => cases he
  | some s =>
    obtain ⟨hc, he⟩ := bc_true he
    simp only [decide_eq_true_eq] at hc
    obtain ⟨hsz, h0, hx⟩ := hc
    obtain ⟨rfl, rfl⟩ := ret_some he
    obtain ⟨d, hd, hkd⟩ := hi.und
    rw [hk] at hkd
    cases hkd
    cases hu with
    | emptyslice _ a _ h1 _ => exfalso; rw [h1] at hx; simp at hx; omega
    | slice _ c h1 h2 h3 h4 h5 =>
      refine .same h (.ptr s.id (s.off + x.toNat * ie.size) h1) ?_
      have e : (⟨(μ s.id).1, (μ s.id).2 + s.off + x.toNat * ie.size, none⟩ : Addr) = ⟨(μ s.id).1, (μ s.id).2 + (s.off + x.toNat * ie.size), none⟩ := by rw [Nat.add_assoc]
      rw [← e]
      simp [Instr.indexAt, asIntOf, run_und hd, h0, hx, hie.run_size, add_addr]
theorem ixA_done {t : TypeId} {i ie : TI} (hi : TIok X.P t i) {n : Nat} {e : TypeId} (hk : i.kd = .arr n e) (hie : TIok X.P e ie) (h : R X μ m w) {b o : Nat} {x : Int} {k : IntKind} {u : Value}
    (hu : VR μ m.next w (.ptr (some (b, o))) u) {v : AV} (he : ixA n ie.size b o x (fun b o => ret (.ptr (some (b, o)))) m = some (v, m')) : Done X μ m w v m' ((Instr.indexAt t u (.int k x)).run X.P w) := by
  unfold ixA at he
  obtain ⟨hc, he⟩ := bc_true he
  simp only [decide_eq_true_eq] at hc
  obtain ⟨h0, hx⟩ := hc
  obtain ⟨rfl, rfl⟩ := ret_some he
  obtain ⟨d, hd, hkd⟩ := hi.und
  rw [hk] at hkd
  cases hkd
  cases hu with
  | ptr _ _ hb =>
    refine .same h (.ptr b (o + x.toNat * ie.size) hb) ?_
    have e : (⟨(μ b).1, (μ b).2 + o + x.toNat * ie.size, none⟩ : Addr) = ⟨(μ b).1, (μ b).2 + (o + x.toNat * ie.size), none⟩ := by rw [Nat.add_assoc]
    rw [← e]
    simp [Instr.indexAt, asIntOf, run_und hd, h0, hx, hie.run_size, add_addr, Instr.sureAddr]
theorem ixStr_done {t : TypeId} {i : TI} (hi : TIok X.P t i) (hk : i.kd = .str) (h : R X μ m w) {s : List UInt8} {x : Int} {k : IntKind} {u : Value} (hu : VR μ m.next w (.str s) u) {v : AV}
    (he : ixStr s x (fun c => ret (.int .u8 c)) m = some (v, m')) : Done X μ m w v m' ((Instr.index t u (.int k x)).run X.P w) := by
  cases hu
  obtain ⟨d, hd, hkd⟩ := hi.und
  rw [hk] at hkd
  cases hkd
  unfold ixStr at he
  by_cases h0 : 0 ≤ x
  · cases hb : s[x.toNat]? with
    | none => rw [hb] at he; simp only [h0, decide_true] at he; cases he
    | some c =>
      rw [hb] at he
      simp only [h0, decide_true] at he
      obtain ⟨rfl, rfl⟩ := ret_some he
      refine .same h (.int _ _) ?_
      have e : (ByteArray.mk s.toArray)[x.toNat]? = some c := by
        obtain ⟨h1, h2⟩ := List.getElem?_eq_some_iff.1 hb
        rw [getElem?_pos _ _ (by simpa [ByteArray.size] using h1)]
        simpa [ByteArray.getElem_eq_getElem_data] using h2
      simp [Instr.index, asIntOf, run_und hd, h0, e]
  · simp only [h0, decide_false] at he
    cases he
theorem ixV_done {t : TypeId} {i ie : TI} (hi : TIok X.P t i) {n : Nat} {e : TypeId} (hk : i.kd = .arr n e) (hie : TIok X.P e ie) (h : R X μ m w) {l : List AV} {x : Int} {k : IntKind} {u : Value}
    (hu : VR μ m.next w (.agg l) u) :
    (ie.kd.agg = true → ∀ v, ixV n ie.size l x (fun r => ret (.agg r)) m = some (v, m') → Done X μ m w v m' ((Instr.index t u (.int k x)).run X.P w)) ∧
    (ie.kd.agg = false → ∀ v, ixV n ie.size l x (one1 (destr1 ie ret)) m = some (v, m') → Done X μ m w v m' ((Instr.index t u (.int k x)).run X.P w)) := by
  obtain ⟨d, hd, hkd⟩ := hi.und
  rw [hk] at hkd
  cases hkd
  obtain ⟨h1, h2, h3⟩ := hu.cells_agg
  refine ⟨fun ha v he => ?_, fun ha v he => ?_⟩
  · obtain ⟨hc, he⟩ := bc_true he
    simp only [decide_eq_true_eq] at hc
    obtain ⟨h0, hx, hl⟩ := hc
    obtain ⟨rfl, rfl⟩ := ret_some he
    refine .same h (hu.agg_seg _ _) ?_
    rw [h3]
    simp [Instr.index, asIntOf, run_und hd, h0, hx, hie.run_size, part_agg hie ha, Value.cells]
  · obtain ⟨hc, he⟩ := bc_true he
    simp only [decide_eq_true_eq] at hc
    obtain ⟨h0, hx, hl⟩ := hc
    obtain ⟨y, hy1, hy2, hy3⟩ := one1_some he
    obtain ⟨rfl, rfl⟩ := ret_some (destr1_some hy3)
    have hone : ie.size = 1 ∨ (l.drop (x.toNat * ie.size)).take 1 = [y] := by
      by_cases hs : ie.size = 1
      · exact .inl hs
      · right
        have hlen := congrArg List.length hy1
        simp only [List.length_take, List.length_drop, List.length_cons, List.length_nil] at hlen
        cases hd' : l.drop (x.toNat * ie.size) with
        | nil => rw [hd'] at hy1; simp at hy1
        | cons z r =>
          rw [hd'] at hy1
          have : 0 < ie.size := by
            rcases Nat.eq_zero_or_pos ie.size with h | h
            · rw [h] at hy1; simp at hy1
            · exact h
          obtain ⟨n', hn'⟩ : ∃ n', ie.size = n' + 1 := ⟨ie.size - 1, by omega⟩
          rw [hn', List.take_succ_cons] at hy1
          simp only [List.cons.injEq] at hy1
          simp [hy1.1]
    have hone' : (l.drop (x.toNat * ie.size)).take 1 = [y] := by
      rcases hone with hs | h'
      · rw [hs] at hy1 ⊢; exact hy1
      · exact h'
    obtain ⟨q, hq1, hq2⟩ := hu.agg_one hone'
    refine .same h hq2 ?_
    rw [h3]
    simp [Instr.index, asIntOf, run_und hd, h0, hx, hie.run_size, part_one hie ha hq1]

/-! ### pieces -/
inductive OptR : Option Int → Option Value → Prop
  | none : OptR none none
  | some (k : IntKind) (n : Int) : OptR (some n) (some (.int k n))
theorem bound_run {n : Int} {y : Nat} {code : BoundsCode} {k : IntKind} (h0 : 0 ≤ n) (h1 : n ≤ y) : (Instr.sliceBound (.int k n) y code).run X.P w = .ok n.toNat w := by
  simp [Instr.sliceBound, asIntOf, h0, h1]
theorem cutBounds_run {len cap c : Nat} {lo hi mx : Option Int} {l h q : Nat} {lo' hi' mx' : Option Value} (hb : cutBounds len cap lo hi mx = some (l, h, q)) (hlc : len ≤ cap) (hc : cap ≤ c) (b : Bool)
    (r1 : OptR lo lo') (r2 : OptR hi hi') (r3 : OptR mx mx') :
    ∃ q', (Instr.sliceBounds b len c lo' hi' mx').run X.P w = .ok (l, h, q') w ∧ l ≤ h ∧ h ≤ q ∧ q ≤ q' ∧ q ≤ cap ∧ q' ≤ c ∧ (mx.isSome = true → q' = q) ∧ (mx.isSome = false → q = cap ∧ q' = c) := by
  unfold cutBounds at hb
  cases r3 with
  | none =>
    simp only [] at hb
    cases r2 with
    | none =>
      simp only [] at hb
      cases r1 with
      | none =>
        simp only [Option.some.injEq, Prod.mk.injEq] at hb
        obtain ⟨rfl, rfl, rfl⟩ := hb
        exact ⟨c, by simp [Instr.sliceBounds], by omega, hlc, hc, Nat.le_refl _, Nat.le_refl _, by simp, by simp⟩
      | some k n =>
        simp only [] at hb
        split at hb
        · rename_i hn
          simp only [Option.some.injEq, Prod.mk.injEq] at hb
          obtain ⟨rfl, rfl, rfl⟩ := hb
          refine ⟨c, ?_, by omega, hlc, hc, Nat.le_refl _, Nat.le_refl _, by simp, by simp⟩
          simp [Instr.sliceBounds, bound_run hn.1 hn.2]
        · cases hb
    | some k2 n2 =>
      simp only [] at hb
      split at hb
      · cases hb
      · rename_i h' hh
        split at hh
        · rename_i hn2
          cases hh
          cases r1 with
          | none =>
            simp only [Option.some.injEq, Prod.mk.injEq] at hb
            obtain ⟨rfl, rfl, rfl⟩ := hb
            refine ⟨c, ?_, by omega, by omega, hc, Nat.le_refl _, Nat.le_refl _, by simp, by simp⟩
            simp [Instr.sliceBounds, bound_run hn2.1 (show n2 ≤ (c : Int) by omega)]
          | some k n =>
            simp only [] at hb
            split at hb
            · rename_i hn
              simp only [Option.some.injEq, Prod.mk.injEq] at hb
              obtain ⟨rfl, rfl, rfl⟩ := hb
              refine ⟨c, ?_, by omega, by omega, hc, Nat.le_refl _, Nat.le_refl _, by simp, by simp⟩
              simp [Instr.sliceBounds, bound_run hn2.1 (show n2 ≤ (c : Int) by omega), bound_run hn.1 hn.2]
            · cases hb
        · cases hh
  | some k3 n3 =>
    simp only [] at hb
    split at hb
    · cases hb
    · rename_i q0 hq
      split at hq
      · rename_i hn3
        cases hq
        cases r2 with
        | none =>
          simp only [] at hb
          cases hb
        | some k2 n2 =>
          simp only [] at hb
          split at hb
          · cases hb
          · rename_i h' hh
            split at hh
            · rename_i hn2
              cases hh
              cases r1 with
              | none =>
                simp only [Option.some.injEq, Prod.mk.injEq] at hb
                obtain ⟨rfl, rfl, rfl⟩ := hb
                refine ⟨n3.toNat, ?_, by omega, by omega, Nat.le_refl _, by omega, by omega, by simp, by simp⟩
                simp [Instr.sliceBounds, bound_run hn3.1 (show n3 ≤ (c : Int) by omega), bound_run hn2.1 hn2.2]
              | some k n =>
                simp only [] at hb
                split at hb
                · rename_i hn
                  simp only [Option.some.injEq, Prod.mk.injEq] at hb
                  obtain ⟨rfl, rfl, rfl⟩ := hb
                  refine ⟨n3.toNat, ?_, by omega, by omega, Nat.le_refl _, by omega, by omega, by simp, by simp⟩
                  simp [Instr.sliceBounds, bound_run hn3.1 (show n3 ≤ (c : Int) by omega), bound_run hn2.1 hn2.2, bound_run hn.1 hn.2]
                · cases hb
            · cases hh
      · cases hq

theorem VR.slice_cut {N : Nat} {s : SV} {u : Value} (hu : VR μ N w (.slice (some s)) u) {l h q q' : Nat} {c : Nat} {a : Addr} (he : u = .slice (some a) s.len c) (hlh : l ≤ h) (hhq : h ≤ q) (hqq : q ≤ q') (hqc : q ≤ s.cap) (hqc' : q' ≤ c) (ex : Bool)
    (hx : ex = true → q' = q) : VR μ N w (.slice (some { id := s.id, off := s.off + l * s.sz, sz := s.sz, len := h - l, cap := q - l, ex })) (.slice (some (if q' = l then a else a.add (l * s.sz))) (h - l) (q' - l)) := by
  cases hu with
  | emptyslice _ a' hid h1 h2 =>
    simp only [Value.slice.injEq, Option.some.injEq] at he
    obtain ⟨rfl, _, rfl⟩ := he
    have e1 : q' - l = 0 := by omega
    have e2 : h - l = 0 := by omega
    rw [e1, e2]
    exact .emptyslice _ _ hid rfl (by show q - l = 0; omega)
  | slice _ c' h1 h2 h3 h4 h5 =>
    simp only [Value.slice.injEq, Option.some.injEq, true_and] at he
    obtain ⟨rfl, rfl⟩ := he
    by_cases hl : q' = l
    · have e1 : q' - l = 0 := by omega
      have e2 : h - l = 0 := by omega
      rw [e1, e2]
      exact .emptyslice _ _ h1 rfl (by show q - l = 0; omega)
    · rw [if_neg hl, add_addr]
      have e : (⟨(μ s.id).1, (μ s.id).2 + s.off + l * s.sz, none⟩ : Addr) = ⟨(μ s.id).1, (μ s.id).2 + (s.off + l * s.sz), none⟩ := by rw [Nat.add_assoc]
      rw [e]
      obtain ⟨cs, e', fz, g1, g2⟩ := h5
      refine .slice { id := s.id, off := s.off + l * s.sz, sz := s.sz, len := h - l, cap := q - l, ex } (q' - l) h1 (by show h - l ≤ q - l; omega) (by show q - l ≤ q' - l; omega) (fun hex => by show q' - l = q - l; rw [hx hex]) ⟨cs, e', fz, g1, ?_⟩
      show (μ s.id).2 + (s.off + l * s.sz) + (q' - l) * s.sz ≤ cs.size
      have : l * s.sz + (q' - l) * s.sz = q' * s.sz := by rw [← Nat.add_mul]; congr 1; omega
      have : q' * s.sz ≤ c' * s.sz := Nat.mul_le_mul_right _ hqc'
      omega
theorem cut_done {t : TypeId} {i ie : TI} (hi : TIok X.P t i) {e : TypeId} (hk : i.kd = .slice e) (hie : TIok X.P e ie) (h : R X μ m w) {s : Option SV} {u : Value} (hu : VR μ m.next w (.slice s) u) {lo hi' mx : Option Int}
    {lo' hi'' mx' : Option Value} (r1 : OptR lo lo') (r2 : OptR hi' hi'') (r3 : OptR mx mx') {v : AV} (he : cut ie.size s lo hi' mx (fun r => ret (.slice r)) m = some (v, m')) :
    Done X μ m w v m' ((Instr.sliceAt t u lo' hi'' mx').run X.P w) := by
  obtain ⟨d, hd, hkd⟩ := hi.und
  rw [hk] at hkd
  cases hkd
  unfold cut at he
  cases s with
  | none =>
    simp only [] at he
    cases hb : cutBounds 0 0 lo hi' mx with
    | none => rw [hb] at he; cases he
    | some p =>
      obtain ⟨l, h', q⟩ := p
      rw [hb] at he
      obtain ⟨rfl, rfl⟩ := ret_some he
      obtain ⟨q', k1, k2, k3, k4, k5, k6, _⟩ := cutBounds_run (X := X) (w := w) hb (Nat.le_refl _) (Nat.le_refl _) true r1 r2 r3
      cases hu
      refine .same h .nilslice ?_
      have e1 : q' = 0 := by omega
      have e2 : l = 0 := by omega
      have e3 : h' = 0 := by omega
      subst e1 e2 e3
      simp [Instr.sliceAt, Instr.slice, run_und hd, k1, hie.run_size]
  | some s =>
    simp only [] at he
    obtain ⟨hsz, he⟩ := bc_true he
    simp only [decide_eq_true_eq] at hsz
    cases hb : cutBounds s.len s.cap lo hi' mx with
    | none => rw [hb] at he; cases he
    | some p =>
      obtain ⟨l, h', q⟩ := p
      rw [hb] at he
      obtain ⟨rfl, rfl⟩ := ret_some he
      have hshape : ∃ a c, u = .slice (some a) s.len c ∧ s.len ≤ s.cap ∧ s.cap ≤ c ∧ (s.ex = true → c = s.cap) := by
        cases hu with
        | emptyslice _ a _ h1 h2 => exact ⟨a, 0, by rw [h1], by omega, by omega, fun _ => by omega⟩
        | slice _ c h1 h2 h3 h4 h5 => exact ⟨_, c, rfl, h2, h3, h4⟩
      obtain ⟨a, c, rfl, hlc, hcc, hex⟩ := hshape
      obtain ⟨q', k1, k2, k3, k4, k5, k6, k7, k8⟩ := cutBounds_run (X := X) (w := w) hb hlc hcc true r1 r2 r3
      have hv := VR.slice_cut hu rfl k2 k3 k4 k5 k6 (s.ex || mx.isSome) (fun hx => by
        cases hm : mx.isSome with
        | true => exact k7 hm
        | false =>
          rw [hm, Bool.or_false] at hx
          obtain ⟨e1, e2⟩ := k8 hm
          rw [e1, e2, hex hx])
      rw [hsz] at hv
      refine .same h hv ?_
      simp only [Instr.sliceAt, Instr.slice, Sem.run_bind, run_und hd, Result.andThen_ok, k1, hie.run_size, Sem.run_pure, Option.map_some]
      by_cases hq : q' = l <;> simp [hq]
theorem cutArr_done {t : TypeId} {i ie : TI} (hi : TIok X.P t i) {n : Nat} {e : TypeId} (hk : i.kd = .arr n e) (hie : TIok X.P e ie) (h : R X μ m w) {b o : Nat} {u : Value} (hu : VR μ m.next w (.ptr (some (b, o))) u)
    {lo hi' mx : Option Int} {lo' hi'' mx' : Option Value} (r1 : OptR lo lo') (r2 : OptR hi' hi'') (r3 : OptR mx mx') {v : AV} (he : cutArr n ie.size b o lo hi' mx (fun r => ret (.slice r)) m = some (v, m')) :
    Done X μ m w v m' ((Instr.sliceAt t u lo' hi'' mx').run X.P w) := by
  obtain ⟨d, hd, hkd⟩ := hi.und
  rw [hk] at hkd
  cases hkd
  unfold cutArr at he
  cases hl : m.cells b with
  | none => rw [hl] at he; cases he
  | some c =>
    rw [hl] at he
    simp only [] at he
    split at he
    · rename_i l h' q hn hb
      simp only [decide_eq_true_eq] at hn
      obtain ⟨rfl, rfl⟩ := ret_some he
      obtain ⟨q', k1, k2, k3, k4, k5, k6, k7, k8⟩ := cutBounds_run (X := X) (w := w) hb (Nat.le_refl _) (Nat.le_refl _) false r1 r2 r3
      obtain ⟨cs, e', fz, g1, g2, g3, g4, g5⟩ := h.cells hl
      cases hu with
      | ptr _ _ hbn =>
        have hs0 : VR μ m.next w (.slice (some { id := b, off := o, sz := ie.size, len := n, cap := n, ex := true })) (.slice (some ⟨(μ b).1, (μ b).2 + o, none⟩) n n) :=
          .slice { id := b, off := o, sz := ie.size, len := n, cap := n, ex := true } n hbn (Nat.le_refl _) (Nat.le_refl _) (fun _ => rfl) ⟨cs.toArray, e', fz, g1, by
            show (μ b).2 + o + n * ie.size ≤ cs.length
            omega⟩
        have hv := VR.slice_cut hs0 rfl k2 k3 k4 k5 k6 true (fun _ => by
          cases hm : mx.isSome with
          | true => exact k7 hm
          | false => obtain ⟨e1, e2⟩ := k8 hm; rw [e1, e2])
        refine .same h hv ?_
        simp only [Instr.sliceAt, Sem.run_bind, run_und hd, Result.andThen_ok, Instr.sureAddr, k1, hie.run_size, Sem.run_pure]
    · cases he
theorem bytes_extract (s : List UInt8) (l h : Nat) : (ByteArray.mk s.toArray).extract l h = ⟨((s.take h).drop l).toArray⟩ := by
  apply ByteArray.ext
  rw [ByteArray.data_extract]
  apply Array.ext'
  simp [List.extract_eq_take_drop, List.drop_take]
theorem cutStr_done {t : TypeId} {i : TI} (hi : TIok X.P t i) (hk : i.kd = .str) (h : R X μ m w) {s : List UInt8} {u : Value} (hu : VR μ m.next w (.str s) u)
    {lo hi' : Option Int} {lo' hi'' : Option Value} (r1 : OptR lo lo') (r2 : OptR hi' hi'') {v : AV} (he : cutStr s lo hi' (fun r => ret (.str r)) m = some (v, m')) :
    Done X μ m w v m' ((Instr.sliceAt t u lo' hi'' none).run X.P w) := by
  obtain ⟨d, hd, hkd⟩ := hi.und
  rw [hk] at hkd
  cases hkd
  unfold cutStr at he
  cases hb : cutBounds s.length s.length lo hi' none with
  | none => rw [hb] at he; cases he
  | some p =>
    obtain ⟨l, h', q⟩ := p
    rw [hb] at he
    obtain ⟨rfl, rfl⟩ := ret_some he
    obtain ⟨q', k1, _⟩ := cutBounds_run (X := X) (w := w) hb (Nat.le_refl _) (Nat.le_refl _) false r1 r2 .none
    cases hu
    refine .same h (.str _) ?_
    have hsz : (ByteArray.mk s.toArray).size = s.length := by simp [ByteArray.size]
    simp only [Instr.sliceAt, Instr.slice, Sem.run_bind, run_und hd, Result.andThen_ok, Option.isSome_none, Bool.false_eq_true, if_false, hsz, k1, Sem.run_pure, bytes_extract]

end Go.Am
