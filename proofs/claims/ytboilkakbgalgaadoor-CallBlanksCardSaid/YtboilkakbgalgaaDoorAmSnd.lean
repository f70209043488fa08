/-
Each function that the laws of this place reach answers what its plain function answers. Printed by a program of this session (wip/am/seat.py).
-/
import Derived.Test.YtboilkakbgalgaaDoorAmFun
import Derived.Test.YtboilkakbgalgaaDoorShelf
namespace Go.AmT
open Go Go.Am Go.RowKit Go.Proofs
set_option maxRecDepth 100000
set_option linter.unusedVariables false
theorem follows : Tryd.prog.follows .mixedOrders = true := by kernel_rfl
theorem ttok : TTok Tryd.prog TT := TTok_of (by kernel_rfl)
structure WOk (W : World) : Prop where
  max : ∃ mx, W.cell? ⟨3, 0, none⟩ = some (.int .i64 mx)
  tab : W.var? Tryd.prog "internal/strconv.uint64pow10" = some (Lib.pow10Tab.map fun z => Value.int .u64 z).toArray
  syn : ∃ tp p, W.var? Tryd.prog "strconv.ErrSyntax" = some #[.iface tp p]
  rng : ∃ tp p, W.var? Tryd.prog "strconv.ErrRange" = some #[.iface tp p]
theorem lk_snd {X : Ctx} : ∀ {l : List (Nat × AFn)}, (∀ p ∈ l, Snd X p.1 p.2) → ∀ f F, lk l f = some F → Snd X f F
  | [], _, f, F, h => by cases h
  | (i, G) :: l, hl, f, F, h => by
    unfold lk at h
    by_cases hi : i = f
    · subst hi; simp only [decide_true] at h; cases h; exact hl (i, G) (by simp)
    · simp only [hi, decide_false] at h; exact lk_snd (fun p hp => hl p (by simp [hp])) f F h
variable {W : World} {lo0 : Nat}
noncomputable abbrev cx (W : World) (lo0 : Nat) : Ctx := ⟨Tryd.prog, W, lo0⟩
theorem S18 (hW : WOk W) (k : Nat) : Snd (cx W lo0) 18 (F18 k) := snd_split (enters_of Tryd.func18 (by kernel_rfl) rfl) fun s sep w h1 h2 hb => let ⟨_, hm⟩ := hW.max; Tryd.strings_Split s sep _ w h1 (cell_below hb hm) h2
theorem S20 (hW : WOk W) (k : Nat) : Snd (cx W lo0) 20 (F20 k) := snd_parseInt (enters_of Tryd.func20 (by kernel_rfl) rfl) (fun s v w h1 h2 => Tryd.strconv_ParseInt_10_at64_ok s h1 v h2 w) (fun s w h1 h2 hb => by
    obtain ⟨tp, p, hv⟩ := hW.syn
    cases he : Lib.parseIntB 64 s.data.toList with
    | ok v => rw [he] at h2; cases h2
    | range => rw [he] at h2; cases h2
    | _ => exact (Any.strconv_ParseInt_10_at64_syntax_var Tryd.laysC174 s h1 he tp p w (var_below hb hv)).mono fun _ _ ⟨N, he, _, _, h⟩ => ⟨N, he, h⟩) (fun s w h1 h2 hb => let ⟨tp, p, hv⟩ := hW.rng; (Any.strconv_ParseInt_10_at64_range_var Tryd.laysC174 s h1 h2 tp p w (var_below hb hv)).mono fun _ _ ⟨N, he, _, _, h⟩ => ⟨N, he, h⟩)
theorem S21 (hW : WOk W) (k : Nat) : Snd (cx W lo0) 21 (F21 k) := snd_fmtInt (enters_of Tryd.func21 (by kernel_rfl) rfl) fun n w h0 h1 hb => Tryd.strconv_FormatInt_10 n h0 h1 w (var_below hb hW.tab)
theorem S27 (hW : WOk W) (k : Nat) : Snd (cx W lo0) 27 (F27 k) := snd_itoa (enters_of Tryd.func27 (by kernel_rfl) rfl) fun n w h0 h1 hb => Tryd.strconv_Itoa n h0 h1 w (var_below hb hW.tab)
theorem S19 (hW : WOk W) (k : Nat) : Snd (cx W lo0) 19 (F19 k) := by
  have hl : ∀ p ∈ ([] : List (Nat × AFn)), Snd (cx W lo0) p.1 p.2 := by simp
  refine body_ok (h := h19) (E := { tt := TT, fn := lk [], k := k }) ⟨ttok, lk_snd hl⟩ follows Tryd.func19 (by kernel_rfl) (fun args m v m' h => ?_) rfl
  unfold F19 at h
  split at h
  · exact (congrFun (E19 k) m).trans h
  · cases h
theorem S26 (hW : WOk W) (k : Nat) : Snd (cx W lo0) 26 (F26 k) := by
  have hl : ∀ p ∈ ([(19, F19 k)] : List (Nat × AFn)), Snd (cx W lo0) p.1 p.2 := by
    intro p hp
    simp only [List.mem_cons, List.not_mem_nil, or_false] at hp
    obtain rfl := hp
    · exact S19 hW k
  refine body_ok (h := h26) (E := { tt := TT, fn := lk [(19, F19 k)], k := k }) ⟨ttok, lk_snd hl⟩ follows Tryd.func26 (by kernel_rfl) (fun args m v m' h => ?_) rfl
  unfold F26 at h
  split at h
  · exact (congrFun (E26 _ k _) m).trans h
  · cases h
theorem S13 (hW : WOk W) (k : Nat) : Snd (cx W lo0) 13 (F13 k) := by
  have hl : ∀ p ∈ ([(26, F26 k)] : List (Nat × AFn)), Snd (cx W lo0) p.1 p.2 := by
    intro p hp
    simp only [List.mem_cons, List.not_mem_nil, or_false] at hp
    obtain rfl := hp
    · exact S26 hW k
  refine body_ok (h := h13) (E := { tt := TT, fn := lk [(26, F26 k)], k := k }) ⟨ttok, lk_snd hl⟩ follows Tryd.func13 (by kernel_rfl) (fun args m v m' h => ?_) rfl
  unfold F13 at h
  split at h
  · exact (congrFun (E13 _ k _) m).trans h
  · cases h
theorem S17 (hW : WOk W) (k : Nat) : Snd (cx W lo0) 17 (F17 k) := by
  have hl : ∀ p ∈ ([] : List (Nat × AFn)), Snd (cx W lo0) p.1 p.2 := by simp
  refine body_ok (h := h17) (E := { tt := TT, fn := lk [], k := k }) ⟨ttok, lk_snd hl⟩ follows Tryd.func17 (by kernel_rfl) (fun args m v m' h => ?_) rfl
  unfold F17 at h
  split at h
  · exact (congrFun (E17 k _ _) m).trans h
  · cases h
theorem S9 (hW : WOk W) (k : Nat) : Snd (cx W lo0) 9 (F9 k) := by
  have hl : ∀ p ∈ ([(18, F18 k), (19, F19 k), (13, F13 k), (17, F17 k), (20, F20 k), (21, F21 k)] : List (Nat × AFn)), Snd (cx W lo0) p.1 p.2 := by
    intro p hp
    simp only [List.mem_cons, List.not_mem_nil, or_false] at hp
    rcases hp with rfl | rfl | rfl | rfl | rfl | rfl
    · exact S18 hW k
    · exact S19 hW k
    · exact S13 hW k
    · exact S17 hW k
    · exact S20 hW k
    · exact S21 hW k
  refine body_ok (h := h9) (E := { tt := TT, fn := lk [(18, F18 k), (19, F19 k), (13, F13 k), (17, F17 k), (20, F20 k), (21, F21 k)], k := k }) ⟨ttok, lk_snd hl⟩ follows Tryd.func9 (by kernel_rfl) (fun args m v m' h => ?_) rfl
  unfold F9 at h
  split at h
  · exact (congrFun (E9 _ _ _ _ _ _ k _) m).trans h
  · cases h
theorem S11 (hW : WOk W) (k : Nat) : Snd (cx W lo0) 11 (F11 k) := by
  have hl : ∀ p ∈ ([(26, F26 k), (27, F27 k), (21, F21 k)] : List (Nat × AFn)), Snd (cx W lo0) p.1 p.2 := by
    intro p hp
    simp only [List.mem_cons, List.not_mem_nil, or_false] at hp
    rcases hp with rfl | rfl | rfl
    · exact S26 hW k
    · exact S27 hW k
    · exact S21 hW k
  refine body_ok (h := h11) (E := { tt := TT, fn := lk [(26, F26 k), (27, F27 k), (21, F21 k)], k := k }) ⟨ttok, lk_snd hl⟩ follows Tryd.func11 (by kernel_rfl) (fun args m v m' h => ?_) rfl
  unfold F11 at h
  split at h
  · exact (congrFun (E11 _ _ _ k _) m).trans h
  · cases h
theorem S14 (hW : WOk W) (k : Nat) : Snd (cx W lo0) 14 (F14 k) := by
  have hl : ∀ p ∈ ([(26, F26 k)] : List (Nat × AFn)), Snd (cx W lo0) p.1 p.2 := by
    intro p hp
    simp only [List.mem_cons, List.not_mem_nil, or_false] at hp
    obtain rfl := hp
    · exact S26 hW k
  refine body_ok (h := h14) (E := { tt := TT, fn := lk [(26, F26 k)], k := k }) ⟨ttok, lk_snd hl⟩ follows Tryd.func14 (by kernel_rfl) (fun args m v m' h => ?_) rfl
  unfold F14 at h
  split at h
  · exact (congrFun (E14 _ k _) m).trans h
  · cases h
theorem S15 (hW : WOk W) (k : Nat) : Snd (cx W lo0) 15 (F15 k) := by
  have hl : ∀ p ∈ ([(26, F26 k)] : List (Nat × AFn)), Snd (cx W lo0) p.1 p.2 := by
    intro p hp
    simp only [List.mem_cons, List.not_mem_nil, or_false] at hp
    obtain rfl := hp
    · exact S26 hW k
  refine body_ok (h := h15) (E := { tt := TT, fn := lk [(26, F26 k)], k := k }) ⟨ttok, lk_snd hl⟩ follows Tryd.func15 (by kernel_rfl) (fun args m v m' h => ?_) rfl
  unfold F15 at h
  split at h
  · exact (congrFun (E15 _ k _) m).trans h
  · cases h
theorem S12 (hW : WOk W) (k : Nat) : Snd (cx W lo0) 12 (F12 k) := by
  have hl : ∀ p ∈ ([(26, F26 k)] : List (Nat × AFn)), Snd (cx W lo0) p.1 p.2 := by
    intro p hp
    simp only [List.mem_cons, List.not_mem_nil, or_false] at hp
    obtain rfl := hp
    · exact S26 hW k
  refine body_ok (h := h12) (E := { tt := TT, fn := lk [(26, F26 k)], k := k }) ⟨ttok, lk_snd hl⟩ follows Tryd.func12 (by kernel_rfl) (fun args m v m' h => ?_) rfl
  unfold F12 at h
  split at h
  · exact (congrFun (E12 _ k _) m).trans h
  · cases h
theorem S8 (hW : WOk W) (k : Nat) : Snd (cx W lo0) 8 (F8 k) := by
  have hl : ∀ p ∈ ([(9, F9 k), (17, F17 k), (11, F11 k), (14, F14 k), (13, F13 k), (15, F15 k), (12, F12 k)] : List (Nat × AFn)), Snd (cx W lo0) p.1 p.2 := by
    intro p hp
    simp only [List.mem_cons, List.not_mem_nil, or_false] at hp
    rcases hp with rfl | rfl | rfl | rfl | rfl | rfl | rfl
    · exact S9 hW k
    · exact S17 hW k
    · exact S11 hW k
    · exact S14 hW k
    · exact S13 hW k
    · exact S15 hW k
    · exact S12 hW k
  refine body_ok (h := h8) (E := { tt := TT, fn := lk [(9, F9 k), (17, F17 k), (11, F11 k), (14, F14 k), (13, F13 k), (15, F15 k), (12, F12 k)], k := k }) ⟨ttok, lk_snd hl⟩ follows Tryd.func8 (by kernel_rfl) (fun args m v m' h => ?_) rfl
  unfold F8 at h
  split at h
  · exact (congrFun (E8 _ _ _ _ _ _ _ k) m).trans h
  · cases h
theorem S22 (hW : WOk W) (k : Nat) : Snd (cx W lo0) 22 (F22 k) := by
  have hl : ∀ p ∈ ([] : List (Nat × AFn)), Snd (cx W lo0) p.1 p.2 := by simp
  refine body_ok (h := h22) (E := { tt := TT, fn := lk [], k := k }) ⟨ttok, lk_snd hl⟩ follows Tryd.func22 (by kernel_rfl) (fun args m v m' h => ?_) rfl
  unfold F22 at h
  split at h
  · exact (congrFun (E22 k _) m).trans h
  · cases h
theorem S23 (hW : WOk W) (k : Nat) : Snd (cx W lo0) 23 (F23 k) := by
  have hl : ∀ p ∈ ([] : List (Nat × AFn)), Snd (cx W lo0) p.1 p.2 := by simp
  refine body_ok (h := h23) (E := { tt := TT, fn := lk [], k := k }) ⟨ttok, lk_snd hl⟩ follows Tryd.func23 (by kernel_rfl) (fun args m v m' h => ?_) rfl
  unfold F23 at h
  split at h
  · exact (congrFun (E23 k) m).trans h
  · cases h
theorem S32 (hW : WOk W) (k : Nat) : Snd (cx W lo0) 32 (F32 k) := by
  have hl : ∀ p ∈ ([] : List (Nat × AFn)), Snd (cx W lo0) p.1 p.2 := by simp
  refine body_ok (h := h32) (E := { tt := TT, fn := lk [], k := k }) ⟨ttok, lk_snd hl⟩ follows Tryd.func32 (by kernel_rfl) (fun args m v m' h => ?_) rfl
  unfold F32 at h
  split at h
  · exact (congrFun (E32 k _) m).trans h
  · cases h
theorem S24 (hW : WOk W) (k : Nat) : Snd (cx W lo0) 24 (F24 k) := by
  have hl : ∀ p ∈ ([(32, F32 k)] : List (Nat × AFn)), Snd (cx W lo0) p.1 p.2 := by
    intro p hp
    simp only [List.mem_cons, List.not_mem_nil, or_false] at hp
    obtain rfl := hp
    · exact S32 hW k
  refine body_ok (h := h24) (E := { tt := TT, fn := lk [(32, F32 k)], k := k }) ⟨ttok, lk_snd hl⟩ follows Tryd.func24 (by kernel_rfl) (fun args m v m' h => ?_) rfl
  unfold F24 at h
  split at h
  · exact (congrFun (E24 _ k _) m).trans h
  · cases h
theorem S33 (hW : WOk W) (k : Nat) : Snd (cx W lo0) 33 (F33 k) := by
  have hl : ∀ p ∈ ([] : List (Nat × AFn)), Snd (cx W lo0) p.1 p.2 := by simp
  refine body_ok (h := h33) (E := { tt := TT, fn := lk [], k := k }) ⟨ttok, lk_snd hl⟩ follows Tryd.func33 (by kernel_rfl) (fun args m v m' h => ?_) rfl
  unfold F33 at h
  split at h
  · exact (congrFun (E33 k _) m).trans h
  · cases h
theorem S25 (hW : WOk W) (k : Nat) : Snd (cx W lo0) 25 (F25 k) := by
  have hl : ∀ p ∈ ([(33, F33 k)] : List (Nat × AFn)), Snd (cx W lo0) p.1 p.2 := by
    intro p hp
    simp only [List.mem_cons, List.not_mem_nil, or_false] at hp
    obtain rfl := hp
    · exact S33 hW k
  refine body_ok (h := h25) (E := { tt := TT, fn := lk [(33, F33 k)], k := k }) ⟨ttok, lk_snd hl⟩ follows Tryd.func25 (by kernel_rfl) (fun args m v m' h => ?_) rfl
  unfold F25 at h
  split at h
  · exact (congrFun (E25 _ k _) m).trans h
  · cases h
theorem S10 (hW : WOk W) (k : Nat) : Snd (cx W lo0) 10 (F10 k) := by
  have hl : ∀ p ∈ ([(22, F22 k), (23, F23 k), (24, F24 k), (25, F25 k)] : List (Nat × AFn)), Snd (cx W lo0) p.1 p.2 := by
    intro p hp
    simp only [List.mem_cons, List.not_mem_nil, or_false] at hp
    rcases hp with rfl | rfl | rfl | rfl
    · exact S22 hW k
    · exact S23 hW k
    · exact S24 hW k
    · exact S25 hW k
  refine body_ok (h := h10) (E := { tt := TT, fn := lk [(22, F22 k), (23, F23 k), (24, F24 k), (25, F25 k)], k := k }) ⟨ttok, lk_snd hl⟩ follows Tryd.func10 (by kernel_rfl) (fun args m v m' h => ?_) rfl
  unfold F10 at h
  split at h
  · exact (congrFun (E10 _ _ _ _ k _) m).trans h
  · cases h
theorem S3 (hW : WOk W) (k : Nat) : Snd (cx W lo0) 3 (F3 k) := by
  have hl : ∀ p ∈ ([(8, F8 k), (9, F9 k), (10, F10 k)] : List (Nat × AFn)), Snd (cx W lo0) p.1 p.2 := by
    intro p hp
    simp only [List.mem_cons, List.not_mem_nil, or_false] at hp
    rcases hp with rfl | rfl | rfl
    · exact S8 hW k
    · exact S9 hW k
    · exact S10 hW k
  refine body_ok (h := h3) (E := { tt := TT, fn := lk [(8, F8 k), (9, F9 k), (10, F10 k)], k := k }) ⟨ttok, lk_snd hl⟩ follows Tryd.func3 (by kernel_rfl) (fun args m v m' h => ?_) rfl
  unfold F3 at h
  split at h
  · exact (congrFun (E3 _ _ _ k _) m).trans h
  · cases h
theorem S4 (hW : WOk W) (k : Nat) : Snd (cx W lo0) 4 (F4 k) := by
  have hl : ∀ p ∈ ([(8, F8 k), (11, F11 k), (9, F9 k), (12, F12 k), (13, F13 k)] : List (Nat × AFn)), Snd (cx W lo0) p.1 p.2 := by
    intro p hp
    simp only [List.mem_cons, List.not_mem_nil, or_false] at hp
    rcases hp with rfl | rfl | rfl | rfl | rfl
    · exact S8 hW k
    · exact S11 hW k
    · exact S9 hW k
    · exact S12 hW k
    · exact S13 hW k
  refine body_ok (h := h4) (E := { tt := TT, fn := lk [(8, F8 k), (11, F11 k), (9, F9 k), (12, F12 k), (13, F13 k)], k := k }) ⟨ttok, lk_snd hl⟩ follows Tryd.func4 (by kernel_rfl) (fun args m v m' h => ?_) rfl
  unfold F4 at h
  split at h
  · exact (congrFun (E4 _ _ _ _ _ k _ _) m).trans h
  · cases h
theorem S5 (hW : WOk W) (k : Nat) : Snd (cx W lo0) 5 (F5 k) := by
  have hl : ∀ p ∈ ([(8, F8 k), (12, F12 k), (14, F14 k), (13, F13 k), (15, F15 k)] : List (Nat × AFn)), Snd (cx W lo0) p.1 p.2 := by
    intro p hp
    simp only [List.mem_cons, List.not_mem_nil, or_false] at hp
    rcases hp with rfl | rfl | rfl | rfl | rfl
    · exact S8 hW k
    · exact S12 hW k
    · exact S14 hW k
    · exact S13 hW k
    · exact S15 hW k
  refine body_ok (h := h5) (E := { tt := TT, fn := lk [(8, F8 k), (12, F12 k), (14, F14 k), (13, F13 k), (15, F15 k)], k := k }) ⟨ttok, lk_snd hl⟩ follows Tryd.func5 (by kernel_rfl) (fun args m v m' h => ?_) rfl
  unfold F5 at h
  split at h
  · exact (congrFun (E5 _ _ _ _ _ k _) m).trans h
  · cases h
theorem S6 (hW : WOk W) (k : Nat) : Snd (cx W lo0) 6 (F6 k) := by
  have hl : ∀ p ∈ ([(8, F8 k), (12, F12 k), (11, F11 k), (9, F9 k), (10, F10 k)] : List (Nat × AFn)), Snd (cx W lo0) p.1 p.2 := by
    intro p hp
    simp only [List.mem_cons, List.not_mem_nil, or_false] at hp
    rcases hp with rfl | rfl | rfl | rfl | rfl
    · exact S8 hW k
    · exact S12 hW k
    · exact S11 hW k
    · exact S9 hW k
    · exact S10 hW k
  refine body_ok (h := h6) (E := { tt := TT, fn := lk [(8, F8 k), (12, F12 k), (11, F11 k), (9, F9 k), (10, F10 k)], k := k }) ⟨ttok, lk_snd hl⟩ follows Tryd.func6 (by kernel_rfl) (fun args m v m' h => ?_) rfl
  unfold F6 at h
  split at h
  · exact (congrFun (E6 _ _ _ _ _ k _ _ _) m).trans h
  · cases h
theorem S16 (hW : WOk W) (k : Nat) : Snd (cx W lo0) 16 (F16 k) := by
  have hl : ∀ p ∈ ([(25, F25 k)] : List (Nat × AFn)), Snd (cx W lo0) p.1 p.2 := by
    intro p hp
    simp only [List.mem_cons, List.not_mem_nil, or_false] at hp
    obtain rfl := hp
    · exact S25 hW k
  refine body_ok (h := h16) (E := { tt := TT, fn := lk [(25, F25 k)], k := k }) ⟨ttok, lk_snd hl⟩ follows Tryd.func16 (by kernel_rfl) (fun args m v m' h => ?_) rfl
  unfold F16 at h
  split at h
  · exact (congrFun (E16 _ k _) m).trans h
  · cases h
theorem S7 (hW : WOk W) (k : Nat) : Snd (cx W lo0) 7 (F7 k) := by
  have hl : ∀ p ∈ ([(8, F8 k), (12, F12 k), (13, F13 k), (14, F14 k), (9, F9 k), (16, F16 k)] : List (Nat × AFn)), Snd (cx W lo0) p.1 p.2 := by
    intro p hp
    simp only [List.mem_cons, List.not_mem_nil, or_false] at hp
    rcases hp with rfl | rfl | rfl | rfl | rfl | rfl
    · exact S8 hW k
    · exact S12 hW k
    · exact S13 hW k
    · exact S14 hW k
    · exact S9 hW k
    · exact S16 hW k
  refine body_ok (h := h7) (E := { tt := TT, fn := lk [(8, F8 k), (12, F12 k), (13, F13 k), (14, F14 k), (9, F9 k), (16, F16 k)], k := k }) ⟨ttok, lk_snd hl⟩ follows Tryd.func7 (by kernel_rfl) (fun args m v m' h => ?_) rfl
  unfold F7 at h
  split at h
  · exact (congrFun (E7 _ _ _ _ _ _ k _ _) m).trans h
  · cases h
end Go.AmT
