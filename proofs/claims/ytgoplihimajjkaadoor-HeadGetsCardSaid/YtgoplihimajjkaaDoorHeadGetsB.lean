/-
  Parts of the law 'HeadGets': no such field. Conditions: the table 'widths' holds what its text lays ('Tab'); a header's numbers fit their kinds ('Hdr.Ok').
-/
import Derived.Test.YtgoplihimajjkaaDoorHeadGetsO
namespace Go.Proofs.YtgoplihimajjkaaDoor
open Go.RowKit
open Hd
set_option linter.unusedVariables false
namespace HeadGets
set_option maxHeartbeats 1000000 in
theorem no_0 (h : Hdr) (ho : h.Ok) (f : Int) (hf : f < 0 ∨ 9 ≤ f) (g0 : ¬ 0 ≤ h.po) (w : World) (ht : Tab w) :
    Calls Tryd.prog 5 #[.agg #[.int .i64 h.po, .int .u8 h.s0, .int .u8 h.s1, .int .u8 h.s2, .int .u8 h.s3, .int .u8 h.s4, .int .u8 h.s5, .int .u8 h.d0, .int .u8 h.d1, .int .u8 h.d2, .int .u8 h.d3, .int .u8 h.d4, .int .u8 h.d5, .int .i64 h.ty, .int .u32 h.si, .int .u32 h.di, .int .i64 h.pr, .int .i64 h.sp, .int .i64 h.dp], .int .i64 f] w fun e w' => e = .returned (.bool true) ∧ Below w.heap.size w w' := by
  have eg := get_out (h := h) hf
  have hc := chkH_no (h := h) (by simp only [okH, decide_eq_false_iff_not]; omega)
  have gneg := Int.lt_of_not_ge g0
  clear g0
  rcases hf with hf | hf
  all_goals
    go_enter Tryd.func5, Tryd.ntmps5
    have hT := ht
    clear ht
    have hB := Below.refl (w.heap.size + 1) (w.alloc (.cells #[.int .i64 h.po, .int .u8 h.s0, .int .u8 h.s1, .int .u8 h.s2, .int .u8 h.s3, .int .u8 h.s4, .int .u8 h.s5, .int .u8 h.d0, .int .u8 h.d1, .int .u8 h.d2, .int .u8 h.d3, .int .u8 h.d4, .int .u8 h.d5, .int .i64 h.ty, .int .u32 h.si, .int .u32 h.di, .int .i64 h.pr, .int .i64 h.sp, .int .i64 h.dp] 33))
    have ht0 := hT.alloc (.cells #[.int .i64 h.po, .int .u8 h.s0, .int .u8 h.s1, .int .u8 h.s2, .int .u8 h.s3, .int .u8 h.s4, .int .u8 h.s5, .int .u8 h.d0, .int .u8 h.d1, .int .u8 h.d2, .int .u8 h.d3, .int .u8 h.d4, .int .u8 h.d5, .int .i64 h.ty, .int .u32 h.si, .int .u32 h.di, .int .i64 h.pr, .int .i64 h.sp, .int .i64 h.dp] 33)
    go_wp2_with fail
    refine (c_get7 _ ht0).mono ?_
    rintro e w1 ⟨rfl, hb1⟩
    replace hB := Law.next0 hB (by simp) hb1 (by simp)
    clear hb1
    obtain ⟨hrow, c0, c13, c16, c17, c18⟩ := row_hdr hB
    have ht := (hT.alloc _).keep hB (by simp)
    go_wp2_with (refine load_hdr rfl _ rfl _ rfl h _ _ hrow ?_)
    refine (c_check256 _ ht).mono ?_
    rintro e w2 ⟨rfl, hb2⟩
    replace hB := Law.next0 hB (by simp) hb2 (by simp)
    clear hb2
    clear hrow c0 c13 c16 c17 c18
    obtain ⟨hrow, c0, c13, c16, c17, c18⟩ := row_hdr hB
    replace ht := (hT.alloc _).keep hB (by simp)
    go_wp2_with (refine load_hdr rfl _ rfl _ rfl h _ _ hrow ?_)
    refine (get_any _ ho _ _ ht).mono ?_
    rintro e w3 ⟨rfl, hb3⟩
    replace hB := Law.next0 hB (by simp) hb3 (by simp)
    clear hb3
    clear hrow c0 c13 c16 c17 c18
    obtain ⟨hrow, c0, c13, c16, c17, c18⟩ := row_hdr hB
    replace ht := (hT.alloc _).keep hB (by simp)
    go_wp2_with (refine load_hdr rfl _ rfl _ rfl h _ _ hrow ?_)
    refine (check_any _ ho _ ht).mono ?_
    rintro e w4 ⟨rfl, hb4⟩
    replace hB := Law.next0 hB (by simp) hb4 (by simp)
    clear hb4
    clear hrow c0 c13 c16 c17 c18
    obtain ⟨hrow, c0, c13, c16, c17, c18⟩ := row_hdr hB
    replace ht := (hT.alloc _).keep hB (by simp)
    go_wp2_with (refine load_hdr rfl _ rfl _ rfl h _ _ hrow ?_)
    refine (check_any _ ho _ ht).mono ?_
    rintro e w5 ⟨rfl, hb5⟩
    replace hB := Law.next0 hB (by simp) hb5 (by simp)
    clear hb5
    clear hrow c0 c13 c16 c17 c18
    obtain ⟨hrow, c0, c13, c16, c17, c18⟩ := row_hdr hB
    replace ht := (hT.alloc _).keep hB (by simp)
    go_wp2
    go_ret
    exact ⟨rfl, Law.below_box (Nat.le_succ _) hB⟩

set_option maxHeartbeats 1000000 in
theorem no_1 (h : Hdr) (ho : h.Ok) (f : Int) (hf : f < 0 ∨ 9 ≤ f) (g0 : 0 ≤ h.po) (g1 : ¬ h.po < 256) (w : World) (ht : Tab w) :
    Calls Tryd.prog 5 #[.agg #[.int .i64 h.po, .int .u8 h.s0, .int .u8 h.s1, .int .u8 h.s2, .int .u8 h.s3, .int .u8 h.s4, .int .u8 h.s5, .int .u8 h.d0, .int .u8 h.d1, .int .u8 h.d2, .int .u8 h.d3, .int .u8 h.d4, .int .u8 h.d5, .int .i64 h.ty, .int .u32 h.si, .int .u32 h.di, .int .i64 h.pr, .int .i64 h.sp, .int .i64 h.dp], .int .i64 f] w fun e w' => e = .returned (.bool true) ∧ Below w.heap.size w w' := by
  have eg := get_out (h := h) hf
  have hc := chkH_no (h := h) (by simp only [okH, decide_eq_false_iff_not]; omega)
  have gneg := Int.le_of_not_gt g1
  clear g1
  rcases hf with hf | hf
  all_goals
    go_enter Tryd.func5, Tryd.ntmps5
    have hT := ht
    clear ht
    have hB := Below.refl (w.heap.size + 1) (w.alloc (.cells #[.int .i64 h.po, .int .u8 h.s0, .int .u8 h.s1, .int .u8 h.s2, .int .u8 h.s3, .int .u8 h.s4, .int .u8 h.s5, .int .u8 h.d0, .int .u8 h.d1, .int .u8 h.d2, .int .u8 h.d3, .int .u8 h.d4, .int .u8 h.d5, .int .i64 h.ty, .int .u32 h.si, .int .u32 h.di, .int .i64 h.pr, .int .i64 h.sp, .int .i64 h.dp] 33))
    have ht0 := hT.alloc (.cells #[.int .i64 h.po, .int .u8 h.s0, .int .u8 h.s1, .int .u8 h.s2, .int .u8 h.s3, .int .u8 h.s4, .int .u8 h.s5, .int .u8 h.d0, .int .u8 h.d1, .int .u8 h.d2, .int .u8 h.d3, .int .u8 h.d4, .int .u8 h.d5, .int .i64 h.ty, .int .u32 h.si, .int .u32 h.di, .int .i64 h.pr, .int .i64 h.sp, .int .i64 h.dp] 33)
    go_wp2_with fail
    refine (c_get7 _ ht0).mono ?_
    rintro e w1 ⟨rfl, hb1⟩
    replace hB := Law.next0 hB (by simp) hb1 (by simp)
    clear hb1
    obtain ⟨hrow, c0, c13, c16, c17, c18⟩ := row_hdr hB
    have ht := (hT.alloc _).keep hB (by simp)
    go_wp2_with (refine load_hdr rfl _ rfl _ rfl h _ _ hrow ?_)
    refine (c_check256 _ ht).mono ?_
    rintro e w2 ⟨rfl, hb2⟩
    replace hB := Law.next0 hB (by simp) hb2 (by simp)
    clear hb2
    clear hrow c0 c13 c16 c17 c18
    obtain ⟨hrow, c0, c13, c16, c17, c18⟩ := row_hdr hB
    replace ht := (hT.alloc _).keep hB (by simp)
    go_wp2_with (refine load_hdr rfl _ rfl _ rfl h _ _ hrow ?_)
    refine (get_any _ ho _ _ ht).mono ?_
    rintro e w3 ⟨rfl, hb3⟩
    replace hB := Law.next0 hB (by simp) hb3 (by simp)
    clear hb3
    clear hrow c0 c13 c16 c17 c18
    obtain ⟨hrow, c0, c13, c16, c17, c18⟩ := row_hdr hB
    replace ht := (hT.alloc _).keep hB (by simp)
    go_wp2_with (refine load_hdr rfl _ rfl _ rfl h _ _ hrow ?_)
    refine (check_any _ ho _ ht).mono ?_
    rintro e w4 ⟨rfl, hb4⟩
    replace hB := Law.next0 hB (by simp) hb4 (by simp)
    clear hb4
    clear hrow c0 c13 c16 c17 c18
    obtain ⟨hrow, c0, c13, c16, c17, c18⟩ := row_hdr hB
    replace ht := (hT.alloc _).keep hB (by simp)
    go_wp2_with (refine load_hdr rfl _ rfl _ rfl h _ _ hrow ?_)
    refine (check_any _ ho _ ht).mono ?_
    rintro e w5 ⟨rfl, hb5⟩
    replace hB := Law.next0 hB (by simp) hb5 (by simp)
    clear hb5
    clear hrow c0 c13 c16 c17 c18
    obtain ⟨hrow, c0, c13, c16, c17, c18⟩ := row_hdr hB
    replace ht := (hT.alloc _).keep hB (by simp)
    go_wp2
    go_ret
    exact ⟨rfl, Law.below_box (Nat.le_succ _) hB⟩

set_option maxHeartbeats 1000000 in
theorem no_2 (h : Hdr) (ho : h.Ok) (f : Int) (hf : f < 0 ∨ 9 ≤ f) (g0 : 0 ≤ h.po) (g1 : h.po < 256) (g2 : ¬ 0 ≤ h.ty) (w : World) (ht : Tab w) :
    Calls Tryd.prog 5 #[.agg #[.int .i64 h.po, .int .u8 h.s0, .int .u8 h.s1, .int .u8 h.s2, .int .u8 h.s3, .int .u8 h.s4, .int .u8 h.s5, .int .u8 h.d0, .int .u8 h.d1, .int .u8 h.d2, .int .u8 h.d3, .int .u8 h.d4, .int .u8 h.d5, .int .i64 h.ty, .int .u32 h.si, .int .u32 h.di, .int .i64 h.pr, .int .i64 h.sp, .int .i64 h.dp], .int .i64 f] w fun e w' => e = .returned (.bool true) ∧ Below w.heap.size w w' := by
  have eg := get_out (h := h) hf
  have hc := chkH_no (h := h) (by simp only [okH, decide_eq_false_iff_not]; omega)
  have gneg := Int.lt_of_not_ge g2
  clear g2
  rcases hf with hf | hf
  all_goals
    go_enter Tryd.func5, Tryd.ntmps5
    have hT := ht
    clear ht
    have hB := Below.refl (w.heap.size + 1) (w.alloc (.cells #[.int .i64 h.po, .int .u8 h.s0, .int .u8 h.s1, .int .u8 h.s2, .int .u8 h.s3, .int .u8 h.s4, .int .u8 h.s5, .int .u8 h.d0, .int .u8 h.d1, .int .u8 h.d2, .int .u8 h.d3, .int .u8 h.d4, .int .u8 h.d5, .int .i64 h.ty, .int .u32 h.si, .int .u32 h.di, .int .i64 h.pr, .int .i64 h.sp, .int .i64 h.dp] 33))
    have ht0 := hT.alloc (.cells #[.int .i64 h.po, .int .u8 h.s0, .int .u8 h.s1, .int .u8 h.s2, .int .u8 h.s3, .int .u8 h.s4, .int .u8 h.s5, .int .u8 h.d0, .int .u8 h.d1, .int .u8 h.d2, .int .u8 h.d3, .int .u8 h.d4, .int .u8 h.d5, .int .i64 h.ty, .int .u32 h.si, .int .u32 h.di, .int .i64 h.pr, .int .i64 h.sp, .int .i64 h.dp] 33)
    go_wp2_with fail
    refine (c_get7 _ ht0).mono ?_
    rintro e w1 ⟨rfl, hb1⟩
    replace hB := Law.next0 hB (by simp) hb1 (by simp)
    clear hb1
    obtain ⟨hrow, c0, c13, c16, c17, c18⟩ := row_hdr hB
    have ht := (hT.alloc _).keep hB (by simp)
    go_wp2_with (refine load_hdr rfl _ rfl _ rfl h _ _ hrow ?_)
    refine (c_check256 _ ht).mono ?_
    rintro e w2 ⟨rfl, hb2⟩
    replace hB := Law.next0 hB (by simp) hb2 (by simp)
    clear hb2
    clear hrow c0 c13 c16 c17 c18
    obtain ⟨hrow, c0, c13, c16, c17, c18⟩ := row_hdr hB
    replace ht := (hT.alloc _).keep hB (by simp)
    go_wp2_with (refine load_hdr rfl _ rfl _ rfl h _ _ hrow ?_)
    refine (get_any _ ho _ _ ht).mono ?_
    rintro e w3 ⟨rfl, hb3⟩
    replace hB := Law.next0 hB (by simp) hb3 (by simp)
    clear hb3
    clear hrow c0 c13 c16 c17 c18
    obtain ⟨hrow, c0, c13, c16, c17, c18⟩ := row_hdr hB
    replace ht := (hT.alloc _).keep hB (by simp)
    go_wp2_with (refine load_hdr rfl _ rfl _ rfl h _ _ hrow ?_)
    refine (check_any _ ho _ ht).mono ?_
    rintro e w4 ⟨rfl, hb4⟩
    replace hB := Law.next0 hB (by simp) hb4 (by simp)
    clear hb4
    clear hrow c0 c13 c16 c17 c18
    obtain ⟨hrow, c0, c13, c16, c17, c18⟩ := row_hdr hB
    replace ht := (hT.alloc _).keep hB (by simp)
    go_wp2_with (refine load_hdr rfl _ rfl _ rfl h _ _ hrow ?_)
    refine (check_any _ ho _ ht).mono ?_
    rintro e w5 ⟨rfl, hb5⟩
    replace hB := Law.next0 hB (by simp) hb5 (by simp)
    clear hb5
    clear hrow c0 c13 c16 c17 c18
    obtain ⟨hrow, c0, c13, c16, c17, c18⟩ := row_hdr hB
    replace ht := (hT.alloc _).keep hB (by simp)
    go_wp2
    go_ret
    exact ⟨rfl, Law.below_box (Nat.le_succ _) hB⟩

set_option maxHeartbeats 1000000 in
theorem no_3 (h : Hdr) (ho : h.Ok) (f : Int) (hf : f < 0 ∨ 9 ≤ f) (g0 : 0 ≤ h.po) (g1 : h.po < 256) (g2 : 0 ≤ h.ty) (g3 : ¬ h.ty < 65536) (w : World) (ht : Tab w) :
    Calls Tryd.prog 5 #[.agg #[.int .i64 h.po, .int .u8 h.s0, .int .u8 h.s1, .int .u8 h.s2, .int .u8 h.s3, .int .u8 h.s4, .int .u8 h.s5, .int .u8 h.d0, .int .u8 h.d1, .int .u8 h.d2, .int .u8 h.d3, .int .u8 h.d4, .int .u8 h.d5, .int .i64 h.ty, .int .u32 h.si, .int .u32 h.di, .int .i64 h.pr, .int .i64 h.sp, .int .i64 h.dp], .int .i64 f] w fun e w' => e = .returned (.bool true) ∧ Below w.heap.size w w' := by
  have eg := get_out (h := h) hf
  have hc := chkH_no (h := h) (by simp only [okH, decide_eq_false_iff_not]; omega)
  have gneg := Int.le_of_not_gt g3
  clear g3
  rcases hf with hf | hf
  all_goals
    go_enter Tryd.func5, Tryd.ntmps5
    have hT := ht
    clear ht
    have hB := Below.refl (w.heap.size + 1) (w.alloc (.cells #[.int .i64 h.po, .int .u8 h.s0, .int .u8 h.s1, .int .u8 h.s2, .int .u8 h.s3, .int .u8 h.s4, .int .u8 h.s5, .int .u8 h.d0, .int .u8 h.d1, .int .u8 h.d2, .int .u8 h.d3, .int .u8 h.d4, .int .u8 h.d5, .int .i64 h.ty, .int .u32 h.si, .int .u32 h.di, .int .i64 h.pr, .int .i64 h.sp, .int .i64 h.dp] 33))
    have ht0 := hT.alloc (.cells #[.int .i64 h.po, .int .u8 h.s0, .int .u8 h.s1, .int .u8 h.s2, .int .u8 h.s3, .int .u8 h.s4, .int .u8 h.s5, .int .u8 h.d0, .int .u8 h.d1, .int .u8 h.d2, .int .u8 h.d3, .int .u8 h.d4, .int .u8 h.d5, .int .i64 h.ty, .int .u32 h.si, .int .u32 h.di, .int .i64 h.pr, .int .i64 h.sp, .int .i64 h.dp] 33)
    go_wp2_with fail
    refine (c_get7 _ ht0).mono ?_
    rintro e w1 ⟨rfl, hb1⟩
    replace hB := Law.next0 hB (by simp) hb1 (by simp)
    clear hb1
    obtain ⟨hrow, c0, c13, c16, c17, c18⟩ := row_hdr hB
    have ht := (hT.alloc _).keep hB (by simp)
    go_wp2_with (refine load_hdr rfl _ rfl _ rfl h _ _ hrow ?_)
    refine (c_check256 _ ht).mono ?_
    rintro e w2 ⟨rfl, hb2⟩
    replace hB := Law.next0 hB (by simp) hb2 (by simp)
    clear hb2
    clear hrow c0 c13 c16 c17 c18
    obtain ⟨hrow, c0, c13, c16, c17, c18⟩ := row_hdr hB
    replace ht := (hT.alloc _).keep hB (by simp)
    go_wp2_with (refine load_hdr rfl _ rfl _ rfl h _ _ hrow ?_)
    refine (get_any _ ho _ _ ht).mono ?_
    rintro e w3 ⟨rfl, hb3⟩
    replace hB := Law.next0 hB (by simp) hb3 (by simp)
    clear hb3
    clear hrow c0 c13 c16 c17 c18
    obtain ⟨hrow, c0, c13, c16, c17, c18⟩ := row_hdr hB
    replace ht := (hT.alloc _).keep hB (by simp)
    go_wp2_with (refine load_hdr rfl _ rfl _ rfl h _ _ hrow ?_)
    refine (check_any _ ho _ ht).mono ?_
    rintro e w4 ⟨rfl, hb4⟩
    replace hB := Law.next0 hB (by simp) hb4 (by simp)
    clear hb4
    clear hrow c0 c13 c16 c17 c18
    obtain ⟨hrow, c0, c13, c16, c17, c18⟩ := row_hdr hB
    replace ht := (hT.alloc _).keep hB (by simp)
    go_wp2_with (refine load_hdr rfl _ rfl _ rfl h _ _ hrow ?_)
    refine (check_any _ ho _ ht).mono ?_
    rintro e w5 ⟨rfl, hb5⟩
    replace hB := Law.next0 hB (by simp) hb5 (by simp)
    clear hb5
    clear hrow c0 c13 c16 c17 c18
    obtain ⟨hrow, c0, c13, c16, c17, c18⟩ := row_hdr hB
    replace ht := (hT.alloc _).keep hB (by simp)
    go_wp2
    go_ret
    exact ⟨rfl, Law.below_box (Nat.le_succ _) hB⟩

set_option maxHeartbeats 1000000 in
theorem no_4 (h : Hdr) (ho : h.Ok) (f : Int) (hf : f < 0 ∨ 9 ≤ f) (g0 : 0 ≤ h.po) (g1 : h.po < 256) (g2 : 0 ≤ h.ty) (g3 : h.ty < 65536) (g4 : ¬ 0 ≤ h.pr) (w : World) (ht : Tab w) :
    Calls Tryd.prog 5 #[.agg #[.int .i64 h.po, .int .u8 h.s0, .int .u8 h.s1, .int .u8 h.s2, .int .u8 h.s3, .int .u8 h.s4, .int .u8 h.s5, .int .u8 h.d0, .int .u8 h.d1, .int .u8 h.d2, .int .u8 h.d3, .int .u8 h.d4, .int .u8 h.d5, .int .i64 h.ty, .int .u32 h.si, .int .u32 h.di, .int .i64 h.pr, .int .i64 h.sp, .int .i64 h.dp], .int .i64 f] w fun e w' => e = .returned (.bool true) ∧ Below w.heap.size w w' := by
  have eg := get_out (h := h) hf
  have hc := chkH_no (h := h) (by simp only [okH, decide_eq_false_iff_not]; omega)
  have gneg := Int.lt_of_not_ge g4
  clear g4
  rcases hf with hf | hf
  all_goals
    go_enter Tryd.func5, Tryd.ntmps5
    have hT := ht
    clear ht
    have hB := Below.refl (w.heap.size + 1) (w.alloc (.cells #[.int .i64 h.po, .int .u8 h.s0, .int .u8 h.s1, .int .u8 h.s2, .int .u8 h.s3, .int .u8 h.s4, .int .u8 h.s5, .int .u8 h.d0, .int .u8 h.d1, .int .u8 h.d2, .int .u8 h.d3, .int .u8 h.d4, .int .u8 h.d5, .int .i64 h.ty, .int .u32 h.si, .int .u32 h.di, .int .i64 h.pr, .int .i64 h.sp, .int .i64 h.dp] 33))
    have ht0 := hT.alloc (.cells #[.int .i64 h.po, .int .u8 h.s0, .int .u8 h.s1, .int .u8 h.s2, .int .u8 h.s3, .int .u8 h.s4, .int .u8 h.s5, .int .u8 h.d0, .int .u8 h.d1, .int .u8 h.d2, .int .u8 h.d3, .int .u8 h.d4, .int .u8 h.d5, .int .i64 h.ty, .int .u32 h.si, .int .u32 h.di, .int .i64 h.pr, .int .i64 h.sp, .int .i64 h.dp] 33)
    go_wp2_with fail
    refine (c_get7 _ ht0).mono ?_
    rintro e w1 ⟨rfl, hb1⟩
    replace hB := Law.next0 hB (by simp) hb1 (by simp)
    clear hb1
    obtain ⟨hrow, c0, c13, c16, c17, c18⟩ := row_hdr hB
    have ht := (hT.alloc _).keep hB (by simp)
    go_wp2_with (refine load_hdr rfl _ rfl _ rfl h _ _ hrow ?_)
    refine (c_check256 _ ht).mono ?_
    rintro e w2 ⟨rfl, hb2⟩
    replace hB := Law.next0 hB (by simp) hb2 (by simp)
    clear hb2
    clear hrow c0 c13 c16 c17 c18
    obtain ⟨hrow, c0, c13, c16, c17, c18⟩ := row_hdr hB
    replace ht := (hT.alloc _).keep hB (by simp)
    go_wp2_with (refine load_hdr rfl _ rfl _ rfl h _ _ hrow ?_)
    refine (get_any _ ho _ _ ht).mono ?_
    rintro e w3 ⟨rfl, hb3⟩
    replace hB := Law.next0 hB (by simp) hb3 (by simp)
    clear hb3
    clear hrow c0 c13 c16 c17 c18
    obtain ⟨hrow, c0, c13, c16, c17, c18⟩ := row_hdr hB
    replace ht := (hT.alloc _).keep hB (by simp)
    go_wp2_with (refine load_hdr rfl _ rfl _ rfl h _ _ hrow ?_)
    refine (check_any _ ho _ ht).mono ?_
    rintro e w4 ⟨rfl, hb4⟩
    replace hB := Law.next0 hB (by simp) hb4 (by simp)
    clear hb4
    clear hrow c0 c13 c16 c17 c18
    obtain ⟨hrow, c0, c13, c16, c17, c18⟩ := row_hdr hB
    replace ht := (hT.alloc _).keep hB (by simp)
    go_wp2_with (refine load_hdr rfl _ rfl _ rfl h _ _ hrow ?_)
    refine (check_any _ ho _ ht).mono ?_
    rintro e w5 ⟨rfl, hb5⟩
    replace hB := Law.next0 hB (by simp) hb5 (by simp)
    clear hb5
    clear hrow c0 c13 c16 c17 c18
    obtain ⟨hrow, c0, c13, c16, c17, c18⟩ := row_hdr hB
    replace ht := (hT.alloc _).keep hB (by simp)
    go_wp2
    go_ret
    exact ⟨rfl, Law.below_box (Nat.le_succ _) hB⟩

set_option maxHeartbeats 1000000 in
theorem no_5 (h : Hdr) (ho : h.Ok) (f : Int) (hf : f < 0 ∨ 9 ≤ f) (g0 : 0 ≤ h.po) (g1 : h.po < 256) (g2 : 0 ≤ h.ty) (g3 : h.ty < 65536) (g4 : 0 ≤ h.pr) (g5 : ¬ h.pr < 256) (w : World) (ht : Tab w) :
    Calls Tryd.prog 5 #[.agg #[.int .i64 h.po, .int .u8 h.s0, .int .u8 h.s1, .int .u8 h.s2, .int .u8 h.s3, .int .u8 h.s4, .int .u8 h.s5, .int .u8 h.d0, .int .u8 h.d1, .int .u8 h.d2, .int .u8 h.d3, .int .u8 h.d4, .int .u8 h.d5, .int .i64 h.ty, .int .u32 h.si, .int .u32 h.di, .int .i64 h.pr, .int .i64 h.sp, .int .i64 h.dp], .int .i64 f] w fun e w' => e = .returned (.bool true) ∧ Below w.heap.size w w' := by
  have eg := get_out (h := h) hf
  have hc := chkH_no (h := h) (by simp only [okH, decide_eq_false_iff_not]; omega)
  have gneg := Int.le_of_not_gt g5
  clear g5
  rcases hf with hf | hf
  all_goals
    go_enter Tryd.func5, Tryd.ntmps5
    have hT := ht
    clear ht
    have hB := Below.refl (w.heap.size + 1) (w.alloc (.cells #[.int .i64 h.po, .int .u8 h.s0, .int .u8 h.s1, .int .u8 h.s2, .int .u8 h.s3, .int .u8 h.s4, .int .u8 h.s5, .int .u8 h.d0, .int .u8 h.d1, .int .u8 h.d2, .int .u8 h.d3, .int .u8 h.d4, .int .u8 h.d5, .int .i64 h.ty, .int .u32 h.si, .int .u32 h.di, .int .i64 h.pr, .int .i64 h.sp, .int .i64 h.dp] 33))
    have ht0 := hT.alloc (.cells #[.int .i64 h.po, .int .u8 h.s0, .int .u8 h.s1, .int .u8 h.s2, .int .u8 h.s3, .int .u8 h.s4, .int .u8 h.s5, .int .u8 h.d0, .int .u8 h.d1, .int .u8 h.d2, .int .u8 h.d3, .int .u8 h.d4, .int .u8 h.d5, .int .i64 h.ty, .int .u32 h.si, .int .u32 h.di, .int .i64 h.pr, .int .i64 h.sp, .int .i64 h.dp] 33)
    go_wp2_with fail
    refine (c_get7 _ ht0).mono ?_
    rintro e w1 ⟨rfl, hb1⟩
    replace hB := Law.next0 hB (by simp) hb1 (by simp)
    clear hb1
    obtain ⟨hrow, c0, c13, c16, c17, c18⟩ := row_hdr hB
    have ht := (hT.alloc _).keep hB (by simp)
    go_wp2_with (refine load_hdr rfl _ rfl _ rfl h _ _ hrow ?_)
    refine (c_check256 _ ht).mono ?_
    rintro e w2 ⟨rfl, hb2⟩
    replace hB := Law.next0 hB (by simp) hb2 (by simp)
    clear hb2
    clear hrow c0 c13 c16 c17 c18
    obtain ⟨hrow, c0, c13, c16, c17, c18⟩ := row_hdr hB
    replace ht := (hT.alloc _).keep hB (by simp)
    go_wp2_with (refine load_hdr rfl _ rfl _ rfl h _ _ hrow ?_)
    refine (get_any _ ho _ _ ht).mono ?_
    rintro e w3 ⟨rfl, hb3⟩
    replace hB := Law.next0 hB (by simp) hb3 (by simp)
    clear hb3
    clear hrow c0 c13 c16 c17 c18
    obtain ⟨hrow, c0, c13, c16, c17, c18⟩ := row_hdr hB
    replace ht := (hT.alloc _).keep hB (by simp)
    go_wp2_with (refine load_hdr rfl _ rfl _ rfl h _ _ hrow ?_)
    refine (check_any _ ho _ ht).mono ?_
    rintro e w4 ⟨rfl, hb4⟩
    replace hB := Law.next0 hB (by simp) hb4 (by simp)
    clear hb4
    clear hrow c0 c13 c16 c17 c18
    obtain ⟨hrow, c0, c13, c16, c17, c18⟩ := row_hdr hB
    replace ht := (hT.alloc _).keep hB (by simp)
    go_wp2_with (refine load_hdr rfl _ rfl _ rfl h _ _ hrow ?_)
    refine (check_any _ ho _ ht).mono ?_
    rintro e w5 ⟨rfl, hb5⟩
    replace hB := Law.next0 hB (by simp) hb5 (by simp)
    clear hb5
    clear hrow c0 c13 c16 c17 c18
    obtain ⟨hrow, c0, c13, c16, c17, c18⟩ := row_hdr hB
    replace ht := (hT.alloc _).keep hB (by simp)
    go_wp2
    go_ret
    exact ⟨rfl, Law.below_box (Nat.le_succ _) hB⟩

set_option maxHeartbeats 1000000 in
theorem no_6 (h : Hdr) (ho : h.Ok) (f : Int) (hf : f < 0 ∨ 9 ≤ f) (g0 : 0 ≤ h.po) (g1 : h.po < 256) (g2 : 0 ≤ h.ty) (g3 : h.ty < 65536) (g4 : 0 ≤ h.pr) (g5 : h.pr < 256) (g6 : ¬ 0 ≤ h.sp) (w : World) (ht : Tab w) :
    Calls Tryd.prog 5 #[.agg #[.int .i64 h.po, .int .u8 h.s0, .int .u8 h.s1, .int .u8 h.s2, .int .u8 h.s3, .int .u8 h.s4, .int .u8 h.s5, .int .u8 h.d0, .int .u8 h.d1, .int .u8 h.d2, .int .u8 h.d3, .int .u8 h.d4, .int .u8 h.d5, .int .i64 h.ty, .int .u32 h.si, .int .u32 h.di, .int .i64 h.pr, .int .i64 h.sp, .int .i64 h.dp], .int .i64 f] w fun e w' => e = .returned (.bool true) ∧ Below w.heap.size w w' := by
  have eg := get_out (h := h) hf
  have hc := chkH_no (h := h) (by simp only [okH, decide_eq_false_iff_not]; omega)
  have gneg := Int.lt_of_not_ge g6
  clear g6
  rcases hf with hf | hf
  all_goals
    go_enter Tryd.func5, Tryd.ntmps5
    have hT := ht
    clear ht
    have hB := Below.refl (w.heap.size + 1) (w.alloc (.cells #[.int .i64 h.po, .int .u8 h.s0, .int .u8 h.s1, .int .u8 h.s2, .int .u8 h.s3, .int .u8 h.s4, .int .u8 h.s5, .int .u8 h.d0, .int .u8 h.d1, .int .u8 h.d2, .int .u8 h.d3, .int .u8 h.d4, .int .u8 h.d5, .int .i64 h.ty, .int .u32 h.si, .int .u32 h.di, .int .i64 h.pr, .int .i64 h.sp, .int .i64 h.dp] 33))
    have ht0 := hT.alloc (.cells #[.int .i64 h.po, .int .u8 h.s0, .int .u8 h.s1, .int .u8 h.s2, .int .u8 h.s3, .int .u8 h.s4, .int .u8 h.s5, .int .u8 h.d0, .int .u8 h.d1, .int .u8 h.d2, .int .u8 h.d3, .int .u8 h.d4, .int .u8 h.d5, .int .i64 h.ty, .int .u32 h.si, .int .u32 h.di, .int .i64 h.pr, .int .i64 h.sp, .int .i64 h.dp] 33)
    go_wp2_with fail
    refine (c_get7 _ ht0).mono ?_
    rintro e w1 ⟨rfl, hb1⟩
    replace hB := Law.next0 hB (by simp) hb1 (by simp)
    clear hb1
    obtain ⟨hrow, c0, c13, c16, c17, c18⟩ := row_hdr hB
    have ht := (hT.alloc _).keep hB (by simp)
    go_wp2_with (refine load_hdr rfl _ rfl _ rfl h _ _ hrow ?_)
    refine (c_check256 _ ht).mono ?_
    rintro e w2 ⟨rfl, hb2⟩
    replace hB := Law.next0 hB (by simp) hb2 (by simp)
    clear hb2
    clear hrow c0 c13 c16 c17 c18
    obtain ⟨hrow, c0, c13, c16, c17, c18⟩ := row_hdr hB
    replace ht := (hT.alloc _).keep hB (by simp)
    go_wp2_with (refine load_hdr rfl _ rfl _ rfl h _ _ hrow ?_)
    refine (get_any _ ho _ _ ht).mono ?_
    rintro e w3 ⟨rfl, hb3⟩
    replace hB := Law.next0 hB (by simp) hb3 (by simp)
    clear hb3
    clear hrow c0 c13 c16 c17 c18
    obtain ⟨hrow, c0, c13, c16, c17, c18⟩ := row_hdr hB
    replace ht := (hT.alloc _).keep hB (by simp)
    go_wp2_with (refine load_hdr rfl _ rfl _ rfl h _ _ hrow ?_)
    refine (check_any _ ho _ ht).mono ?_
    rintro e w4 ⟨rfl, hb4⟩
    replace hB := Law.next0 hB (by simp) hb4 (by simp)
    clear hb4
    clear hrow c0 c13 c16 c17 c18
    obtain ⟨hrow, c0, c13, c16, c17, c18⟩ := row_hdr hB
    replace ht := (hT.alloc _).keep hB (by simp)
    go_wp2_with (refine load_hdr rfl _ rfl _ rfl h _ _ hrow ?_)
    refine (check_any _ ho _ ht).mono ?_
    rintro e w5 ⟨rfl, hb5⟩
    replace hB := Law.next0 hB (by simp) hb5 (by simp)
    clear hb5
    clear hrow c0 c13 c16 c17 c18
    obtain ⟨hrow, c0, c13, c16, c17, c18⟩ := row_hdr hB
    replace ht := (hT.alloc _).keep hB (by simp)
    go_wp2
    go_ret
    exact ⟨rfl, Law.below_box (Nat.le_succ _) hB⟩

set_option maxHeartbeats 1000000 in
theorem no_7 (h : Hdr) (ho : h.Ok) (f : Int) (hf : f < 0 ∨ 9 ≤ f) (g0 : 0 ≤ h.po) (g1 : h.po < 256) (g2 : 0 ≤ h.ty) (g3 : h.ty < 65536) (g4 : 0 ≤ h.pr) (g5 : h.pr < 256) (g6 : 0 ≤ h.sp) (g7 : ¬ h.sp < 65536) (w : World) (ht : Tab w) :
    Calls Tryd.prog 5 #[.agg #[.int .i64 h.po, .int .u8 h.s0, .int .u8 h.s1, .int .u8 h.s2, .int .u8 h.s3, .int .u8 h.s4, .int .u8 h.s5, .int .u8 h.d0, .int .u8 h.d1, .int .u8 h.d2, .int .u8 h.d3, .int .u8 h.d4, .int .u8 h.d5, .int .i64 h.ty, .int .u32 h.si, .int .u32 h.di, .int .i64 h.pr, .int .i64 h.sp, .int .i64 h.dp], .int .i64 f] w fun e w' => e = .returned (.bool true) ∧ Below w.heap.size w w' := by
  have eg := get_out (h := h) hf
  have hc := chkH_no (h := h) (by simp only [okH, decide_eq_false_iff_not]; omega)
  have gneg := Int.le_of_not_gt g7
  clear g7
  rcases hf with hf | hf
  all_goals
    go_enter Tryd.func5, Tryd.ntmps5
    have hT := ht
    clear ht
    have hB := Below.refl (w.heap.size + 1) (w.alloc (.cells #[.int .i64 h.po, .int .u8 h.s0, .int .u8 h.s1, .int .u8 h.s2, .int .u8 h.s3, .int .u8 h.s4, .int .u8 h.s5, .int .u8 h.d0, .int .u8 h.d1, .int .u8 h.d2, .int .u8 h.d3, .int .u8 h.d4, .int .u8 h.d5, .int .i64 h.ty, .int .u32 h.si, .int .u32 h.di, .int .i64 h.pr, .int .i64 h.sp, .int .i64 h.dp] 33))
    have ht0 := hT.alloc (.cells #[.int .i64 h.po, .int .u8 h.s0, .int .u8 h.s1, .int .u8 h.s2, .int .u8 h.s3, .int .u8 h.s4, .int .u8 h.s5, .int .u8 h.d0, .int .u8 h.d1, .int .u8 h.d2, .int .u8 h.d3, .int .u8 h.d4, .int .u8 h.d5, .int .i64 h.ty, .int .u32 h.si, .int .u32 h.di, .int .i64 h.pr, .int .i64 h.sp, .int .i64 h.dp] 33)
    go_wp2_with fail
    refine (c_get7 _ ht0).mono ?_
    rintro e w1 ⟨rfl, hb1⟩
    replace hB := Law.next0 hB (by simp) hb1 (by simp)
    clear hb1
    obtain ⟨hrow, c0, c13, c16, c17, c18⟩ := row_hdr hB
    have ht := (hT.alloc _).keep hB (by simp)
    go_wp2_with (refine load_hdr rfl _ rfl _ rfl h _ _ hrow ?_)
    refine (c_check256 _ ht).mono ?_
    rintro e w2 ⟨rfl, hb2⟩
    replace hB := Law.next0 hB (by simp) hb2 (by simp)
    clear hb2
    clear hrow c0 c13 c16 c17 c18
    obtain ⟨hrow, c0, c13, c16, c17, c18⟩ := row_hdr hB
    replace ht := (hT.alloc _).keep hB (by simp)
    go_wp2_with (refine load_hdr rfl _ rfl _ rfl h _ _ hrow ?_)
    refine (get_any _ ho _ _ ht).mono ?_
    rintro e w3 ⟨rfl, hb3⟩
    replace hB := Law.next0 hB (by simp) hb3 (by simp)
    clear hb3
    clear hrow c0 c13 c16 c17 c18
    obtain ⟨hrow, c0, c13, c16, c17, c18⟩ := row_hdr hB
    replace ht := (hT.alloc _).keep hB (by simp)
    go_wp2_with (refine load_hdr rfl _ rfl _ rfl h _ _ hrow ?_)
    refine (check_any _ ho _ ht).mono ?_
    rintro e w4 ⟨rfl, hb4⟩
    replace hB := Law.next0 hB (by simp) hb4 (by simp)
    clear hb4
    clear hrow c0 c13 c16 c17 c18
    obtain ⟨hrow, c0, c13, c16, c17, c18⟩ := row_hdr hB
    replace ht := (hT.alloc _).keep hB (by simp)
    go_wp2_with (refine load_hdr rfl _ rfl _ rfl h _ _ hrow ?_)
    refine (check_any _ ho _ ht).mono ?_
    rintro e w5 ⟨rfl, hb5⟩
    replace hB := Law.next0 hB (by simp) hb5 (by simp)
    clear hb5
    clear hrow c0 c13 c16 c17 c18
    obtain ⟨hrow, c0, c13, c16, c17, c18⟩ := row_hdr hB
    replace ht := (hT.alloc _).keep hB (by simp)
    go_wp2
    go_ret
    exact ⟨rfl, Law.below_box (Nat.le_succ _) hB⟩

set_option maxHeartbeats 1000000 in
theorem no_8 (h : Hdr) (ho : h.Ok) (f : Int) (hf : f < 0 ∨ 9 ≤ f) (g0 : 0 ≤ h.po) (g1 : h.po < 256) (g2 : 0 ≤ h.ty) (g3 : h.ty < 65536) (g4 : 0 ≤ h.pr) (g5 : h.pr < 256) (g6 : 0 ≤ h.sp) (g7 : h.sp < 65536) (g8 : ¬ 0 ≤ h.dp) (w : World) (ht : Tab w) :
    Calls Tryd.prog 5 #[.agg #[.int .i64 h.po, .int .u8 h.s0, .int .u8 h.s1, .int .u8 h.s2, .int .u8 h.s3, .int .u8 h.s4, .int .u8 h.s5, .int .u8 h.d0, .int .u8 h.d1, .int .u8 h.d2, .int .u8 h.d3, .int .u8 h.d4, .int .u8 h.d5, .int .i64 h.ty, .int .u32 h.si, .int .u32 h.di, .int .i64 h.pr, .int .i64 h.sp, .int .i64 h.dp], .int .i64 f] w fun e w' => e = .returned (.bool true) ∧ Below w.heap.size w w' := by
  have eg := get_out (h := h) hf
  have hc := chkH_no (h := h) (by simp only [okH, decide_eq_false_iff_not]; omega)
  have gneg := Int.lt_of_not_ge g8
  clear g8
  rcases hf with hf | hf
  all_goals
    go_enter Tryd.func5, Tryd.ntmps5
    have hT := ht
    clear ht
    have hB := Below.refl (w.heap.size + 1) (w.alloc (.cells #[.int .i64 h.po, .int .u8 h.s0, .int .u8 h.s1, .int .u8 h.s2, .int .u8 h.s3, .int .u8 h.s4, .int .u8 h.s5, .int .u8 h.d0, .int .u8 h.d1, .int .u8 h.d2, .int .u8 h.d3, .int .u8 h.d4, .int .u8 h.d5, .int .i64 h.ty, .int .u32 h.si, .int .u32 h.di, .int .i64 h.pr, .int .i64 h.sp, .int .i64 h.dp] 33))
    have ht0 := hT.alloc (.cells #[.int .i64 h.po, .int .u8 h.s0, .int .u8 h.s1, .int .u8 h.s2, .int .u8 h.s3, .int .u8 h.s4, .int .u8 h.s5, .int .u8 h.d0, .int .u8 h.d1, .int .u8 h.d2, .int .u8 h.d3, .int .u8 h.d4, .int .u8 h.d5, .int .i64 h.ty, .int .u32 h.si, .int .u32 h.di, .int .i64 h.pr, .int .i64 h.sp, .int .i64 h.dp] 33)
    go_wp2_with fail
    refine (c_get7 _ ht0).mono ?_
    rintro e w1 ⟨rfl, hb1⟩
    replace hB := Law.next0 hB (by simp) hb1 (by simp)
    clear hb1
    obtain ⟨hrow, c0, c13, c16, c17, c18⟩ := row_hdr hB
    have ht := (hT.alloc _).keep hB (by simp)
    go_wp2_with (refine load_hdr rfl _ rfl _ rfl h _ _ hrow ?_)
    refine (c_check256 _ ht).mono ?_
    rintro e w2 ⟨rfl, hb2⟩
    replace hB := Law.next0 hB (by simp) hb2 (by simp)
    clear hb2
    clear hrow c0 c13 c16 c17 c18
    obtain ⟨hrow, c0, c13, c16, c17, c18⟩ := row_hdr hB
    replace ht := (hT.alloc _).keep hB (by simp)
    go_wp2_with (refine load_hdr rfl _ rfl _ rfl h _ _ hrow ?_)
    refine (get_any _ ho _ _ ht).mono ?_
    rintro e w3 ⟨rfl, hb3⟩
    replace hB := Law.next0 hB (by simp) hb3 (by simp)
    clear hb3
    clear hrow c0 c13 c16 c17 c18
    obtain ⟨hrow, c0, c13, c16, c17, c18⟩ := row_hdr hB
    replace ht := (hT.alloc _).keep hB (by simp)
    go_wp2_with (refine load_hdr rfl _ rfl _ rfl h _ _ hrow ?_)
    refine (check_any _ ho _ ht).mono ?_
    rintro e w4 ⟨rfl, hb4⟩
    replace hB := Law.next0 hB (by simp) hb4 (by simp)
    clear hb4
    clear hrow c0 c13 c16 c17 c18
    obtain ⟨hrow, c0, c13, c16, c17, c18⟩ := row_hdr hB
    replace ht := (hT.alloc _).keep hB (by simp)
    go_wp2_with (refine load_hdr rfl _ rfl _ rfl h _ _ hrow ?_)
    refine (check_any _ ho _ ht).mono ?_
    rintro e w5 ⟨rfl, hb5⟩
    replace hB := Law.next0 hB (by simp) hb5 (by simp)
    clear hb5
    clear hrow c0 c13 c16 c17 c18
    obtain ⟨hrow, c0, c13, c16, c17, c18⟩ := row_hdr hB
    replace ht := (hT.alloc _).keep hB (by simp)
    go_wp2
    go_ret
    exact ⟨rfl, Law.below_box (Nat.le_succ _) hB⟩

set_option maxHeartbeats 1000000 in
theorem no_9 (h : Hdr) (ho : h.Ok) (f : Int) (hf : f < 0 ∨ 9 ≤ f) (g0 : 0 ≤ h.po) (g1 : h.po < 256) (g2 : 0 ≤ h.ty) (g3 : h.ty < 65536) (g4 : 0 ≤ h.pr) (g5 : h.pr < 256) (g6 : 0 ≤ h.sp) (g7 : h.sp < 65536) (g8 : 0 ≤ h.dp) (g9 : ¬ h.dp < 65536) (w : World) (ht : Tab w) :
    Calls Tryd.prog 5 #[.agg #[.int .i64 h.po, .int .u8 h.s0, .int .u8 h.s1, .int .u8 h.s2, .int .u8 h.s3, .int .u8 h.s4, .int .u8 h.s5, .int .u8 h.d0, .int .u8 h.d1, .int .u8 h.d2, .int .u8 h.d3, .int .u8 h.d4, .int .u8 h.d5, .int .i64 h.ty, .int .u32 h.si, .int .u32 h.di, .int .i64 h.pr, .int .i64 h.sp, .int .i64 h.dp], .int .i64 f] w fun e w' => e = .returned (.bool true) ∧ Below w.heap.size w w' := by
  have eg := get_out (h := h) hf
  have hc := chkH_no (h := h) (by simp only [okH, decide_eq_false_iff_not]; omega)
  have gneg := Int.le_of_not_gt g9
  clear g9
  have d9 : decide (h.dp < 65536) = false := by simp only [decide_eq_false_iff_not]; omega
  rcases hf with hf | hf
  all_goals
    go_enter Tryd.func5, Tryd.ntmps5
    have hT := ht
    clear ht
    have hB := Below.refl (w.heap.size + 1) (w.alloc (.cells #[.int .i64 h.po, .int .u8 h.s0, .int .u8 h.s1, .int .u8 h.s2, .int .u8 h.s3, .int .u8 h.s4, .int .u8 h.s5, .int .u8 h.d0, .int .u8 h.d1, .int .u8 h.d2, .int .u8 h.d3, .int .u8 h.d4, .int .u8 h.d5, .int .i64 h.ty, .int .u32 h.si, .int .u32 h.di, .int .i64 h.pr, .int .i64 h.sp, .int .i64 h.dp] 33))
    have ht0 := hT.alloc (.cells #[.int .i64 h.po, .int .u8 h.s0, .int .u8 h.s1, .int .u8 h.s2, .int .u8 h.s3, .int .u8 h.s4, .int .u8 h.s5, .int .u8 h.d0, .int .u8 h.d1, .int .u8 h.d2, .int .u8 h.d3, .int .u8 h.d4, .int .u8 h.d5, .int .i64 h.ty, .int .u32 h.si, .int .u32 h.di, .int .i64 h.pr, .int .i64 h.sp, .int .i64 h.dp] 33)
    go_wp2_with fail
    refine (c_get7 _ ht0).mono ?_
    rintro e w1 ⟨rfl, hb1⟩
    replace hB := Law.next0 hB (by simp) hb1 (by simp)
    clear hb1
    obtain ⟨hrow, c0, c13, c16, c17, c18⟩ := row_hdr hB
    have ht := (hT.alloc _).keep hB (by simp)
    go_wp2_with (refine load_hdr rfl _ rfl _ rfl h _ _ hrow ?_)
    refine (c_check256 _ ht).mono ?_
    rintro e w2 ⟨rfl, hb2⟩
    replace hB := Law.next0 hB (by simp) hb2 (by simp)
    clear hb2
    clear hrow c0 c13 c16 c17 c18
    obtain ⟨hrow, c0, c13, c16, c17, c18⟩ := row_hdr hB
    replace ht := (hT.alloc _).keep hB (by simp)
    go_wp2_with (refine load_hdr rfl _ rfl _ rfl h _ _ hrow ?_)
    refine (get_any _ ho _ _ ht).mono ?_
    rintro e w3 ⟨rfl, hb3⟩
    replace hB := Law.next0 hB (by simp) hb3 (by simp)
    clear hb3
    clear hrow c0 c13 c16 c17 c18
    obtain ⟨hrow, c0, c13, c16, c17, c18⟩ := row_hdr hB
    replace ht := (hT.alloc _).keep hB (by simp)
    go_wp2_with (refine load_hdr rfl _ rfl _ rfl h _ _ hrow ?_)
    refine (check_any _ ho _ ht).mono ?_
    rintro e w4 ⟨rfl, hb4⟩
    replace hB := Law.next0 hB (by simp) hb4 (by simp)
    clear hb4
    clear hrow c0 c13 c16 c17 c18
    obtain ⟨hrow, c0, c13, c16, c17, c18⟩ := row_hdr hB
    replace ht := (hT.alloc _).keep hB (by simp)
    go_wp2_with (refine load_hdr rfl _ rfl _ rfl h _ _ hrow ?_)
    refine (check_any _ ho _ ht).mono ?_
    rintro e w5 ⟨rfl, hb5⟩
    replace hB := Law.next0 hB (by simp) hb5 (by simp)
    clear hb5
    clear hrow c0 c13 c16 c17 c18
    obtain ⟨hrow, c0, c13, c16, c17, c18⟩ := row_hdr hB
    replace ht := (hT.alloc _).keep hB (by simp)
    go_wp2
    go_ret
    exact ⟨rfl, Law.below_box (Nat.le_succ _) hB⟩

set_option maxHeartbeats 1000000 in
theorem no_10 (h : Hdr) (ho : h.Ok) (f : Int) (hf : f < 0 ∨ 9 ≤ f) (g0 : 0 ≤ h.po) (g1 : h.po < 256) (g2 : 0 ≤ h.ty) (g3 : h.ty < 65536) (g4 : 0 ≤ h.pr) (g5 : h.pr < 256) (g6 : 0 ≤ h.sp) (g7 : h.sp < 65536) (g8 : 0 ≤ h.dp) (g9 : h.dp < 65536) (w : World) (ht : Tab w) :
    Calls Tryd.prog 5 #[.agg #[.int .i64 h.po, .int .u8 h.s0, .int .u8 h.s1, .int .u8 h.s2, .int .u8 h.s3, .int .u8 h.s4, .int .u8 h.s5, .int .u8 h.d0, .int .u8 h.d1, .int .u8 h.d2, .int .u8 h.d3, .int .u8 h.d4, .int .u8 h.d5, .int .i64 h.ty, .int .u32 h.si, .int .u32 h.di, .int .i64 h.pr, .int .i64 h.sp, .int .i64 h.dp], .int .i64 f] w fun e w' => e = .returned (.bool true) ∧ Below w.heap.size w w' := by
  have eg := get_out (h := h) hf
  have hc := chkH_yes (h := h) (by simp only [okH, decide_eq_true_eq]; omega)
  rcases hf with hf | hf
  all_goals
    go_enter Tryd.func5, Tryd.ntmps5
    have hT := ht
    clear ht
    have hB := Below.refl (w.heap.size + 1) (w.alloc (.cells #[.int .i64 h.po, .int .u8 h.s0, .int .u8 h.s1, .int .u8 h.s2, .int .u8 h.s3, .int .u8 h.s4, .int .u8 h.s5, .int .u8 h.d0, .int .u8 h.d1, .int .u8 h.d2, .int .u8 h.d3, .int .u8 h.d4, .int .u8 h.d5, .int .i64 h.ty, .int .u32 h.si, .int .u32 h.di, .int .i64 h.pr, .int .i64 h.sp, .int .i64 h.dp] 33))
    have ht0 := hT.alloc (.cells #[.int .i64 h.po, .int .u8 h.s0, .int .u8 h.s1, .int .u8 h.s2, .int .u8 h.s3, .int .u8 h.s4, .int .u8 h.s5, .int .u8 h.d0, .int .u8 h.d1, .int .u8 h.d2, .int .u8 h.d3, .int .u8 h.d4, .int .u8 h.d5, .int .i64 h.ty, .int .u32 h.si, .int .u32 h.di, .int .i64 h.pr, .int .i64 h.sp, .int .i64 h.dp] 33)
    go_wp2_with fail
    refine (c_get7 _ ht0).mono ?_
    rintro e w1 ⟨rfl, hb1⟩
    replace hB := Law.next0 hB (by simp) hb1 (by simp)
    clear hb1
    obtain ⟨hrow, c0, c13, c16, c17, c18⟩ := row_hdr hB
    have ht := (hT.alloc _).keep hB (by simp)
    go_wp2_with (refine load_hdr rfl _ rfl _ rfl h _ _ hrow ?_)
    refine (c_check256 _ ht).mono ?_
    rintro e w2 ⟨rfl, hb2⟩
    replace hB := Law.next0 hB (by simp) hb2 (by simp)
    clear hb2
    clear hrow c0 c13 c16 c17 c18
    obtain ⟨hrow, c0, c13, c16, c17, c18⟩ := row_hdr hB
    replace ht := (hT.alloc _).keep hB (by simp)
    go_wp2_with (refine load_hdr rfl _ rfl _ rfl h _ _ hrow ?_)
    refine (get_any _ ho _ _ ht).mono ?_
    rintro e w3 ⟨rfl, hb3⟩
    replace hB := Law.next0 hB (by simp) hb3 (by simp)
    clear hb3
    clear hrow c0 c13 c16 c17 c18
    obtain ⟨hrow, c0, c13, c16, c17, c18⟩ := row_hdr hB
    replace ht := (hT.alloc _).keep hB (by simp)
    go_wp2_with (refine load_hdr rfl _ rfl _ rfl h _ _ hrow ?_)
    refine (check_any _ ho _ ht).mono ?_
    rintro e w4 ⟨rfl, hb4⟩
    replace hB := Law.next0 hB (by simp) hb4 (by simp)
    clear hb4
    clear hrow c0 c13 c16 c17 c18
    obtain ⟨hrow, c0, c13, c16, c17, c18⟩ := row_hdr hB
    replace ht := (hT.alloc _).keep hB (by simp)
    go_wp2
    go_ret
    exact ⟨rfl, Law.below_box (Nat.le_succ _) hB⟩

end HeadGets
end Go.Proofs.YtgoplihimajjkaaDoor
