/-
  The law 'HeadOrders': for every input it answers true, the table 'widths' holding what its text lays. No other conditions.
-/
import Derived.Test.YtgoplihimajjkaaDoorHdrE
import Derived.Test.YtgoplihimajjkaaDoorHdrCard
namespace Go.Proofs.YtgoplihimajjkaaDoor
open Go.ChangeShapes Go.WideShapes Go.ChangeAt Go.RowKit
open Hd
set_option linter.unusedVariables false
namespace HeadOrders

theorem cmp_is {g h : Hdr} (go : g.Ok) (ho : h.Ok) {c : Int} (e : cmpH g h = c) (w : World) (ht : Tab w) :
    Calls Tryd.prog 18 #[.agg #[.int .i64 g.po, .int .u8 g.s0, .int .u8 g.s1, .int .u8 g.s2, .int .u8 g.s3, .int .u8 g.s4, .int .u8 g.s5, .int .u8 g.d0, .int .u8 g.d1, .int .u8 g.d2, .int .u8 g.d3, .int .u8 g.d4, .int .u8 g.d5, .int .i64 g.ty, .int .u32 g.si, .int .u32 g.di, .int .i64 g.pr, .int .i64 g.sp, .int .i64 g.dp], .agg #[.int .i64 h.po, .int .u8 h.s0, .int .u8 h.s1, .int .u8 h.s2, .int .u8 h.s3, .int .u8 h.s4, .int .u8 h.s5, .int .u8 h.d0, .int .u8 h.d1, .int .u8 h.d2, .int .u8 h.d3, .int .u8 h.d4, .int .u8 h.d5, .int .i64 h.ty, .int .u32 h.si, .int .u32 h.di, .int .i64 h.pr, .int .i64 h.sp, .int .i64 h.dp]] w fun e w' => e = .returned (.int .i64 c) ∧ Below w.heap.size w w' := by
  have := cmp_any g go h ho w ht
  rw [e] at this
  exact this
theorem nums_cell (h : Hdr) : ∀ k, k < 9 → (#[.int .u64 (h.po % 256), .int .u64 (num h.s0 h.s1 h.s2 h.s3 h.s4 h.s5), .int .u64 (num h.d0 h.d1 h.d2 h.d3 h.d4 h.d5), .int .u64 (h.ty % 65536), .int .u64 (h.si), .int .u64 (h.di), .int .u64 (h.pr % 256), .int .u64 (h.sp % 65536), .int .u64 (h.dp % 65536)] : Array Value)[k]? = some (.int .u64 (get h k))
  | 0, _ => rfl
  | 1, _ => rfl
  | 2, _ => rfl
  | 3, _ => rfl
  | 4, _ => rfl
  | 5, _ => rfl
  | 6, _ => rfl
  | 7, _ => rfl
  | 8, _ => rfl
theorem okP1 : Hdr.Ok ⟨1, 0, 0, 0, 0, 0, 0, 0, 0, 0, 0, 0, 0, 0, 0, 0, 0, 0, 0⟩ := by constructor <;> decide
theorem okP2 : Hdr.Ok ⟨2, 0, 0, 0, 0, 0, 0, 0, 0, 0, 0, 0, 0, 0, 0, 0, 0, 0, 0⟩ := by constructor <;> decide
theorem c_cmp12 (w : World) (ht : Tab w) : Calls Tryd.prog 18 #[.agg #[.int .i64 1, .int .u8 0, .int .u8 0, .int .u8 0, .int .u8 0, .int .u8 0, .int .u8 0, .int .u8 0, .int .u8 0, .int .u8 0, .int .u8 0, .int .u8 0, .int .u8 0, .int .i64 0, .int .u32 0, .int .u32 0, .int .i64 0, .int .i64 0, .int .i64 0], .agg #[.int .i64 2, .int .u8 0, .int .u8 0, .int .u8 0, .int .u8 0, .int .u8 0, .int .u8 0, .int .u8 0, .int .u8 0, .int .u8 0, .int .u8 0, .int .u8 0, .int .u8 0, .int .i64 0, .int .u32 0, .int .u32 0, .int .i64 0, .int .i64 0, .int .i64 0]] w fun e w' => e = .returned (.int .i64 (-1)) ∧ Below w.heap.size w w' := by
  have := cmp_any ⟨1, 0, 0, 0, 0, 0, 0, 0, 0, 0, 0, 0, 0, 0, 0, 0, 0, 0, 0⟩ okP1 ⟨2, 0, 0, 0, 0, 0, 0, 0, 0, 0, 0, 0, 0, 0, 0, 0, 0, 0, 0⟩ okP2 w ht
  rw [show cmpH ⟨1, 0, 0, 0, 0, 0, 0, 0, 0, 0, 0, 0, 0, 0, 0, 0, 0, 0, 0⟩ ⟨2, 0, 0, 0, 0, 0, 0, 0, 0, 0, 0, 0, 0, 0, 0, 0, 0, 0, 0⟩ = -1 by decide] at this
  exact this
set_option maxHeartbeats 1000000 in
theorem walkH (g : Hdr) (go : g.Ok) (h : Hdr) (ho : h.Ok) (w : World) (ht : Tab w) :
    Calls Tryd.prog 6 #[.agg #[.int .i64 g.po, .int .u8 g.s0, .int .u8 g.s1, .int .u8 g.s2, .int .u8 g.s3, .int .u8 g.s4, .int .u8 g.s5, .int .u8 g.d0, .int .u8 g.d1, .int .u8 g.d2, .int .u8 g.d3, .int .u8 g.d4, .int .u8 g.d5, .int .i64 g.ty, .int .u32 g.si, .int .u32 g.di, .int .i64 g.pr, .int .i64 g.sp, .int .i64 g.dp], .agg #[.int .i64 h.po, .int .u8 h.s0, .int .u8 h.s1, .int .u8 h.s2, .int .u8 h.s3, .int .u8 h.s4, .int .u8 h.s5, .int .u8 h.d0, .int .u8 h.d1, .int .u8 h.d2, .int .u8 h.d3, .int .u8 h.d4, .int .u8 h.d5, .int .i64 h.ty, .int .u32 h.si, .int .u32 h.di, .int .i64 h.pr, .int .i64 h.sp, .int .i64 h.dp]] w fun e w' => e = .returned (.bool true) ∧ Below w.heap.size w w' := by
  have hT := (ht.alloc (.cells #[.int .i64 g.po, .int .u8 g.s0, .int .u8 g.s1, .int .u8 g.s2, .int .u8 g.s3, .int .u8 g.s4, .int .u8 g.s5, .int .u8 g.d0, .int .u8 g.d1, .int .u8 g.d2, .int .u8 g.d3, .int .u8 g.d4, .int .u8 g.d5, .int .i64 g.ty, .int .u32 g.si, .int .u32 g.di, .int .i64 g.pr, .int .i64 g.sp, .int .i64 g.dp] 33)).alloc (.cells #[.int .i64 h.po, .int .u8 h.s0, .int .u8 h.s1, .int .u8 h.s2, .int .u8 h.s3, .int .u8 h.s4, .int .u8 h.s5, .int .u8 h.d0, .int .u8 h.d1, .int .u8 h.d2, .int .u8 h.d3, .int .u8 h.d4, .int .u8 h.d5, .int .i64 h.ty, .int .u32 h.si, .int .u32 h.di, .int .i64 h.pr, .int .i64 h.sp, .int .i64 h.dp] 33)
  have hA : Below w.heap.size w ((w.alloc (.cells #[.int .i64 g.po, .int .u8 g.s0, .int .u8 g.s1, .int .u8 g.s2, .int .u8 g.s3, .int .u8 g.s4, .int .u8 g.s5, .int .u8 g.d0, .int .u8 g.d1, .int .u8 g.d2, .int .u8 g.d3, .int .u8 g.d4, .int .u8 g.d5, .int .i64 g.ty, .int .u32 g.si, .int .u32 g.di, .int .i64 g.pr, .int .i64 g.sp, .int .i64 g.dp] 33)).alloc (.cells #[.int .i64 h.po, .int .u8 h.s0, .int .u8 h.s1, .int .u8 h.s2, .int .u8 h.s3, .int .u8 h.s4, .int .u8 h.s5, .int .u8 h.d0, .int .u8 h.d1, .int .u8 h.d2, .int .u8 h.d3, .int .u8 h.d4, .int .u8 h.d5, .int .i64 h.ty, .int .u32 h.si, .int .u32 h.di, .int .i64 h.pr, .int .i64 h.sp, .int .i64 h.dp] 33)) := Law.below_allocs (bs := [(#[.int .i64 g.po, .int .u8 g.s0, .int .u8 g.s1, .int .u8 g.s2, .int .u8 g.s3, .int .u8 g.s4, .int .u8 g.s5, .int .u8 g.d0, .int .u8 g.d1, .int .u8 g.d2, .int .u8 g.d3, .int .u8 g.d4, .int .u8 g.d5, .int .i64 g.ty, .int .u32 g.si, .int .u32 g.di, .int .i64 g.pr, .int .i64 g.sp, .int .i64 g.dp], 33), (#[.int .i64 h.po, .int .u8 h.s0, .int .u8 h.s1, .int .u8 h.s2, .int .u8 h.s3, .int .u8 h.s4, .int .u8 h.s5, .int .u8 h.d0, .int .u8 h.d1, .int .u8 h.d2, .int .u8 h.d3, .int .u8 h.d4, .int .u8 h.d5, .int .i64 h.ty, .int .u32 h.si, .int .u32 h.di, .int .i64 h.pr, .int .i64 h.sp, .int .i64 h.dp], 33)]) (Below.refl w.heap.size _) (Nat.le_refl _)
  have HX := Lib.hid (show ∀ w1, Below (w.heap.size + 2) ((w.alloc (.cells #[.int .i64 g.po, .int .u8 g.s0, .int .u8 g.s1, .int .u8 g.s2, .int .u8 g.s3, .int .u8 g.s4, .int .u8 g.s5, .int .u8 g.d0, .int .u8 g.d1, .int .u8 g.d2, .int .u8 g.d3, .int .u8 g.d4, .int .u8 g.d5, .int .i64 g.ty, .int .u32 g.si, .int .u32 g.di, .int .i64 g.pr, .int .i64 g.sp, .int .i64 g.dp] 33)).alloc (.cells #[.int .i64 h.po, .int .u8 h.s0, .int .u8 h.s1, .int .u8 h.s2, .int .u8 h.s3, .int .u8 h.s4, .int .u8 h.s5, .int .u8 h.d0, .int .u8 h.d1, .int .u8 h.d2, .int .u8 h.d3, .int .u8 h.d4, .int .u8 h.d5, .int .i64 h.ty, .int .u32 h.si, .int .u32 h.di, .int .i64 h.pr, .int .i64 h.sp, .int .i64 h.dp] 33)) w1 → w1.heap[w.heap.size]? = some (.cells #[.int .i64 g.po, .int .u8 g.s0, .int .u8 g.s1, .int .u8 g.s2, .int .u8 g.s3, .int .u8 g.s4, .int .u8 g.s5, .int .u8 g.d0, .int .u8 g.d1, .int .u8 g.d2, .int .u8 g.d3, .int .u8 g.d4, .int .u8 g.d5, .int .i64 g.ty, .int .u32 g.si, .int .u32 g.di, .int .i64 g.pr, .int .i64 g.sp, .int .i64 g.dp] 33) ∧ w1.heap[w.heap.size + 1]? = some (.cells #[.int .i64 h.po, .int .u8 h.s0, .int .u8 h.s1, .int .u8 h.s2, .int .u8 h.s3, .int .u8 h.s4, .int .u8 h.s5, .int .u8 h.d0, .int .u8 h.d1, .int .u8 h.d2, .int .u8 h.d3, .int .u8 h.d4, .int .u8 h.d5, .int .i64 h.ty, .int .u32 h.si, .int .u32 h.di, .int .i64 h.pr, .int .i64 h.sp, .int .i64 h.dp] 33) from fun w1 hb =>
    ⟨(hb.block _ (by omega)).trans ((heap_alloc_old _ _ (by simp)).trans (heap_alloc_new w _)), (hb.block _ (by omega)).trans (heap_alloc2_new w _ _)⟩)
  clear ht
  have hB := Below.refl (w.heap.size + 2) ((w.alloc (.cells #[.int .i64 g.po, .int .u8 g.s0, .int .u8 g.s1, .int .u8 g.s2, .int .u8 g.s3, .int .u8 g.s4, .int .u8 g.s5, .int .u8 g.d0, .int .u8 g.d1, .int .u8 g.d2, .int .u8 g.d3, .int .u8 g.d4, .int .u8 g.d5, .int .i64 g.ty, .int .u32 g.si, .int .u32 g.di, .int .i64 g.pr, .int .i64 g.sp, .int .i64 g.dp] 33)).alloc (.cells #[.int .i64 h.po, .int .u8 h.s0, .int .u8 h.s1, .int .u8 h.s2, .int .u8 h.s3, .int .u8 h.s4, .int .u8 h.s5, .int .u8 h.d0, .int .u8 h.d1, .int .u8 h.d2, .int .u8 h.d3, .int .u8 h.d4, .int .u8 h.d5, .int .i64 h.ty, .int .u32 h.si, .int .u32 h.di, .int .i64 h.pr, .int .i64 h.sp, .int .i64 h.dp] 33))
  go_enter Tryd.func6, Tryd.ntmps6
  go_wp2_with fail
  refine (c_cmp12 _ hT).mono ?_
  rintro e w1 ⟨rfl, hb1⟩
  replace hB := Law.next0 hB (by simp) hb1 (by simp)
  clear hb1
  obtain ⟨hr0, hr1⟩ := HX.out _ hB
  go_wp2_with (refine load_hdr rfl _ rfl _ rfl g _ _ hr0 ?_)
  refine (numbers_any _ go _).mono ?_
  rintro e w2 ⟨rfl, hb2⟩
  replace hB := Law.next0 hB (by simp) hb2 (by simp)
  clear hb2 hr0 hr1
  have hq2 : w.heap.size + 2 ≤ w2.heap.size := Nat.le_trans (by simp) hB.size
  replace hB := hB.alloc hq2 (.cells #[.int .u64 (g.po % 256), .int .u64 (num g.s0 g.s1 g.s2 g.s3 g.s4 g.s5), .int .u64 (num g.d0 g.d1 g.d2 g.d3 g.d4 g.d5), .int .u64 (g.ty % 65536), .int .u64 (g.si), .int .u64 (g.di), .int .u64 (g.pr % 256), .int .u64 (g.sp % 65536), .int .u64 (g.dp % 65536)] 39)
  have hr1 := (HX.out _ hB).2
  go_wp2_with (refine load_hdr rfl _ rfl _ rfl h _ _ hr1 ?_)
  refine (numbers_any _ ho _).mono ?_
  rintro e w3 ⟨rfl, hb3⟩
  replace hB := Law.next0 hB (by simp) hb3 (Nat.le_refl _)
  have hA3 : ∀ k, k < 9 → w3.cell? ⟨w2.heap.size, k, none⟩ = some (.int .u64 (get g k)) := fun k hk => (Law.boxn hb3 (by simp) k).trans (nums_cell g k hk)
  clear hb3 hr1
  have hq3 : w.heap.size + 2 ≤ w3.heap.size := Nat.le_trans (by simp) hB.size
  replace hB := hB.alloc hq3 (.cells #[.int .u64 (h.po % 256), .int .u64 (num h.s0 h.s1 h.s2 h.s3 h.s4 h.s5), .int .u64 (num h.d0 h.d1 h.d2 h.d3 h.d4 h.d5), .int .u64 (h.ty % 65536), .int .u64 (h.si), .int .u64 (h.di), .int .u64 (h.pr % 256), .int .u64 (h.sp % 65536), .int .u64 (h.dp % 65536)] 39)
  have HC := Lib.hid (show ∀ k, k < 9 → (w3.alloc (.cells #[.int .u64 (h.po % 256), .int .u64 (num h.s0 h.s1 h.s2 h.s3 h.s4 h.s5), .int .u64 (num h.d0 h.d1 h.d2 h.d3 h.d4 h.d5), .int .u64 (h.ty % 65536), .int .u64 (h.si), .int .u64 (h.di), .int .u64 (h.pr % 256), .int .u64 (h.sp % 65536), .int .u64 (h.dp % 65536)] 39)).cell? ⟨w2.heap.size, k, none⟩ = some (.int .u64 (get g k)) ∧ (w3.alloc (.cells #[.int .u64 (h.po % 256), .int .u64 (num h.s0 h.s1 h.s2 h.s3 h.s4 h.s5), .int .u64 (num h.d0 h.d1 h.d2 h.d3 h.d4 h.d5), .int .u64 (h.ty % 65536), .int .u64 (h.si), .int .u64 (h.di), .int .u64 (h.pr % 256), .int .u64 (h.sp % 65536), .int .u64 (h.dp % 65536)] 39)).cell? ⟨w3.heap.size, k, none⟩ = some (.int .u64 (get h k)) from fun k hk =>
    ⟨Law.cell_old (hA3 k hk), (Law.cell_new w3 _ _ k).trans (nums_cell h k hk)⟩)
  clear hA3
  have hBW := Lib.hid hB
  clear hB
  go_wp2_with fail
  generalize w3.alloc (.cells #[.int .u64 (h.po % 256), .int .u64 (num h.s0 h.s1 h.s2 h.s3 h.s4 h.s5), .int .u64 (num h.d0 h.d1 h.d2 h.d3 h.d4 h.d5), .int .u64 (h.ty % 65536), .int .u64 (h.si), .int .u64 (h.di), .int .u64 (h.pr % 256), .int .u64 (h.sp % 65536), .int .u64 (h.dp % 65536)] 39) = W4 at *
  go_loopw [7, 17] (fun c i wr => ∃ k : Nat, k ≤ 9 ∧ i = .int .i64 k ∧ c = .int .i64 (cmpTo g h k) ∧ Below W4.heap.size W4 wr) (fun _ i _ => 9 - (intOf i).toNat)
  case atStart => exact ⟨0, by omega, rfl, rfl, Below.refl _ _⟩
  case round =>
    obtain ⟨k, hk, rfl, rfl, hbr⟩ := hrel
    by_cases hlt : k < 9
    · obtain ⟨ka, kb⟩ := HC.out k hlt
      have ca := fun p : Law.BelowOf W4.heap.size W4 => Law.keep0 p.below (Nat.le_refl _) ka
      have cb := fun p : Law.BelowOf W4.heap.size W4 => Law.keep0 p.below (Nat.le_refl _) kb
      clear ka kb
      rcases cmp_bd g h k with e | e | e
      · have HR := Lib.hid (show cmpTo g h (k + 1) = -1 from (cmp_keep (by omega)).trans e)
        rw [e]
        clear e
        go_wp2
        refine Law.wp_region_below (by kernel_rfl) (by kernel_rfl) hbr ?_
        repeat (go_big_quiet_step (fail))
        refine wpQuiet_nil ?_
        rintro _ ⟨p, rfl⟩
        go_wp2
        refine Law.wp_region_below (by kernel_rfl) (by kernel_rfl) p.below ?_
        repeat (go_big_quiet_step (fail))
        refine wpQuiet_nil ?_
        rintro _ ⟨q, rfl⟩
        go_wp2
        go_roundw
        case rel => exact ⟨k + 1, by omega, by go_num, by rw [HR.out], q.below⟩
        case measure => simp [intOf]; omega
      · by_cases h1 : get g k < get h k
        · have HR := Lib.hid (show cmpTo g h (k + 1) = -1 from (cmp_next e).trans (sgn_lt h1))
          rw [e]
          clear e
          go_wp2
          refine Law.wp_region_below (by kernel_rfl) (by kernel_rfl) hbr ?_
          repeat (go_big_quiet_step (fail))
          refine wpQuiet_nil ?_
          rintro _ ⟨p, rfl⟩
          go_wp2
          refine Law.wp_region_below (by kernel_rfl) (by kernel_rfl) p.below ?_
          repeat (go_big_quiet_step (fail))
          refine wpQuiet_nil ?_
          rintro _ ⟨q, rfl⟩
          go_wp2
          go_roundw
          case rel => exact ⟨k + 1, by omega, by go_num, by rw [HR.out], q.below⟩
          case measure => simp [intOf]; omega
        · by_cases h2 : get h k < get g k
          · have HR := Lib.hid (show cmpTo g h (k + 1) = 1 from (cmp_next e).trans (sgn_gt h2))
            rw [e]
            clear e
            have d1 : decide (get g k < get h k) = false := by simp only [decide_eq_false_iff_not]; exact h1
            clear h1
            go_wp2
            refine Law.wp_region_below (by kernel_rfl) (by kernel_rfl) hbr ?_
            repeat (go_big_quiet_step (fail))
            refine wpQuiet_nil ?_
            rintro _ ⟨p, rfl⟩
            go_wp2
            refine Law.wp_region_below (by kernel_rfl) (by kernel_rfl) p.below ?_
            repeat (go_big_quiet_step (fail))
            refine wpQuiet_nil ?_
            rintro _ ⟨q, rfl⟩
            go_wp2
            go_roundw
            case rel => exact ⟨k + 1, by omega, by go_num, by rw [HR.out], q.below⟩
            case measure => simp [intOf]; omega
          · have HR := Lib.hid (show cmpTo g h (k + 1) = 0 from (cmp_next e).trans (sgn_eq h1 h2))
            rw [e]
            clear e
            have d1 : decide (get g k < get h k) = false := by simp only [decide_eq_false_iff_not]; exact h1
            have d2 : decide (get h k < get g k) = false := by simp only [decide_eq_false_iff_not]; exact h2
            clear h1 h2
            go_wp2
            refine Law.wp_region_below (by kernel_rfl) (by kernel_rfl) hbr ?_
            repeat (go_big_quiet_step (fail))
            refine wpQuiet_nil ?_
            rintro _ ⟨p, rfl⟩
            go_wp2
            refine Law.wp_region_below (by kernel_rfl) (by kernel_rfl) p.below ?_
            repeat (go_big_quiet_step (fail))
            refine wpQuiet_nil ?_
            rintro _ ⟨q, rfl⟩
            go_wp2
            go_roundw
            case rel => exact ⟨k + 1, by omega, by go_num, by rw [HR.out], q.below⟩
            case measure => simp [intOf]; omega
      · have HR := Lib.hid (show cmpTo g h (k + 1) = 1 from (cmp_keep (by omega)).trans e)
        rw [e]
        clear e
        go_wp2
        refine Law.wp_region_below (by kernel_rfl) (by kernel_rfl) hbr ?_
        repeat (go_big_quiet_step (fail))
        refine wpQuiet_nil ?_
        rintro _ ⟨p, rfl⟩
        go_wp2
        refine Law.wp_region_below (by kernel_rfl) (by kernel_rfl) p.below ?_
        repeat (go_big_quiet_step (fail))
        refine wpQuiet_nil ?_
        rintro _ ⟨q, rfl⟩
        go_wp2
        go_roundw
        case rel => exact ⟨k + 1, by omega, by go_num, by rw [HR.out], q.below⟩
        case measure => simp [intOf]; omega
    · obtain rfl : k = 9 := by omega
      have hT4 := hT.keep hBW.out (by simp)
      have hT5 := hT4.keep hbr (Nat.le_refl _)
      have hB5 := Law.next0 hBW.out (by simp) hbr (Nat.le_refl _)
      clear hT4 hbr HC hlt hk
      have hN := cmp_neg g h 9
      rcases cmp_bd g h 9 with e | e | e
      · have HH := Lib.hid (show cmpH h g = 1 by unfold cmpH; omega)
        have HG := Lib.hid (show cmpH g h = -1 from e)
        rw [e]
        clear e hN
        obtain ⟨hr0, hr1⟩ := HX.out _ hB5
        go_wp2_with first | (refine load_hdr rfl _ rfl _ rfl g _ _ hr0 ?_) | (refine load_hdr rfl _ rfl _ rfl h _ _ hr1 ?_)
        refine (cmp_is go ho HG.out _ hT5).mono ?_
        rintro e w6 ⟨rfl, hb6⟩
        replace hB5 := Law.next0 hB5 (by simp) hb6 (Nat.le_trans (Nat.le_refl _) (Nat.le_refl _))
        have hT6 := hT5.keep hb6 (Nat.le_refl _)
        clear hb6 hr0 hr1
        obtain ⟨hr0, hr1⟩ := HX.out _ hB5
        go_wp2_with first | (refine load_hdr rfl _ rfl _ rfl g _ _ hr0 ?_) | (refine load_hdr rfl _ rfl _ rfl h _ _ hr1 ?_)
        refine (cmp_is ho go HH.out _ hT6).mono ?_
        rintro e w7 ⟨rfl, hb7⟩
        replace hB5 := Law.next0 hB5 (by simp) hb7 (Nat.le_trans (Nat.le_refl _) (Nat.le_refl _))
        clear hb7 hr0 hr1
        go_wp2
        go_ret
        exact ⟨rfl, Law.next0 hA (Nat.le_refl _) hB5 (by simp)⟩
      · have HH := Lib.hid (show cmpH h g = 0 by unfold cmpH; omega)
        have HG := Lib.hid (show cmpH g h = 0 from e)
        rw [e]
        clear e hN
        obtain ⟨hr0, hr1⟩ := HX.out _ hB5
        go_wp2_with first | (refine load_hdr rfl _ rfl _ rfl g _ _ hr0 ?_) | (refine load_hdr rfl _ rfl _ rfl h _ _ hr1 ?_)
        refine (cmp_is go ho HG.out _ hT5).mono ?_
        rintro e w6 ⟨rfl, hb6⟩
        replace hB5 := Law.next0 hB5 (by simp) hb6 (Nat.le_trans (Nat.le_refl _) (Nat.le_refl _))
        have hT6 := hT5.keep hb6 (Nat.le_refl _)
        clear hb6 hr0 hr1
        obtain ⟨hr0, hr1⟩ := HX.out _ hB5
        go_wp2_with first | (refine load_hdr rfl _ rfl _ rfl g _ _ hr0 ?_) | (refine load_hdr rfl _ rfl _ rfl h _ _ hr1 ?_)
        refine (cmp_is ho go HH.out _ hT6).mono ?_
        rintro e w7 ⟨rfl, hb7⟩
        replace hB5 := Law.next0 hB5 (by simp) hb7 (Nat.le_trans (Nat.le_refl _) (Nat.le_refl _))
        clear hb7 hr0 hr1
        go_wp2
        go_ret
        exact ⟨rfl, Law.next0 hA (Nat.le_refl _) hB5 (by simp)⟩
      · have HH := Lib.hid (show cmpH h g = -1 by unfold cmpH; omega)
        have HG := Lib.hid (show cmpH g h = 1 from e)
        rw [e]
        clear e hN
        obtain ⟨hr0, hr1⟩ := HX.out _ hB5
        go_wp2_with first | (refine load_hdr rfl _ rfl _ rfl g _ _ hr0 ?_) | (refine load_hdr rfl _ rfl _ rfl h _ _ hr1 ?_)
        refine (cmp_is go ho HG.out _ hT5).mono ?_
        rintro e w6 ⟨rfl, hb6⟩
        replace hB5 := Law.next0 hB5 (by simp) hb6 (Nat.le_trans (Nat.le_refl _) (Nat.le_refl _))
        have hT6 := hT5.keep hb6 (Nat.le_refl _)
        clear hb6 hr0 hr1
        obtain ⟨hr0, hr1⟩ := HX.out _ hB5
        go_wp2_with first | (refine load_hdr rfl _ rfl _ rfl g _ _ hr0 ?_) | (refine load_hdr rfl _ rfl _ rfl h _ _ hr1 ?_)
        refine (cmp_is ho go HH.out _ hT6).mono ?_
        rintro e w7 ⟨rfl, hb7⟩
        replace hB5 := Law.next0 hB5 (by simp) hb7 (Nat.le_trans (Nat.le_refl _) (Nat.le_refl _))
        clear hb7 hr0 hr1
        go_wp2
        go_ret
        exact ⟨rfl, Law.next0 hA (Nat.le_refl _) hB5 (by simp)⟩
theorem walk (g h : Hdr) (go : g.Ok) (ho : h.Ok) (w : World) (ht : Tab w) :
    Calls Tryd.prog 6 #[.agg #[.int .i64 g.po, .int .u8 g.s0, .int .u8 g.s1, .int .u8 g.s2, .int .u8 g.s3, .int .u8 g.s4, .int .u8 g.s5, .int .u8 g.d0, .int .u8 g.d1, .int .u8 g.d2, .int .u8 g.d3, .int .u8 g.d4, .int .u8 g.d5, .int .i64 g.ty, .int .u32 g.si, .int .u32 g.di, .int .i64 g.pr, .int .i64 g.sp, .int .i64 g.dp], .agg #[.int .i64 h.po, .int .u8 h.s0, .int .u8 h.s1, .int .u8 h.s2, .int .u8 h.s3, .int .u8 h.s4, .int .u8 h.s5, .int .u8 h.d0, .int .u8 h.d1, .int .u8 h.d2, .int .u8 h.d3, .int .u8 h.d4, .int .u8 h.d5, .int .i64 h.ty, .int .u32 h.si, .int .u32 h.di, .int .i64 h.pr, .int .i64 h.sp, .int .i64 h.dp]] w fun e w' => e = .returned (.bool true) ∧ Below w.heap.size w w' := walkH g go h ho w ht

/-! ### The row's step -/
theorem contract (H : Type) (enc : TypeId × Value → H) (W : World) (base : Nat) (args : Array Value) (ds gs : List (DataW H)) (before : List MemPlace)
    (hval : ∀ (j : Nat) t v, Tryd.f6.params[j]? = some t → args[j]? = some v → Value.okWide Tryd.prog W .any base t v)
    (hW : DataW.Whole enc Tryd.prog Tryd.f6.params.toList Rows.headOrdersSpec.vars false W args.toList ds gs before) (hL : laidMetH Tryd.prog Rows.headOrdersRow.laid W) :
    Calls Tryd.prog 6 args W fun e W' => ∃ v, e = .returned v ∧ Rows.headOrdersSpec.post enc Tryd.prog Tryd.f6 false true false false W args v W' := by
  have hW' := hW
  obtain ⟨p, q, hA0, hV, rfl, hfz, hnd⟩ := hW
  have hA : DataW.TrodAll enc Tryd.prog W 0 (fun _ => true) true Tryd.f6.params.toList args.toList ds p := hA0
  rw [Tryd.params6] at hA hval
  obtain ⟨v0, vs0, d0, ds0, p0, q0, hargs, rfl, rfl, h0, r0⟩ := trodAll_cons hA
  obtain ⟨v1, vs1, d1, ds1, p1, q1, rfl, rfl, rfl, h1, r1⟩ := trodAll_cons r0
  obtain ⟨rfl, rfl, rfl⟩ := trodAll_nil r1
  obtain rfl : args = #[v0, v1] := by cases args; simp_all
  obtain ⟨rfl, rfl⟩ := trodVars_none hV
  obtain ⟨cs0, rfl, g0⟩ := Law.open_flat (n := 8) (ks := [.int .i64, .int .u8, .int .u8, .int .u8, .int .u8, .int .u8, .int .u8, .int .u8, .int .u8, .int .u8, .int .u8, .int .u8, .int .u8, .int .i64, .int .u32, .int .u32, .int .i64, .int .i64, .int .i64]) (by first | exact .inl ⟨_, Tryd.underlying33⟩ | exact .inr ⟨_, _, Tryd.underlying33⟩) (by kernel_rfl) (hval 0 33 v0 rfl rfl) h0
  obtain ⟨y0, o0, e0⟩ := open_hdr g0
  obtain ⟨cs1, rfl, g1⟩ := Law.open_flat (n := 8) (ks := [.int .i64, .int .u8, .int .u8, .int .u8, .int .u8, .int .u8, .int .u8, .int .u8, .int .u8, .int .u8, .int .u8, .int .u8, .int .u8, .int .i64, .int .u32, .int .u32, .int .i64, .int .i64, .int .i64]) (by first | exact .inl ⟨_, Tryd.underlying33⟩ | exact .inr ⟨_, _, Tryd.underlying33⟩) (by kernel_rfl) (hval 1 33 v1 rfl rfl) h1
  obtain ⟨y1, o1, e1⟩ := open_hdr g1
  clear hA0 hA hval
  rw [e0] at hW' ⊢
  rw [e1] at hW' ⊢
  exact (walk y0 y1 o0 o1 W (Hd.tab_of_laid hL (by kernel_rfl))).mono fun e W' ⟨he, hg⟩ => ⟨_, he, Law.post_law Law.laidOut (by kernel_rfl) hW' rfl rfl Tryd.underlying4 rfl hg⟩

theorem laid_met (os : Os) : laidMet Tryd.prog Rows.headOrdersRow.laid ((Hd.laidWorld os).forCall (fun _ _ => 0) ⟨#[], #[.agg #[.int .i64 0, .int .u8 0, .int .u8 0, .int .u8 0, .int .u8 0, .int .u8 0, .int .u8 0, .int .u8 0, .int .u8 0, .int .u8 0, .int .u8 0, .int .u8 0, .int .u8 0, .int .i64 0, .int .u32 0, .int .u32 0, .int .i64 0, .int .i64 0, .int .i64 0], .agg #[.int .i64 0, .int .u8 0, .int .u8 0, .int .u8 0, .int .u8 0, .int .u8 0, .int .u8 0, .int .u8 0, .int .u8 0, .int .u8 0, .int .u8 0, .int .u8 0, .int .u8 0, .int .i64 0, .int .u32 0, .int .u32 0, .int .i64 0, .int .i64 0, .int .i64 0]], []⟩).memory :=
  laidMet_of_run' 16 (by kernel_rfl) (by kernel_rfl)
theorem reads (os : Os) {H : Type} (enc : TypeId × Value → H) : ∃ places, DataW.whole enc Tryd.prog ((Hd.laidWorld os).forCall (fun _ _ => 0) ⟨#[], #[.agg #[.int .i64 0, .int .u8 0, .int .u8 0, .int .u8 0, .int .u8 0, .int .u8 0, .int .u8 0, .int .u8 0, .int .u8 0, .int .u8 0, .int .u8 0, .int .u8 0, .int .u8 0, .int .i64 0, .int .u32 0, .int .u32 0, .int .i64 0, .int .i64 0, .int .i64 0], .agg #[.int .i64 0, .int .u8 0, .int .u8 0, .int .u8 0, .int .u8 0, .int .u8 0, .int .u8 0, .int .u8 0, .int .u8 0, .int .u8 0, .int .u8 0, .int .u8 0, .int .u8 0, .int .i64 0, .int .u32 0, .int .u32 0, .int .i64 0, .int .i64 0, .int .i64 0]], []⟩).memory Tryd.f6.params.toList Rows.headOrdersSpec.vars false (#[.agg #[.int .i64 0, .int .u8 0, .int .u8 0, .int .u8 0, .int .u8 0, .int .u8 0, .int .u8 0, .int .u8 0, .int .u8 0, .int .u8 0, .int .u8 0, .int .u8 0, .int .u8 0, .int .i64 0, .int .u32 0, .int .u32 0, .int .i64 0, .int .i64 0, .int .i64 0], .agg #[.int .i64 0, .int .u8 0, .int .u8 0, .int .u8 0, .int .u8 0, .int .u8 0, .int .u8 0, .int .u8 0, .int .u8 0, .int .u8 0, .int .u8 0, .int .u8 0, .int .u8 0, .int .i64 0, .int .u32 0, .int .u32 0, .int .i64 0, .int .i64 0, .int .i64 0]] : Array Value).toList 8 = some ([.agg [.lit (.int .i64 0), .agg [.lit (.int .u8 0), .lit (.int .u8 0), .lit (.int .u8 0), .lit (.int .u8 0), .lit (.int .u8 0), .lit (.int .u8 0)], .agg [.lit (.int .u8 0), .lit (.int .u8 0), .lit (.int .u8 0), .lit (.int .u8 0), .lit (.int .u8 0), .lit (.int .u8 0)], .lit (.int .i64 0), .lit (.int .u32 0), .lit (.int .u32 0), .lit (.int .i64 0), .lit (.int .i64 0), .lit (.int .i64 0)], .agg [.lit (.int .i64 0), .agg [.lit (.int .u8 0), .lit (.int .u8 0), .lit (.int .u8 0), .lit (.int .u8 0), .lit (.int .u8 0), .lit (.int .u8 0)], .agg [.lit (.int .u8 0), .lit (.int .u8 0), .lit (.int .u8 0), .lit (.int .u8 0), .lit (.int .u8 0), .lit (.int .u8 0)], .lit (.int .i64 0), .lit (.int .u32 0), .lit (.int .u32 0), .lit (.int .i64 0), .lit (.int .i64 0), .lit (.int .i64 0)]], [], places) :=
  ⟨[], by kernel_rfl⟩

set_option maxRecDepth 100000 in
theorem lifted (os : Os) (started : os.Started) (H : Type) (enc : TypeId × Value → H) (F : Stop.Interp) :
    ReturnsInHanded {} Tryd.checked os 6 .any ((OpenSpec.ofChange Rows.headOrdersSpec).preRow enc Tryd.prog Tryd.f6 Rows.headOrdersRow.domain false Rows.headOrdersRow.laid) (((OpenSpec.ofChange Rows.headOrdersSpec).at F).post enc Tryd.prog Tryd.f6 false true false false) := by
  obtain ⟨places, hx⟩ := reads os enc
  refine returnsInHanded_of_row (C := Tryd.checked) (s := OpenSpec.ofChange Rows.headOrdersSpec) Law.own started (by kernel_rfl) Tryd.func6
    (witness_row_at (enc := enc) (C := Tryd.checked) false (Hd.laidWorld os) #[.agg #[.int .i64 0, .int .u8 0, .int .u8 0, .int .u8 0, .int .u8 0, .int .u8 0, .int .u8 0, .int .u8 0, .int .u8 0, .int .u8 0, .int .u8 0, .int .u8 0, .int .u8 0, .int .i64 0, .int .u32 0, .int .u32 0, .int .i64 0, .int .i64 0, .int .i64 0], .agg #[.int .i64 0, .int .u8 0, .int .u8 0, .int .u8 0, .int .u8 0, .int .u8 0, .int .u8 0, .int .u8 0, .int .u8 0, .int .u8 0, .int .u8 0, .int .u8 0, .int .u8 0, .int .i64 0, .int .u32 0, .int .u32 0, .int .i64 0, .int .i64 0, .int .i64 0]] rfl (by kernel_rfl) (by kernel_rfl) (by kernel_rfl)
      (OpenSpec.preRow_of_cond 8 hx (by kernel_rfl) (fun k hk => by cases hk) (by kernel_rfl) (laid_met os))) ?_
  intro W base args ds gs before hval hW _ _ _ hL _ _
  exact contract H enc W base args ds gs before hval hW hL

theorem said : Rows.HeadOrdersSaid :=
  OpenClaim.holds_of_cond 6 Tryd.f6 rfl rfl rfl rfl rfl rfl rfl ⟨rfl, rfl, rfl, rfl, rfl⟩ rfl rfl rfl rfl rfl (by kernel_rfl) Tryd.func6 (by kernel_rfl)
    (of_decide_eq_true (by kernel_rfl)) (by unfold Func.isWrapper; first | (rw [if_pos (by decide +kernel)]; kernel_rfl) | (rw [if_neg (by decide +kernel)]; exact ⟨rfl, rfl⟩))
    (fun os started H enc _ F => by rw [OpenClaim.pre_eq_preRow]; exact lifted os started H enc F)

theorem plain (f : FuncId) (fn : Func) (hf : Tryd.pinned.checked.prog.funcNamed Tryd.f6.name = some f) (hfn : Tryd.pinned.checked.prog.funcs[f]? = some fn) :
    false = Tryd.pinned.checked.prog.looks [] ∧ ∀ (j : Nat) t, fn.params[j]? = some t → Tryd.pinned.checked.prog.wantsStandIn t = false := by
  obtain rfl : f = 6 := Option.some.inj ((show Tryd.prog.funcNamed Tryd.f6.name = some 6 by kernel_rfl).symm.trans hf) |>.symm
  obtain rfl : fn = Tryd.f6 := (Option.some.inj (Tryd.func6.symm.trans hfn)).symm
  refine ⟨by kernel_rfl, fun j t ht => ?_⟩
  rw [Tryd.params6] at ht
  have hall : ([33, 33] : List TypeId).all (fun t => !Tryd.prog.wantsStandIn t) = true := by kernel_rfl
  have hm : t ∈ ([33, 33] : List TypeId) := by simpa using Array.mem_of_getElem? ht
  exact (by simpa using List.all_eq_true.1 hall t hm : Tryd.prog.wantsStandIn t = false)

/-- THE STATEMENT: the card. -/
theorem card : Rows.HeadOrdersCardSaid :=
  Claim7.holds_tied_plain_at .later [] _ _ _ _ said (fun _ h => by cases h) (by kernel_rfl) (fun _ h => by cases h) headOrders_row_tie rfl ⟨rfl, rfl⟩ (by kernel_rfl) rfl plain (by kernel_rfl)
#print axioms card

end HeadOrders
end Go.Proofs.YtgoplihimajjkaaDoor
