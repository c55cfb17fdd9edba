/-
  The law 'IpOrders': for every input it answers true. No conditions.
-/
import Derived.Test.YtflpmchckniihaaIpC
namespace Go.Proofs.Ytflpmchckniihaa
open Go.ChangeShapes Go.WideShapes Go.ChangeAt Go.RowKit
open Pl
set_option linter.unusedVariables false
namespace IpOrders

set_option maxHeartbeats 1000000 in
theorem walk (a n b m c k : Int) (wa : (Lit.int .u32 a).wf = true) (wn : (Lit.int .i64 n).wf = true) (wb : (Lit.int .u32 b).wf = true) (wm : (Lit.int .i64 m).wf = true) (wc : (Lit.int .u32 c).wf = true) (wk : (Lit.int .i64 k).wf = true) (w : World) :
    Calls Try.prog 9 #[.agg #[.int .u32 a, .int .i64 n], .agg #[.int .u32 b, .int .i64 m], .agg #[.int .u32 c, .int .i64 k]] w fun e w' => e = .returned (.bool true) ∧ Below w.heap.size w w' := by
  obtain ⟨h0, h1⟩ := Law.bd_u32 wa
  obtain ⟨b0, b1⟩ := Law.bd_u32 wb
  have t1 : Ip.cmpP 0 1 0 2 = -1 := by decide
  have hB := Below.refl (w.heap.size + 3) (((w.alloc (.cells #[.int .u32 a, .int .i64 n] 33)).alloc (.cells #[.int .u32 b, .int .i64 m] 33)).alloc (.cells #[.int .u32 c, .int .i64 k] 33))
  have d0 := fun (p : Law.BelowOf (w.heap.size + 3) (((w.alloc (.cells #[.int .u32 a, .int .i64 n] 33)).alloc (.cells #[.int .u32 b, .int .i64 m] 33)).alloc (.cells #[.int .u32 c, .int .i64 k] 33))) => (Law.box3 p.below (Nat.le_refl _)).1
  have d1 := fun (p : Law.BelowOf (w.heap.size + 3) (((w.alloc (.cells #[.int .u32 a, .int .i64 n] 33)).alloc (.cells #[.int .u32 b, .int .i64 m] 33)).alloc (.cells #[.int .u32 c, .int .i64 k] 33))) => (Law.box3 p.below (Nat.le_refl _)).2.1
  have d2 := fun (p : Law.BelowOf (w.heap.size + 3) (((w.alloc (.cells #[.int .u32 a, .int .i64 n] 33)).alloc (.cells #[.int .u32 b, .int .i64 m] 33)).alloc (.cells #[.int .u32 c, .int .i64 k] 33))) => (Law.box3 p.below (Nat.le_refl _)).2.2.1
  have d3 := fun (p : Law.BelowOf (w.heap.size + 3) (((w.alloc (.cells #[.int .u32 a, .int .i64 n] 33)).alloc (.cells #[.int .u32 b, .int .i64 m] 33)).alloc (.cells #[.int .u32 c, .int .i64 k] 33))) => (Law.box3 p.below (Nat.le_refl _)).2.2.2.1
  rcases Int.lt_trichotomy a b with h | h | h
  · have e1 : (a == b) = false := by simp; omega
    have k1 : Ip.cmpP a n b m = -1 := by rw [Ip.cmpP_lt]; omega
    have k2 : Ip.cmpP b m a n = 1 := by have := Ip.cmpP_neg a n b m; omega
    rcases Ip.cmpP_cases b m c k with k3 | k3 | k3
    · have k4 := Ip.cmpP_trans k1 k3
      cases hcov : covers a n b m with
      | true =>
        go_enter Try.func9, Try.ntmps9
        go_wp2_with fail
        refine (Ip.cmp_any _ _ _ _ _).mono ?_
        rintro e w1 ⟨rfl, hb1⟩
        replace hB := hB.trans (hb1.mono (Nat.le_trans (by simp) hB.size))
        clear hb1
        go_wp2
        refine Law.wp_region_below (by kernel_rfl) (by kernel_rfl) hB ?_
        repeat (go_big_quiet_step ((go_at_call 27; exact Law.calls_below (by simp) (Ip.cmp_any _ _ _ _ _))))
        refine wpQuiet_nil ?_
        rintro _ ⟨p, rfl⟩
        replace hB := p.below
        obtain ⟨c0, c1, c2, c3, c4, c5⟩ := Law.box3 hB (Nat.le_refl _)
        go_wp2_with fail
        refine (Ip.cmp_any _ _ _ _ _).mono ?_
        rintro e w1 ⟨rfl, hb1⟩
        replace hB := hB.trans (hb1.mono (Nat.le_trans (by simp) hB.size))
        clear hb1
        clear c0 c1 c2 c3 c4 c5
        obtain ⟨c0, c1, c2, c3, c4, c5⟩ := Law.box3 hB (Nat.le_refl _)
        go_wp2_with fail
        refine (Ip.cmp_any _ _ _ _ _).mono ?_
        rintro e w2 ⟨rfl, hb2⟩
        replace hB := hB.trans (hb2.mono (Nat.le_trans (by simp) hB.size))
        clear hb2
        clear c0 c1 c2 c3 c4 c5
        obtain ⟨c0, c1, c2, c3, c4, c5⟩ := Law.box3 hB (Nat.le_refl _)
        go_wp2_with fail
        refine (Ip.cmp_any _ _ _ _ _).mono ?_
        rintro e w3 ⟨rfl, hb3⟩
        replace hB := hB.trans (hb3.mono (Nat.le_trans (by simp) hB.size))
        clear hb3
        clear c0 c1 c2 c3 c4 c5
        obtain ⟨c0, c1, c2, c3, c4, c5⟩ := Law.box3 hB (Nat.le_refl _)
        go_wp2_with fail
        refine (Ip.covers_any _ _ _ _ h0 h1 b0 b1 _).mono ?_
        rintro e w4 ⟨rfl, hb4⟩
        replace hB := hB.trans (hb4.mono (Nat.le_trans (by simp) hB.size))
        clear hb4
        clear c0 c1 c2 c3 c4 c5
        obtain ⟨c0, c1, c2, c3, c4, c5⟩ := Law.box3 hB (Nat.le_refl _)
        go_wp2_with fail
        refine (Ip.cmp_any _ _ _ _ _).mono ?_
        rintro e w5 ⟨rfl, hb5⟩
        replace hB := hB.trans (hb5.mono (Nat.le_trans (by simp) hB.size))
        clear hb5
        clear c0 c1 c2 c3 c4 c5
        obtain ⟨c0, c1, c2, c3, c4, c5⟩ := Law.box3 hB (Nat.le_refl _)
        go_wp2
        go_ret
        exact ⟨rfl, Law.below_box3 hB (by omega)⟩
      | false =>
        go_enter Try.func9, Try.ntmps9
        go_wp2_with fail
        refine (Ip.cmp_any _ _ _ _ _).mono ?_
        rintro e w1 ⟨rfl, hb1⟩
        replace hB := hB.trans (hb1.mono (Nat.le_trans (by simp) hB.size))
        clear hb1
        go_wp2
        refine Law.wp_region_below (by kernel_rfl) (by kernel_rfl) hB ?_
        repeat (go_big_quiet_step ((go_at_call 27; exact Law.calls_below (by simp) (Ip.cmp_any _ _ _ _ _))))
        refine wpQuiet_nil ?_
        rintro _ ⟨p, rfl⟩
        replace hB := p.below
        obtain ⟨c0, c1, c2, c3, c4, c5⟩ := Law.box3 hB (Nat.le_refl _)
        go_wp2_with fail
        refine (Ip.cmp_any _ _ _ _ _).mono ?_
        rintro e w1 ⟨rfl, hb1⟩
        replace hB := hB.trans (hb1.mono (Nat.le_trans (by simp) hB.size))
        clear hb1
        clear c0 c1 c2 c3 c4 c5
        obtain ⟨c0, c1, c2, c3, c4, c5⟩ := Law.box3 hB (Nat.le_refl _)
        go_wp2_with fail
        refine (Ip.cmp_any _ _ _ _ _).mono ?_
        rintro e w2 ⟨rfl, hb2⟩
        replace hB := hB.trans (hb2.mono (Nat.le_trans (by simp) hB.size))
        clear hb2
        clear c0 c1 c2 c3 c4 c5
        obtain ⟨c0, c1, c2, c3, c4, c5⟩ := Law.box3 hB (Nat.le_refl _)
        go_wp2_with fail
        refine (Ip.cmp_any _ _ _ _ _).mono ?_
        rintro e w3 ⟨rfl, hb3⟩
        replace hB := hB.trans (hb3.mono (Nat.le_trans (by simp) hB.size))
        clear hb3
        clear c0 c1 c2 c3 c4 c5
        obtain ⟨c0, c1, c2, c3, c4, c5⟩ := Law.box3 hB (Nat.le_refl _)
        go_wp2_with fail
        refine (Ip.covers_any _ _ _ _ h0 h1 b0 b1 _).mono ?_
        rintro e w4 ⟨rfl, hb4⟩
        replace hB := hB.trans (hb4.mono (Nat.le_trans (by simp) hB.size))
        clear hb4
        clear c0 c1 c2 c3 c4 c5
        obtain ⟨c0, c1, c2, c3, c4, c5⟩ := Law.box3 hB (Nat.le_refl _)
        go_wp2
        go_ret
        exact ⟨rfl, Law.below_box3 hB (by omega)⟩
    · cases hcov : covers a n b m with
      | true =>
        go_enter Try.func9, Try.ntmps9
        go_wp2_with fail
        refine (Ip.cmp_any _ _ _ _ _).mono ?_
        rintro e w1 ⟨rfl, hb1⟩
        replace hB := hB.trans (hb1.mono (Nat.le_trans (by simp) hB.size))
        clear hb1
        go_wp2
        refine Law.wp_region_below (by kernel_rfl) (by kernel_rfl) hB ?_
        repeat (go_big_quiet_step ((go_at_call 27; exact Law.calls_below (by simp) (Ip.cmp_any _ _ _ _ _))))
        refine wpQuiet_nil ?_
        rintro _ ⟨p, rfl⟩
        replace hB := p.below
        obtain ⟨c0, c1, c2, c3, c4, c5⟩ := Law.box3 hB (Nat.le_refl _)
        go_wp2_with fail
        refine (Ip.cmp_any _ _ _ _ _).mono ?_
        rintro e w1 ⟨rfl, hb1⟩
        replace hB := hB.trans (hb1.mono (Nat.le_trans (by simp) hB.size))
        clear hb1
        clear c0 c1 c2 c3 c4 c5
        obtain ⟨c0, c1, c2, c3, c4, c5⟩ := Law.box3 hB (Nat.le_refl _)
        go_wp2_with fail
        refine (Ip.cmp_any _ _ _ _ _).mono ?_
        rintro e w2 ⟨rfl, hb2⟩
        replace hB := hB.trans (hb2.mono (Nat.le_trans (by simp) hB.size))
        clear hb2
        clear c0 c1 c2 c3 c4 c5
        obtain ⟨c0, c1, c2, c3, c4, c5⟩ := Law.box3 hB (Nat.le_refl _)
        go_wp2_with fail
        refine (Ip.covers_any _ _ _ _ h0 h1 b0 b1 _).mono ?_
        rintro e w3 ⟨rfl, hb3⟩
        replace hB := hB.trans (hb3.mono (Nat.le_trans (by simp) hB.size))
        clear hb3
        clear c0 c1 c2 c3 c4 c5
        obtain ⟨c0, c1, c2, c3, c4, c5⟩ := Law.box3 hB (Nat.le_refl _)
        go_wp2_with fail
        refine (Ip.cmp_any _ _ _ _ _).mono ?_
        rintro e w4 ⟨rfl, hb4⟩
        replace hB := hB.trans (hb4.mono (Nat.le_trans (by simp) hB.size))
        clear hb4
        clear c0 c1 c2 c3 c4 c5
        obtain ⟨c0, c1, c2, c3, c4, c5⟩ := Law.box3 hB (Nat.le_refl _)
        go_wp2
        go_ret
        exact ⟨rfl, Law.below_box3 hB (by omega)⟩
      | false =>
        go_enter Try.func9, Try.ntmps9
        go_wp2_with fail
        refine (Ip.cmp_any _ _ _ _ _).mono ?_
        rintro e w1 ⟨rfl, hb1⟩
        replace hB := hB.trans (hb1.mono (Nat.le_trans (by simp) hB.size))
        clear hb1
        go_wp2
        refine Law.wp_region_below (by kernel_rfl) (by kernel_rfl) hB ?_
        repeat (go_big_quiet_step ((go_at_call 27; exact Law.calls_below (by simp) (Ip.cmp_any _ _ _ _ _))))
        refine wpQuiet_nil ?_
        rintro _ ⟨p, rfl⟩
        replace hB := p.below
        obtain ⟨c0, c1, c2, c3, c4, c5⟩ := Law.box3 hB (Nat.le_refl _)
        go_wp2_with fail
        refine (Ip.cmp_any _ _ _ _ _).mono ?_
        rintro e w1 ⟨rfl, hb1⟩
        replace hB := hB.trans (hb1.mono (Nat.le_trans (by simp) hB.size))
        clear hb1
        clear c0 c1 c2 c3 c4 c5
        obtain ⟨c0, c1, c2, c3, c4, c5⟩ := Law.box3 hB (Nat.le_refl _)
        go_wp2_with fail
        refine (Ip.cmp_any _ _ _ _ _).mono ?_
        rintro e w2 ⟨rfl, hb2⟩
        replace hB := hB.trans (hb2.mono (Nat.le_trans (by simp) hB.size))
        clear hb2
        clear c0 c1 c2 c3 c4 c5
        obtain ⟨c0, c1, c2, c3, c4, c5⟩ := Law.box3 hB (Nat.le_refl _)
        go_wp2_with fail
        refine (Ip.covers_any _ _ _ _ h0 h1 b0 b1 _).mono ?_
        rintro e w3 ⟨rfl, hb3⟩
        replace hB := hB.trans (hb3.mono (Nat.le_trans (by simp) hB.size))
        clear hb3
        clear c0 c1 c2 c3 c4 c5
        obtain ⟨c0, c1, c2, c3, c4, c5⟩ := Law.box3 hB (Nat.le_refl _)
        go_wp2
        go_ret
        exact ⟨rfl, Law.below_box3 hB (by omega)⟩
    · cases hcov : covers a n b m with
      | true =>
        go_enter Try.func9, Try.ntmps9
        go_wp2_with fail
        refine (Ip.cmp_any _ _ _ _ _).mono ?_
        rintro e w1 ⟨rfl, hb1⟩
        replace hB := hB.trans (hb1.mono (Nat.le_trans (by simp) hB.size))
        clear hb1
        go_wp2
        refine Law.wp_region_below (by kernel_rfl) (by kernel_rfl) hB ?_
        repeat (go_big_quiet_step ((go_at_call 27; exact Law.calls_below (by simp) (Ip.cmp_any _ _ _ _ _))))
        refine wpQuiet_nil ?_
        rintro _ ⟨p, rfl⟩
        replace hB := p.below
        obtain ⟨c0, c1, c2, c3, c4, c5⟩ := Law.box3 hB (Nat.le_refl _)
        go_wp2_with fail
        refine (Ip.cmp_any _ _ _ _ _).mono ?_
        rintro e w1 ⟨rfl, hb1⟩
        replace hB := hB.trans (hb1.mono (Nat.le_trans (by simp) hB.size))
        clear hb1
        clear c0 c1 c2 c3 c4 c5
        obtain ⟨c0, c1, c2, c3, c4, c5⟩ := Law.box3 hB (Nat.le_refl _)
        go_wp2_with fail
        refine (Ip.cmp_any _ _ _ _ _).mono ?_
        rintro e w2 ⟨rfl, hb2⟩
        replace hB := hB.trans (hb2.mono (Nat.le_trans (by simp) hB.size))
        clear hb2
        clear c0 c1 c2 c3 c4 c5
        obtain ⟨c0, c1, c2, c3, c4, c5⟩ := Law.box3 hB (Nat.le_refl _)
        go_wp2_with fail
        refine (Ip.covers_any _ _ _ _ h0 h1 b0 b1 _).mono ?_
        rintro e w3 ⟨rfl, hb3⟩
        replace hB := hB.trans (hb3.mono (Nat.le_trans (by simp) hB.size))
        clear hb3
        clear c0 c1 c2 c3 c4 c5
        obtain ⟨c0, c1, c2, c3, c4, c5⟩ := Law.box3 hB (Nat.le_refl _)
        go_wp2_with fail
        refine (Ip.cmp_any _ _ _ _ _).mono ?_
        rintro e w4 ⟨rfl, hb4⟩
        replace hB := hB.trans (hb4.mono (Nat.le_trans (by simp) hB.size))
        clear hb4
        clear c0 c1 c2 c3 c4 c5
        obtain ⟨c0, c1, c2, c3, c4, c5⟩ := Law.box3 hB (Nat.le_refl _)
        go_wp2
        go_ret
        exact ⟨rfl, Law.below_box3 hB (by omega)⟩
      | false =>
        go_enter Try.func9, Try.ntmps9
        go_wp2_with fail
        refine (Ip.cmp_any _ _ _ _ _).mono ?_
        rintro e w1 ⟨rfl, hb1⟩
        replace hB := hB.trans (hb1.mono (Nat.le_trans (by simp) hB.size))
        clear hb1
        go_wp2
        refine Law.wp_region_below (by kernel_rfl) (by kernel_rfl) hB ?_
        repeat (go_big_quiet_step ((go_at_call 27; exact Law.calls_below (by simp) (Ip.cmp_any _ _ _ _ _))))
        refine wpQuiet_nil ?_
        rintro _ ⟨p, rfl⟩
        replace hB := p.below
        obtain ⟨c0, c1, c2, c3, c4, c5⟩ := Law.box3 hB (Nat.le_refl _)
        go_wp2_with fail
        refine (Ip.cmp_any _ _ _ _ _).mono ?_
        rintro e w1 ⟨rfl, hb1⟩
        replace hB := hB.trans (hb1.mono (Nat.le_trans (by simp) hB.size))
        clear hb1
        clear c0 c1 c2 c3 c4 c5
        obtain ⟨c0, c1, c2, c3, c4, c5⟩ := Law.box3 hB (Nat.le_refl _)
        go_wp2_with fail
        refine (Ip.cmp_any _ _ _ _ _).mono ?_
        rintro e w2 ⟨rfl, hb2⟩
        replace hB := hB.trans (hb2.mono (Nat.le_trans (by simp) hB.size))
        clear hb2
        clear c0 c1 c2 c3 c4 c5
        obtain ⟨c0, c1, c2, c3, c4, c5⟩ := Law.box3 hB (Nat.le_refl _)
        go_wp2_with fail
        refine (Ip.covers_any _ _ _ _ h0 h1 b0 b1 _).mono ?_
        rintro e w3 ⟨rfl, hb3⟩
        replace hB := hB.trans (hb3.mono (Nat.le_trans (by simp) hB.size))
        clear hb3
        clear c0 c1 c2 c3 c4 c5
        obtain ⟨c0, c1, c2, c3, c4, c5⟩ := Law.box3 hB (Nat.le_refl _)
        go_wp2
        go_ret
        exact ⟨rfl, Law.below_box3 hB (by omega)⟩
  · subst h
    have e1 : (a == a) = true := by simp
    rcases Int.lt_trichotomy n m with h2 | h2 | h2
    · have e2 : (n == m) = false := by simp; omega
      have k1 : Ip.cmpP a n a m = -1 := by rw [Ip.cmpP_lt]; omega
      have k2 : Ip.cmpP a m a n = 1 := by have := Ip.cmpP_neg a n a m; omega
      rcases Ip.cmpP_cases a m c k with k3 | k3 | k3
      · have k4 := Ip.cmpP_trans k1 k3
        cases hcov : covers a n a m with
        | true =>
          go_enter Try.func9, Try.ntmps9
          go_wp2_with fail
          refine (Ip.cmp_any _ _ _ _ _).mono ?_
          rintro e w1 ⟨rfl, hb1⟩
          replace hB := hB.trans (hb1.mono (Nat.le_trans (by simp) hB.size))
          clear hb1
          go_wp2
          refine Law.wp_region_below (by kernel_rfl) (by kernel_rfl) hB ?_
          repeat (go_big_quiet_step ((go_at_call 27; exact Law.calls_below (by simp) (Ip.cmp_any _ _ _ _ _))))
          refine wpQuiet_nil ?_
          rintro _ ⟨p, rfl⟩
          replace hB := p.below
          obtain ⟨c0, c1, c2, c3, c4, c5⟩ := Law.box3 hB (Nat.le_refl _)
          go_wp2_with fail
          refine (Ip.cmp_any _ _ _ _ _).mono ?_
          rintro e w1 ⟨rfl, hb1⟩
          replace hB := hB.trans (hb1.mono (Nat.le_trans (by simp) hB.size))
          clear hb1
          clear c0 c1 c2 c3 c4 c5
          obtain ⟨c0, c1, c2, c3, c4, c5⟩ := Law.box3 hB (Nat.le_refl _)
          go_wp2_with fail
          refine (Ip.cmp_any _ _ _ _ _).mono ?_
          rintro e w2 ⟨rfl, hb2⟩
          replace hB := hB.trans (hb2.mono (Nat.le_trans (by simp) hB.size))
          clear hb2
          clear c0 c1 c2 c3 c4 c5
          obtain ⟨c0, c1, c2, c3, c4, c5⟩ := Law.box3 hB (Nat.le_refl _)
          go_wp2_with fail
          refine (Ip.cmp_any _ _ _ _ _).mono ?_
          rintro e w3 ⟨rfl, hb3⟩
          replace hB := hB.trans (hb3.mono (Nat.le_trans (by simp) hB.size))
          clear hb3
          clear c0 c1 c2 c3 c4 c5
          obtain ⟨c0, c1, c2, c3, c4, c5⟩ := Law.box3 hB (Nat.le_refl _)
          go_wp2_with fail
          refine (Ip.covers_any _ _ _ _ h0 h1 h0 h1 _).mono ?_
          rintro e w4 ⟨rfl, hb4⟩
          replace hB := hB.trans (hb4.mono (Nat.le_trans (by simp) hB.size))
          clear hb4
          clear c0 c1 c2 c3 c4 c5
          obtain ⟨c0, c1, c2, c3, c4, c5⟩ := Law.box3 hB (Nat.le_refl _)
          go_wp2_with fail
          refine (Ip.cmp_any _ _ _ _ _).mono ?_
          rintro e w5 ⟨rfl, hb5⟩
          replace hB := hB.trans (hb5.mono (Nat.le_trans (by simp) hB.size))
          clear hb5
          clear c0 c1 c2 c3 c4 c5
          obtain ⟨c0, c1, c2, c3, c4, c5⟩ := Law.box3 hB (Nat.le_refl _)
          go_wp2
          go_ret
          exact ⟨rfl, Law.below_box3 hB (by omega)⟩
        | false =>
          go_enter Try.func9, Try.ntmps9
          go_wp2_with fail
          refine (Ip.cmp_any _ _ _ _ _).mono ?_
          rintro e w1 ⟨rfl, hb1⟩
          replace hB := hB.trans (hb1.mono (Nat.le_trans (by simp) hB.size))
          clear hb1
          go_wp2
          refine Law.wp_region_below (by kernel_rfl) (by kernel_rfl) hB ?_
          repeat (go_big_quiet_step ((go_at_call 27; exact Law.calls_below (by simp) (Ip.cmp_any _ _ _ _ _))))
          refine wpQuiet_nil ?_
          rintro _ ⟨p, rfl⟩
          replace hB := p.below
          obtain ⟨c0, c1, c2, c3, c4, c5⟩ := Law.box3 hB (Nat.le_refl _)
          go_wp2_with fail
          refine (Ip.cmp_any _ _ _ _ _).mono ?_
          rintro e w1 ⟨rfl, hb1⟩
          replace hB := hB.trans (hb1.mono (Nat.le_trans (by simp) hB.size))
          clear hb1
          clear c0 c1 c2 c3 c4 c5
          obtain ⟨c0, c1, c2, c3, c4, c5⟩ := Law.box3 hB (Nat.le_refl _)
          go_wp2_with fail
          refine (Ip.cmp_any _ _ _ _ _).mono ?_
          rintro e w2 ⟨rfl, hb2⟩
          replace hB := hB.trans (hb2.mono (Nat.le_trans (by simp) hB.size))
          clear hb2
          clear c0 c1 c2 c3 c4 c5
          obtain ⟨c0, c1, c2, c3, c4, c5⟩ := Law.box3 hB (Nat.le_refl _)
          go_wp2_with fail
          refine (Ip.cmp_any _ _ _ _ _).mono ?_
          rintro e w3 ⟨rfl, hb3⟩
          replace hB := hB.trans (hb3.mono (Nat.le_trans (by simp) hB.size))
          clear hb3
          clear c0 c1 c2 c3 c4 c5
          obtain ⟨c0, c1, c2, c3, c4, c5⟩ := Law.box3 hB (Nat.le_refl _)
          go_wp2_with fail
          refine (Ip.covers_any _ _ _ _ h0 h1 h0 h1 _).mono ?_
          rintro e w4 ⟨rfl, hb4⟩
          replace hB := hB.trans (hb4.mono (Nat.le_trans (by simp) hB.size))
          clear hb4
          clear c0 c1 c2 c3 c4 c5
          obtain ⟨c0, c1, c2, c3, c4, c5⟩ := Law.box3 hB (Nat.le_refl _)
          go_wp2
          go_ret
          exact ⟨rfl, Law.below_box3 hB (by omega)⟩
      · cases hcov : covers a n a m with
        | true =>
          go_enter Try.func9, Try.ntmps9
          go_wp2_with fail
          refine (Ip.cmp_any _ _ _ _ _).mono ?_
          rintro e w1 ⟨rfl, hb1⟩
          replace hB := hB.trans (hb1.mono (Nat.le_trans (by simp) hB.size))
          clear hb1
          go_wp2
          refine Law.wp_region_below (by kernel_rfl) (by kernel_rfl) hB ?_
          repeat (go_big_quiet_step ((go_at_call 27; exact Law.calls_below (by simp) (Ip.cmp_any _ _ _ _ _))))
          refine wpQuiet_nil ?_
          rintro _ ⟨p, rfl⟩
          replace hB := p.below
          obtain ⟨c0, c1, c2, c3, c4, c5⟩ := Law.box3 hB (Nat.le_refl _)
          go_wp2_with fail
          refine (Ip.cmp_any _ _ _ _ _).mono ?_
          rintro e w1 ⟨rfl, hb1⟩
          replace hB := hB.trans (hb1.mono (Nat.le_trans (by simp) hB.size))
          clear hb1
          clear c0 c1 c2 c3 c4 c5
          obtain ⟨c0, c1, c2, c3, c4, c5⟩ := Law.box3 hB (Nat.le_refl _)
          go_wp2_with fail
          refine (Ip.cmp_any _ _ _ _ _).mono ?_
          rintro e w2 ⟨rfl, hb2⟩
          replace hB := hB.trans (hb2.mono (Nat.le_trans (by simp) hB.size))
          clear hb2
          clear c0 c1 c2 c3 c4 c5
          obtain ⟨c0, c1, c2, c3, c4, c5⟩ := Law.box3 hB (Nat.le_refl _)
          go_wp2_with fail
          refine (Ip.covers_any _ _ _ _ h0 h1 h0 h1 _).mono ?_
          rintro e w3 ⟨rfl, hb3⟩
          replace hB := hB.trans (hb3.mono (Nat.le_trans (by simp) hB.size))
          clear hb3
          clear c0 c1 c2 c3 c4 c5
          obtain ⟨c0, c1, c2, c3, c4, c5⟩ := Law.box3 hB (Nat.le_refl _)
          go_wp2_with fail
          refine (Ip.cmp_any _ _ _ _ _).mono ?_
          rintro e w4 ⟨rfl, hb4⟩
          replace hB := hB.trans (hb4.mono (Nat.le_trans (by simp) hB.size))
          clear hb4
          clear c0 c1 c2 c3 c4 c5
          obtain ⟨c0, c1, c2, c3, c4, c5⟩ := Law.box3 hB (Nat.le_refl _)
          go_wp2
          go_ret
          exact ⟨rfl, Law.below_box3 hB (by omega)⟩
        | false =>
          go_enter Try.func9, Try.ntmps9
          go_wp2_with fail
          refine (Ip.cmp_any _ _ _ _ _).mono ?_
          rintro e w1 ⟨rfl, hb1⟩
          replace hB := hB.trans (hb1.mono (Nat.le_trans (by simp) hB.size))
          clear hb1
          go_wp2
          refine Law.wp_region_below (by kernel_rfl) (by kernel_rfl) hB ?_
          repeat (go_big_quiet_step ((go_at_call 27; exact Law.calls_below (by simp) (Ip.cmp_any _ _ _ _ _))))
          refine wpQuiet_nil ?_
          rintro _ ⟨p, rfl⟩
          replace hB := p.below
          obtain ⟨c0, c1, c2, c3, c4, c5⟩ := Law.box3 hB (Nat.le_refl _)
          go_wp2_with fail
          refine (Ip.cmp_any _ _ _ _ _).mono ?_
          rintro e w1 ⟨rfl, hb1⟩
          replace hB := hB.trans (hb1.mono (Nat.le_trans (by simp) hB.size))
          clear hb1
          clear c0 c1 c2 c3 c4 c5
          obtain ⟨c0, c1, c2, c3, c4, c5⟩ := Law.box3 hB (Nat.le_refl _)
          go_wp2_with fail
          refine (Ip.cmp_any _ _ _ _ _).mono ?_
          rintro e w2 ⟨rfl, hb2⟩
          replace hB := hB.trans (hb2.mono (Nat.le_trans (by simp) hB.size))
          clear hb2
          clear c0 c1 c2 c3 c4 c5
          obtain ⟨c0, c1, c2, c3, c4, c5⟩ := Law.box3 hB (Nat.le_refl _)
          go_wp2_with fail
          refine (Ip.covers_any _ _ _ _ h0 h1 h0 h1 _).mono ?_
          rintro e w3 ⟨rfl, hb3⟩
          replace hB := hB.trans (hb3.mono (Nat.le_trans (by simp) hB.size))
          clear hb3
          clear c0 c1 c2 c3 c4 c5
          obtain ⟨c0, c1, c2, c3, c4, c5⟩ := Law.box3 hB (Nat.le_refl _)
          go_wp2
          go_ret
          exact ⟨rfl, Law.below_box3 hB (by omega)⟩
      · cases hcov : covers a n a m with
        | true =>
          go_enter Try.func9, Try.ntmps9
          go_wp2_with fail
          refine (Ip.cmp_any _ _ _ _ _).mono ?_
          rintro e w1 ⟨rfl, hb1⟩
          replace hB := hB.trans (hb1.mono (Nat.le_trans (by simp) hB.size))
          clear hb1
          go_wp2
          refine Law.wp_region_below (by kernel_rfl) (by kernel_rfl) hB ?_
          repeat (go_big_quiet_step ((go_at_call 27; exact Law.calls_below (by simp) (Ip.cmp_any _ _ _ _ _))))
          refine wpQuiet_nil ?_
          rintro _ ⟨p, rfl⟩
          replace hB := p.below
          obtain ⟨c0, c1, c2, c3, c4, c5⟩ := Law.box3 hB (Nat.le_refl _)
          go_wp2_with fail
          refine (Ip.cmp_any _ _ _ _ _).mono ?_
          rintro e w1 ⟨rfl, hb1⟩
          replace hB := hB.trans (hb1.mono (Nat.le_trans (by simp) hB.size))
          clear hb1
          clear c0 c1 c2 c3 c4 c5
          obtain ⟨c0, c1, c2, c3, c4, c5⟩ := Law.box3 hB (Nat.le_refl _)
          go_wp2_with fail
          refine (Ip.cmp_any _ _ _ _ _).mono ?_
          rintro e w2 ⟨rfl, hb2⟩
          replace hB := hB.trans (hb2.mono (Nat.le_trans (by simp) hB.size))
          clear hb2
          clear c0 c1 c2 c3 c4 c5
          obtain ⟨c0, c1, c2, c3, c4, c5⟩ := Law.box3 hB (Nat.le_refl _)
          go_wp2_with fail
          refine (Ip.covers_any _ _ _ _ h0 h1 h0 h1 _).mono ?_
          rintro e w3 ⟨rfl, hb3⟩
          replace hB := hB.trans (hb3.mono (Nat.le_trans (by simp) hB.size))
          clear hb3
          clear c0 c1 c2 c3 c4 c5
          obtain ⟨c0, c1, c2, c3, c4, c5⟩ := Law.box3 hB (Nat.le_refl _)
          go_wp2_with fail
          refine (Ip.cmp_any _ _ _ _ _).mono ?_
          rintro e w4 ⟨rfl, hb4⟩
          replace hB := hB.trans (hb4.mono (Nat.le_trans (by simp) hB.size))
          clear hb4
          clear c0 c1 c2 c3 c4 c5
          obtain ⟨c0, c1, c2, c3, c4, c5⟩ := Law.box3 hB (Nat.le_refl _)
          go_wp2
          go_ret
          exact ⟨rfl, Law.below_box3 hB (by omega)⟩
        | false =>
          go_enter Try.func9, Try.ntmps9
          go_wp2_with fail
          refine (Ip.cmp_any _ _ _ _ _).mono ?_
          rintro e w1 ⟨rfl, hb1⟩
          replace hB := hB.trans (hb1.mono (Nat.le_trans (by simp) hB.size))
          clear hb1
          go_wp2
          refine Law.wp_region_below (by kernel_rfl) (by kernel_rfl) hB ?_
          repeat (go_big_quiet_step ((go_at_call 27; exact Law.calls_below (by simp) (Ip.cmp_any _ _ _ _ _))))
          refine wpQuiet_nil ?_
          rintro _ ⟨p, rfl⟩
          replace hB := p.below
          obtain ⟨c0, c1, c2, c3, c4, c5⟩ := Law.box3 hB (Nat.le_refl _)
          go_wp2_with fail
          refine (Ip.cmp_any _ _ _ _ _).mono ?_
          rintro e w1 ⟨rfl, hb1⟩
          replace hB := hB.trans (hb1.mono (Nat.le_trans (by simp) hB.size))
          clear hb1
          clear c0 c1 c2 c3 c4 c5
          obtain ⟨c0, c1, c2, c3, c4, c5⟩ := Law.box3 hB (Nat.le_refl _)
          go_wp2_with fail
          refine (Ip.cmp_any _ _ _ _ _).mono ?_
          rintro e w2 ⟨rfl, hb2⟩
          replace hB := hB.trans (hb2.mono (Nat.le_trans (by simp) hB.size))
          clear hb2
          clear c0 c1 c2 c3 c4 c5
          obtain ⟨c0, c1, c2, c3, c4, c5⟩ := Law.box3 hB (Nat.le_refl _)
          go_wp2_with fail
          refine (Ip.covers_any _ _ _ _ h0 h1 h0 h1 _).mono ?_
          rintro e w3 ⟨rfl, hb3⟩
          replace hB := hB.trans (hb3.mono (Nat.le_trans (by simp) hB.size))
          clear hb3
          clear c0 c1 c2 c3 c4 c5
          obtain ⟨c0, c1, c2, c3, c4, c5⟩ := Law.box3 hB (Nat.le_refl _)
          go_wp2
          go_ret
          exact ⟨rfl, Law.below_box3 hB (by omega)⟩
    · subst h2
      have k1 : Ip.cmpP a n a n = 0 := by unfold Ip.cmpP; rw [if_neg (by omega), if_pos ⟨rfl, rfl⟩]
      have k2 : Ip.cmpP a n a n = 0 := by have := Ip.cmpP_neg a n a n; omega
      cases hcov : covers a n a n with
      | true =>
        go_enter Try.func9, Try.ntmps9
        go_wp2_with fail
        refine (Ip.cmp_any _ _ _ _ _).mono ?_
        rintro e w1 ⟨rfl, hb1⟩
        replace hB := hB.trans (hb1.mono (Nat.le_trans (by simp) hB.size))
        clear hb1
        go_wp2
        refine Law.wp_region_below (by kernel_rfl) (by kernel_rfl) hB ?_
        repeat (go_big_quiet_step ((go_at_call 27; exact Law.calls_below (by simp) (Ip.cmp_any _ _ _ _ _))))
        refine wpQuiet_nil ?_
        rintro _ ⟨p, rfl⟩
        replace hB := p.below
        obtain ⟨c0, c1, c2, c3, c4, c5⟩ := Law.box3 hB (Nat.le_refl _)
        go_wp2_with fail
        refine (Ip.cmp_any _ _ _ _ _).mono ?_
        rintro e w1 ⟨rfl, hb1⟩
        replace hB := hB.trans (hb1.mono (Nat.le_trans (by simp) hB.size))
        clear hb1
        clear c0 c1 c2 c3 c4 c5
        obtain ⟨c0, c1, c2, c3, c4, c5⟩ := Law.box3 hB (Nat.le_refl _)
        go_wp2_with fail
        refine (Ip.covers_any _ _ _ _ h0 h1 h0 h1 _).mono ?_
        rintro e w2 ⟨rfl, hb2⟩
        replace hB := hB.trans (hb2.mono (Nat.le_trans (by simp) hB.size))
        clear hb2
        clear c0 c1 c2 c3 c4 c5
        obtain ⟨c0, c1, c2, c3, c4, c5⟩ := Law.box3 hB (Nat.le_refl _)
        go_wp2
        go_ret
        exact ⟨rfl, Law.below_box3 hB (by omega)⟩
      | false =>
        go_enter Try.func9, Try.ntmps9
        go_wp2_with fail
        refine (Ip.cmp_any _ _ _ _ _).mono ?_
        rintro e w1 ⟨rfl, hb1⟩
        replace hB := hB.trans (hb1.mono (Nat.le_trans (by simp) hB.size))
        clear hb1
        go_wp2
        refine Law.wp_region_below (by kernel_rfl) (by kernel_rfl) hB ?_
        repeat (go_big_quiet_step ((go_at_call 27; exact Law.calls_below (by simp) (Ip.cmp_any _ _ _ _ _))))
        refine wpQuiet_nil ?_
        rintro _ ⟨p, rfl⟩
        replace hB := p.below
        obtain ⟨c0, c1, c2, c3, c4, c5⟩ := Law.box3 hB (Nat.le_refl _)
        go_wp2_with fail
        refine (Ip.cmp_any _ _ _ _ _).mono ?_
        rintro e w1 ⟨rfl, hb1⟩
        replace hB := hB.trans (hb1.mono (Nat.le_trans (by simp) hB.size))
        clear hb1
        clear c0 c1 c2 c3 c4 c5
        obtain ⟨c0, c1, c2, c3, c4, c5⟩ := Law.box3 hB (Nat.le_refl _)
        go_wp2_with fail
        refine (Ip.covers_any _ _ _ _ h0 h1 h0 h1 _).mono ?_
        rintro e w2 ⟨rfl, hb2⟩
        replace hB := hB.trans (hb2.mono (Nat.le_trans (by simp) hB.size))
        clear hb2
        clear c0 c1 c2 c3 c4 c5
        obtain ⟨c0, c1, c2, c3, c4, c5⟩ := Law.box3 hB (Nat.le_refl _)
        go_wp2
        go_ret
        exact ⟨rfl, Law.below_box3 hB (by omega)⟩
    · have e2 : (n == m) = false := by simp; omega
      have k1 : Ip.cmpP a n a m = 1 := by unfold Ip.cmpP; rw [if_neg (by omega), if_neg (by omega)]
      have k2 : Ip.cmpP a m a n = -1 := by have := Ip.cmpP_neg a n a m; omega
      have hcov : covers a n a m = false := by
        cases hc : covers a n a m with
        | false => rfl
        | true => have := Ip.covers_le hc; omega
      go_enter Try.func9, Try.ntmps9
      go_wp2_with fail
      refine (Ip.cmp_any _ _ _ _ _).mono ?_
      rintro e w1 ⟨rfl, hb1⟩
      replace hB := hB.trans (hb1.mono (Nat.le_trans (by simp) hB.size))
      clear hb1
      go_wp2
      refine Law.wp_region_below (by kernel_rfl) (by kernel_rfl) hB ?_
      repeat (go_big_quiet_step ((go_at_call 27; exact Law.calls_below (by simp) (Ip.cmp_any _ _ _ _ _))))
      refine wpQuiet_nil ?_
      rintro _ ⟨p, rfl⟩
      replace hB := p.below
      obtain ⟨c0, c1, c2, c3, c4, c5⟩ := Law.box3 hB (Nat.le_refl _)
      go_wp2_with fail
      refine (Ip.cmp_any _ _ _ _ _).mono ?_
      rintro e w1 ⟨rfl, hb1⟩
      replace hB := hB.trans (hb1.mono (Nat.le_trans (by simp) hB.size))
      clear hb1
      clear c0 c1 c2 c3 c4 c5
      obtain ⟨c0, c1, c2, c3, c4, c5⟩ := Law.box3 hB (Nat.le_refl _)
      go_wp2_with fail
      refine (Ip.covers_any _ _ _ _ h0 h1 h0 h1 _).mono ?_
      rintro e w2 ⟨rfl, hb2⟩
      replace hB := hB.trans (hb2.mono (Nat.le_trans (by simp) hB.size))
      clear hb2
      clear c0 c1 c2 c3 c4 c5
      obtain ⟨c0, c1, c2, c3, c4, c5⟩ := Law.box3 hB (Nat.le_refl _)
      go_wp2
      go_ret
      exact ⟨rfl, Law.below_box3 hB (by omega)⟩
  · have e1 : (a == b) = false := by simp; omega
    have k1 : Ip.cmpP a n b m = 1 := by unfold Ip.cmpP; rw [if_neg (by omega), if_neg (by omega)]
    have k2 : Ip.cmpP b m a n = -1 := by have := Ip.cmpP_neg a n b m; omega
    have hcov : covers a n b m = false := by
      cases hc : covers a n b m with
      | false => rfl
      | true => have := Ip.covers_le hc; omega
    go_enter Try.func9, Try.ntmps9
    go_wp2_with fail
    refine (Ip.cmp_any _ _ _ _ _).mono ?_
    rintro e w1 ⟨rfl, hb1⟩
    replace hB := hB.trans (hb1.mono (Nat.le_trans (by simp) hB.size))
    clear hb1
    go_wp2
    refine Law.wp_region_below (by kernel_rfl) (by kernel_rfl) hB ?_
    repeat (go_big_quiet_step ((go_at_call 27; exact Law.calls_below (by simp) (Ip.cmp_any _ _ _ _ _))))
    refine wpQuiet_nil ?_
    rintro _ ⟨p, rfl⟩
    replace hB := p.below
    obtain ⟨c0, c1, c2, c3, c4, c5⟩ := Law.box3 hB (Nat.le_refl _)
    go_wp2_with fail
    refine (Ip.cmp_any _ _ _ _ _).mono ?_
    rintro e w1 ⟨rfl, hb1⟩
    replace hB := hB.trans (hb1.mono (Nat.le_trans (by simp) hB.size))
    clear hb1
    clear c0 c1 c2 c3 c4 c5
    obtain ⟨c0, c1, c2, c3, c4, c5⟩ := Law.box3 hB (Nat.le_refl _)
    go_wp2_with fail
    refine (Ip.covers_any _ _ _ _ h0 h1 b0 b1 _).mono ?_
    rintro e w2 ⟨rfl, hb2⟩
    replace hB := hB.trans (hb2.mono (Nat.le_trans (by simp) hB.size))
    clear hb2
    clear c0 c1 c2 c3 c4 c5
    obtain ⟨c0, c1, c2, c3, c4, c5⟩ := Law.box3 hB (Nat.le_refl _)
    go_wp2
    go_ret
    exact ⟨rfl, Law.below_box3 hB (by omega)⟩

/-! ### The row's step -/
set_option maxRecDepth 100000 in
theorem lifted (os : Os) (started : os.Started) (H : Type) (enc : TypeId × Value → H) :
    ReturnsInHanded {} Try.checked os 9 .any (Rows.ipOrdersSpec.pre6 enc Try.prog Try.f9 Rows.ipOrdersRow.domain false) (Rows.ipOrdersSpec.post enc Try.prog Try.f9 false true false false) := by
  refine returnsInHanded_of_change (C := Try.checked) Law.own started (by kernel_rfl) Try.func9
    (ChangeSpec.witness6 (enc := enc) (C := Try.checked) false ⟨#[], #[.agg #[.int .u32 0, .int .i64 0], .agg #[.int .u32 0, .int .i64 0], .agg #[.int .u32 0, .int .i64 0]], []⟩ 8 (by kernel_rfl) (by kernel_rfl) (by kernel_rfl) (by kernel_rfl)) ?_
  intro W base args ds gs before hval0 hW hcnd _
  have hval : ∀ (j : Nat) t v, Try.f9.params[j]? = some t → args[j]? = some v → Value.okWide Try.prog W .any base t v := hval0
  have hW' := hW
  obtain ⟨p, q, hA0, hV, rfl, hfz, hnd⟩ := hW
  have hA : DataW.TrodAll enc Try.prog W 0 (fun _ => true) true Try.f9.params.toList args.toList ds p := hA0
  rw [Try.params9] at hA hval
  obtain ⟨v0, vs0, d0, ds0, p0, q0, hargs, rfl, rfl, h0, r0⟩ := trodAll_cons hA
  obtain ⟨v1, vs1, d1, ds1, p1, q1, rfl, rfl, rfl, h1, r1⟩ := trodAll_cons r0
  obtain ⟨v2, vs2, d2, ds2, p2, q2, rfl, rfl, rfl, h2, r2⟩ := trodAll_cons r1
  obtain ⟨rfl, rfl, rfl⟩ := trodAll_nil r2
  obtain rfl : args = #[v0, v1, v2] := by cases args; simp_all
  obtain ⟨rfl, rfl⟩ := trodVars_none hV
  obtain ⟨cs0, rfl, g0⟩ := Law.open_flat (n := 8) (ks := [.int .u32, .int .i64]) (by first | exact .inl ⟨_, Try.underlying33⟩ | exact .inr ⟨_, _, Try.underlying33⟩) (by kernel_rfl) (hval 0 33 v0 rfl rfl) h0
  obtain ⟨_, _, rfl, ⟨x0, rfl, w0⟩, ⟨_, _, rfl, ⟨x1, rfl, w1⟩, rfl⟩⟩ := g0
  obtain ⟨cs1, rfl, g1⟩ := Law.open_flat (n := 8) (ks := [.int .u32, .int .i64]) (by first | exact .inl ⟨_, Try.underlying33⟩ | exact .inr ⟨_, _, Try.underlying33⟩) (by kernel_rfl) (hval 1 33 v1 rfl rfl) h1
  obtain ⟨_, _, rfl, ⟨x2, rfl, w2⟩, ⟨_, _, rfl, ⟨x3, rfl, w3⟩, rfl⟩⟩ := g1
  obtain ⟨cs2, rfl, g2⟩ := Law.open_flat (n := 8) (ks := [.int .u32, .int .i64]) (by first | exact .inl ⟨_, Try.underlying33⟩ | exact .inr ⟨_, _, Try.underlying33⟩) (by kernel_rfl) (hval 2 33 v2 rfl rfl) h2
  obtain ⟨_, _, rfl, ⟨x4, rfl, w4⟩, ⟨_, _, rfl, ⟨x5, rfl, w5⟩, rfl⟩⟩ := g2
  clear hA0 hval0
  exact (walk x0 x1 x2 x3 x4 x5 w0 w1 w2 w3 w4 w5 W).mono fun e W' ⟨he, hg⟩ => ⟨_, he, Law.post_law Law.laidOut (by kernel_rfl) hW' rfl rfl Try.underlying4 rfl hg⟩

theorem over : Rows.ipOrdersRow.holds Try.pinned (OpenSpec.ofChange Rows.ipOrdersSpec) :=
  OpenClaim.holds_of_wide 9 Try.f9 rfl rfl rfl rfl rfl rfl rfl ⟨rfl, rfl, rfl, rfl, rfl⟩ rfl rfl rfl rfl rfl (by kernel_rfl) Try.func9 (by kernel_rfl)
    (of_decide_eq_true (by kernel_rfl)) (by unfold Func.isWrapper; first | (rw [if_pos (by decide +kernel)]; kernel_rfl) | (rw [if_neg (by decide +kernel)]; exact ⟨rfl, rfl⟩))
    (fun os started H enc _ => lifted os started H enc)

/-- THE STATEMENT. -/
theorem proved : Rows.IpOrdersSaid := over
#print axioms proved

end IpOrders
end Go.Proofs.Ytflpmchckniihaa
