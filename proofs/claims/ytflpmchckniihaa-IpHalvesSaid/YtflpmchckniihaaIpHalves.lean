/-
  The law 'IpHalves': for every input it answers true. No conditions.
-/
import Derived.Test.YtflpmchckniihaaIpC
import Derived.Test.YtflpmchckniihaaIpLawMath
namespace Go.Proofs.Ytflpmchckniihaa
open Go.ChangeShapes Go.WideShapes Go.ChangeAt Go.RowKit
open Pl
set_option linter.unusedVariables false
namespace IpHalves

theorem t0 : (167772160 : Int) % K 8 = 0 := by decide
theorem no_false (a n t turn : Int) (h0 : 0 ≤ a) (h1 : a < 4294967296) (hk : ok a n = false) (w : World) :
    Calls Try.prog 11 #[.agg #[.int .u32 a, .int .i64 n], .int .u32 t, .int .i64 turn] w fun e w' => e = .returned (.bool true) ∧ Below w.heap.size w w' := by
  have t1 : 167772160 + (K 8 - 1) = 184549375 := by decide
  have hc := Ip.chk_no hk
  go_enter Try.func11, Try.ntmps11
  have hB := Below.refl w.heap.size w
  go_wp2_with fail
  refine (Ip.last_ok _ _ (by omega) (by omega) t0 _).mono ?_
  rintro e w1 ⟨rfl, hb1⟩
  obtain ⟨c0, c1⟩ := Law.box2b hb1 (by simp)
  replace hB := Law.next1 hB (Nat.le_refl _) hb1 (by simp)
  clear hb1
  have lc0 := Law.blk_lt c0
  go_wp2_with fail
  refine (Ip.half_no _ _ _ h0 h1 (.inl hk) _).mono ?_
  rintro e w2 ⟨rfl, hb2⟩
  replace c0 := Law.keep0 hb2 (by simp) c0
  replace c1 := Law.keep0 hb2 (by simp) c1
  replace hB := Law.next0 hB (Nat.le_refl _) hb2 (by simp)
  clear hb2
  replace lc0 := Law.blk_lt c0
  go_wp2_with fail
  refine (Ip.check_any _ _ h0 h1 _).mono ?_
  rintro e w3 ⟨rfl, hb3⟩
  obtain ⟨c2, c3⟩ := Law.box2b hb3 (by simp)
  replace c0 := Law.keep1 hb3 (by simp) c0
  replace c1 := Law.keep1 hb3 (by simp) c1
  replace hB := Law.next1 hB (Nat.le_refl _) hb3 (by simp)
  clear hb3
  replace lc0 := Law.blk_lt c0
  have lc2 := Law.blk_lt c2
  go_wp2
  go_ret
  exact ⟨rfl, hB⟩
theorem no_32 (a t turn : Int) (h0 : 0 ≤ a) (h1 : a < 4294967296) (hk : ok a 32 = true) (w : World) :
    Calls Try.prog 11 #[.agg #[.int .u32 a, .int .i64 32], .int .u32 t, .int .i64 turn] w fun e w' => e = .returned (.bool true) ∧ Below w.heap.size w w' := by
  have t1 : 167772160 + (K 8 - 1) = 184549375 := by decide
  have hc := Ip.chk_yes hk
  go_enter Try.func11, Try.ntmps11
  have hB := Below.refl w.heap.size w
  go_wp2_with fail
  refine (Ip.last_ok _ _ (by omega) (by omega) t0 _).mono ?_
  rintro e w1 ⟨rfl, hb1⟩
  obtain ⟨c0, c1⟩ := Law.box2b hb1 (by simp)
  replace hB := Law.next1 hB (Nat.le_refl _) hb1 (by simp)
  clear hb1
  have lc0 := Law.blk_lt c0
  go_wp2_with fail
  refine (Ip.half_no _ _ _ h0 h1 (.inr rfl) _).mono ?_
  rintro e w2 ⟨rfl, hb2⟩
  replace c0 := Law.keep0 hb2 (by simp) c0
  replace c1 := Law.keep0 hb2 (by simp) c1
  replace hB := Law.next0 hB (Nat.le_refl _) hb2 (by simp)
  clear hb2
  replace lc0 := Law.blk_lt c0
  go_wp2_with fail
  refine (Ip.check_any _ _ h0 h1 _).mono ?_
  rintro e w3 ⟨rfl, hb3⟩
  obtain ⟨c2, c3⟩ := Law.box2b hb3 (by simp)
  replace c0 := Law.keep1 hb3 (by simp) c0
  replace c1 := Law.keep1 hb3 (by simp) c1
  replace hB := Law.next1 hB (Nat.le_refl _) hb3 (by simp)
  clear hb3
  replace lc0 := Law.blk_lt c0
  have lc2 := Law.blk_lt c2
  go_wp2
  go_ret
  exact ⟨rfl, hB⟩
set_option maxHeartbeats 1000000 in
theorem yes_zero (a n t : Int) (h0 : 0 ≤ a) (h1 : a < 4294967296) (x0 : 0 ≤ t) (x1 : t < 4294967296) (hk : ok a n = true) (hn : n < 32) (w : World) :
    Calls Try.prog 11 #[.agg #[.int .u32 a, .int .i64 n], .int .u32 t, .int .i64 0] w fun e w' => e = .returned (.bool true) ∧ Below w.heap.size w w' := by
  have t1 : 167772160 + (K 8 - 1) = 184549375 := by decide
  have hc := Ip.chk_yes hk
  have hK := half_K hk hn
  have kp := K_pos (n + 1)
  have y0 : 0 ≤ a + K (n + 1) := by omega
  have y1 := half_lt hk hn h1 h0
  have m0 := (ok_iff.1 hk).2.2
  have m1 := half_mod_lo hk hn
  have m2 := half_mod_hi hk hn
  have g1 := half_meets hk hn
  have g2 := half_cov_lo hk hn
  have g3 := half_cov_hi hk hn
  have hn32 : (n == 32) = false := by simp; omega
  obtain ⟨l, hl⟩ : ∃ l, a + (K n - 1) = l := ⟨_, rfl⟩
  obtain ⟨lx, hlx⟩ : ∃ lx, a + (K (n + 1) - 1) = lx := ⟨_, rfl⟩
  have q2 : lx < a + K (n + 1) := by omega
  have hl3' : a + K (n + 1) + (K (n + 1) - 1) = l := by omega
  have hl1 := Lib.hid hl
  have hl2 := Lib.hid hlx
  have hl3 := Lib.hid hl3'
  clear hl3' hlx
  rcases Int.lt_or_le t a with hp | hp
  · skip
    have fX : has a (n + 1) t = false := by rw [half_has_lo hk hn]; simp; omega
    have fY : has (a + K (n + 1)) (n + 1) t = false := by rw [half_has_hi hk hn]; simp; omega
    have fH : has a n t = false := by rw [half_or hk hn, fX, fY]; rfl
    have f3 : decide (a ≤ t) = false := by simp; omega
    have f4 : decide (t ≤ l) = true := by simp; omega
    clear hp kp hK hl
    go_enter Try.func11, Try.ntmps11
    have hB := Below.refl w.heap.size w
    go_wp2_with fail
    refine (Ip.last_ok _ _ (by omega) (by omega) t0 _).mono ?_
    rintro e w1 ⟨rfl, hb1⟩
    obtain ⟨c0, c1⟩ := Law.box2b hb1 (by simp)
    replace hB := Law.next1 hB (Nat.le_refl _) hb1 (by simp)
    clear hb1
    have lc0 := Law.blk_lt c0
    go_wp2_with fail
    refine (Ip.half_lo _ _ h0 h1 hk hn _).mono ?_
    rintro e w2 ⟨rfl, hb2⟩
    replace c0 := Law.keep0 hb2 (by simp) c0
    replace c1 := Law.keep0 hb2 (by simp) c1
    replace hB := Law.next0 hB (Nat.le_refl _) hb2 (by simp)
    clear hb2
    replace lc0 := Law.blk_lt c0
    go_wp2_with fail
    refine (Ip.check_any _ _ h0 h1 _).mono ?_
    rintro e w3 ⟨rfl, hb3⟩
    obtain ⟨c2, c3⟩ := Law.box2b hb3 (by simp)
    replace c0 := Law.keep1 hb3 (by simp) c0
    replace c1 := Law.keep1 hb3 (by simp) c1
    replace hB := Law.next1 hB (Nat.le_refl _) hb3 (by simp)
    clear hb3
    replace lc0 := Law.blk_lt c0
    have lc2 := Law.blk_lt c2
    go_wp2_with fail
    refine (Ip.half_lo _ _ h0 h1 hk hn _).mono ?_
    rintro e w4 ⟨rfl, hb4⟩
    replace c0 := Law.keep0 hb4 (by simp) c0
    replace c1 := Law.keep0 hb4 (by simp) c1
    replace c2 := Law.keep0 hb4 (by simp) c2
    replace c3 := Law.keep0 hb4 (by simp) c3
    replace hB := Law.next0 hB (Nat.le_refl _) hb4 (by simp)
    clear hb4
    replace lc0 := Law.blk_lt c0
    replace lc2 := Law.blk_lt c2
    go_wp2_with fail
    refine (Ip.half_hi _ _ _ h0 h1 hk hn (by first | exact ht | rfl) _).mono ?_
    rintro e w5 ⟨rfl, hb5⟩
    obtain ⟨c4, c5⟩ := Law.box2b hb5 (by simp)
    replace c0 := Law.keep1 hb5 (by simp) c0
    replace c1 := Law.keep1 hb5 (by simp) c1
    replace c2 := Law.keep1 hb5 (by simp) c2
    replace c3 := Law.keep1 hb5 (by simp) c3
    replace hB := Law.next1 hB (Nat.le_refl _) hb5 (by simp)
    clear hb5
    replace lc0 := Law.blk_lt c0
    replace lc2 := Law.blk_lt c2
    have lc4 := Law.blk_lt c4
    have hR := Below.refl (w5.heap.size + 1) (w5.alloc (.cells #[.int .u32 (a + K (n + 1)), .int .i64 (n + 1)] 33))
    have d0 := Law.carry hR (by simp) (Law.cell_old c0)
    have d1 := Law.carry hR (by simp) (Law.cell_old c1)
    have d4 := Law.carry hR (by simp) (Law.cell_old c4)
    have d5 := Law.carry hR (by simp) (Law.cell_old c5)
    have d6 := Law.carry hR (by simp) (Law.cell_new w5 _ _ 0)
    have d7 := Law.carry hR (by simp) (Law.cell_new w5 _ _ 1)
    go_wp2
    have hz := Law.hz1 hR
    refine Law.wp_region_below (by kernel_rfl) (by kernel_rfl) hR ?_
    repeat (go_big_quiet_step (first | (go_at_call 20; with_reducible exact Law.calls_below hz (Ip.has_is fH h0 h1 x0 x1 _)) | (go_at_call 20; with_reducible exact Law.calls_below hz (Ip.has_is fX h0 h1 x0 x1 _)) | (go_at_call 20; with_reducible exact Law.calls_below hz (Ip.has_is fY y0 y1 x0 x1 _)) | (go_at_call 24; with_reducible exact Law.calls_below hz (Ip.meets_is g1 h0 h1 y0 y1 _)) | (go_at_call 22; with_reducible exact Law.calls_below hz (Ip.covers_is g2 h0 h1 h0 h1 _)) | (go_at_call 22; with_reducible exact Law.calls_below hz (Ip.covers_is g3 h0 h1 y0 y1 _))))
    refine wpQuiet_nil ?_
    rintro _ ⟨p, rfl⟩
    go_wp2
    refine Law.wp_region_below (by kernel_rfl) (by kernel_rfl) p.below ?_
    repeat (go_big_quiet_step (first | (go_at_call 26; with_reducible exact Law.calls_below hz (Ip.first_any _ _ _)) | (go_at_call 25; with_reducible exact Law.calls_below hz (Ip.last_is hl1.out h0 h1 m0 _)) | (go_at_call 25; with_reducible exact Law.calls_below hz (Ip.last_is hl2.out h0 h1 m1 _)) | (go_at_call 25; with_reducible exact Law.calls_below hz (Ip.last_is hl3.out y0 y1 m2 _)) | (go_at_call 20; with_reducible exact Law.calls_below hz (Ip.has_is fH h0 h1 x0 x1 _))))
    refine wpQuiet_nil ?_
    rintro _ ⟨q, rfl⟩
    go_wp2
    go_ret
    exact ⟨rfl, Law.next1 hB (Nat.le_refl _) q.below (Nat.le_succ _)⟩
  · rcases Int.lt_or_le t (a + K (n + 1)) with hq | hq
    · skip
      have fX : has a (n + 1) t = true := by rw [half_has_lo hk hn]; simp; omega
      have fY : has (a + K (n + 1)) (n + 1) t = false := by rw [half_has_hi hk hn]; simp; omega
      have fH : has a n t = true := by rw [half_or hk hn, fX, fY]; rfl
      have f3 : decide (a ≤ t) = true := by simp; omega
      have f4 : decide (t ≤ l) = true := by simp; omega
      clear hp kp hK hl
      go_enter Try.func11, Try.ntmps11
      have hB := Below.refl w.heap.size w
      go_wp2_with fail
      refine (Ip.last_ok _ _ (by omega) (by omega) t0 _).mono ?_
      rintro e w1 ⟨rfl, hb1⟩
      obtain ⟨c0, c1⟩ := Law.box2b hb1 (by simp)
      replace hB := Law.next1 hB (Nat.le_refl _) hb1 (by simp)
      clear hb1
      have lc0 := Law.blk_lt c0
      go_wp2_with fail
      refine (Ip.half_lo _ _ h0 h1 hk hn _).mono ?_
      rintro e w2 ⟨rfl, hb2⟩
      replace c0 := Law.keep0 hb2 (by simp) c0
      replace c1 := Law.keep0 hb2 (by simp) c1
      replace hB := Law.next0 hB (Nat.le_refl _) hb2 (by simp)
      clear hb2
      replace lc0 := Law.blk_lt c0
      go_wp2_with fail
      refine (Ip.check_any _ _ h0 h1 _).mono ?_
      rintro e w3 ⟨rfl, hb3⟩
      obtain ⟨c2, c3⟩ := Law.box2b hb3 (by simp)
      replace c0 := Law.keep1 hb3 (by simp) c0
      replace c1 := Law.keep1 hb3 (by simp) c1
      replace hB := Law.next1 hB (Nat.le_refl _) hb3 (by simp)
      clear hb3
      replace lc0 := Law.blk_lt c0
      have lc2 := Law.blk_lt c2
      go_wp2_with fail
      refine (Ip.half_lo _ _ h0 h1 hk hn _).mono ?_
      rintro e w4 ⟨rfl, hb4⟩
      replace c0 := Law.keep0 hb4 (by simp) c0
      replace c1 := Law.keep0 hb4 (by simp) c1
      replace c2 := Law.keep0 hb4 (by simp) c2
      replace c3 := Law.keep0 hb4 (by simp) c3
      replace hB := Law.next0 hB (Nat.le_refl _) hb4 (by simp)
      clear hb4
      replace lc0 := Law.blk_lt c0
      replace lc2 := Law.blk_lt c2
      go_wp2_with fail
      refine (Ip.half_hi _ _ _ h0 h1 hk hn (by first | exact ht | rfl) _).mono ?_
      rintro e w5 ⟨rfl, hb5⟩
      obtain ⟨c4, c5⟩ := Law.box2b hb5 (by simp)
      replace c0 := Law.keep1 hb5 (by simp) c0
      replace c1 := Law.keep1 hb5 (by simp) c1
      replace c2 := Law.keep1 hb5 (by simp) c2
      replace c3 := Law.keep1 hb5 (by simp) c3
      replace hB := Law.next1 hB (Nat.le_refl _) hb5 (by simp)
      clear hb5
      replace lc0 := Law.blk_lt c0
      replace lc2 := Law.blk_lt c2
      have lc4 := Law.blk_lt c4
      have hR := Below.refl (w5.heap.size + 1) (w5.alloc (.cells #[.int .u32 (a + K (n + 1)), .int .i64 (n + 1)] 33))
      have d0 := Law.carry hR (by simp) (Law.cell_old c0)
      have d1 := Law.carry hR (by simp) (Law.cell_old c1)
      have d4 := Law.carry hR (by simp) (Law.cell_old c4)
      have d5 := Law.carry hR (by simp) (Law.cell_old c5)
      have d6 := Law.carry hR (by simp) (Law.cell_new w5 _ _ 0)
      have d7 := Law.carry hR (by simp) (Law.cell_new w5 _ _ 1)
      go_wp2
      have hz := Law.hz1 hR
      refine Law.wp_region_below (by kernel_rfl) (by kernel_rfl) hR ?_
      repeat (go_big_quiet_step (first | (go_at_call 20; with_reducible exact Law.calls_below hz (Ip.has_is fH h0 h1 x0 x1 _)) | (go_at_call 20; with_reducible exact Law.calls_below hz (Ip.has_is fX h0 h1 x0 x1 _)) | (go_at_call 20; with_reducible exact Law.calls_below hz (Ip.has_is fY y0 y1 x0 x1 _)) | (go_at_call 24; with_reducible exact Law.calls_below hz (Ip.meets_is g1 h0 h1 y0 y1 _)) | (go_at_call 22; with_reducible exact Law.calls_below hz (Ip.covers_is g2 h0 h1 h0 h1 _)) | (go_at_call 22; with_reducible exact Law.calls_below hz (Ip.covers_is g3 h0 h1 y0 y1 _))))
      refine wpQuiet_nil ?_
      rintro _ ⟨p, rfl⟩
      go_wp2
      refine Law.wp_region_below (by kernel_rfl) (by kernel_rfl) p.below ?_
      repeat (go_big_quiet_step (first | (go_at_call 26; with_reducible exact Law.calls_below hz (Ip.first_any _ _ _)) | (go_at_call 25; with_reducible exact Law.calls_below hz (Ip.last_is hl1.out h0 h1 m0 _)) | (go_at_call 25; with_reducible exact Law.calls_below hz (Ip.last_is hl2.out h0 h1 m1 _)) | (go_at_call 25; with_reducible exact Law.calls_below hz (Ip.last_is hl3.out y0 y1 m2 _)) | (go_at_call 20; with_reducible exact Law.calls_below hz (Ip.has_is fH h0 h1 x0 x1 _))))
      refine wpQuiet_nil ?_
      rintro _ ⟨q, rfl⟩
      go_wp2
      go_ret
      exact ⟨rfl, Law.next1 hB (Nat.le_refl _) q.below (Nat.le_succ _)⟩
    · rcases Int.lt_or_le t (a + K n) with hs | hs
      · skip
        have fX : has a (n + 1) t = false := by rw [half_has_lo hk hn]; simp; omega
        have fY : has (a + K (n + 1)) (n + 1) t = true := by rw [half_has_hi hk hn]; simp; omega
        have fH : has a n t = true := by rw [half_or hk hn, fX, fY]; rfl
        have f3 : decide (a ≤ t) = true := by simp; omega
        have f4 : decide (t ≤ l) = true := by simp; omega
        clear hp kp hK hl
        go_enter Try.func11, Try.ntmps11
        have hB := Below.refl w.heap.size w
        go_wp2_with fail
        refine (Ip.last_ok _ _ (by omega) (by omega) t0 _).mono ?_
        rintro e w1 ⟨rfl, hb1⟩
        obtain ⟨c0, c1⟩ := Law.box2b hb1 (by simp)
        replace hB := Law.next1 hB (Nat.le_refl _) hb1 (by simp)
        clear hb1
        have lc0 := Law.blk_lt c0
        go_wp2_with fail
        refine (Ip.half_lo _ _ h0 h1 hk hn _).mono ?_
        rintro e w2 ⟨rfl, hb2⟩
        replace c0 := Law.keep0 hb2 (by simp) c0
        replace c1 := Law.keep0 hb2 (by simp) c1
        replace hB := Law.next0 hB (Nat.le_refl _) hb2 (by simp)
        clear hb2
        replace lc0 := Law.blk_lt c0
        go_wp2_with fail
        refine (Ip.check_any _ _ h0 h1 _).mono ?_
        rintro e w3 ⟨rfl, hb3⟩
        obtain ⟨c2, c3⟩ := Law.box2b hb3 (by simp)
        replace c0 := Law.keep1 hb3 (by simp) c0
        replace c1 := Law.keep1 hb3 (by simp) c1
        replace hB := Law.next1 hB (Nat.le_refl _) hb3 (by simp)
        clear hb3
        replace lc0 := Law.blk_lt c0
        have lc2 := Law.blk_lt c2
        go_wp2_with fail
        refine (Ip.half_lo _ _ h0 h1 hk hn _).mono ?_
        rintro e w4 ⟨rfl, hb4⟩
        replace c0 := Law.keep0 hb4 (by simp) c0
        replace c1 := Law.keep0 hb4 (by simp) c1
        replace c2 := Law.keep0 hb4 (by simp) c2
        replace c3 := Law.keep0 hb4 (by simp) c3
        replace hB := Law.next0 hB (Nat.le_refl _) hb4 (by simp)
        clear hb4
        replace lc0 := Law.blk_lt c0
        replace lc2 := Law.blk_lt c2
        go_wp2_with fail
        refine (Ip.half_hi _ _ _ h0 h1 hk hn (by first | exact ht | rfl) _).mono ?_
        rintro e w5 ⟨rfl, hb5⟩
        obtain ⟨c4, c5⟩ := Law.box2b hb5 (by simp)
        replace c0 := Law.keep1 hb5 (by simp) c0
        replace c1 := Law.keep1 hb5 (by simp) c1
        replace c2 := Law.keep1 hb5 (by simp) c2
        replace c3 := Law.keep1 hb5 (by simp) c3
        replace hB := Law.next1 hB (Nat.le_refl _) hb5 (by simp)
        clear hb5
        replace lc0 := Law.blk_lt c0
        replace lc2 := Law.blk_lt c2
        have lc4 := Law.blk_lt c4
        have hR := Below.refl (w5.heap.size + 1) (w5.alloc (.cells #[.int .u32 (a + K (n + 1)), .int .i64 (n + 1)] 33))
        have d0 := Law.carry hR (by simp) (Law.cell_old c0)
        have d1 := Law.carry hR (by simp) (Law.cell_old c1)
        have d4 := Law.carry hR (by simp) (Law.cell_old c4)
        have d5 := Law.carry hR (by simp) (Law.cell_old c5)
        have d6 := Law.carry hR (by simp) (Law.cell_new w5 _ _ 0)
        have d7 := Law.carry hR (by simp) (Law.cell_new w5 _ _ 1)
        go_wp2
        have hz := Law.hz1 hR
        refine Law.wp_region_below (by kernel_rfl) (by kernel_rfl) hR ?_
        repeat (go_big_quiet_step (first | (go_at_call 20; with_reducible exact Law.calls_below hz (Ip.has_is fH h0 h1 x0 x1 _)) | (go_at_call 20; with_reducible exact Law.calls_below hz (Ip.has_is fX h0 h1 x0 x1 _)) | (go_at_call 20; with_reducible exact Law.calls_below hz (Ip.has_is fY y0 y1 x0 x1 _)) | (go_at_call 24; with_reducible exact Law.calls_below hz (Ip.meets_is g1 h0 h1 y0 y1 _)) | (go_at_call 22; with_reducible exact Law.calls_below hz (Ip.covers_is g2 h0 h1 h0 h1 _)) | (go_at_call 22; with_reducible exact Law.calls_below hz (Ip.covers_is g3 h0 h1 y0 y1 _))))
        refine wpQuiet_nil ?_
        rintro _ ⟨p, rfl⟩
        go_wp2
        refine Law.wp_region_below (by kernel_rfl) (by kernel_rfl) p.below ?_
        repeat (go_big_quiet_step (first | (go_at_call 26; with_reducible exact Law.calls_below hz (Ip.first_any _ _ _)) | (go_at_call 25; with_reducible exact Law.calls_below hz (Ip.last_is hl1.out h0 h1 m0 _)) | (go_at_call 25; with_reducible exact Law.calls_below hz (Ip.last_is hl2.out h0 h1 m1 _)) | (go_at_call 25; with_reducible exact Law.calls_below hz (Ip.last_is hl3.out y0 y1 m2 _)) | (go_at_call 20; with_reducible exact Law.calls_below hz (Ip.has_is fH h0 h1 x0 x1 _))))
        refine wpQuiet_nil ?_
        rintro _ ⟨q, rfl⟩
        go_wp2
        go_ret
        exact ⟨rfl, Law.next1 hB (Nat.le_refl _) q.below (Nat.le_succ _)⟩
      · skip
        have fX : has a (n + 1) t = false := by rw [half_has_lo hk hn]; simp; omega
        have fY : has (a + K (n + 1)) (n + 1) t = false := by rw [half_has_hi hk hn]; simp; omega
        have fH : has a n t = false := by rw [half_or hk hn, fX, fY]; rfl
        have f3 : decide (a ≤ t) = true := by simp; omega
        have f4 : decide (t ≤ l) = false := by simp; omega
        clear hp kp hK hl
        go_enter Try.func11, Try.ntmps11
        have hB := Below.refl w.heap.size w
        go_wp2_with fail
        refine (Ip.last_ok _ _ (by omega) (by omega) t0 _).mono ?_
        rintro e w1 ⟨rfl, hb1⟩
        obtain ⟨c0, c1⟩ := Law.box2b hb1 (by simp)
        replace hB := Law.next1 hB (Nat.le_refl _) hb1 (by simp)
        clear hb1
        have lc0 := Law.blk_lt c0
        go_wp2_with fail
        refine (Ip.half_lo _ _ h0 h1 hk hn _).mono ?_
        rintro e w2 ⟨rfl, hb2⟩
        replace c0 := Law.keep0 hb2 (by simp) c0
        replace c1 := Law.keep0 hb2 (by simp) c1
        replace hB := Law.next0 hB (Nat.le_refl _) hb2 (by simp)
        clear hb2
        replace lc0 := Law.blk_lt c0
        go_wp2_with fail
        refine (Ip.check_any _ _ h0 h1 _).mono ?_
        rintro e w3 ⟨rfl, hb3⟩
        obtain ⟨c2, c3⟩ := Law.box2b hb3 (by simp)
        replace c0 := Law.keep1 hb3 (by simp) c0
        replace c1 := Law.keep1 hb3 (by simp) c1
        replace hB := Law.next1 hB (Nat.le_refl _) hb3 (by simp)
        clear hb3
        replace lc0 := Law.blk_lt c0
        have lc2 := Law.blk_lt c2
        go_wp2_with fail
        refine (Ip.half_lo _ _ h0 h1 hk hn _).mono ?_
        rintro e w4 ⟨rfl, hb4⟩
        replace c0 := Law.keep0 hb4 (by simp) c0
        replace c1 := Law.keep0 hb4 (by simp) c1
        replace c2 := Law.keep0 hb4 (by simp) c2
        replace c3 := Law.keep0 hb4 (by simp) c3
        replace hB := Law.next0 hB (Nat.le_refl _) hb4 (by simp)
        clear hb4
        replace lc0 := Law.blk_lt c0
        replace lc2 := Law.blk_lt c2
        go_wp2_with fail
        refine (Ip.half_hi _ _ _ h0 h1 hk hn (by first | exact ht | rfl) _).mono ?_
        rintro e w5 ⟨rfl, hb5⟩
        obtain ⟨c4, c5⟩ := Law.box2b hb5 (by simp)
        replace c0 := Law.keep1 hb5 (by simp) c0
        replace c1 := Law.keep1 hb5 (by simp) c1
        replace c2 := Law.keep1 hb5 (by simp) c2
        replace c3 := Law.keep1 hb5 (by simp) c3
        replace hB := Law.next1 hB (Nat.le_refl _) hb5 (by simp)
        clear hb5
        replace lc0 := Law.blk_lt c0
        replace lc2 := Law.blk_lt c2
        have lc4 := Law.blk_lt c4
        have hR := Below.refl (w5.heap.size + 1) (w5.alloc (.cells #[.int .u32 (a + K (n + 1)), .int .i64 (n + 1)] 33))
        have d0 := Law.carry hR (by simp) (Law.cell_old c0)
        have d1 := Law.carry hR (by simp) (Law.cell_old c1)
        have d4 := Law.carry hR (by simp) (Law.cell_old c4)
        have d5 := Law.carry hR (by simp) (Law.cell_old c5)
        have d6 := Law.carry hR (by simp) (Law.cell_new w5 _ _ 0)
        have d7 := Law.carry hR (by simp) (Law.cell_new w5 _ _ 1)
        go_wp2
        have hz := Law.hz1 hR
        refine Law.wp_region_below (by kernel_rfl) (by kernel_rfl) hR ?_
        repeat (go_big_quiet_step (first | (go_at_call 20; with_reducible exact Law.calls_below hz (Ip.has_is fH h0 h1 x0 x1 _)) | (go_at_call 20; with_reducible exact Law.calls_below hz (Ip.has_is fX h0 h1 x0 x1 _)) | (go_at_call 20; with_reducible exact Law.calls_below hz (Ip.has_is fY y0 y1 x0 x1 _)) | (go_at_call 24; with_reducible exact Law.calls_below hz (Ip.meets_is g1 h0 h1 y0 y1 _)) | (go_at_call 22; with_reducible exact Law.calls_below hz (Ip.covers_is g2 h0 h1 h0 h1 _)) | (go_at_call 22; with_reducible exact Law.calls_below hz (Ip.covers_is g3 h0 h1 y0 y1 _))))
        refine wpQuiet_nil ?_
        rintro _ ⟨p, rfl⟩
        go_wp2
        refine Law.wp_region_below (by kernel_rfl) (by kernel_rfl) p.below ?_
        repeat (go_big_quiet_step (first | (go_at_call 26; with_reducible exact Law.calls_below hz (Ip.first_any _ _ _)) | (go_at_call 25; with_reducible exact Law.calls_below hz (Ip.last_is hl1.out h0 h1 m0 _)) | (go_at_call 25; with_reducible exact Law.calls_below hz (Ip.last_is hl2.out h0 h1 m1 _)) | (go_at_call 25; with_reducible exact Law.calls_below hz (Ip.last_is hl3.out y0 y1 m2 _)) | (go_at_call 20; with_reducible exact Law.calls_below hz (Ip.has_is fH h0 h1 x0 x1 _))))
        refine wpQuiet_nil ?_
        rintro _ ⟨q, rfl⟩
        go_wp2
        go_ret
        exact ⟨rfl, Law.next1 hB (Nat.le_refl _) q.below (Nat.le_succ _)⟩
set_option maxHeartbeats 1000000 in
theorem yes_one (a n t turn : Int) (h0 : 0 ≤ a) (h1 : a < 4294967296) (x0 : 0 ≤ t) (x1 : t < 4294967296) (hk : ok a n = true) (hn : n < 32) (ht : (turn == 0) = false) (w : World) :
    Calls Try.prog 11 #[.agg #[.int .u32 a, .int .i64 n], .int .u32 t, .int .i64 turn] w fun e w' => e = .returned (.bool true) ∧ Below w.heap.size w w' := by
  have ht2 : (turn != 0) = true := by simp only [bne, ht]; rfl
  have t1 : 167772160 + (K 8 - 1) = 184549375 := by decide
  have hc := Ip.chk_yes hk
  have hK := half_K hk hn
  have kp := K_pos (n + 1)
  have y0 : 0 ≤ a + K (n + 1) := by omega
  have y1 := half_lt hk hn h1 h0
  have m0 := (ok_iff.1 hk).2.2
  have m1 := half_mod_lo hk hn
  have m2 := half_mod_hi hk hn
  have g1 := half_meets hk hn
  have g2 := half_cov_lo hk hn
  have g3 := half_cov_hi hk hn
  have hn32 : (n == 32) = false := by simp; omega
  obtain ⟨l, hl⟩ : ∃ l, a + (K n - 1) = l := ⟨_, rfl⟩
  obtain ⟨lx, hlx⟩ : ∃ lx, a + (K (n + 1) - 1) = lx := ⟨_, rfl⟩
  have q2 : lx < a + K (n + 1) := by omega
  have hl3' : a + K (n + 1) + (K (n + 1) - 1) = l := by omega
  have hl1 := Lib.hid hl
  have hl2 := Lib.hid hlx
  have hl3 := Lib.hid hl3'
  clear hl3' hlx
  rcases Int.lt_or_le t a with hp | hp
  · skip
    have fX : has a (n + 1) t = false := by rw [half_has_lo hk hn]; simp; omega
    have fY : has (a + K (n + 1)) (n + 1) t = false := by rw [half_has_hi hk hn]; simp; omega
    have fH : has a n t = false := by rw [half_or hk hn, fX, fY]; rfl
    have f3 : decide (a ≤ t) = false := by simp; omega
    have f4 : decide (t ≤ l) = true := by simp; omega
    clear hp kp hK hl
    go_enter Try.func11, Try.ntmps11
    have hB := Below.refl w.heap.size w
    go_wp2_with fail
    refine (Ip.last_ok _ _ (by omega) (by omega) t0 _).mono ?_
    rintro e w1 ⟨rfl, hb1⟩
    obtain ⟨c0, c1⟩ := Law.box2b hb1 (by simp)
    replace hB := Law.next1 hB (Nat.le_refl _) hb1 (by simp)
    clear hb1
    have lc0 := Law.blk_lt c0
    go_wp2_with fail
    refine (Ip.half_hi _ _ _ h0 h1 hk hn (by first | exact ht | rfl) _).mono ?_
    rintro e w2 ⟨rfl, hb2⟩
    replace c0 := Law.keep0 hb2 (by simp) c0
    replace c1 := Law.keep0 hb2 (by simp) c1
    replace hB := Law.next0 hB (Nat.le_refl _) hb2 (by simp)
    clear hb2
    replace lc0 := Law.blk_lt c0
    go_wp2_with fail
    refine (Ip.check_any _ _ h0 h1 _).mono ?_
    rintro e w3 ⟨rfl, hb3⟩
    obtain ⟨c2, c3⟩ := Law.box2b hb3 (by simp)
    replace c0 := Law.keep1 hb3 (by simp) c0
    replace c1 := Law.keep1 hb3 (by simp) c1
    replace hB := Law.next1 hB (Nat.le_refl _) hb3 (by simp)
    clear hb3
    replace lc0 := Law.blk_lt c0
    have lc2 := Law.blk_lt c2
    go_wp2_with fail
    refine (Ip.half_lo _ _ h0 h1 hk hn _).mono ?_
    rintro e w4 ⟨rfl, hb4⟩
    replace c0 := Law.keep0 hb4 (by simp) c0
    replace c1 := Law.keep0 hb4 (by simp) c1
    replace c2 := Law.keep0 hb4 (by simp) c2
    replace c3 := Law.keep0 hb4 (by simp) c3
    replace hB := Law.next0 hB (Nat.le_refl _) hb4 (by simp)
    clear hb4
    replace lc0 := Law.blk_lt c0
    replace lc2 := Law.blk_lt c2
    go_wp2_with fail
    refine (Ip.half_hi _ _ _ h0 h1 hk hn (by first | exact ht | rfl) _).mono ?_
    rintro e w5 ⟨rfl, hb5⟩
    obtain ⟨c4, c5⟩ := Law.box2b hb5 (by simp)
    replace c0 := Law.keep1 hb5 (by simp) c0
    replace c1 := Law.keep1 hb5 (by simp) c1
    replace c2 := Law.keep1 hb5 (by simp) c2
    replace c3 := Law.keep1 hb5 (by simp) c3
    replace hB := Law.next1 hB (Nat.le_refl _) hb5 (by simp)
    clear hb5
    replace lc0 := Law.blk_lt c0
    replace lc2 := Law.blk_lt c2
    have lc4 := Law.blk_lt c4
    have hR := Below.refl (w5.heap.size + 1) (w5.alloc (.cells #[.int .u32 (a + K (n + 1)), .int .i64 (n + 1)] 33))
    have d0 := Law.carry hR (by simp) (Law.cell_old c0)
    have d1 := Law.carry hR (by simp) (Law.cell_old c1)
    have d4 := Law.carry hR (by simp) (Law.cell_old c4)
    have d5 := Law.carry hR (by simp) (Law.cell_old c5)
    have d6 := Law.carry hR (by simp) (Law.cell_new w5 _ _ 0)
    have d7 := Law.carry hR (by simp) (Law.cell_new w5 _ _ 1)
    go_wp2
    have hz := Law.hz1 hR
    refine Law.wp_region_below (by kernel_rfl) (by kernel_rfl) hR ?_
    repeat (go_big_quiet_step (first | (go_at_call 20; with_reducible exact Law.calls_below hz (Ip.has_is fH h0 h1 x0 x1 _)) | (go_at_call 20; with_reducible exact Law.calls_below hz (Ip.has_is fX h0 h1 x0 x1 _)) | (go_at_call 20; with_reducible exact Law.calls_below hz (Ip.has_is fY y0 y1 x0 x1 _)) | (go_at_call 24; with_reducible exact Law.calls_below hz (Ip.meets_is g1 h0 h1 y0 y1 _)) | (go_at_call 22; with_reducible exact Law.calls_below hz (Ip.covers_is g2 h0 h1 h0 h1 _)) | (go_at_call 22; with_reducible exact Law.calls_below hz (Ip.covers_is g3 h0 h1 y0 y1 _))))
    refine wpQuiet_nil ?_
    rintro _ ⟨p, rfl⟩
    go_wp2
    refine Law.wp_region_below (by kernel_rfl) (by kernel_rfl) p.below ?_
    repeat (go_big_quiet_step (first | (go_at_call 26; with_reducible exact Law.calls_below hz (Ip.first_any _ _ _)) | (go_at_call 25; with_reducible exact Law.calls_below hz (Ip.last_is hl1.out h0 h1 m0 _)) | (go_at_call 25; with_reducible exact Law.calls_below hz (Ip.last_is hl2.out h0 h1 m1 _)) | (go_at_call 25; with_reducible exact Law.calls_below hz (Ip.last_is hl3.out y0 y1 m2 _)) | (go_at_call 20; with_reducible exact Law.calls_below hz (Ip.has_is fH h0 h1 x0 x1 _))))
    refine wpQuiet_nil ?_
    rintro _ ⟨q, rfl⟩
    go_wp2
    go_ret
    exact ⟨rfl, Law.next1 hB (Nat.le_refl _) q.below (Nat.le_succ _)⟩
  · rcases Int.lt_or_le t (a + K (n + 1)) with hq | hq
    · skip
      have fX : has a (n + 1) t = true := by rw [half_has_lo hk hn]; simp; omega
      have fY : has (a + K (n + 1)) (n + 1) t = false := by rw [half_has_hi hk hn]; simp; omega
      have fH : has a n t = true := by rw [half_or hk hn, fX, fY]; rfl
      have f3 : decide (a ≤ t) = true := by simp; omega
      have f4 : decide (t ≤ l) = true := by simp; omega
      clear hp kp hK hl
      go_enter Try.func11, Try.ntmps11
      have hB := Below.refl w.heap.size w
      go_wp2_with fail
      refine (Ip.last_ok _ _ (by omega) (by omega) t0 _).mono ?_
      rintro e w1 ⟨rfl, hb1⟩
      obtain ⟨c0, c1⟩ := Law.box2b hb1 (by simp)
      replace hB := Law.next1 hB (Nat.le_refl _) hb1 (by simp)
      clear hb1
      have lc0 := Law.blk_lt c0
      go_wp2_with fail
      refine (Ip.half_hi _ _ _ h0 h1 hk hn (by first | exact ht | rfl) _).mono ?_
      rintro e w2 ⟨rfl, hb2⟩
      replace c0 := Law.keep0 hb2 (by simp) c0
      replace c1 := Law.keep0 hb2 (by simp) c1
      replace hB := Law.next0 hB (Nat.le_refl _) hb2 (by simp)
      clear hb2
      replace lc0 := Law.blk_lt c0
      go_wp2_with fail
      refine (Ip.check_any _ _ h0 h1 _).mono ?_
      rintro e w3 ⟨rfl, hb3⟩
      obtain ⟨c2, c3⟩ := Law.box2b hb3 (by simp)
      replace c0 := Law.keep1 hb3 (by simp) c0
      replace c1 := Law.keep1 hb3 (by simp) c1
      replace hB := Law.next1 hB (Nat.le_refl _) hb3 (by simp)
      clear hb3
      replace lc0 := Law.blk_lt c0
      have lc2 := Law.blk_lt c2
      go_wp2_with fail
      refine (Ip.half_lo _ _ h0 h1 hk hn _).mono ?_
      rintro e w4 ⟨rfl, hb4⟩
      replace c0 := Law.keep0 hb4 (by simp) c0
      replace c1 := Law.keep0 hb4 (by simp) c1
      replace c2 := Law.keep0 hb4 (by simp) c2
      replace c3 := Law.keep0 hb4 (by simp) c3
      replace hB := Law.next0 hB (Nat.le_refl _) hb4 (by simp)
      clear hb4
      replace lc0 := Law.blk_lt c0
      replace lc2 := Law.blk_lt c2
      go_wp2_with fail
      refine (Ip.half_hi _ _ _ h0 h1 hk hn (by first | exact ht | rfl) _).mono ?_
      rintro e w5 ⟨rfl, hb5⟩
      obtain ⟨c4, c5⟩ := Law.box2b hb5 (by simp)
      replace c0 := Law.keep1 hb5 (by simp) c0
      replace c1 := Law.keep1 hb5 (by simp) c1
      replace c2 := Law.keep1 hb5 (by simp) c2
      replace c3 := Law.keep1 hb5 (by simp) c3
      replace hB := Law.next1 hB (Nat.le_refl _) hb5 (by simp)
      clear hb5
      replace lc0 := Law.blk_lt c0
      replace lc2 := Law.blk_lt c2
      have lc4 := Law.blk_lt c4
      have hR := Below.refl (w5.heap.size + 1) (w5.alloc (.cells #[.int .u32 (a + K (n + 1)), .int .i64 (n + 1)] 33))
      have d0 := Law.carry hR (by simp) (Law.cell_old c0)
      have d1 := Law.carry hR (by simp) (Law.cell_old c1)
      have d4 := Law.carry hR (by simp) (Law.cell_old c4)
      have d5 := Law.carry hR (by simp) (Law.cell_old c5)
      have d6 := Law.carry hR (by simp) (Law.cell_new w5 _ _ 0)
      have d7 := Law.carry hR (by simp) (Law.cell_new w5 _ _ 1)
      go_wp2
      have hz := Law.hz1 hR
      refine Law.wp_region_below (by kernel_rfl) (by kernel_rfl) hR ?_
      repeat (go_big_quiet_step (first | (go_at_call 20; with_reducible exact Law.calls_below hz (Ip.has_is fH h0 h1 x0 x1 _)) | (go_at_call 20; with_reducible exact Law.calls_below hz (Ip.has_is fX h0 h1 x0 x1 _)) | (go_at_call 20; with_reducible exact Law.calls_below hz (Ip.has_is fY y0 y1 x0 x1 _)) | (go_at_call 24; with_reducible exact Law.calls_below hz (Ip.meets_is g1 h0 h1 y0 y1 _)) | (go_at_call 22; with_reducible exact Law.calls_below hz (Ip.covers_is g2 h0 h1 h0 h1 _)) | (go_at_call 22; with_reducible exact Law.calls_below hz (Ip.covers_is g3 h0 h1 y0 y1 _))))
      refine wpQuiet_nil ?_
      rintro _ ⟨p, rfl⟩
      go_wp2
      refine Law.wp_region_below (by kernel_rfl) (by kernel_rfl) p.below ?_
      repeat (go_big_quiet_step (first | (go_at_call 26; with_reducible exact Law.calls_below hz (Ip.first_any _ _ _)) | (go_at_call 25; with_reducible exact Law.calls_below hz (Ip.last_is hl1.out h0 h1 m0 _)) | (go_at_call 25; with_reducible exact Law.calls_below hz (Ip.last_is hl2.out h0 h1 m1 _)) | (go_at_call 25; with_reducible exact Law.calls_below hz (Ip.last_is hl3.out y0 y1 m2 _)) | (go_at_call 20; with_reducible exact Law.calls_below hz (Ip.has_is fH h0 h1 x0 x1 _))))
      refine wpQuiet_nil ?_
      rintro _ ⟨q, rfl⟩
      go_wp2
      go_ret
      exact ⟨rfl, Law.next1 hB (Nat.le_refl _) q.below (Nat.le_succ _)⟩
    · rcases Int.lt_or_le t (a + K n) with hs | hs
      · skip
        have fX : has a (n + 1) t = false := by rw [half_has_lo hk hn]; simp; omega
        have fY : has (a + K (n + 1)) (n + 1) t = true := by rw [half_has_hi hk hn]; simp; omega
        have fH : has a n t = true := by rw [half_or hk hn, fX, fY]; rfl
        have f3 : decide (a ≤ t) = true := by simp; omega
        have f4 : decide (t ≤ l) = true := by simp; omega
        clear hp kp hK hl
        go_enter Try.func11, Try.ntmps11
        have hB := Below.refl w.heap.size w
        go_wp2_with fail
        refine (Ip.last_ok _ _ (by omega) (by omega) t0 _).mono ?_
        rintro e w1 ⟨rfl, hb1⟩
        obtain ⟨c0, c1⟩ := Law.box2b hb1 (by simp)
        replace hB := Law.next1 hB (Nat.le_refl _) hb1 (by simp)
        clear hb1
        have lc0 := Law.blk_lt c0
        go_wp2_with fail
        refine (Ip.half_hi _ _ _ h0 h1 hk hn (by first | exact ht | rfl) _).mono ?_
        rintro e w2 ⟨rfl, hb2⟩
        replace c0 := Law.keep0 hb2 (by simp) c0
        replace c1 := Law.keep0 hb2 (by simp) c1
        replace hB := Law.next0 hB (Nat.le_refl _) hb2 (by simp)
        clear hb2
        replace lc0 := Law.blk_lt c0
        go_wp2_with fail
        refine (Ip.check_any _ _ h0 h1 _).mono ?_
        rintro e w3 ⟨rfl, hb3⟩
        obtain ⟨c2, c3⟩ := Law.box2b hb3 (by simp)
        replace c0 := Law.keep1 hb3 (by simp) c0
        replace c1 := Law.keep1 hb3 (by simp) c1
        replace hB := Law.next1 hB (Nat.le_refl _) hb3 (by simp)
        clear hb3
        replace lc0 := Law.blk_lt c0
        have lc2 := Law.blk_lt c2
        go_wp2_with fail
        refine (Ip.half_lo _ _ h0 h1 hk hn _).mono ?_
        rintro e w4 ⟨rfl, hb4⟩
        replace c0 := Law.keep0 hb4 (by simp) c0
        replace c1 := Law.keep0 hb4 (by simp) c1
        replace c2 := Law.keep0 hb4 (by simp) c2
        replace c3 := Law.keep0 hb4 (by simp) c3
        replace hB := Law.next0 hB (Nat.le_refl _) hb4 (by simp)
        clear hb4
        replace lc0 := Law.blk_lt c0
        replace lc2 := Law.blk_lt c2
        go_wp2_with fail
        refine (Ip.half_hi _ _ _ h0 h1 hk hn (by first | exact ht | rfl) _).mono ?_
        rintro e w5 ⟨rfl, hb5⟩
        obtain ⟨c4, c5⟩ := Law.box2b hb5 (by simp)
        replace c0 := Law.keep1 hb5 (by simp) c0
        replace c1 := Law.keep1 hb5 (by simp) c1
        replace c2 := Law.keep1 hb5 (by simp) c2
        replace c3 := Law.keep1 hb5 (by simp) c3
        replace hB := Law.next1 hB (Nat.le_refl _) hb5 (by simp)
        clear hb5
        replace lc0 := Law.blk_lt c0
        replace lc2 := Law.blk_lt c2
        have lc4 := Law.blk_lt c4
        have hR := Below.refl (w5.heap.size + 1) (w5.alloc (.cells #[.int .u32 (a + K (n + 1)), .int .i64 (n + 1)] 33))
        have d0 := Law.carry hR (by simp) (Law.cell_old c0)
        have d1 := Law.carry hR (by simp) (Law.cell_old c1)
        have d4 := Law.carry hR (by simp) (Law.cell_old c4)
        have d5 := Law.carry hR (by simp) (Law.cell_old c5)
        have d6 := Law.carry hR (by simp) (Law.cell_new w5 _ _ 0)
        have d7 := Law.carry hR (by simp) (Law.cell_new w5 _ _ 1)
        go_wp2
        have hz := Law.hz1 hR
        refine Law.wp_region_below (by kernel_rfl) (by kernel_rfl) hR ?_
        repeat (go_big_quiet_step (first | (go_at_call 20; with_reducible exact Law.calls_below hz (Ip.has_is fH h0 h1 x0 x1 _)) | (go_at_call 20; with_reducible exact Law.calls_below hz (Ip.has_is fX h0 h1 x0 x1 _)) | (go_at_call 20; with_reducible exact Law.calls_below hz (Ip.has_is fY y0 y1 x0 x1 _)) | (go_at_call 24; with_reducible exact Law.calls_below hz (Ip.meets_is g1 h0 h1 y0 y1 _)) | (go_at_call 22; with_reducible exact Law.calls_below hz (Ip.covers_is g2 h0 h1 h0 h1 _)) | (go_at_call 22; with_reducible exact Law.calls_below hz (Ip.covers_is g3 h0 h1 y0 y1 _))))
        refine wpQuiet_nil ?_
        rintro _ ⟨p, rfl⟩
        go_wp2
        refine Law.wp_region_below (by kernel_rfl) (by kernel_rfl) p.below ?_
        repeat (go_big_quiet_step (first | (go_at_call 26; with_reducible exact Law.calls_below hz (Ip.first_any _ _ _)) | (go_at_call 25; with_reducible exact Law.calls_below hz (Ip.last_is hl1.out h0 h1 m0 _)) | (go_at_call 25; with_reducible exact Law.calls_below hz (Ip.last_is hl2.out h0 h1 m1 _)) | (go_at_call 25; with_reducible exact Law.calls_below hz (Ip.last_is hl3.out y0 y1 m2 _)) | (go_at_call 20; with_reducible exact Law.calls_below hz (Ip.has_is fH h0 h1 x0 x1 _))))
        refine wpQuiet_nil ?_
        rintro _ ⟨q, rfl⟩
        go_wp2
        go_ret
        exact ⟨rfl, Law.next1 hB (Nat.le_refl _) q.below (Nat.le_succ _)⟩
      · skip
        have fX : has a (n + 1) t = false := by rw [half_has_lo hk hn]; simp; omega
        have fY : has (a + K (n + 1)) (n + 1) t = false := by rw [half_has_hi hk hn]; simp; omega
        have fH : has a n t = false := by rw [half_or hk hn, fX, fY]; rfl
        have f3 : decide (a ≤ t) = true := by simp; omega
        have f4 : decide (t ≤ l) = false := by simp; omega
        clear hp kp hK hl
        go_enter Try.func11, Try.ntmps11
        have hB := Below.refl w.heap.size w
        go_wp2_with fail
        refine (Ip.last_ok _ _ (by omega) (by omega) t0 _).mono ?_
        rintro e w1 ⟨rfl, hb1⟩
        obtain ⟨c0, c1⟩ := Law.box2b hb1 (by simp)
        replace hB := Law.next1 hB (Nat.le_refl _) hb1 (by simp)
        clear hb1
        have lc0 := Law.blk_lt c0
        go_wp2_with fail
        refine (Ip.half_hi _ _ _ h0 h1 hk hn (by first | exact ht | rfl) _).mono ?_
        rintro e w2 ⟨rfl, hb2⟩
        replace c0 := Law.keep0 hb2 (by simp) c0
        replace c1 := Law.keep0 hb2 (by simp) c1
        replace hB := Law.next0 hB (Nat.le_refl _) hb2 (by simp)
        clear hb2
        replace lc0 := Law.blk_lt c0
        go_wp2_with fail
        refine (Ip.check_any _ _ h0 h1 _).mono ?_
        rintro e w3 ⟨rfl, hb3⟩
        obtain ⟨c2, c3⟩ := Law.box2b hb3 (by simp)
        replace c0 := Law.keep1 hb3 (by simp) c0
        replace c1 := Law.keep1 hb3 (by simp) c1
        replace hB := Law.next1 hB (Nat.le_refl _) hb3 (by simp)
        clear hb3
        replace lc0 := Law.blk_lt c0
        have lc2 := Law.blk_lt c2
        go_wp2_with fail
        refine (Ip.half_lo _ _ h0 h1 hk hn _).mono ?_
        rintro e w4 ⟨rfl, hb4⟩
        replace c0 := Law.keep0 hb4 (by simp) c0
        replace c1 := Law.keep0 hb4 (by simp) c1
        replace c2 := Law.keep0 hb4 (by simp) c2
        replace c3 := Law.keep0 hb4 (by simp) c3
        replace hB := Law.next0 hB (Nat.le_refl _) hb4 (by simp)
        clear hb4
        replace lc0 := Law.blk_lt c0
        replace lc2 := Law.blk_lt c2
        go_wp2_with fail
        refine (Ip.half_hi _ _ _ h0 h1 hk hn (by first | exact ht | rfl) _).mono ?_
        rintro e w5 ⟨rfl, hb5⟩
        obtain ⟨c4, c5⟩ := Law.box2b hb5 (by simp)
        replace c0 := Law.keep1 hb5 (by simp) c0
        replace c1 := Law.keep1 hb5 (by simp) c1
        replace c2 := Law.keep1 hb5 (by simp) c2
        replace c3 := Law.keep1 hb5 (by simp) c3
        replace hB := Law.next1 hB (Nat.le_refl _) hb5 (by simp)
        clear hb5
        replace lc0 := Law.blk_lt c0
        replace lc2 := Law.blk_lt c2
        have lc4 := Law.blk_lt c4
        have hR := Below.refl (w5.heap.size + 1) (w5.alloc (.cells #[.int .u32 (a + K (n + 1)), .int .i64 (n + 1)] 33))
        have d0 := Law.carry hR (by simp) (Law.cell_old c0)
        have d1 := Law.carry hR (by simp) (Law.cell_old c1)
        have d4 := Law.carry hR (by simp) (Law.cell_old c4)
        have d5 := Law.carry hR (by simp) (Law.cell_old c5)
        have d6 := Law.carry hR (by simp) (Law.cell_new w5 _ _ 0)
        have d7 := Law.carry hR (by simp) (Law.cell_new w5 _ _ 1)
        go_wp2
        have hz := Law.hz1 hR
        refine Law.wp_region_below (by kernel_rfl) (by kernel_rfl) hR ?_
        repeat (go_big_quiet_step (first | (go_at_call 20; with_reducible exact Law.calls_below hz (Ip.has_is fH h0 h1 x0 x1 _)) | (go_at_call 20; with_reducible exact Law.calls_below hz (Ip.has_is fX h0 h1 x0 x1 _)) | (go_at_call 20; with_reducible exact Law.calls_below hz (Ip.has_is fY y0 y1 x0 x1 _)) | (go_at_call 24; with_reducible exact Law.calls_below hz (Ip.meets_is g1 h0 h1 y0 y1 _)) | (go_at_call 22; with_reducible exact Law.calls_below hz (Ip.covers_is g2 h0 h1 h0 h1 _)) | (go_at_call 22; with_reducible exact Law.calls_below hz (Ip.covers_is g3 h0 h1 y0 y1 _))))
        refine wpQuiet_nil ?_
        rintro _ ⟨p, rfl⟩
        go_wp2
        refine Law.wp_region_below (by kernel_rfl) (by kernel_rfl) p.below ?_
        repeat (go_big_quiet_step (first | (go_at_call 26; with_reducible exact Law.calls_below hz (Ip.first_any _ _ _)) | (go_at_call 25; with_reducible exact Law.calls_below hz (Ip.last_is hl1.out h0 h1 m0 _)) | (go_at_call 25; with_reducible exact Law.calls_below hz (Ip.last_is hl2.out h0 h1 m1 _)) | (go_at_call 25; with_reducible exact Law.calls_below hz (Ip.last_is hl3.out y0 y1 m2 _)) | (go_at_call 20; with_reducible exact Law.calls_below hz (Ip.has_is fH h0 h1 x0 x1 _))))
        refine wpQuiet_nil ?_
        rintro _ ⟨q, rfl⟩
        go_wp2
        go_ret
        exact ⟨rfl, Law.next1 hB (Nat.le_refl _) q.below (Nat.le_succ _)⟩
theorem walk (a n t turn : Int) (wa : (Lit.int .u32 a).wf = true) (wn : (Lit.int .i64 n).wf = true) (wt : (Lit.int .u32 t).wf = true) (wr : (Lit.int .i64 turn).wf = true) (w : World) :
    Calls Try.prog 11 #[.agg #[.int .u32 a, .int .i64 n], .int .u32 t, .int .i64 turn] w fun e w' => e = .returned (.bool true) ∧ Below w.heap.size w w' := by
  obtain ⟨h0, h1⟩ := Law.bd_u32 wa
  obtain ⟨x0, x1⟩ := Law.bd_u32 wt
  cases hk : ok a n with
  | false => exact no_false a n t turn h0 h1 hk w
  | true =>
    obtain ⟨_, n1, _⟩ := ok_iff.1 hk
    by_cases h32 : n = 32
    · subst h32
      exact no_32 a t turn h0 h1 hk w
    · by_cases hz : turn = 0
      · subst hz
        exact yes_zero a n t h0 h1 x0 x1 hk (by omega) w
      · exact yes_one a n t turn h0 h1 x0 x1 hk (by omega) (by simpa using hz) w

/-! ### The row's step -/
set_option maxRecDepth 100000 in
theorem lifted (os : Os) (started : os.Started) (H : Type) (enc : TypeId × Value → H) :
    ReturnsInHanded {} Try.checked os 11 .any (Rows.ipHalvesSpec.pre6 enc Try.prog Try.f11 Rows.ipHalvesRow.domain false) (Rows.ipHalvesSpec.post enc Try.prog Try.f11 false true false false) := by
  refine returnsInHanded_of_change (C := Try.checked) Law.own started (by kernel_rfl) Try.func11
    (ChangeSpec.witness6 (enc := enc) (C := Try.checked) false ⟨#[], #[.agg #[.int .u32 0, .int .i64 0], .int .u32 0, .int .i64 0], []⟩ 8 (by kernel_rfl) (by kernel_rfl) (by kernel_rfl) (by kernel_rfl)) ?_
  intro W base args ds gs before hval0 hW hcnd _
  have hval : ∀ (j : Nat) t v, Try.f11.params[j]? = some t → args[j]? = some v → Value.okWide Try.prog W .any base t v := hval0
  have hW' := hW
  obtain ⟨p, q, hA0, hV, rfl, hfz, hnd⟩ := hW
  have hA : DataW.TrodAll enc Try.prog W 0 (fun _ => true) true Try.f11.params.toList args.toList ds p := hA0
  rw [Try.params11] at hA hval
  obtain ⟨v0, vs0, d0, ds0, p0, q0, hargs, rfl, rfl, h0, r0⟩ := trodAll_cons hA
  obtain ⟨v1, vs1, d1, ds1, p1, q1, rfl, rfl, rfl, h1, r1⟩ := trodAll_cons r0
  obtain ⟨v2, vs2, d2, ds2, p2, q2, rfl, rfl, rfl, h2, r2⟩ := trodAll_cons r1
  obtain ⟨rfl, rfl, rfl⟩ := trodAll_nil r2
  obtain rfl : args = #[v0, v1, v2] := by cases args; simp_all
  obtain ⟨rfl, rfl⟩ := trodVars_none hV
  obtain ⟨cs0, rfl, g0⟩ := Law.open_flat (n := 8) (ks := [.int .u32, .int .i64]) (by first | exact .inl ⟨_, Try.underlying33⟩ | exact .inr ⟨_, _, Try.underlying33⟩) (by kernel_rfl) (hval 0 33 v0 rfl rfl) h0
  obtain ⟨_, _, rfl, ⟨x0, rfl, w0⟩, ⟨_, _, rfl, ⟨x1, rfl, w1⟩, rfl⟩⟩ := g0
  obtain ⟨x2, rfl, rfl, rfl, w2⟩ := open_int Try.underlying25 (hval 1 25 v1 rfl rfl) h1
  obtain ⟨x3, rfl, rfl, rfl, w3⟩ := open_int Try.underlying3 (hval 2 3 v2 rfl rfl) h2
  clear hA0 hval0
  exact (walk x0 x1 x2 x3 w0 w1 w2 w3 W).mono fun e W' ⟨he, hg⟩ => ⟨_, he, Law.post_law Law.laidOut (by kernel_rfl) hW' rfl rfl Try.underlying4 rfl hg⟩

theorem over : Rows.ipHalvesRow.holds Try.pinned (OpenSpec.ofChange Rows.ipHalvesSpec) :=
  OpenClaim.holds_of_wide 11 Try.f11 rfl rfl rfl rfl rfl rfl rfl ⟨rfl, rfl, rfl, rfl, rfl⟩ rfl rfl rfl rfl rfl (by kernel_rfl) Try.func11 (by kernel_rfl)
    (of_decide_eq_true (by kernel_rfl)) (by unfold Func.isWrapper; first | (rw [if_pos (by decide +kernel)]; kernel_rfl) | (rw [if_neg (by decide +kernel)]; exact ⟨rfl, rfl⟩))
    (fun os started H enc _ => lifted os started H enc)

/-- THE STATEMENT. -/
theorem proved : Rows.IpHalvesSaid := over
#print axioms proved

end IpHalves
end Go.Proofs.Ytflpmchckniihaa
