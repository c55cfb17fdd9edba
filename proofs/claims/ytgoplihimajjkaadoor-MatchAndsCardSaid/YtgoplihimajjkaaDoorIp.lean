/-
  The functions of package ip: what each answers. Conditions: that an address is a number of 32 bits.
-/
import Derived.Test.YtgoplihimajjkaaDoorLaw
import Derived.Test.YtgoplihimajjkaaDoorIpMath
import Derived.Lib.Hide
namespace Go.Proofs.YtgoplihimajjkaaDoor
open Go.RowKit
namespace Ip
open Pl

theorem mask_any (n : Int) (w : World) :
    Calls Tryd.prog 34 #[.int .i64 n] w fun e w' => e = .returned (.int .u32 (mk n)) ∧ w = w' := by
  by_cases h : n < 1
  · have e := mk_zero n h
    go_enter Tryd.func34, Tryd.ntmps34
    go_wp2
    go_ret
    exact ⟨by rw [e]; rfl, rfl⟩
  · by_cases h2 : 32 < n
    · have e := mk_big n h2
      go_enter Tryd.func34, Tryd.ntmps34
      go_wp2
      go_ret
      exact ⟨rfl, rfl⟩
    · have e := mk_mid n (by omega) (by omega)
      go_enter Tryd.func34, Tryd.ntmps34
      go_wp2
      go_ret
      exact ⟨rfl, rfl⟩

def chk (a n : Int) : Int := if ok a n then 0 else 1

theorem chk_yes {a n : Int} (h : ok a n = true) : chk a n = 0 := by unfold chk; rw [if_pos h]
theorem chk_no {a n : Int} (h : ok a n = false) : chk a n = 1 := by unfold chk; rw [if_neg (by simp [h])]

theorem check_any (a n : Int) (h0 : 0 ≤ a) (h1 : a < 4294967296) (w : World) :
    Calls Tryd.prog 26 #[.agg #[.int .u32 a, .int .i64 n]] w fun e w' => e = .returned (.int .i64 (chk a n)) ∧ Below w.heap.size w w' := by
  have c0 := fun p => (Law.box2 w (.int .u32 a) (.int .i64 n) 53 p).1
  have c1 := fun p => (Law.box2 w (.int .u32 a) (.int .i64 n) 53 p).2
  have ea := andNot_mk a n h0 h1
  by_cases hl : n < 0
  · have hr : chk a n = 1 := chk_no (ok_not.2 (by omega))
    have HR := Lib.hid hr
    clear hr ea
    go_enter Tryd.func26, Tryd.ntmps26
    go_wp2
    refine Law.wp_region_below (B := w.heap.size + 1) (by kernel_rfl) (by kernel_rfl) (Below.refl _ _) ?_
    repeat (go_big_quiet_step ((go_at_call 34; exact Law.calls_same (mask_any _ _))))
    refine wpQuiet_nil ?_
    rintro _ ⟨p, rfl⟩
    go_wp2
    go_ret
    exact ⟨by rw [HR.out]; rfl, Law.below_box (Nat.le_succ _) p.below⟩
  · by_cases hg : 32 < n
    · have hr : chk a n = 1 := chk_no (ok_not.2 (by omega))
      have HR := Lib.hid hr
      have d0 : decide (n < 0) = false := by simp; omega
      have d1 : decide (32 < n) = true := by simp; omega
      clear hr ea hl
      go_enter Tryd.func26, Tryd.ntmps26
      go_wp2
      refine Law.wp_region_below (B := w.heap.size + 1) (by kernel_rfl) (by kernel_rfl) (Below.refl _ _) ?_
      repeat (go_big_quiet_step ((go_at_call 34; exact Law.calls_same (mask_any _ _))))
      refine wpQuiet_nil ?_
      rintro _ ⟨p, rfl⟩
      go_wp2
      go_ret
      exact ⟨by rw [HR.out]; rfl, Law.below_box (Nat.le_succ _) p.below⟩
    · have l0 : 0 ≤ n := by omega
      have l1 : n ≤ 32 := by omega
      have d0 : decide (n < 0) = false := by simp; omega
      have d1 : decide (32 < n) = false := by simp; omega
      clear hl hg
      by_cases hm : a % K n = 0
      · have hr : chk a n = 0 := chk_yes (ok_iff.2 ⟨by omega, by omega, hm⟩)
        have HR := Lib.hid hr
        have ht : (a % K n != 0) = false := by simp [hm]
        clear hr hm
        go_enter Tryd.func26, Tryd.ntmps26
        go_wp2
        refine Law.wp_region_below (B := w.heap.size + 1) (by kernel_rfl) (by kernel_rfl) (Below.refl _ _) ?_
        repeat (go_big_quiet_step ((go_at_call 34; exact Law.calls_same (mask_any _ _))))
        refine wpQuiet_nil ?_
        rintro _ ⟨p, rfl⟩
        go_wp2
        go_ret
        exact ⟨by rw [HR.out]; rfl, Law.below_box (Nat.le_succ _) p.below⟩
      · have hr : chk a n = 1 := chk_no (ok_not.2 (by omega))
        have HR := Lib.hid hr
        have ht : (a % K n != 0) = true := by simp [hm]
        clear hr hm
        go_enter Tryd.func26, Tryd.ntmps26
        go_wp2
        refine Law.wp_region_below (B := w.heap.size + 1) (by kernel_rfl) (by kernel_rfl) (Below.refl _ _) ?_
        repeat (go_big_quiet_step ((go_at_call 34; exact Law.calls_same (mask_any _ _))))
        refine wpQuiet_nil ?_
        rintro _ ⟨p, rfl⟩
        go_wp2
        go_ret
        exact ⟨by rw [HR.out]; rfl, Law.below_box (Nat.le_succ _) p.below⟩
end Ip
end Go.Proofs.YtgoplihimajjkaaDoor
