/-
  The functions of package ip: what Cmp and Half answer. Conditions: that an address is a number of 32 bits.
-/
import Derived.Test.YtflpmchckniihaaIpB
namespace Go.Proofs.Ytflpmchckniihaa
open Go.RowKit
namespace Ip
open Pl

theorem frozen2 (w : World) (cs cs' : Array Value) (t t' : TypeId) (i : Nat) : ((w.alloc (.cells cs t)).alloc (.cells cs' t')).frozen? ⟨w.heap.size + 1, i, none⟩ = false := by
  have := Law.frozen_new (w.alloc (.cells cs t)) cs' t' i
  rwa [show (w.alloc (.cells cs t)).heap.size = w.heap.size + 1 from by simp] at this

/-- The order of prefixes: by address, then by length. -/
def cmpP (a n b m : Int) : Int := if a < b ∨ (a = b ∧ n < m) then -1 else if a = b ∧ n = m then 0 else 1

theorem cmp_any (a n b m : Int) (w : World) :
    Calls Try.prog 27 #[.agg #[.int .u32 a, .int .i64 n], .agg #[.int .u32 b, .int .i64 m]] w fun e w' => e = .returned (.int .i64 (cmpP a n b m)) ∧ Below w.heap.size w w' := by
  have hbx : Below w.heap.size w ((w.alloc (.cells #[.int .u32 a, .int .i64 n] 33)).alloc (.cells #[.int .u32 b, .int .i64 m] 33)) := below_box2 (Nat.le_refl _) (Below.refl _ _)
  rcases Int.lt_trichotomy a b with h | h | h
  · have HR := Lib.hid (show cmpP a n b m = -1 by unfold cmpP; rw [if_pos (.inl h)])
    go_enter Try.func27, Try.ntmps27
    go_wp2
    go_ret
    exact ⟨by rw [HR.out]; rfl, hbx⟩
  · subst h
    rcases Int.lt_trichotomy n m with h2 | h2 | h2
    · have HR := Lib.hid (show cmpP a n a m = -1 by unfold cmpP; rw [if_pos (.inr ⟨rfl, h2⟩)])
      have e1 : (a == a) = true := by simp
      go_enter Try.func27, Try.ntmps27
      go_wp2
      go_ret
      exact ⟨by rw [HR.out]; rfl, hbx⟩
    · subst h2
      have HR := Lib.hid (show cmpP a n a n = 0 by unfold cmpP; rw [if_neg (by omega), if_pos ⟨rfl, rfl⟩])
      have e1 : (a == a) = true := by simp
      go_enter Try.func27, Try.ntmps27
      go_wp2
      go_ret
      exact ⟨by rw [HR.out]; rfl, hbx⟩
    · have HR := Lib.hid (show cmpP a n a m = 1 by unfold cmpP; rw [if_neg (by omega), if_neg (by omega)])
      have e1 : (a == a) = true := by simp
      have e2 : (n == m) = false := by simp; omega
      go_enter Try.func27, Try.ntmps27
      go_wp2
      go_ret
      exact ⟨by rw [HR.out]; rfl, hbx⟩
  · have HR := Lib.hid (show cmpP a n b m = 1 by unfold cmpP; rw [if_neg (by omega), if_neg (by omega)])
    have e1 : (a == b) = false := by simp; omega
    go_enter Try.func27, Try.ntmps27
    go_wp2
    go_ret
    exact ⟨by rw [HR.out]; rfl, hbx⟩

theorem half_no (a n turn : Int) (h0 : 0 ≤ a) (h1 : a < 4294967296) (hn : ok a n = false ∨ n = 32) (w : World) :
    Calls Try.prog 28 #[.agg #[.int .u32 a, .int .i64 n], .int .i64 turn] w fun e w' => e = .returned (.tuple #[.agg #[.int .u32 0, .int .i64 0], .int .i64 1]) ∧ Below w.heap.size w w' := by
  by_cases hk : ok a n = true
  · have hc := chk_yes hk
    have hn32 : n = 32 := by rcases hn with h | h; (· rw [h] at hk; cases hk); exact h
    subst hn32
    clear hk hn
    go_enter Try.func28, Try.ntmps28
    go_wp2_with fail
    refine (check_any _ _ h0 h1 _).mono ?_
    rintro e w1 ⟨rfl, hb1⟩
    obtain ⟨c0, c1, c2, c3⟩ := box22 _ _ _ _ _ _ _ hb1 (by simp)
    have f2 : w1.frozen? ⟨w.heap.size + 1, 0, none⟩ = false := (hb1.frozen (p := ⟨w.heap.size + 1, 0, none⟩) (by simp)).trans (frozen2 _ _ _ _ _ 0)
    have f3 : w1.frozen? ⟨w.heap.size + 1, 1, none⟩ = false := (hb1.frozen (p := ⟨w.heap.size + 1, 1, none⟩) (by simp)).trans (frozen2 _ _ _ _ _ 1)
    have hb := below_box2 (by simp; omega) hb1
    clear hb1
    go_wp2
    refine bodyPost_ret (v := .tuple #[.agg #[.int .u32 0, .int .i64 0], .int .i64 1]) (by simp [results, Try.results28, go_sem, c2, c3]) rfl ⟨rfl, ?_⟩
    repeat (first | exact hb | refine Below.setCell ?_ (by simp) _)
  · have hc := chk_no (by simpa using hk : ok a n = false)
    clear hk hn
    go_enter Try.func28, Try.ntmps28
    go_wp2_with fail
    refine (check_any _ _ h0 h1 _).mono ?_
    rintro e w1 ⟨rfl, hb1⟩
    obtain ⟨c0, c1, c2, c3⟩ := box22 _ _ _ _ _ _ _ hb1 (by simp)
    have f2 : w1.frozen? ⟨w.heap.size + 1, 0, none⟩ = false := (hb1.frozen (p := ⟨w.heap.size + 1, 0, none⟩) (by simp)).trans (frozen2 _ _ _ _ _ 0)
    have f3 : w1.frozen? ⟨w.heap.size + 1, 1, none⟩ = false := (hb1.frozen (p := ⟨w.heap.size + 1, 1, none⟩) (by simp)).trans (frozen2 _ _ _ _ _ 1)
    have hb := below_box2 (by simp; omega) hb1
    clear hb1
    go_wp2
    refine bodyPost_ret (v := .tuple #[.agg #[.int .u32 0, .int .i64 0], .int .i64 1]) (by simp [results, Try.results28, go_sem, c2, c3]) rfl ⟨rfl, ?_⟩
    repeat (first | exact hb | refine Below.setCell ?_ (by simp) _)

theorem half_lo (a n : Int) (h0 : 0 ≤ a) (h1 : a < 4294967296) (hk : ok a n = true) (hn : n < 32) (w : World) :
    Calls Try.prog 28 #[.agg #[.int .u32 a, .int .i64 n], .int .i64 0] w fun e w' => e = .returned (.tuple #[.agg #[.int .u32 a, .int .i64 (n + 1)], .int .i64 0]) ∧ Below w.heap.size w w' := by
    have hc := chk_yes hk
    have hn0 : 0 ≤ n := (ok_iff.1 hk).1
    have hnn : (n == 32) = false := by simp; omega
    clear hk
    go_enter Try.func28, Try.ntmps28
    go_wp2_with fail
    refine (check_any _ _ h0 h1 _).mono ?_
    rintro e w1 ⟨rfl, hb1⟩
    obtain ⟨c0, c1, c2, c3⟩ := box22 _ _ _ _ _ _ _ hb1 (by simp)
    have f2 : w1.frozen? ⟨w.heap.size + 1, 0, none⟩ = false := (hb1.frozen (p := ⟨w.heap.size + 1, 0, none⟩) (by simp)).trans (frozen2 _ _ _ _ _ 0)
    have f3 : w1.frozen? ⟨w.heap.size + 1, 1, none⟩ = false := (hb1.frozen (p := ⟨w.heap.size + 1, 1, none⟩) (by simp)).trans (frozen2 _ _ _ _ _ 1)
    have hb := below_box2 (by simp; omega) hb1
    clear hb1
    go_wp2
    refine bodyPost_ret (v := .tuple #[.agg #[.int .u32 a, .int .i64 (n + 1)], .int .i64 0]) (by simp [results, Try.results28, go_sem, c2, c3]) rfl ⟨rfl, ?_⟩
    repeat (first | exact hb | refine Below.setCell ?_ (by simp) _)

theorem half_hi (a n turn : Int) (h0 : 0 ≤ a) (h1 : a < 4294967296) (hk : ok a n = true) (hn : n < 32) (ht : (turn == 0) = false) (w : World) :
    Calls Try.prog 28 #[.agg #[.int .u32 a, .int .i64 n], .int .i64 turn] w fun e w' => e = .returned (.tuple #[.agg #[.int .u32 (a + K (n + 1)), .int .i64 (n + 1)], .int .i64 0]) ∧ Below w.heap.size w w' := by
    have hc := chk_yes hk
    have hn0 : 0 ≤ n := (ok_iff.1 hk).1
    have hnn : (n == 32) = false := by simp; omega
    have eh := or_half a n h0 h1 hk hn
    have hw1 : IntKind.i64.wrap (31 - n) = 31 - n := IntWalk.i64_in _ (by omega)
    have hw2 : IntKind.i64.wrap (n + 1) = n + 1 := IntWalk.i64_in _ (by omega)
    have hw3 : 0 ≤ 31 - n := by omega
    clear hk
    go_enter Try.func28, Try.ntmps28
    go_wp2_with fail
    refine (check_any _ _ h0 h1 _).mono ?_
    rintro e w1 ⟨rfl, hb1⟩
    obtain ⟨c0, c1, c2, c3⟩ := box22 _ _ _ _ _ _ _ hb1 (by simp)
    have f2 : w1.frozen? ⟨w.heap.size + 1, 0, none⟩ = false := (hb1.frozen (p := ⟨w.heap.size + 1, 0, none⟩) (by simp)).trans (frozen2 _ _ _ _ _ 0)
    have f3 : w1.frozen? ⟨w.heap.size + 1, 1, none⟩ = false := (hb1.frozen (p := ⟨w.heap.size + 1, 1, none⟩) (by simp)).trans (frozen2 _ _ _ _ _ 1)
    have hb := below_box2 (by simp; omega) hb1
    clear hb1
    go_wp2
    go_region
    all_goals go_wp2
    refine bodyPost_ret (v := .tuple #[.agg #[.int .u32 (a + K (n + 1)), .int .i64 (n + 1)], .int .i64 0]) (by simp [results, Try.results28, go_sem, c2, c3]) rfl ⟨rfl, ?_⟩
    repeat (first | exact hb | refine Below.drew ?_ | refine Below.setCell ?_ (by simp) _)

theorem last_ok (a n : Int) (h0 : 0 ≤ a) (h1 : a < 4294967296) (hm : a % K n = 0) (w : World) :
    Calls Try.prog 25 #[.agg #[.int .u32 a, .int .i64 n]] w fun e w' => e = .returned (.int .u32 (a + (K n - 1))) ∧ Below w.heap.size w w' :=
  (last_any a n h0 h1 w).mono fun e w' ⟨he, hb⟩ => ⟨by rw [he, hm, Int.sub_zero], hb⟩

theorem has_is {v : Bool} {a n x : Int} (hh : has a n x = v) (h0 : 0 ≤ a) (h1 : a < 4294967296) (x0 : 0 ≤ x) (x1 : x < 4294967296) (w : World) :
    Calls Try.prog 20 #[.agg #[.int .u32 a, .int .i64 n], .int .u32 x] w fun e w' => e = .returned (.bool v) ∧ Below w.heap.size w w' := hh ▸ has_any a n x h0 h1 x0 x1 w
theorem covers_is {v : Bool} {a n b m : Int} (hh : covers a n b m = v) (h0 : 0 ≤ a) (h1 : a < 4294967296) (b0 : 0 ≤ b) (b1 : b < 4294967296) (w : World) :
    Calls Try.prog 22 #[.agg #[.int .u32 a, .int .i64 n], .agg #[.int .u32 b, .int .i64 m]] w fun e w' => e = .returned (.bool v) ∧ Below w.heap.size w w' := hh ▸ covers_any a n b m h0 h1 b0 b1 w
theorem meets_is {v : Bool} {a n b m : Int} (hh : meets a n b m = v) (h0 : 0 ≤ a) (h1 : a < 4294967296) (b0 : 0 ≤ b) (b1 : b < 4294967296) (w : World) :
    Calls Try.prog 24 #[.agg #[.int .u32 a, .int .i64 n], .agg #[.int .u32 b, .int .i64 m]] w fun e w' => e = .returned (.bool v) ∧ Below w.heap.size w w' := hh ▸ meets_any a n b m h0 h1 b0 b1 w

theorem last_is {a n l : Int} (hl : a + (K n - 1) = l) (h0 : 0 ≤ a) (h1 : a < 4294967296) (hm : a % K n = 0) (w : World) :
    Calls Try.prog 25 #[.agg #[.int .u32 a, .int .i64 n]] w fun e w' => e = .returned (.int .u32 l) ∧ Below w.heap.size w w' := hl ▸ last_ok a n h0 h1 hm w

theorem cmpP_neg (a n b m : Int) : cmpP b m a n = - cmpP a n b m := by
  unfold cmpP
  rcases Int.lt_trichotomy a b with h | h | h <;> rcases Int.lt_trichotomy n m with h2 | h2 | h2 <;> (repeat (split)) <;> omega
theorem cmpP_lt {a n b m : Int} : cmpP a n b m = -1 ↔ a < b ∨ (a = b ∧ n < m) := by
  unfold cmpP
  constructor
  · intro h
    split at h
    · assumption
    · split at h <;> omega
  · intro h
    rw [if_pos h]
theorem cmpP_trans {a n b m c k : Int} (h1 : cmpP a n b m = -1) (h2 : cmpP b m c k = -1) : cmpP a n c k = -1 := by
  rw [cmpP_lt] at *
  omega
theorem cmpP_cases (a n b m : Int) : cmpP a n b m = -1 ∨ cmpP a n b m = 0 ∨ cmpP a n b m = 1 := by
  unfold cmpP
  split
  · exact .inl rfl
  · split
    · exact .inr (.inl rfl)
    · exact .inr (.inr rfl)
/-- Who is covered stands behind. -/
theorem covers_le {a n b m : Int} (h : covers a n b m = true) : a < b ∨ (a = b ∧ n ≤ m) := by
  simp only [covers, has, Bool.and_eq_true, decide_eq_true_eq] at h
  obtain ⟨⟨_, hnm⟩, _, hx⟩ := h
  have := K_pos n
  have := Int.emod_nonneg b (show K n ≠ 0 by omega)
  omega

end Ip
end Go.Proofs.Ytflpmchckniihaa
