/-
  Plain arithmetic for the laws of layer 1: halves, ranges, nests. No program in sight.
-/
import Derived.Test.YtflpmchckniihaaRefMath
namespace Go.Proofs.Ytflpmchckniihaa
namespace Pl

theorem ok_mul {a n : Int} (h : ok a n = true) : a = K n * (a / K n) := by
  have := (ok_iff.1 h).2.2
  have h2 := Int.mul_ediv_add_emod a (K n)
  omega
theorem has_div {a n : Int} (h : ok a n = true) (t : Int) : has a n t = decide (t / K n = a / K n) := by
  have kp := K_pos n
  have ha := ok_mul h
  have ht := Int.mul_ediv_add_emod t (K n)
  unfold has
  rw [h, Bool.true_and]
  apply decide_eq_decide.2
  constructor
  · intro e
    have : K n * (t / K n) = K n * (a / K n) := by omega
    exact Int.eq_of_mul_eq_mul_left (by omega) this
  · intro e
    rw [e] at ht
    omega
/-- A prefix is all addresses from its first to its last. -/
theorem has_range {a n : Int} (h : ok a n = true) (t : Int) : has a n t = decide (a ≤ t ∧ t ≤ a + (K n - 1)) := by
  have kp := K_pos n
  have ha := ok_mul h
  rw [has_div h]
  apply decide_eq_decide.2
  constructor
  · intro e
    have ht := Int.mul_ediv_add_emod t (K n)
    have h1 := Int.emod_nonneg t (show K n ≠ 0 by omega)
    have h2 := Int.emod_lt_of_pos t kp
    rw [e] at ht
    omega
  · rintro ⟨h1, h2⟩
    have e : t = (t - a) + K n * (a / K n) := by omega
    rw [e, Int.add_mul_ediv_left _ _ (by omega), Int.ediv_eq_zero_of_lt (by omega) (by omega)]
    omega

theorem ok_top {a n : Int} (h : ok a n = true) (h1 : a < 4294967296) : a + K n ≤ 4294967296 := by
  have kp := K_pos n
  have ha := ok_mul h
  have hd : K n * (4294967296 / K n) = 4294967296 := by
    have hd : K n ∣ 4294967296 := by
      unfold K
      refine ⟨((2 ^ cl n : Nat) : Int), ?_⟩
      have := cl_le n
      have e : 2 ^ (32 - cl n) * 2 ^ cl n = 2 ^ 32 := by rw [← Nat.pow_add]; congr 1; omega
      have e2 : ((2 ^ (32 - cl n) * 2 ^ cl n : Nat) : Int) = ((2 ^ 32 : Nat) : Int) := by rw [e]
      rw [Int.natCast_mul] at e2
      omega
    exact Int.mul_ediv_cancel' hd
  have hlt : K n * (a / K n) < K n * (4294967296 / K n) := by omega
  have hlt2 : a / K n < 4294967296 / K n := Int.lt_of_mul_lt_mul_left hlt (by omega)
  have : K n * (a / K n + 1) ≤ K n * (4294967296 / K n) := Int.mul_le_mul_of_nonneg_left (by omega) (by omega)
  rw [Int.mul_add] at this
  omega

section
variable {a n : Int} (h : ok a n = true) (hn : n < 32)
include h hn
theorem half_ok_lo : ok a (n + 1) = true := by
  obtain ⟨n0, _, hm⟩ := ok_iff.1 h
  have hK := K_half n n0 hn
  refine ok_iff.2 ⟨by omega, by omega, ?_⟩
  have : K (n + 1) ∣ K n := ⟨2, by omega⟩
  rw [← Int.emod_emod_of_dvd a this, hm, Int.zero_emod]
theorem half_ok_hi : ok (a + K (n + 1)) (n + 1) = true := by
  obtain ⟨n0, _, hm⟩ := ok_iff.1 (half_ok_lo h hn)
  refine ok_iff.2 ⟨by omega, by omega, ?_⟩
  rw [Int.add_emod_right]
  exact hm
theorem half_has_lo (t : Int) : has a (n + 1) t = decide (a ≤ t ∧ t ≤ a + (K (n + 1) - 1)) := has_range (half_ok_lo h hn) t
theorem half_has_hi (t : Int) : has (a + K (n + 1)) (n + 1) t = decide (a + K (n + 1) ≤ t ∧ t ≤ a + K (n + 1) + (K (n + 1) - 1)) := has_range (half_ok_hi h hn) t
theorem half_K : K n = 2 * K (n + 1) := K_half n (ok_iff.1 h).1 hn
/-- What lies in a prefix lies in one of its halves. -/
theorem half_or (t : Int) : has a n t = (has a (n + 1) t || has (a + K (n + 1)) (n + 1) t) := by
  have := half_K h hn
  have := K_pos (n + 1)
  rw [has_range h, half_has_lo h hn, half_has_hi h hn, ← Bool.decide_or]
  apply decide_eq_decide.2
  omega
theorem half_and (t : Int) : (has a (n + 1) t && has (a + K (n + 1)) (n + 1) t) = false := by
  have := K_pos (n + 1)
  rw [half_has_lo h hn, half_has_hi h hn, ← Bool.decide_and, decide_eq_false_iff_not]
  omega
theorem half_meets : meets a (n + 1) (a + K (n + 1)) (n + 1) = false := by
  have := K_pos (n + 1)
  unfold meets covers
  rw [half_has_lo h hn, half_has_hi h hn, half_ok_lo h hn, half_ok_hi h hn]
  simp
  omega
theorem half_cov_lo : covers a n a (n + 1) = true := by
  have := K_pos n
  unfold covers
  rw [half_ok_lo h hn, has_range h]
  simp
  omega
theorem half_cov_hi : covers a n (a + K (n + 1)) (n + 1) = true := by
  have := K_pos (n + 1)
  have := half_K h hn
  unfold covers
  rw [half_ok_hi h hn, has_range h]
  simp
  omega
theorem half_mod_lo : a % K (n + 1) = 0 := (ok_iff.1 (half_ok_lo h hn)).2.2
theorem half_mod_hi : (a + K (n + 1)) % K (n + 1) = 0 := (ok_iff.1 (half_ok_hi h hn)).2.2
theorem half_lt (h1 : a < 4294967296) : a + K (n + 1) < 4294967296 := by
  have hK := half_K h hn
  have kp := K_pos (n + 1)
  have := ok_top h h1
  omega
end

/-- The bits of a mask. -/
theorem mask_bits : ∀ n, n < 33 → ∀ i, i < 32 → (2 ^ 32 - 2 ^ (32 - n)) / 2 ^ (31 - i) % 2 = if i < n then 1 else 0 := by decide +kernel
theorem mk_bit (n : Nat) (hn : n ≤ 32) (i : Nat) (hi : i < 32) : mk n / 2 ^ (31 - i) % 2 = if i < n then 1 else 0 := by
  have h := mask_bits n (by omega) i hi
  have hc : cl n = n := by unfold cl; omega
  have hp : 2 ^ (32 - n) ≤ 2 ^ 32 := Nat.pow_le_pow_right (by decide) (by omega)
  have e : mk n = ((2 ^ 32 - 2 ^ (32 - n) : Nat) : Int) := by
    unfold mk K
    rw [hc]
    omega
  rw [e, bit_cast, h]
  split <;> rfl
end Pl
end Go.Proofs.Ytflpmchckniihaa
