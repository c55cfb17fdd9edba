/-
  Plain arithmetic of addresses and prefixes: no program in sight.
-/
import Derived.Test.YtgoplihimajjkaaDoorBits
namespace Go.Proofs.YtgoplihimajjkaaDoor
namespace Pl

/-- A prefix's length, brought between 0 and 32. -/
def cl (n : Int) : Nat := (max 0 (min n 32)).toNat
theorem cl_le (n : Int) : cl n ≤ 32 := by unfold cl; omega
theorem cl_of (n : Int) (h0 : 0 ≤ n) (h1 : n ≤ 32) : ((cl n : Nat) : Int) = n := by unfold cl; omega
/-- How many addresses lie in a prefix of that length. -/
def K (n : Int) : Int := ((2 ^ (32 - cl n) : Nat) : Int)
theorem K_pos (n : Int) : 0 < K n := by
  unfold K
  have := Nat.two_pow_pos (32 - cl n)
  omega
theorem K_le (n : Int) : K n ≤ 4294967296 := by
  unfold K
  have : 2 ^ (32 - cl n) ≤ 2 ^ 32 := Nat.pow_le_pow_right (by decide) (by omega)
  omega
/-- The mask of so many bits. -/
def mk (n : Int) : Int := 4294967296 - K n
theorem mk_lo (n : Int) : 0 ≤ mk n := by have := K_le n; unfold mk; omega
theorem mk_hi (n : Int) : mk n < 4294967296 := by have := K_pos n; unfold mk; omega
theorem mk_zero (n : Int) (h : n < 1) : mk n = 0 := by
  unfold mk K
  have : cl n = 0 := by unfold cl; omega
  rw [this]
  rfl
theorem mk_big (n : Int) (h : 32 < n) : mk n = 4294967295 := by
  unfold mk K
  have : cl n = 32 := by unfold cl; omega
  rw [this]
  rfl
theorem mk_mid (n : Int) (h : 1 ≤ n) (h2 : n ≤ 32) : 4294967295 * 2 ^ (32 - n).toNat % 4294967296 = mk n := by
  have hc : ((cl n : Nat) : Int) = n := cl_of n (by omega) h2
  have hk : (32 - n).toNat = 32 - cl n := by omega
  rw [hk]
  unfold mk K
  have h1 : 1 ≤ cl n := by omega
  have hlt : 2 ^ (32 - cl n) < 2 ^ 32 := Nat.pow_lt_pow_right (by decide) (by omega)
  have hp := Nat.two_pow_pos (32 - cl n)
  have e : ((2 : Int) ^ (32 - cl n)) = ((2 ^ (32 - cl n) : Nat) : Int) := by simp
  rw [e]
  omega

/-- 'a & Mask(n)'. -/
theorem and_mk (a n : Int) (h0 : 0 ≤ a) (h1 : a < 4294967296) : bits .and .u32 a (mk n) = a - a % K n := by
  rw [u32_and a (mk n) h0 h1 (mk_lo n) (mk_hi n)]
  obtain ⟨A, rfl⟩ := Int.eq_ofNat_of_zero_le h0
  have hA : A < 2 ^ 32 := by omega
  unfold mk K
  generalize hk : 32 - cl n = k
  have hk32 : k ≤ 32 := by omega
  have hp := Nat.two_pow_pos k
  have hle : 2 ^ k ≤ 2 ^ 32 := Nat.pow_le_pow_right (by decide) hk32
  have e1 : ((4294967296 : Int) - ((2 ^ k : Nat) : Int)).toNat = 2 ^ 32 - 2 ^ k := by omega
  rw [e1, Int.toNat_natCast]
  have e2 : A &&& (2 ^ 32 - 2 ^ k) = A - A % 2 ^ k := by
    apply Nat.eq_of_testBit_eq
    intro i
    have h2 : 2 ^ 32 - 2 ^ k = (2 ^ (32 - k) - 1) * 2 ^ k := by
      rw [Nat.sub_mul, ← Nat.pow_add, Nat.one_mul]
      congr 2
      omega
    have h3 : A - A % 2 ^ k = (A / 2 ^ k) * 2 ^ k := by
      have := Nat.div_add_mod A (2 ^ k)
      rw [Nat.mul_comm] at this
      omega
    rw [Nat.testBit_and, h2, h3, Nat.testBit_mul_two_pow, Nat.testBit_mul_two_pow, Nat.testBit_two_pow_sub_one, Nat.testBit_div_two_pow]
    by_cases hi : k ≤ i
    · simp only [hi, decide_true, Bool.true_and]
      by_cases h32 : i < 32
      · have : i - k < 32 - k := by omega
        simp [this, show i - k + k = i from by omega]
      · have hz : A.testBit i = false := Nat.testBit_lt_two_pow (Nat.lt_of_lt_of_le hA (Nat.pow_le_pow_right (by decide) (by omega)))
        simp [hz, show i - k + k = i from by omega]
    · simp [hi]
  rw [e2]
  have := Nat.mod_le A (2 ^ k)
  omega

/-- 'a &^ Mask(n)'. -/
theorem andNot_mk (a n : Int) (h0 : 0 ≤ a) (h1 : a < 4294967296) : bits .andNot .u32 a (mk n) = a % K n := by
  rw [u32_andNot a (mk n) h0 h1 (mk_lo n) (mk_hi n)]
  obtain ⟨A, rfl⟩ := Int.eq_ofNat_of_zero_le h0
  unfold mk K
  generalize hk : 32 - cl n = k
  have hp := Nat.two_pow_pos k
  have hle : 2 ^ k ≤ 2 ^ 32 := Nat.pow_le_pow_right (by decide) (by omega)
  have e1 : 4294967295 - ((4294967296 : Int) - ((2 ^ k : Nat) : Int)).toNat = 2 ^ k - 1 := by omega
  rw [e1, Int.toNat_natCast, Nat.and_two_pow_sub_one_eq_mod]
  simp

/-- 'a | ^Mask(n)'. -/
theorem or_notmk (a n : Int) (h0 : 0 ≤ a) (h1 : a < 4294967296) : bits .or .u32 a (4294967295 - mk n) = a - a % K n + (K n - 1) := by
  have e : (4294967295 - mk n) = K n - 1 := by unfold mk; omega
  have kp := K_pos n
  have kl := K_le n
  rw [e, u32_or a (K n - 1) h0 h1 (by omega) (by omega)]
  obtain ⟨A, rfl⟩ := Int.eq_ofNat_of_zero_le h0
  unfold K
  generalize hk : 32 - cl n = k
  have hp := Nat.two_pow_pos k
  have e1 : (((2 ^ k : Nat) : Int) - 1).toNat = 2 ^ k - 1 := by omega
  rw [e1, Int.toNat_natCast]
  have e2 : A ||| (2 ^ k - 1) = A - A % 2 ^ k + (2 ^ k - 1) := by
    have h3 : A - A % 2 ^ k = 2 ^ k * (A / 2 ^ k) := by
      have := Nat.div_add_mod A (2 ^ k)
      omega
    rw [h3, Nat.two_pow_add_eq_or_of_lt (by omega)]
    apply Nat.eq_of_testBit_eq
    intro i
    rw [Nat.testBit_or, Nat.testBit_or, Nat.testBit_two_pow_sub_one, Nat.mul_comm, Nat.testBit_mul_two_pow, Nat.testBit_div_two_pow]
    by_cases hi : k ≤ i
    · simp [hi, show i - k + k = i from by omega]
    · simp [show i < k from by omega]
  rw [e2]
  have := Nat.mod_le A (2 ^ k)
  omega

/-- A prefix is in its form. -/
def ok (a n : Int) : Bool := decide (0 ≤ n ∧ n ≤ 32 ∧ a % K n = 0)
theorem ok_iff {a n : Int} : ok a n = true ↔ 0 ≤ n ∧ n ≤ 32 ∧ a % K n = 0 := by simp [ok]
theorem ok_not {a n : Int} : ok a n = false ↔ ¬ (0 ≤ n ∧ n ≤ 32 ∧ a % K n = 0) := by simp [ok]
/-- An address lies in a prefix. -/
def has (a n x : Int) : Bool := ok a n && decide (x - x % K n = a)
/-- All of the second one lies in the first. -/
def covers (a n b m : Int) : Bool := ok b m && decide (n ≤ m) && has a n b
def meets (a n b m : Int) : Bool := covers a n b m || covers b m a n

theorem K_of (n : Int) (h0 : 0 ≤ n) (h1 : n ≤ 32) : K n = 2 ^ (32 - n).toNat := by
  unfold K
  have : 32 - cl n = (32 - n).toNat := by have := cl_of n h0 h1; omega
  rw [this]
  simp
theorem K_half (n : Int) (h0 : 0 ≤ n) (h1 : n < 32) : K n = 2 * K (n + 1) := by
  rw [K_of n h0 (by omega), K_of (n + 1) (by omega) (by omega), show (32 - n).toNat = (32 - (n + 1)).toNat + 1 from by omega, Int.pow_succ]
  omega
/-- The upper half's first address. -/
theorem or_half (a n : Int) (h0 : 0 ≤ a) (h1 : a < 4294967296) (hk : ok a n = true) (hn : n < 32) : bits .or .u32 a (2 ^ (31 - n).toNat % 4294967296) = a + K (n + 1) := by
  obtain ⟨n0, _, hm⟩ := ok_iff.1 hk
  have e1 : K (n + 1) = 2 ^ (31 - n).toNat := by rw [K_of (n + 1) (by omega) (by omega)]; congr 1; omega
  have hKn := K_half n n0 hn
  have kp := K_pos (n + 1)
  have kl := K_le n
  have e2 : (2 : Int) ^ (31 - n).toNat % 4294967296 = K (n + 1) := by rw [← e1]; omega
  rw [e2]
  have hd : a % K (n + 1) = 0 := by
    have : K (n + 1) ∣ K n := ⟨2, by omega⟩
    rw [← Int.emod_emod_of_dvd a this, hm, Int.zero_emod]
  rw [u32_or a (K (n + 1)) h0 h1 (by omega) (by omega)]
  obtain ⟨A, rfl⟩ := Int.eq_ofNat_of_zero_le h0
  rw [hKn] at hm
  rw [e1] at hm ⊢
  generalize (31 - n).toNat = k at *
  have e3 : ((2 : Int) ^ k) = ((2 ^ k : Nat) : Int) := by simp
  rw [e3] at hm ⊢
  rw [Int.toNat_natCast, Int.toNat_natCast]
  have hmod : A % 2 ^ (k + 1) = 0 := by
    rw [Nat.pow_succ, Nat.mul_comm]
    exact_mod_cast hm
  have hp := Nat.two_pow_pos k
  have hq : A = 2 ^ (k + 1) * (A / 2 ^ (k + 1)) := by have := Nat.div_add_mod A (2 ^ (k + 1)); omega
  have : A ||| 2 ^ k = A + 2 ^ k := by
    rw [hq, ← Nat.two_pow_add_eq_or_of_lt (by rw [Nat.pow_succ]; omega)]
  rw [this]
  simp
end Pl
end Go.Proofs.YtgoplihimajjkaaDoor
