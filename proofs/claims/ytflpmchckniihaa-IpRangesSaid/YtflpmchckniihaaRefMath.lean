/-
  Plain arithmetic of bits: masks as sums, prefixes bit by bit. No program in sight.
-/
import Derived.Test.YtflpmchckniihaaIpMath
namespace Go.Proofs.Ytflpmchckniihaa
namespace Pl

/-- The number of the first k bits of z. -/
def numTo (z : Nat → Int) : Nat → Int
  | 0 => 0
  | k + 1 => 2 * numTo z k + z k
theorem numTo_bd (z : Nat → Int) (hz : ∀ i, 0 ≤ z i ∧ z i ≤ 1) : ∀ k, 0 ≤ numTo z k ∧ numTo z k < 2 ^ k
  | 0 => ⟨by simp [numTo], by simp [numTo]⟩
  | k + 1 => by
    have := numTo_bd z hz k
    have h := hz k
    rw [Int.pow_succ]
    unfold numTo
    omega
theorem numTo_bd32 (z : Nat → Int) (hz : ∀ i, 0 ≤ z i ∧ z i ≤ 1) (k : Nat) (hk : k < 32) : 0 ≤ numTo z k ∧ numTo z k < 2147483648 := by
  have := numTo_bd z hz k
  have h2 : 2 ^ k ≤ 2 ^ 31 := Nat.pow_le_pow_right (by decide) (by omega)
  have e : ((2 : Int) ^ k) = ((2 ^ k : Nat) : Int) := by simp
  omega

theorem numTo_mask (n : Int) : ∀ k, numTo (fun i => if (i : Int) < n then 1 else 0) k = 2 ^ k - 2 ^ (k - min k (max 0 n).toNat)
  | 0 => by simp [numTo]
  | k + 1 => by
    unfold numTo
    rw [numTo_mask n k]
    by_cases h : (k : Int) < n
    · rw [if_pos h, show k - min k (max 0 n).toNat = 0 from by omega, show k + 1 - min (k + 1) (max 0 n).toNat = 0 from by omega, Int.pow_succ]
      simp
      omega
    · rw [if_neg h, show k + 1 - min (k + 1) (max 0 n).toNat = (k - min k (max 0 n).toNat) + 1 from by omega, Int.pow_succ, Int.pow_succ]
      omega
theorem numTo_mk (n : Int) : numTo (fun i => if (i : Int) < n then 1 else 0) 32 = mk n := by
  rw [numTo_mask]
  unfold mk K
  have : 32 - min 32 (max 0 n).toNat = 32 - cl n := by unfold cl; omega
  rw [this]
  simp

theorem zeros_nat (A : Nat) : ∀ m, (∀ j, j < m → A / 2 ^ j % 2 = 0) ↔ A % 2 ^ m = 0
  | 0 => by simp [Nat.mod_one]
  | m + 1 => by
    rw [Nat.mod_pow_succ]
    have ih := zeros_nat A m
    have hp := Nat.two_pow_pos m
    constructor
    · intro h
      have h1 := ih.1 (fun j hj => h j (by omega))
      rw [h1, h m (by omega)]
      simp
    · intro h
      have h1 : A % 2 ^ m = 0 := by omega
      have h2 : 2 ^ m * (A / 2 ^ m % 2) = 0 := by omega
      have h3 : A / 2 ^ m % 2 = 0 := by
        rcases Nat.mul_eq_zero.1 h2 with h | h <;> omega
      intro j hj
      rcases Nat.lt_succ_iff_lt_or_eq.1 hj with h4 | rfl
      · exact ih.2 h1 j h4
      · exact h3

theorem bit_cast (A j : Nat) : ((A : Int) / 2 ^ j % 2) = ((A / 2 ^ j % 2 : Nat) : Int) := by simp

/-- A prefix is in its form if all bits from its length on are 0. -/
theorem ok_bits (a n : Int) (h0 : 0 ≤ a) (n0 : 0 ≤ n) (n1 : n ≤ 32) : ok a n = true ↔ ∀ i : Nat, n ≤ i → i < 32 → a / 2 ^ (31 - i) % 2 = 0 := by
  obtain ⟨A, rfl⟩ := Int.eq_ofNat_of_zero_le h0
  have hm : (A : Int) % K n = 0 ↔ A % 2 ^ (32 - cl n) = 0 := by
    unfold K
    have : ((A : Int) % ((2 ^ (32 - cl n) : Nat) : Int)) = ((A % 2 ^ (32 - cl n) : Nat) : Int) := by simp
    rw [this]
    omega
  have hc := cl_of n n0 n1
  rw [ok_iff, hm, ← zeros_nat]
  constructor
  · rintro ⟨_, _, h⟩ i hi hi2
    rw [bit_cast, h (31 - i) (by omega)]
    rfl
  · intro h
    refine ⟨n0, n1, fun j hj => ?_⟩
    have := h (31 - j) (by omega) (by omega)
    rw [bit_cast, show 31 - (31 - j) = j from by omega] at this
    omega

theorem tops_nat (A X : Nat) (hA : A < 2 ^ 32) (hX : X < 2 ^ 32) (m : Nat) : (∀ j, m ≤ j → j < 32 → A / 2 ^ j % 2 = X / 2 ^ j % 2) ↔ A / 2 ^ m = X / 2 ^ m := by
  have tb : ∀ Y j : Nat, Y.testBit j = decide (Y / 2 ^ j % 2 = 1) := fun Y j => Nat.testBit_eq_decide_div_mod_eq
  constructor
  · intro h
    apply Nat.eq_of_testBit_eq
    intro i
    rw [Nat.testBit_div_two_pow, Nat.testBit_div_two_pow]
    by_cases hi : i + m < 32
    · rw [tb, tb, h (i + m) (by omega) hi]
    · have hle : 2 ^ 32 ≤ 2 ^ (i + m) := Nat.pow_le_pow_right (by decide) (by omega)
      rw [Nat.testBit_lt_two_pow (by omega), Nat.testBit_lt_two_pow (by omega)]
  · intro h j hj _
    have e : ∀ Y : Nat, Y / 2 ^ j = Y / 2 ^ m / 2 ^ (j - m) := fun Y => by
      rw [Nat.div_div_eq_div_mul, ← Nat.pow_add]
      congr 2
      omega
    rw [e A, e X, h]

/-- An address lies in a prefix if it begins with the same bits. -/
theorem has_bits (a n x : Int) (h0 : 0 ≤ a) (h1 : a < 4294967296) (x0 : 0 ≤ x) (x1 : x < 4294967296) (hk : ok a n = true) :
    has a n x = true ↔ ∀ i : Nat, (i : Int) < n → a / 2 ^ (31 - i) % 2 = x / 2 ^ (31 - i) % 2 := by
  obtain ⟨n0, n1, hm⟩ := ok_iff.1 hk
  have hc := cl_of n n0 n1
  obtain ⟨A, rfl⟩ := Int.eq_ofNat_of_zero_le h0
  obtain ⟨X, rfl⟩ := Int.eq_ofNat_of_zero_le x0
  have key := tops_nat A X (by omega) (by omega) (32 - cl n)
  have e1 : has (A : Int) n X = true ↔ A / 2 ^ (32 - cl n) = X / 2 ^ (32 - cl n) := by
    simp only [has, hk, Bool.true_and, decide_eq_true_eq]
    unfold K at hm ⊢
    generalize 2 ^ (32 - cl n) = P at *
    have hA := Nat.div_add_mod A P
    have hX := Nat.div_add_mod X P
    have hm' : A % P = 0 := by
      have : ((A : Int) % (P : Int)) = ((A % P : Nat) : Int) := by simp
      omega
    have hx' : ((X : Int) % (P : Int)) = ((X % P : Nat) : Int) := by simp
    rw [hx']
    constructor
    · intro h
      have : X - X % P = A := by omega
      have h3 : P * (X / P) = P * (A / P) := by omega
      by_cases hP : P = 0
      · subst hP; simp
      · exact (Nat.eq_of_mul_eq_mul_left (by omega) h3).symm
    · intro h
      rw [h] at hA
      omega
  rw [e1, ← key]
  constructor
  · intro h i hi
    have := h (31 - i) (by omega) (by omega)
    rw [bit_cast, bit_cast]
    omega
  · intro h j hj hj2
    have := h (31 - j) (by omega)
    rw [bit_cast, bit_cast, show 31 - (31 - j) = j from by omega] at this
    omega
end Pl
end Go.Proofs.Ytflpmchckniihaa
