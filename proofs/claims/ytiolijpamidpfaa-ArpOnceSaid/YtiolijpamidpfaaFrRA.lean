/-
  Sums carried round: plain facts. No conditions beyond those in each statement.
-/
import Derived.Test.YtiolijpamidpfaaFrA
namespace Go.Proofs.Ytiolijpamidpfaa
namespace Fr
theorem foldN_mod (n : Nat) : foldN n % 65535 = n % 65535 := by
  induction n using Nat.strongRecOn with
  | _ n ih =>
    rw [foldN]
    split
    · rfl
    · rw [ih _ (by omega)]
      omega
theorem foldN_le (n : Nat) : foldN n ≤ 65535 := by
  induction n using Nat.strongRecOn with
  | _ n ih =>
    rw [foldN]
    split
    · assumption
    · exact ih _ (by omega)
theorem foldN_pos (n : Nat) (h : 0 < n) : 0 < foldN n := by
  induction n using Nat.strongRecOn with
  | _ n ih =>
    rw [foldN]
    split
    · exact h
    · exact ih _ (by omega) (by omega)
theorem foldN_zero : foldN 0 = 0 := by rw [foldN]; rfl
theorem foldN_add (a b : Nat) : foldN (foldN a + b) = foldN (a + b) := by
  have h1 := foldN_mod (foldN a + b)
  have h2 := foldN_mod (a + b)
  have h3 := foldN_mod a
  have l1 := foldN_le (foldN a + b)
  have l2 := foldN_le (a + b)
  by_cases h0 : a + b = 0
  · obtain ⟨rfl, rfl⟩ : a = 0 ∧ b = 0 := by omega
    simp [foldN_zero]
  · have p2 := foldN_pos (a + b) (by omega)
    have p1 : 0 < foldN (foldN a + b) := by
      refine foldN_pos _ ?_
      by_cases ha : a = 0
      · omega
      · have := foldN_pos a (by omega)
        omega
    omega
theorem foldI_add {a b : Int} (ha : 0 ≤ a) (hb : 0 ≤ b) : foldI (foldI a + b) = foldI (a + b) := by
  unfold foldI
  have := foldN_add a.toNat b.toNat
  rw [show ((foldN a.toNat : Int) + b).toNat = foldN a.toNat + b.toNat by omega, show (a + b).toNat = a.toNat + b.toNat by omega, this]
theorem foldI_nn (a : Int) : 0 ≤ foldI a := by unfold foldI; omega
theorem foldI_max (a : Int) : foldI a ≤ 65535 := by have := foldN_le a.toNat; unfold foldI; omega
theorem wsum_nn {bs : List Int} (h : Oct bs) : 0 ≤ wsum bs := by
  match bs, h with
  | [], _ => exact Int.le_refl _
  | [x], h => have := h x (by simp); simp only [wsum]; omega
  | x :: y :: r, h =>
    have h1 := h x (by simp)
    have h2 := h y (by simp)
    have := wsum_nn (bs := r) fun z hz => h z (by simp [hz])
    simp only [wsum]
    omega
end Fr
end Go.Proofs.Ytiolijpamidpfaa
