/-
  The reference of layer 1 (carrefourref01): what Bits, Num, Mask, Right, Has and Covers answer. Conditions: that an address is a number of 32 bits.
-/
import Derived.Test.YtflpmchckniihaaLaw
import Derived.Test.YtflpmchckniihaaIpMath
import Derived.Lib.Hide
namespace Go.Proofs.Ytflpmchckniihaa
open Go.RowKit
namespace RefOne
open Pl

/-- The lowest k bits, the highest first. -/
def lowBits (A : Int) : Nat → List Int
  | 0 => []
  | k + 1 => (A / 2 ^ k % 2) :: lowBits A k
theorem lowBits_length (A : Int) : ∀ k, (lowBits A k).length = k
  | 0 => rfl
  | k + 1 => by simp [lowBits, lowBits_length A k]
theorem lowBits_get (A : Int) : ∀ (k i : Nat), i < k → (lowBits A k)[i]? = some (A / 2 ^ (k - 1 - i) % 2)
  | 0, _, h => by omega
  | k + 1, 0, _ => by simp [lowBits]
  | k + 1, i + 1, h => by
    have := lowBits_get A k i (by omega)
    rw [show k + 1 - 1 - (i + 1) = k - 1 - i from by omega]
    simpa [lowBits] using this

theorem info3 : (Try.prog.info? 3).map (fun i => (i.zero, i.size, i.bytes)) = some (some (.int .i64 0), 1, 8) := by kernel_rfl

/-- A slice literal of one number owns its cell. -/
theorem owns_one (w : World) (x : Value) (base : Nat) (hb : base ≤ w.heap.size) (t : TypeId) :
    (w.alloc (.cells #[x] t)).ownsRow base t 1 (.slice (some ⟨w.heap.size, 0, none⟩) 1 1) 1 [x] :=
  ⟨rfl, .inr ⟨w.heap.size, 1, #[x], rfl, hb, Law.heap_new w _, Nat.le_refl _, by decide, rfl, rfl⟩⟩

theorem add_zero (g j : Nat) : (⟨g, 0, none⟩ : Addr).add j = ⟨g, j, none⟩ := by unfold Addr.add; split <;> simp_all

/-- What a slice that is not nil looks like. -/
theorem owns_form {w : World} {base : Nat} {t : TypeId} {v : Value} {n : Nat} {xs : List Value} (h : w.ownsRow base t 1 v n xs) (hv : v ≠ .slice none 0 0) :
    ∃ g cap, v = .slice (some ⟨g, 0, none⟩) n cap ∧ base ≤ g ∧ n ≤ cap ∧ cap ≤ maxLen ∧ g < w.heap.size := by
  rcases h.2 with ⟨rfl, _⟩ | ⟨g, cap, cur, rfl, hb, hg, hn, hm, _⟩
  · exact absurd rfl hv
  · exact ⟨g, cap, rfl, hb, hn, hm, (Array.getElem?_eq_some_iff.1 hg).1⟩

def BitsPost (A : Int) (w : World) (e : Ending) (w' : World) : Prop :=
  ∃ g cap, e = .returned (.slice (some ⟨g, 0, none⟩) 32 cap) ∧ w.heap.size ≤ g ∧ 32 ≤ cap ∧ cap ≤ maxLen ∧ g < w'.heap.size ∧
    (∀ i, i < 32 → w'.cell? ⟨g, i, none⟩ = some (.int .i64 (A / 2 ^ (31 - i) % 2))) ∧ Below w.heap.size w w'

theorem half_step (A : Int) (k : Nat) : A / 2 ^ k / 2 = A / 2 ^ (k + 1) := by
  rw [Int.pow_succ, Int.ediv_ediv_of_nonneg (Int.le_of_lt (Int.pow_pos (by decide)))]

set_option maxHeartbeats 400000 in
theorem bits_any (A : Int) (h0 : 0 ≤ A) (h1 : A < 4294967296) (w : World) :
    Calls Try.prog 14 #[.int .u32 A] w (BitsPost A w) := by
  obtain ⟨i0, hi, hz0, hz1, hz2⟩ := info_parts info3
  go_enter Try.func14, Try.ntmps14
  go_wp2
  go_loopw [0, 3, 4] (fun a v i wr => ∃ k : Nat, k ≤ 32 ∧ i = .int .i64 k ∧ a = .int .u32 (A / 2 ^ k) ∧ v ≠ .slice none 0 0 ∧ wr.ownsRow w.heap.size 3 1 v k ((lowBits A k).map (Value.int .i64)) ∧ Below w.heap.size w wr)
    (fun _ _ i _ => 32 - (intOf i).toNat)
  case atStart =>
    exact ⟨0, by omega, rfl, by simp, by simp, World.ownsRow_made w #[] 0 (Nat.le_refl _) (by decide) rfl, (Below.refl _ _).alloc (Nat.le_refl _) _⟩
  case round =>
    obtain ⟨k, hk, rfl, rfl, hne, hown, hbel⟩ := hrel
    obtain ⟨g, cap, rfl, hg, hkc, hcm, hgs⟩ := owns_form hown hne
    have hsz := hbel.size
    clear hne
    by_cases hlt : k < 32
    · have q0 := shr_lo A k h0
      have q1 := shr_hi A k h0 h1
      have b0 : 0 ≤ A / 2 ^ k % 2 := by omega
      have b1 : A / 2 ^ k % 2 < 2 := by omega
      have HS := Lib.hid (half_step A k)
      have hcells := fun j u hu => (hown.alloc (.cells #[.int .i64 (A / 2 ^ k % 2)] 3)).cells (g := g) rfl j u hu
      go_wp2_with (at_builtin; refine wpList_append_own _ rfl _ _ 27 rfl w.heap.size 3 i0 (.int .i64 0) 1 8 Try.underlying27 hi hz0 hz1 hz2 rfl (by decide) _ _ _ rfl (owns_one wr _ w.heap.size hsz 3) ⟨g, 0, none⟩ k cap ((lowBits A k).map (Value.int .i64)) rfl ?c1 ?c2 ?c3 ?c4 ?c5 ?c6 ?_)
      case c1 => simp [lowBits_length]
      case c2 => exact hcells
      case c3 =>
        intro u hu
        simp only [List.mem_map] at hu
        obtain ⟨z, _, rfl⟩ := hu
        rfl
      case c4 => unfold maxLen; omega
      case c5 => omega
      case c6 => simp; omega
      · intro v' w1 hown1 hgrow1 hnil1
        have hb1 : Below w.heap.size w w1 := (hbel.alloc hsz _).grown hgrow1 (by simp; omega) (fun k hk => by simp [Value.ownBlock] at hk; omega)
        clear hgrow1 hown hbel hcells
        go_wp2
        go_roundw
        case rel => exact ⟨k + 1, by omega, by go_num, by rw [HS.out], hnil1, by rw [Nat.add_comm 1 k] at hown1; exact hown1, hb1⟩
        case measure => simp [intOf]; omega
    · obtain rfl : k = 32 := by omega
      go_wp2
      go_ret
      refine ⟨g, cap, rfl, hg, hkc, hcm, hgs, fun i hi => ?_, hbel⟩
      have := hown.cells (g := g) rfl i (.int .i64 (A / 2 ^ (31 - i) % 2)) (by rw [List.getElem?_map, lowBits_get A 32 i hi]; rfl)
      rwa [add_zero] at this
end RefOne
end Go.Proofs.Ytflpmchckniihaa
