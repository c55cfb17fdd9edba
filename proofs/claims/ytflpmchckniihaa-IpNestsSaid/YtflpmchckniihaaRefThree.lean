/-
  The reference of layer 1 (carrefourref01): what Right, Has and Covers answer. Conditions: that an address is a number of 32 bits.
-/
import Derived.Test.YtflpmchckniihaaRefTwo
namespace Go.Proofs.Ytflpmchckniihaa
open Go.RowKit
namespace RefOne
open Pl

/-- The bits from n on, k of them, are 0. -/
def Zeros (a : Int) (N k : Nat) : Prop := ∀ i, N ≤ i → i < N + k → a / 2 ^ (31 - i) % 2 = 0
theorem zeros_all {a : Int} {N : Nat} (h0 : 0 ≤ a) (hN : N ≤ 32) (h : Zeros a N (32 - N)) : ok a N = true :=
  (ok_bits a N h0 (by omega) (by omega)).2 fun i hi hi2 => h i (by omega) (by omega)
theorem zeros_not {a : Int} {N k : Nat} (h0 : 0 ≤ a) (hk : N + k < 32) (h : ¬ a / 2 ^ (31 - (N + k)) % 2 = 0) : ok a N = false := by
  cases hok : ok a N with
  | false => rfl
  | true => exact absurd ((ok_bits a N h0 (by omega) (by omega)).1 hok (N + k) (by omega) hk) h
theorem zeros_step {a : Int} {N k : Nat} (h : Zeros a N k) (hk : a / 2 ^ (31 - (N + k)) % 2 = 0) : Zeros a N (k + 1) := fun i hi hi2 => by
  rcases Nat.lt_succ_iff_lt_or_eq.1 (show i < N + k + 1 by omega) with h1 | rfl
  · exact h i hi h1
  · exact hk

set_option maxHeartbeats 400000 in
theorem right_any (a n : Int) (h0 : 0 ≤ a) (h1 : a < 4294967296) (w : World) :
    Calls Try.prog 18 #[.int .u32 a, .int .i64 n] w fun e w' => e = .returned (.bool (ok a n)) ∧ Below w.heap.size w w' := by
  by_cases hl : n < 0
  · have HR := Lib.hid (show ok a n = false from ok_not.2 (by omega))
    go_enter Try.func18, Try.ntmps18
    go_wp2
    go_ret
    exact ⟨by rw [HR.out]; rfl, Below.refl _ _⟩
  · by_cases hg : 32 < n
    · have HR := Lib.hid (show ok a n = false from ok_not.2 (by omega))
      go_enter Try.func18, Try.ntmps18
      go_wp2
      go_ret
      exact ⟨by rw [HR.out]; rfl, Below.refl _ _⟩
    · obtain ⟨N, rfl⟩ := Int.eq_ofNat_of_zero_le (show 0 ≤ n by omega)
      have hN : N ≤ 32 := by omega
      clear hl hg
      by_cases h32 : N = 32
      · subst h32
        have HR := Lib.hid (show ok a 32 = true from zeros_all (N := 32) h0 (Nat.le_refl _) (fun i h1 h2 => by omega))
        go_enter Try.func18, Try.ntmps18
        go_wp2_with fail
        refine (bits_any _ h0 h1 _).mono ?_
        rintro e w1 ⟨g, cap, rfl, hg, hcap, hcm, hgs, hc, hb1⟩
        by_cases hcc : cap = 32
        all_goals
          go_wp2
          go_loop [6, 18] (fun _ i => i = .int .i64 0) (fun _ _ => 0)
          case atStart => rfl
          case round =>
            subst hrel
            go_wp2
            go_ret
            exact ⟨by rw [HR.out]; rfl, hb1⟩
      · have hN : N < 32 := by omega
        have d0 : decide ((N : Int) < 0) = false := by simp
        have d1 : decide (32 < (N : Int)) = false := by simp; omega
        go_enter Try.func18, Try.ntmps18
        go_wp2_with fail
        refine (bits_any _ h0 h1 _).mono ?_
        rintro e w1 ⟨g, cap, rfl, hg, hcap, hcm, hgs, hc, hb1⟩
        go_wp2
        go_loop [6, 18] (fun _ i => ∃ k : Nat, k ≤ 32 - N ∧ i = .int .i64 k ∧ Zeros a N k) (fun _ i => 32 - N - (intOf i).toNat)
        case atStart => exact ⟨0, by omega, rfl, fun i h1 h2 => by omega⟩
        case round =>
          obtain ⟨k, hk, rfl, hz⟩ := hrel
          by_cases hlt : k < 32 - N
          · have hcell := hc (N + k) (by omega)
            by_cases hb : a / 2 ^ (31 - (N + k)) % 2 = 0
            · have hbb : (a / 2 ^ (31 - (N + k)) % 2 != 0) = false := by simp [hb]
              have HZ := Lib.hid (zeros_step hz hb)
              clear hz hb
              go_wp2
              go_round
              case rel => exact ⟨k + 1, by omega, by go_num, HZ.out⟩
              case measure => simp [intOf]; omega
            · have hbb : (a / 2 ^ (31 - (N + k)) % 2 != 0) = true := by simp [hb]
              have HR := Lib.hid (zeros_not h0 (by omega) hb)
              clear hz hb
              go_wp2
              go_ret
              exact ⟨by rw [HR.out]; rfl, hb1⟩
          · obtain rfl : k = 32 - N := by omega
            have HR := Lib.hid (zeros_all h0 (by omega) hz)
            clear hz
            go_wp2
            go_ret
            exact ⟨by rw [HR.out]; rfl, hb1⟩

/-- The first k bits are alike. -/
def Alike (a x : Int) (k : Nat) : Prop := ∀ i : Nat, i < k → a / 2 ^ (31 - i) % 2 = x / 2 ^ (31 - i) % 2
theorem alike_step {a x : Int} {k : Nat} (h : Alike a x k) (hk : a / 2 ^ (31 - k) % 2 = x / 2 ^ (31 - k) % 2) : Alike a x (k + 1) := fun i hi => by
  rcases Nat.lt_succ_iff_lt_or_eq.1 hi with h1 | rfl
  · exact h i h1
  · exact hk

set_option maxHeartbeats 400000 in
theorem has_any (a n x : Int) (h0 : 0 ≤ a) (h1 : a < 4294967296) (x0 : 0 ≤ x) (x1 : x < 4294967296) (w : World) :
    Calls Try.prog 19 #[.int .u32 a, .int .i64 n, .int .u32 x] w fun e w' => e = .returned (.bool (has a n x)) ∧ Below w.heap.size w w' := by
  cases hok : ok a n with
  | false =>
    have HR := Lib.hid (show has a n x = false by simp [has, hok])
    go_enter Try.func19, Try.ntmps19
    go_wp2_with fail
    refine (right_any _ _ h0 h1 _).mono ?_
    rintro e w1 ⟨rfl, hb1⟩
    go_wp2
    go_ret
    exact ⟨by rw [HR.out]; rfl, hb1⟩
  | true =>
    obtain ⟨n0, n1, _⟩ := ok_iff.1 hok
    have hbits := has_bits a n x h0 h1 x0 x1 hok
    obtain ⟨N, rfl⟩ := Int.eq_ofNat_of_zero_le n0
    have hN : N ≤ 32 := by omega
    clear n0 n1
    go_enter Try.func19, Try.ntmps19
    go_wp2_with fail
    refine (right_any _ _ h0 h1 _).mono ?_
    rintro e w1 ⟨rfl, hb1⟩
    go_wp2_with fail
    refine (bits_any _ h0 h1 _).mono ?_
    rintro e w2 ⟨g, cap, rfl, hg, hcap, hcm, hgs, hc, hb2⟩
    go_wp2_with fail
    refine (bits_any _ x0 x1 _).mono ?_
    rintro e w3 ⟨g', cap', rfl, hg', hcap', hcm', hgs', hc', hb3⟩
    have hca : ∀ i, i < 32 → w3.cell? ⟨g, i, none⟩ = some (.int .i64 (a / 2 ^ (31 - i) % 2)) := fun i hi => (hb3.cell (p := ⟨g, i, none⟩) hgs).trans (hc i hi)
    have hb : Below w.heap.size w w3 := hb1.trans ((hb2.mono hb1.size).trans (hb3.mono (Nat.le_trans hb1.size hb2.size)))
    have hg3 : g < w3.heap.size := Nat.lt_of_lt_of_le hgs hb3.size
    clear hb1 hb2 hb3 hc hgs hg hg'
    go_wp2
    go_loopw [9] (fun i wr => ∃ k : Nat, k ≤ N ∧ i = .int .i64 k ∧ Alike a x k ∧ Below w3.heap.size w3 wr) (fun i _ => N - (intOf i).toNat)
    case atStart => exact ⟨0, by omega, rfl, fun i h => by omega, Below.refl _ _⟩
    case round =>
      obtain ⟨k, hk, rfl, hal, hbr⟩ := hrel
      by_cases hlt : k < N
      · have c1 := (hbr.cell (p := ⟨g, k, none⟩) hg3).trans (hca k (by omega))
        have c2 := (hbr.cell (p := ⟨g', k, none⟩) hgs').trans (hc' k (by omega))
        have k0 : (0 : Int) ≤ (k : Int) := by omega
        have k1 : (k : Int) < 32 := by omega
        by_cases hb2 : a / 2 ^ (31 - k) % 2 = x / 2 ^ (31 - k) % 2
        · have hbb : (a / 2 ^ (31 - k) % 2 != x / 2 ^ (31 - k) % 2) = false := by simp [hb2]
          have HZ := Lib.hid (alike_step hal hb2)
          clear hal hb2 hca hc'
          go_wp2
          go_region
          all_goals
            go_wp2
            go_roundw
            case rel => exact ⟨k + 1, by omega, by go_num, HZ.out, hbr.drew⟩
            case measure => simp [intOf]; omega
        · have hbb : (a / 2 ^ (31 - k) % 2 != x / 2 ^ (31 - k) % 2) = true := by simp [hb2]
          have HR := Lib.hid (show has a N x = false from by
            cases hh : has a N x with
            | false => rfl
            | true => exact absurd (hbits.1 hh k (by omega)) hb2)
          clear hal hb2 hca hc' hbits
          go_wp2
          go_region
          all_goals
            go_wp2
            go_ret
            exact ⟨by rw [HR.out]; rfl, hb.trans (hbr.drew.mono hb.size)⟩
      · obtain rfl : k = N := by omega
        have HR := Lib.hid (show has a k x = true from hbits.2 fun i hi => hal i (by omega))
        clear hal hbits hca hc'
        go_wp2
        go_ret
        exact ⟨by rw [HR.out]; rfl, hb.trans (hbr.mono hb.size)⟩

theorem covers_any (a n b m : Int) (h0 : 0 ≤ a) (h1 : a < 4294967296) (b0 : 0 ≤ b) (b1 : b < 4294967296) (w : World) :
    Calls Try.prog 23 #[.int .u32 a, .int .i64 n, .int .u32 b, .int .i64 m] w fun e w' => e = .returned (.bool (covers a n b m)) ∧ Below w.heap.size w w' := by
  cases hk : ok b m with
  | true =>
    by_cases hx : n ≤ m
    · have HR := Lib.hid (show covers a n b m = has a n b by simp [covers, hk, hx])
      go_enter Try.func23, Try.ntmps23
      go_wp2_with fail
      refine (right_any _ _ b0 b1 _).mono ?_
      rintro e w1 ⟨rfl, hb1⟩
      go_wp2_with fail
      refine (has_any _ _ _ h0 h1 b0 b1 _).mono ?_
      rintro e w2 ⟨rfl, hb2⟩
      go_wp2
      go_ret
      exact ⟨by rw [HR.out]; rfl, hb1.trans (hb2.mono hb1.size)⟩
    · have HR := Lib.hid (show covers a n b m = false by simp [covers, hx])
      go_enter Try.func23, Try.ntmps23
      go_wp2_with fail
      refine (right_any _ _ b0 b1 _).mono ?_
      rintro e w1 ⟨rfl, hb1⟩
      go_wp2
      go_ret
      exact ⟨by rw [HR.out]; rfl, hb1⟩
  | false =>
    have HR := Lib.hid (show covers a n b m = false by simp [covers, hk])
    go_enter Try.func23, Try.ntmps23
    go_wp2_with fail
    refine (right_any _ _ b0 b1 _).mono ?_
    rintro e w1 ⟨rfl, hb1⟩
    go_wp2
    go_ret
    exact ⟨by rw [HR.out]; rfl, hb1⟩
end RefOne
end Go.Proofs.Ytflpmchckniihaa
