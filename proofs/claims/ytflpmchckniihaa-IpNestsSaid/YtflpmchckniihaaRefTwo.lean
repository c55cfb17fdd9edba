/-
  The reference of layer 1 (carrefourref01): what Num, Mask, Right, Has and Covers answer. Conditions: that an address is a number of 32 bits.
-/
import Derived.Test.YtflpmchckniihaaRefOne
import Derived.Test.YtflpmchckniihaaRefMath
import Derived.BigQuiet
namespace Go.Proofs.Ytflpmchckniihaa
open Go.RowKit
namespace RefOne
open Pl

set_option maxHeartbeats 400000 in
theorem num_any (g cap : Nat) (z : Nat → Int) (hz : ∀ i, 0 ≤ z i ∧ z i ≤ 1) (w : World) (hc : ∀ i, i < 32 → w.cell? ⟨g, i, none⟩ = some (.int .i64 (z i))) :
    Calls Try.prog 29 #[.slice (some ⟨g, 0, none⟩) 32 cap] w fun e w' => e = .returned (.int .u32 (numTo z 32)) ∧ w = w' := by
  go_enter Try.func29, Try.ntmps29
  go_wp2
  go_loop [3, 5, 8] (fun a _ i => ∃ k : Nat, k ≤ 32 ∧ i = .int .i64 k ∧ a = .int .u32 (numTo z k)) (fun _ _ i => 32 - (intOf i).toNat)
  case atStart => exact ⟨0, by omega, rfl, rfl⟩
  case round =>
    obtain ⟨k, hk, rfl, rfl⟩ := hrel
    by_cases hlt : k < 32
    · have hcell := hc k hlt
      obtain ⟨n0, n1⟩ := numTo_bd32 z hz k hlt
      obtain ⟨z0, z1⟩ := hz k
      go_wp2
      go_round
      case rel => exact ⟨k + 1, by omega, by go_num, rfl⟩
      case measure => simp [intOf]; omega
    · obtain rfl : k = 32 := by omega
      go_wp2
      go_ret
      exact ⟨rfl, rfl⟩

/-- A slice literal of one number, laid behind what is owned. -/
theorem cell_one (w : World) (x : Value) (t : TypeId) : ∀ j u, ([x] : List Value)[j]? = some u → (w.alloc (.cells #[x] t)).cell? ((⟨w.heap.size, 0, none⟩ : Addr).add j) = some u := by
  intro j u hj
  match j, hj with
  | 0, hj =>
    simp only [List.getElem?_cons_zero, Option.some.injEq] at hj
    subst hj
    rw [add_zero]
    exact Law.cell_new w _ t 0

theorem one_cell {x : Value} (h : x.oneCell' = true) : ∀ u ∈ [x], u.oneCell' = true := fun u hu => by
  rw [List.mem_singleton.1 hu]
  exact h

def maskBit (n : Int) (i : Nat) : Int := if (i : Int) < n then 1 else 0
theorem maskBit_bd (n : Int) (i : Nat) : 0 ≤ maskBit n i ∧ maskBit n i ≤ 1 := by unfold maskBit; split <;> omega
theorem maskBit_yes {n : Int} {i : Nat} (h : (i : Int) < n) : maskBit n i = 1 := by unfold maskBit; rw [if_pos h]
theorem maskBit_no {n : Int} {i : Nat} (h : ¬ (i : Int) < n) : maskBit n i = 0 := by unfold maskBit; rw [if_neg h]
def maskList (n : Int) (k : Nat) : List Int := (List.range k).map (maskBit n)
theorem maskList_succ (n : Int) (k : Nat) : maskList n (k + 1) = maskList n k ++ [maskBit n k] := by simp [maskList, List.range_succ]

/-- One more bit of a mask. -/
theorem owns_more {w : World} {B : Nat} {t : TypeId} {v : Value} {n : Int} {k : Nat} {b : Int} (hb : maskBit n k = b) (h : w.ownsRow B t 1 v (k + 1) ((maskList n k).map (Value.int .i64) ++ [.int .i64 b])) :
    w.ownsRow B t 1 v (k + 1) ((maskList n (k + 1)).map (Value.int .i64)) := by
  rw [maskList_succ, List.map_append, hb]
  exact h

set_option maxHeartbeats 400000 in
theorem mask_any (n : Int) (w : World) :
    Calls Try.prog 16 #[.int .i64 n] w fun e w' => e = .returned (.int .u32 (mk n)) ∧ Below w.heap.size w w' := by
  obtain ⟨i0, hi, hz0, hz1, hz2⟩ := info_parts info3
  go_enter Try.func16, Try.ntmps16
  go_wp2
  go_loopw [3, 4] (fun v i wr => ∃ k : Nat, k ≤ 32 ∧ i = .int .i64 k ∧ v ≠ .slice none 0 0 ∧ wr.ownsRow w.heap.size 3 1 v k ((maskList n k).map (Value.int .i64)) ∧ Below w.heap.size w wr)
    (fun _ i _ => 32 - (intOf i).toNat)
  case atStart =>
    exact ⟨0, by omega, rfl, by simp, World.ownsRow_made w #[] 0 (Nat.le_refl _) (by decide) rfl, (Below.refl _ _).alloc (Nat.le_refl _) _⟩
  case round =>
    obtain ⟨k, hk, rfl, hne, hown, hbel⟩ := hrel
    obtain ⟨g, cap, rfl, hg, hkc, hcm, hgs⟩ := owns_form hown hne
    have hsz := hbel.size
    clear hne
    by_cases hlt : k < 32
    · by_cases hkn : (k : Int) < n
      · have HB := Lib.hid (maskBit_yes hkn)
        go_wp2_with (at_builtin; refine wpList_append_own _ rfl _ _ 27 rfl w.heap.size 3 i0 (.int .i64 0) 1 8 Try.underlying27 hi hz0 hz1 hz2 rfl (by decide) _ _ _ rfl (hown.alloc _) ⟨wr.heap.size, 0, none⟩ 1 1 [.int .i64 1] rfl rfl (cell_one _ _ _) (one_cell rfl) ?c4 ?c5 ?c6 ?_)
        case c4 => unfold maxLen; omega
        case c5 => omega
        case c6 => first | omega | (simp; omega)
        · intro v' w1 hown1 hgrow1 hnil1
          have hb1 : Below w.heap.size w w1 := (hbel.alloc hsz _).grown hgrow1 (by simp; omega) (fun k hk => by simp [Value.ownBlock] at hk; omega)
          clear hgrow1 hown hbel
          go_wp2
          go_roundw
          case rel => exact ⟨k + 1, by omega, by go_num, fun e => by simp [e] at hnil1, owns_more HB.out hown1, hb1⟩
          case measure => simp [intOf]; omega
      · have HB := Lib.hid (maskBit_no hkn)
        go_wp2_with (at_builtin; refine wpList_append_own _ rfl _ _ 27 rfl w.heap.size 3 i0 (.int .i64 0) 1 8 Try.underlying27 hi hz0 hz1 hz2 rfl (by decide) _ _ _ rfl (hown.alloc _) ⟨wr.heap.size, 0, none⟩ 1 1 [.int .i64 0] rfl rfl (cell_one _ _ _) (one_cell rfl) ?d4 ?d5 ?d6 ?_)
        case d4 => unfold maxLen; omega
        case d5 => omega
        case d6 => first | omega | (simp; omega)
        · intro v' w1 hown1 hgrow1 hnil1
          have hb1 : Below w.heap.size w w1 := (hbel.alloc hsz _).grown hgrow1 (by simp; omega) (fun k hk => by simp [Value.ownBlock] at hk; omega)
          clear hgrow1 hown hbel
          go_wp2
          go_roundw
          case rel => exact ⟨k + 1, by omega, by go_num, fun e => by simp [e] at hnil1, owns_more HB.out hown1, hb1⟩
          case measure => simp [intOf]; omega
    · obtain rfl : k = 32 := by omega
      have HC := Lib.hid (fun i (hi : i < 32) => show wr.cell? ⟨g, i, none⟩ = some (.int .i64 (maskBit n i)) from by
        have := hown.cells (g := g) rfl i (.int .i64 (maskBit n i)) (by simp [maskList, hi])
        rwa [add_zero] at this)
      have HM := Lib.hid (numTo_mk n)
      go_wp2_with fail
      refine (num_any g cap (maskBit n) (maskBit_bd n) _ HC.out).mono ?_
      rintro e w' ⟨rfl, rfl⟩
      go_wp2
      go_ret
      exact ⟨by rw [show numTo (maskBit n) 32 = mk n from HM.out]; rfl, hbel⟩
end RefOne
end Go.Proofs.Ytflpmchckniihaa
