/-
  The law 'HeadWidths': for every input it answers true, the table 'widths' holding what its text lays. No other conditions.
-/
import Derived.Test.YtgoplihimajjkaaDoorHdrCard
namespace Go.Proofs.YtgoplihimajjkaaDoor
open Go.ChangeShapes Go.WideShapes Go.ChangeAt Go.RowKit
open Hd
set_option linter.unusedVariables false
namespace HeadWidths

def pw (k : Nat) : Int := 2 ^ k - 1
theorem pw_succ (k : Nat) : pw (k + 1) = 2 * pw k + 1 := by unfold pw; rw [Int.pow_succ]; omega
theorem pw_bd (k : Nat) (h : k ≤ 48) : 0 ≤ pw k ∧ pw k ≤ 281474976710656 := by
  have hle : 2 ^ k ≤ 2 ^ 48 := Nat.pow_le_pow_right (by decide) h
  have hp := Nat.two_pow_pos k
  have e : ((2 ^ k : Nat) : Int) = (2 : Int) ^ k := by simp
  unfold pw
  omega
set_option maxHeartbeats 4000000 in
theorem walk (f : Int) (wf : (Lit.int .i64 f).wf = true) (w : World) (ht : Tab w) :
    Calls Tryd.prog 3 #[.int .i64 f] w fun e w' => e = .returned (.bool true) ∧ Below w.heap.size w w' := by
  have t1 : wd 1 = 48 := by decide
  have t2 : full 0 = 255 := by decide
  have hw := Hd.ways f
  rcases hw with h | h | rfl | rfl | rfl | rfl | rfl | rfl | rfl | rfl | rfl
  · have e1 := wd_out (.inl h)
    have e2 := full_out (.inl h)
    go_enter Tryd.func3, Tryd.ntmps3
    go_wp2_with fail
    refine (width_any _ _ ht).mono ?_
    rintro e w' ⟨rfl, rfl⟩
    go_wp2_with fail
    refine (full_any _ _ ht).mono ?_
    rintro e w' ⟨rfl, rfl⟩
    go_wp2
    go_loop [5, 6] (fun v i => ∃ k : Nat, k ≤ 0 ∧ i = .int .i64 k ∧ v = .int .u64 (pw k)) (fun _ i => 0 - (intOf i).toNat)
    case atStart => exact ⟨0, by omega, rfl, rfl⟩
    case round =>
      obtain ⟨k, hk, rfl, rfl⟩ := hrel
      by_cases hlt : k < 0
      · exact absurd hlt (by omega)
      · obtain rfl : k = 0 := by omega
        have e3 : pw 0 = 0 := by decide
        go_wp2_with fail
        refine (width_any _ _ (ht.alloc _)).mono ?_
        rintro e w' ⟨rfl, rfl⟩
        go_wp2_with fail
        refine (full_any _ _ (ht.alloc _)).mono ?_
        rintro e w' ⟨rfl, rfl⟩
        go_wp2
        go_ret
        exact ⟨rfl, (Below.refl w.heap.size w).alloc (Nat.le_refl _) _⟩
  · have e1 := wd_out (.inr h)
    have e2 := full_out (.inr h)
    go_enter Tryd.func3, Tryd.ntmps3
    go_wp2_with fail
    refine (width_any _ _ ht).mono ?_
    rintro e w' ⟨rfl, rfl⟩
    go_wp2_with fail
    refine (full_any _ _ ht).mono ?_
    rintro e w' ⟨rfl, rfl⟩
    go_wp2
    go_loop [5, 6] (fun v i => ∃ k : Nat, k ≤ 0 ∧ i = .int .i64 k ∧ v = .int .u64 (pw k)) (fun _ i => 0 - (intOf i).toNat)
    case atStart => exact ⟨0, by omega, rfl, rfl⟩
    case round =>
      obtain ⟨k, hk, rfl, rfl⟩ := hrel
      by_cases hlt : k < 0
      · exact absurd hlt (by omega)
      · obtain rfl : k = 0 := by omega
        have e3 : pw 0 = 0 := by decide
        go_wp2_with fail
        refine (width_any _ _ (ht.alloc _)).mono ?_
        rintro e w' ⟨rfl, rfl⟩
        go_wp2_with fail
        refine (full_any _ _ (ht.alloc _)).mono ?_
        rintro e w' ⟨rfl, rfl⟩
        go_wp2
        go_ret
        exact ⟨rfl, (Below.refl w.heap.size w).alloc (Nat.le_refl _) _⟩
  · have e1 : wd 0 = 8 := by decide
    have e2 : full 0 = 255 := by decide
    go_enter Tryd.func3, Tryd.ntmps3
    go_wp2_with fail
    refine (width_any _ _ ht).mono ?_
    rintro e w' ⟨rfl, rfl⟩
    go_wp2_with fail
    refine (full_any _ _ ht).mono ?_
    rintro e w' ⟨rfl, rfl⟩
    go_wp2
    go_loop [5, 6] (fun v i => ∃ k : Nat, k ≤ 8 ∧ i = .int .i64 k ∧ v = .int .u64 (pw k)) (fun _ i => 8 - (intOf i).toNat)
    case atStart => exact ⟨0, by omega, rfl, rfl⟩
    case round =>
      obtain ⟨k, hk, rfl, rfl⟩ := hrel
      by_cases hlt : k < 8
      · have HS := Lib.hid (pw_succ k)
        obtain ⟨p0, p1⟩ := pw_bd k (by omega)
        go_wp2
        go_round
        case rel => exact ⟨k + 1, by omega, by go_num, by rw [HS.out]⟩
        case measure => simp [intOf]; omega
      · obtain rfl : k = 8 := by omega
        have e3 : pw 8 = 255 := by decide
        go_wp2_with fail
        refine (width_any _ _ (ht.alloc _)).mono ?_
        rintro e w' ⟨rfl, rfl⟩
        go_wp2_with fail
        refine (full_any _ _ (ht.alloc _)).mono ?_
        rintro e w' ⟨rfl, rfl⟩
        go_wp2
        go_ret
        exact ⟨rfl, (Below.refl w.heap.size w).alloc (Nat.le_refl _) _⟩
  · have e1 : wd 1 = 48 := by decide
    have e2 : full 1 = 281474976710655 := by decide
    go_enter Tryd.func3, Tryd.ntmps3
    go_wp2_with fail
    refine (width_any _ _ ht).mono ?_
    rintro e w' ⟨rfl, rfl⟩
    go_wp2_with fail
    refine (full_any _ _ ht).mono ?_
    rintro e w' ⟨rfl, rfl⟩
    go_wp2
    go_loop [5, 6] (fun v i => ∃ k : Nat, k ≤ 48 ∧ i = .int .i64 k ∧ v = .int .u64 (pw k)) (fun _ i => 48 - (intOf i).toNat)
    case atStart => exact ⟨0, by omega, rfl, rfl⟩
    case round =>
      obtain ⟨k, hk, rfl, rfl⟩ := hrel
      by_cases hlt : k < 48
      · have HS := Lib.hid (pw_succ k)
        obtain ⟨p0, p1⟩ := pw_bd k (by omega)
        go_wp2
        go_round
        case rel => exact ⟨k + 1, by omega, by go_num, by rw [HS.out]⟩
        case measure => simp [intOf]; omega
      · obtain rfl : k = 48 := by omega
        have e3 : pw 48 = 281474976710655 := by decide
        go_wp2_with fail
        refine (width_any _ _ (ht.alloc _)).mono ?_
        rintro e w' ⟨rfl, rfl⟩
        go_wp2_with fail
        refine (full_any _ _ (ht.alloc _)).mono ?_
        rintro e w' ⟨rfl, rfl⟩
        go_wp2
        go_ret
        exact ⟨rfl, (Below.refl w.heap.size w).alloc (Nat.le_refl _) _⟩
  · have e1 : wd 2 = 48 := by decide
    have e2 : full 2 = 281474976710655 := by decide
    go_enter Tryd.func3, Tryd.ntmps3
    go_wp2_with fail
    refine (width_any _ _ ht).mono ?_
    rintro e w' ⟨rfl, rfl⟩
    go_wp2_with fail
    refine (full_any _ _ ht).mono ?_
    rintro e w' ⟨rfl, rfl⟩
    go_wp2
    go_loop [5, 6] (fun v i => ∃ k : Nat, k ≤ 48 ∧ i = .int .i64 k ∧ v = .int .u64 (pw k)) (fun _ i => 48 - (intOf i).toNat)
    case atStart => exact ⟨0, by omega, rfl, rfl⟩
    case round =>
      obtain ⟨k, hk, rfl, rfl⟩ := hrel
      by_cases hlt : k < 48
      · have HS := Lib.hid (pw_succ k)
        obtain ⟨p0, p1⟩ := pw_bd k (by omega)
        go_wp2
        go_round
        case rel => exact ⟨k + 1, by omega, by go_num, by rw [HS.out]⟩
        case measure => simp [intOf]; omega
      · obtain rfl : k = 48 := by omega
        have e3 : pw 48 = 281474976710655 := by decide
        go_wp2_with fail
        refine (width_any _ _ (ht.alloc _)).mono ?_
        rintro e w' ⟨rfl, rfl⟩
        go_wp2_with fail
        refine (full_any _ _ (ht.alloc _)).mono ?_
        rintro e w' ⟨rfl, rfl⟩
        go_wp2
        go_ret
        exact ⟨rfl, (Below.refl w.heap.size w).alloc (Nat.le_refl _) _⟩
  · have e1 : wd 3 = 16 := by decide
    have e2 : full 3 = 65535 := by decide
    go_enter Tryd.func3, Tryd.ntmps3
    go_wp2_with fail
    refine (width_any _ _ ht).mono ?_
    rintro e w' ⟨rfl, rfl⟩
    go_wp2_with fail
    refine (full_any _ _ ht).mono ?_
    rintro e w' ⟨rfl, rfl⟩
    go_wp2
    go_loop [5, 6] (fun v i => ∃ k : Nat, k ≤ 16 ∧ i = .int .i64 k ∧ v = .int .u64 (pw k)) (fun _ i => 16 - (intOf i).toNat)
    case atStart => exact ⟨0, by omega, rfl, rfl⟩
    case round =>
      obtain ⟨k, hk, rfl, rfl⟩ := hrel
      by_cases hlt : k < 16
      · have HS := Lib.hid (pw_succ k)
        obtain ⟨p0, p1⟩ := pw_bd k (by omega)
        go_wp2
        go_round
        case rel => exact ⟨k + 1, by omega, by go_num, by rw [HS.out]⟩
        case measure => simp [intOf]; omega
      · obtain rfl : k = 16 := by omega
        have e3 : pw 16 = 65535 := by decide
        go_wp2_with fail
        refine (width_any _ _ (ht.alloc _)).mono ?_
        rintro e w' ⟨rfl, rfl⟩
        go_wp2_with fail
        refine (full_any _ _ (ht.alloc _)).mono ?_
        rintro e w' ⟨rfl, rfl⟩
        go_wp2
        go_ret
        exact ⟨rfl, (Below.refl w.heap.size w).alloc (Nat.le_refl _) _⟩
  · have e1 : wd 4 = 32 := by decide
    have e2 : full 4 = 4294967295 := by decide
    go_enter Tryd.func3, Tryd.ntmps3
    go_wp2_with fail
    refine (width_any _ _ ht).mono ?_
    rintro e w' ⟨rfl, rfl⟩
    go_wp2_with fail
    refine (full_any _ _ ht).mono ?_
    rintro e w' ⟨rfl, rfl⟩
    go_wp2
    go_loop [5, 6] (fun v i => ∃ k : Nat, k ≤ 32 ∧ i = .int .i64 k ∧ v = .int .u64 (pw k)) (fun _ i => 32 - (intOf i).toNat)
    case atStart => exact ⟨0, by omega, rfl, rfl⟩
    case round =>
      obtain ⟨k, hk, rfl, rfl⟩ := hrel
      by_cases hlt : k < 32
      · have HS := Lib.hid (pw_succ k)
        obtain ⟨p0, p1⟩ := pw_bd k (by omega)
        go_wp2
        go_round
        case rel => exact ⟨k + 1, by omega, by go_num, by rw [HS.out]⟩
        case measure => simp [intOf]; omega
      · obtain rfl : k = 32 := by omega
        have e3 : pw 32 = 4294967295 := by decide
        go_wp2_with fail
        refine (width_any _ _ (ht.alloc _)).mono ?_
        rintro e w' ⟨rfl, rfl⟩
        go_wp2_with fail
        refine (full_any _ _ (ht.alloc _)).mono ?_
        rintro e w' ⟨rfl, rfl⟩
        go_wp2
        go_ret
        exact ⟨rfl, (Below.refl w.heap.size w).alloc (Nat.le_refl _) _⟩
  · have e1 : wd 5 = 32 := by decide
    have e2 : full 5 = 4294967295 := by decide
    go_enter Tryd.func3, Tryd.ntmps3
    go_wp2_with fail
    refine (width_any _ _ ht).mono ?_
    rintro e w' ⟨rfl, rfl⟩
    go_wp2_with fail
    refine (full_any _ _ ht).mono ?_
    rintro e w' ⟨rfl, rfl⟩
    go_wp2
    go_loop [5, 6] (fun v i => ∃ k : Nat, k ≤ 32 ∧ i = .int .i64 k ∧ v = .int .u64 (pw k)) (fun _ i => 32 - (intOf i).toNat)
    case atStart => exact ⟨0, by omega, rfl, rfl⟩
    case round =>
      obtain ⟨k, hk, rfl, rfl⟩ := hrel
      by_cases hlt : k < 32
      · have HS := Lib.hid (pw_succ k)
        obtain ⟨p0, p1⟩ := pw_bd k (by omega)
        go_wp2
        go_round
        case rel => exact ⟨k + 1, by omega, by go_num, by rw [HS.out]⟩
        case measure => simp [intOf]; omega
      · obtain rfl : k = 32 := by omega
        have e3 : pw 32 = 4294967295 := by decide
        go_wp2_with fail
        refine (width_any _ _ (ht.alloc _)).mono ?_
        rintro e w' ⟨rfl, rfl⟩
        go_wp2_with fail
        refine (full_any _ _ (ht.alloc _)).mono ?_
        rintro e w' ⟨rfl, rfl⟩
        go_wp2
        go_ret
        exact ⟨rfl, (Below.refl w.heap.size w).alloc (Nat.le_refl _) _⟩
  · have e1 : wd 6 = 8 := by decide
    have e2 : full 6 = 255 := by decide
    go_enter Tryd.func3, Tryd.ntmps3
    go_wp2_with fail
    refine (width_any _ _ ht).mono ?_
    rintro e w' ⟨rfl, rfl⟩
    go_wp2_with fail
    refine (full_any _ _ ht).mono ?_
    rintro e w' ⟨rfl, rfl⟩
    go_wp2
    go_loop [5, 6] (fun v i => ∃ k : Nat, k ≤ 8 ∧ i = .int .i64 k ∧ v = .int .u64 (pw k)) (fun _ i => 8 - (intOf i).toNat)
    case atStart => exact ⟨0, by omega, rfl, rfl⟩
    case round =>
      obtain ⟨k, hk, rfl, rfl⟩ := hrel
      by_cases hlt : k < 8
      · have HS := Lib.hid (pw_succ k)
        obtain ⟨p0, p1⟩ := pw_bd k (by omega)
        go_wp2
        go_round
        case rel => exact ⟨k + 1, by omega, by go_num, by rw [HS.out]⟩
        case measure => simp [intOf]; omega
      · obtain rfl : k = 8 := by omega
        have e3 : pw 8 = 255 := by decide
        go_wp2_with fail
        refine (width_any _ _ (ht.alloc _)).mono ?_
        rintro e w' ⟨rfl, rfl⟩
        go_wp2_with fail
        refine (full_any _ _ (ht.alloc _)).mono ?_
        rintro e w' ⟨rfl, rfl⟩
        go_wp2
        go_ret
        exact ⟨rfl, (Below.refl w.heap.size w).alloc (Nat.le_refl _) _⟩
  · have e1 : wd 7 = 16 := by decide
    have e2 : full 7 = 65535 := by decide
    go_enter Tryd.func3, Tryd.ntmps3
    go_wp2_with fail
    refine (width_any _ _ ht).mono ?_
    rintro e w' ⟨rfl, rfl⟩
    go_wp2_with fail
    refine (full_any _ _ ht).mono ?_
    rintro e w' ⟨rfl, rfl⟩
    go_wp2
    go_loop [5, 6] (fun v i => ∃ k : Nat, k ≤ 16 ∧ i = .int .i64 k ∧ v = .int .u64 (pw k)) (fun _ i => 16 - (intOf i).toNat)
    case atStart => exact ⟨0, by omega, rfl, rfl⟩
    case round =>
      obtain ⟨k, hk, rfl, rfl⟩ := hrel
      by_cases hlt : k < 16
      · have HS := Lib.hid (pw_succ k)
        obtain ⟨p0, p1⟩ := pw_bd k (by omega)
        go_wp2
        go_round
        case rel => exact ⟨k + 1, by omega, by go_num, by rw [HS.out]⟩
        case measure => simp [intOf]; omega
      · obtain rfl : k = 16 := by omega
        have e3 : pw 16 = 65535 := by decide
        go_wp2_with fail
        refine (width_any _ _ (ht.alloc _)).mono ?_
        rintro e w' ⟨rfl, rfl⟩
        go_wp2_with fail
        refine (full_any _ _ (ht.alloc _)).mono ?_
        rintro e w' ⟨rfl, rfl⟩
        go_wp2
        go_ret
        exact ⟨rfl, (Below.refl w.heap.size w).alloc (Nat.le_refl _) _⟩
  · have e1 : wd 8 = 16 := by decide
    have e2 : full 8 = 65535 := by decide
    go_enter Tryd.func3, Tryd.ntmps3
    go_wp2_with fail
    refine (width_any _ _ ht).mono ?_
    rintro e w' ⟨rfl, rfl⟩
    go_wp2_with fail
    refine (full_any _ _ ht).mono ?_
    rintro e w' ⟨rfl, rfl⟩
    go_wp2
    go_loop [5, 6] (fun v i => ∃ k : Nat, k ≤ 16 ∧ i = .int .i64 k ∧ v = .int .u64 (pw k)) (fun _ i => 16 - (intOf i).toNat)
    case atStart => exact ⟨0, by omega, rfl, rfl⟩
    case round =>
      obtain ⟨k, hk, rfl, rfl⟩ := hrel
      by_cases hlt : k < 16
      · have HS := Lib.hid (pw_succ k)
        obtain ⟨p0, p1⟩ := pw_bd k (by omega)
        go_wp2
        go_round
        case rel => exact ⟨k + 1, by omega, by go_num, by rw [HS.out]⟩
        case measure => simp [intOf]; omega
      · obtain rfl : k = 16 := by omega
        have e3 : pw 16 = 65535 := by decide
        go_wp2_with fail
        refine (width_any _ _ (ht.alloc _)).mono ?_
        rintro e w' ⟨rfl, rfl⟩
        go_wp2_with fail
        refine (full_any _ _ (ht.alloc _)).mono ?_
        rintro e w' ⟨rfl, rfl⟩
        go_wp2
        go_ret
        exact ⟨rfl, (Below.refl w.heap.size w).alloc (Nat.le_refl _) _⟩

/-! ### The row's step -/
theorem contract (H : Type) (enc : TypeId × Value → H) (W : World) (base : Nat) (args : Array Value) (ds gs : List (DataW H)) (before : List MemPlace)
    (hval : ∀ (j : Nat) t v, Tryd.f3.params[j]? = some t → args[j]? = some v → Value.okWide Tryd.prog W .any base t v)
    (hW : DataW.Whole enc Tryd.prog Tryd.f3.params.toList Rows.headWidthsSpec.vars false W args.toList ds gs before) (hL : laidMetH Tryd.prog Rows.headWidthsRow.laid W) :
    Calls Tryd.prog 3 args W fun e W' => ∃ v, e = .returned v ∧ Rows.headWidthsSpec.post enc Tryd.prog Tryd.f3 false true false false W args v W' := by
  have hW' := hW
  obtain ⟨p, q, hA0, hV, rfl, hfz, hnd⟩ := hW
  have hA : DataW.TrodAll enc Tryd.prog W 0 (fun _ => true) true Tryd.f3.params.toList args.toList ds p := hA0
  rw [Tryd.params3] at hA hval
  obtain ⟨v0, vs0, d0, ds0, p0, q0, hargs, rfl, rfl, h0, r0⟩ := trodAll_cons hA
  obtain ⟨rfl, rfl, rfl⟩ := trodAll_nil r0
  obtain rfl : args = #[v0] := by cases args; simp_all
  obtain ⟨rfl, rfl⟩ := trodVars_none hV
  obtain ⟨x0, rfl, rfl, rfl, w0⟩ := open_int Tryd.underlying22 (hval 0 22 v0 rfl rfl) h0
  clear hA0
  exact (walk x0 w0 W (Hd.tab_of_laid hL (by kernel_rfl))).mono fun e W' ⟨he, hg⟩ => ⟨_, he, Law.post_law Law.laidOut (by kernel_rfl) hW' rfl rfl Tryd.underlying4 rfl hg⟩

theorem laid_met (os : Os) : laidMet Tryd.prog Rows.headWidthsRow.laid ((Hd.laidWorld os).forCall (fun _ _ => 0) ⟨#[], #[.int .i64 0], []⟩).memory :=
  laidMet_of_run' 16 (by kernel_rfl) (by kernel_rfl)
theorem reads (os : Os) {H : Type} (enc : TypeId × Value → H) : ∃ places, DataW.whole enc Tryd.prog ((Hd.laidWorld os).forCall (fun _ _ => 0) ⟨#[], #[.int .i64 0], []⟩).memory Tryd.f3.params.toList Rows.headWidthsSpec.vars false (#[.int .i64 0] : Array Value).toList 8 = some ([.lit (.int .i64 0)], [], places) :=
  ⟨[], by kernel_rfl⟩

set_option maxRecDepth 100000 in
theorem lifted (os : Os) (started : os.Started) (H : Type) (enc : TypeId × Value → H) (F : Stop.Interp) :
    ReturnsInHanded {} Tryd.checked os 3 .any ((OpenSpec.ofChange Rows.headWidthsSpec).preRow enc Tryd.prog Tryd.f3 Rows.headWidthsRow.domain false Rows.headWidthsRow.laid) (((OpenSpec.ofChange Rows.headWidthsSpec).at F).post enc Tryd.prog Tryd.f3 false true false false) := by
  obtain ⟨places, hx⟩ := reads os enc
  refine returnsInHanded_of_row (C := Tryd.checked) (s := OpenSpec.ofChange Rows.headWidthsSpec) Law.own started (by kernel_rfl) Tryd.func3
    (witness_row_at (enc := enc) (C := Tryd.checked) false (Hd.laidWorld os) #[.int .i64 0] rfl (by kernel_rfl) (by kernel_rfl) (by kernel_rfl)
      (OpenSpec.preRow_of_cond 8 hx (by kernel_rfl) (fun k hk => by cases hk) (by kernel_rfl) (laid_met os))) ?_
  intro W base args ds gs before hval hW _ _ _ hL _ _
  exact contract H enc W base args ds gs before hval hW hL

theorem said : Rows.HeadWidthsSaid :=
  OpenClaim.holds_of_cond 3 Tryd.f3 rfl rfl rfl rfl rfl rfl rfl ⟨rfl, rfl, rfl, rfl, rfl⟩ rfl rfl rfl rfl rfl (by kernel_rfl) Tryd.func3 (by kernel_rfl)
    (of_decide_eq_true (by kernel_rfl)) (by unfold Func.isWrapper; first | (rw [if_pos (by decide +kernel)]; kernel_rfl) | (rw [if_neg (by decide +kernel)]; exact ⟨rfl, rfl⟩))
    (fun os started H enc _ F => by rw [OpenClaim.pre_eq_preRow]; exact lifted os started H enc F)

theorem plain (f : FuncId) (fn : Func) (hf : Tryd.pinned.checked.prog.funcNamed Tryd.f3.name = some f) (hfn : Tryd.pinned.checked.prog.funcs[f]? = some fn) :
    false = Tryd.pinned.checked.prog.looks [] ∧ ∀ (j : Nat) t, fn.params[j]? = some t → Tryd.pinned.checked.prog.wantsStandIn t = false := by
  obtain rfl : f = 3 := Option.some.inj ((show Tryd.prog.funcNamed Tryd.f3.name = some 3 by kernel_rfl).symm.trans hf) |>.symm
  obtain rfl : fn = Tryd.f3 := (Option.some.inj (Tryd.func3.symm.trans hfn)).symm
  refine ⟨by kernel_rfl, fun j t ht => ?_⟩
  rw [Tryd.params3] at ht
  have hall : ([22] : List TypeId).all (fun t => !Tryd.prog.wantsStandIn t) = true := by kernel_rfl
  have hm : t ∈ ([22] : List TypeId) := by simpa using Array.mem_of_getElem? ht
  exact (by simpa using List.all_eq_true.1 hall t hm : Tryd.prog.wantsStandIn t = false)

/-- THE STATEMENT: the card. -/
theorem card : Rows.HeadWidthsCardSaid :=
  Claim7.holds_tied_plain_at .later [] _ _ _ _ said (fun _ h => by cases h) (by kernel_rfl) (fun _ h => by cases h) headWidths_row_tie rfl ⟨rfl, rfl⟩ (by kernel_rfl) rfl plain (by kernel_rfl)
#print axioms card

end HeadWidths
end Go.Proofs.YtgoplihimajjkaaDoor
