/-
  Headers as nineteen numbers; the widths of their fields, and the masks. Conditions: the table 'widths' holds what its text lays ('Tab').
-/
import Derived.Test.YtgoplihimajjkaaDoorHead
import Derived.Test.YtgoplihimajjkaaDoorCards
import Derived.Test.YtgoplihimajjkaaDoorTie
import Derived.Deep.DeepHandedRow
import Derived.Lib.LaidTab
import Derived.Deep.RegionHeld3
namespace Go.Proofs.YtgoplihimajjkaaDoor
open Go.RowKit
namespace Hd

/-- A header's numbers. -/
structure Hdr where
  po : Int
  s0 : Int
  s1 : Int
  s2 : Int
  s3 : Int
  s4 : Int
  s5 : Int
  d0 : Int
  d1 : Int
  d2 : Int
  d3 : Int
  d4 : Int
  d5 : Int
  ty : Int
  si : Int
  di : Int
  pr : Int
  sp : Int
  dp : Int

/-- Each number fits its kind. -/
structure Hdr.Ok (h : Hdr) : Prop where
  po : -9223372036854775808 ≤ h.po ∧ h.po ≤ 9223372036854775807
  s0 : 0 ≤ h.s0 ∧ h.s0 ≤ 255
  s1 : 0 ≤ h.s1 ∧ h.s1 ≤ 255
  s2 : 0 ≤ h.s2 ∧ h.s2 ≤ 255
  s3 : 0 ≤ h.s3 ∧ h.s3 ≤ 255
  s4 : 0 ≤ h.s4 ∧ h.s4 ≤ 255
  s5 : 0 ≤ h.s5 ∧ h.s5 ≤ 255
  d0 : 0 ≤ h.d0 ∧ h.d0 ≤ 255
  d1 : 0 ≤ h.d1 ∧ h.d1 ≤ 255
  d2 : 0 ≤ h.d2 ∧ h.d2 ≤ 255
  d3 : 0 ≤ h.d3 ∧ h.d3 ≤ 255
  d4 : 0 ≤ h.d4 ∧ h.d4 ≤ 255
  d5 : 0 ≤ h.d5 ∧ h.d5 ≤ 255
  ty : -9223372036854775808 ≤ h.ty ∧ h.ty ≤ 9223372036854775807
  si : 0 ≤ h.si ∧ h.si ≤ 4294967295
  di : 0 ≤ h.di ∧ h.di ≤ 4294967295
  pr : -9223372036854775808 ≤ h.pr ∧ h.pr ≤ 9223372036854775807
  sp : -9223372036854775808 ≤ h.sp ∧ h.sp ≤ 9223372036854775807
  dp : -9223372036854775808 ≤ h.dp ∧ h.dp ≤ 9223372036854775807

/-- The table of the fields' widths, as it lies in memory. -/
def Tab (w : World) : Prop := ∀ i, i < 9 → w.cell? ⟨0, i, none⟩ = some (.int .i64 (([8, 48, 48, 16, 32, 32, 8, 16, 16] : List Int).getD i 0))
theorem Tab.keep {B : Nat} {w w1 : World} (h : Tab w) (hb : Below B w w1) (hB : w.heap.size ≤ B) : Tab w1 := fun i hi => Law.keep0 hb hB (h i hi)
theorem Tab.alloc {w : World} (h : Tab w) (o : Obj) : Tab (w.alloc o) := fun i hi => Law.cell_old (h i hi)

/-- How many bits a field has. -/
def wd (f : Int) : Int := if f < 0 ∨ 9 ≤ f then 0 else ([8, 48, 48, 16, 32, 32, 8, 16, 16] : List Int).getD f.toNat 0
/-- The mask of a field's bits. -/
def full (f : Int) : Int := if f < 0 ∨ 9 ≤ f then 0 else ([255, 281474976710655, 281474976710655, 65535, 4294967295, 4294967295, 255, 65535, 65535] : List Int).getD f.toNat 0

theorem width_any (f : Int) (w : World) (ht : Tab w) :
    Calls Tryd.prog 12 #[.int .i64 f] w fun e w' => e = .returned (.int .i64 (wd f)) ∧ w = w' := by
  by_cases h0 : f < 0
  · have HR := Lib.hid (show wd f = 0 by unfold wd; rw [if_pos (.inl h0)])
    go_enter Tryd.func12, Tryd.ntmps12
    go_wp2
    go_ret
    exact ⟨by rw [HR.out]; rfl, rfl⟩
  · by_cases h9 : 9 ≤ f
    · have HR := Lib.hid (show wd f = 0 by unfold wd; rw [if_pos (.inr h9)])
      go_enter Tryd.func12, Tryd.ntmps12
      go_wp2
      go_ret
      exact ⟨by rw [HR.out]; rfl, rfl⟩
    · obtain ⟨N, rfl⟩ := Int.eq_ofNat_of_zero_le (show 0 ≤ f by omega)
      have hN : N < 9 := by omega
      have hc := ht N hN
      have HR := Lib.hid (show wd (N : Int) = ([8, 48, 48, 16, 32, 32, 8, 16, 16] : List Int).getD N 0 by unfold wd; rw [if_neg (by omega), Int.toNat_natCast])
      generalize ([8, 48, 48, 16, 32, 32, 8, 16, 16] : List Int).getD N 0 = v at *
      clear h0 h9 ht
      go_enter Tryd.func12, Tryd.ntmps12
      go_wp2
      go_ret
      exact ⟨by rw [HR.out]; rfl, rfl⟩

theorem ways (f : Int) : f < 0 ∨ 9 ≤ f ∨ f = 0 ∨ f = 1 ∨ f = 2 ∨ f = 3 ∨ f = 4 ∨ f = 5 ∨ f = 6 ∨ f = 7 ∨ f = 8 := by omega
theorem full_out {f : Int} (h : f < 0 ∨ 9 ≤ f) : full f = 0 := by unfold full; rw [if_pos h]
theorem wd_out {f : Int} (h : f < 0 ∨ 9 ≤ f) : wd f = 0 := by unfold wd; rw [if_pos h]
theorem full_any (f : Int) (w : World) (ht : Tab w) :
    Calls Tryd.prog 13 #[.int .i64 f] w fun e w' => e = .returned (.int .u64 (full f)) ∧ w = w' := by
  have h := ways f
  rw [← or_assoc] at h
  rcases h with h | h
  · have HR := Lib.hid (full_out h)
    have e := wd_out h
    go_enter Tryd.func13, Tryd.ntmps13
    go_wp2_with fail
    refine (width_any f _ ht).mono ?_
    rintro e w' ⟨rfl, rfl⟩
    go_wp2
    go_ret
    exact ⟨by rw [HR.out]; rfl, rfl⟩
  · rcases h with rfl | rfl | rfl | rfl | rfl | rfl | rfl | rfl | rfl
    · have HR := Lib.hid (show full 0 = 255 by decide)
      have e : wd 0 = 8 := by decide
      go_enter Tryd.func13, Tryd.ntmps13
      go_wp2_with fail
      refine (width_any 0 _ ht).mono ?_
      rintro e w' ⟨rfl, rfl⟩
      go_wp2
      go_ret
      exact ⟨by rw [HR.out]; rfl, rfl⟩
    · have HR := Lib.hid (show full 1 = 281474976710655 by decide)
      have e : wd 1 = 48 := by decide
      go_enter Tryd.func13, Tryd.ntmps13
      go_wp2_with fail
      refine (width_any 1 _ ht).mono ?_
      rintro e w' ⟨rfl, rfl⟩
      go_wp2
      go_ret
      exact ⟨by rw [HR.out]; rfl, rfl⟩
    · have HR := Lib.hid (show full 2 = 281474976710655 by decide)
      have e : wd 2 = 48 := by decide
      go_enter Tryd.func13, Tryd.ntmps13
      go_wp2_with fail
      refine (width_any 2 _ ht).mono ?_
      rintro e w' ⟨rfl, rfl⟩
      go_wp2
      go_ret
      exact ⟨by rw [HR.out]; rfl, rfl⟩
    · have HR := Lib.hid (show full 3 = 65535 by decide)
      have e : wd 3 = 16 := by decide
      go_enter Tryd.func13, Tryd.ntmps13
      go_wp2_with fail
      refine (width_any 3 _ ht).mono ?_
      rintro e w' ⟨rfl, rfl⟩
      go_wp2
      go_ret
      exact ⟨by rw [HR.out]; rfl, rfl⟩
    · have HR := Lib.hid (show full 4 = 4294967295 by decide)
      have e : wd 4 = 32 := by decide
      go_enter Tryd.func13, Tryd.ntmps13
      go_wp2_with fail
      refine (width_any 4 _ ht).mono ?_
      rintro e w' ⟨rfl, rfl⟩
      go_wp2
      go_ret
      exact ⟨by rw [HR.out]; rfl, rfl⟩
    · have HR := Lib.hid (show full 5 = 4294967295 by decide)
      have e : wd 5 = 32 := by decide
      go_enter Tryd.func13, Tryd.ntmps13
      go_wp2_with fail
      refine (width_any 5 _ ht).mono ?_
      rintro e w' ⟨rfl, rfl⟩
      go_wp2
      go_ret
      exact ⟨by rw [HR.out]; rfl, rfl⟩
    · have HR := Lib.hid (show full 6 = 255 by decide)
      have e : wd 6 = 8 := by decide
      go_enter Tryd.func13, Tryd.ntmps13
      go_wp2_with fail
      refine (width_any 6 _ ht).mono ?_
      rintro e w' ⟨rfl, rfl⟩
      go_wp2
      go_ret
      exact ⟨by rw [HR.out]; rfl, rfl⟩
    · have HR := Lib.hid (show full 7 = 65535 by decide)
      have e : wd 7 = 16 := by decide
      go_enter Tryd.func13, Tryd.ntmps13
      go_wp2_with fail
      refine (width_any 7 _ ht).mono ?_
      rintro e w' ⟨rfl, rfl⟩
      go_wp2
      go_ret
      exact ⟨by rw [HR.out]; rfl, rfl⟩
    · have HR := Lib.hid (show full 8 = 65535 by decide)
      have e : wd 8 = 16 := by decide
      go_enter Tryd.func13, Tryd.ntmps13
      go_wp2_with fail
      refine (width_any 8 _ ht).mono ?_
      rintro e w' ⟨rfl, rfl⟩
      go_wp2
      go_ret
      exact ⟨by rw [HR.out]; rfl, rfl⟩

/-- A field's number. -/
def get (h : Hdr) (f : Int) : Int := if f < 0 ∨ 9 ≤ f then 0 else ([h.po % 256, num h.s0 h.s1 h.s2 h.s3 h.s4 h.s5, num h.d0 h.d1 h.d2 h.d3 h.d4 h.d5, h.ty % 65536, h.si, h.di, h.pr % 256, h.sp % 65536, h.dp % 65536] : List Int).getD f.toNat 0
theorem get_out {h : Hdr} {f : Int} (hf : f < 0 ∨ 9 ≤ f) : get h f = 0 := by unfold get; rw [if_pos hf]

theorem and_u64_mask (i : Nat) (hi : i ≤ 63) (x : Int) : bits .and .u64 x (2 ^ i - 1) = x % 2 ^ i := by
  show IntKind.u64.wrap ((BitVec.ofInt 64 x &&& BitVec.ofInt 64 (2 ^ i - 1)).toNat : Int) = _
  have hpos : 0 < 2 ^ i := Nat.two_pow_pos i
  have hle : 2 ^ i ≤ 2 ^ 63 := Nat.pow_le_pow_right (by decide) hi
  have hc : ((2 : Int) ^ i - 1) = ((2 ^ i - 1 : Nat) : Int) := by
    rw [Int.natCast_sub hpos]; simp
  have e2 : (BitVec.ofInt 64 ((2 : Int) ^ i - 1)).toNat = 2 ^ i - 1 := by
    rw [hc, BitVec.ofInt_natCast, BitVec.toNat_ofNat]
    exact Nat.mod_eq_of_lt (by omega)
  rw [BitVec.toNat_and, e2, Nat.and_two_pow_sub_one_eq_mod]
  have e1 := Pl.ofInt_toNat 64 x
  have hd : ((2 : Int) ^ i) ∣ (2 : Int) ^ 64 := ⟨2 ^ (64 - i), by rw [← Int.pow_add]; congr 1; omega⟩
  have ec : ((2 ^ i : Nat) : Int) = (2 : Int) ^ i := by simp
  have e3 : (((BitVec.ofInt 64 x).toNat % 2 ^ i : Nat) : Int) = x % 2 ^ i := by
    rw [Int.natCast_emod, e1, ec, Int.emod_emod_of_dvd x hd]
  rw [e3]
  have b1 := Int.emod_nonneg x (show (2 : Int) ^ i ≠ 0 by omega)
  have b2 := Int.emod_lt_of_pos x (show (0 : Int) < 2 ^ i by omega)
  rw [IntKind.wrap_u64]
  omega
theorem wrap_and (i : Nat) (hi : i ≤ 63) (x : Int) : bits .and .u64 (IntKind.u64.wrap x) (2 ^ i - 1) = x % 2 ^ i := by
  rw [and_u64_mask i hi, IntKind.wrap_u64]
  have hd : ((2 : Int) ^ i) ∣ (18446744073709551616 : Int) := ⟨2 ^ (64 - i), by rw [← Int.pow_add, show i + (64 - i) = 64 from by omega]; rfl⟩
  exact Int.emod_emod_of_dvd x hd
theorem wrap_255 (x : Int) : bits .and .u64 (IntKind.u64.wrap x) 255 = x % 256 := wrap_and 8 (by decide) x
theorem wrap_65535 (x : Int) : bits .and .u64 (IntKind.u64.wrap x) 65535 = x % 65536 := wrap_and 16 (by decide) x
theorem and_32 (x : Int) (h0 : 0 ≤ x) (h1 : x ≤ 4294967295) : bits .and .u64 x 4294967295 = x := by
  rw [show (4294967295 : Int) = 2 ^ 32 - 1 from rfl, and_u64_mask 32 (by decide)]
  omega
theorem and_48 (x : Int) (h0 : 0 ≤ x) (h1 : x < 281474976710656) : bits .and .u64 x 281474976710655 = x := by
  rw [show (281474976710655 : Int) = 2 ^ 48 - 1 from rfl, and_u64_mask 48 (by decide)]
  omega
theorem num_bd (m0 m1 m2 m3 m4 m5 : Int) (b0 : 0 ≤ m0 ∧ m0 ≤ 255) (b1 : 0 ≤ m1 ∧ m1 ≤ 255) (b2 : 0 ≤ m2 ∧ m2 ≤ 255) (b3 : 0 ≤ m3 ∧ m3 ≤ 255) (b4 : 0 ≤ m4 ∧ m4 ≤ 255) (b5 : 0 ≤ m5 ∧ m5 ≤ 255) :
    0 ≤ num m0 m1 m2 m3 m4 m5 ∧ num m0 m1 m2 m3 m4 m5 < 281474976710656 := by
  unfold num
  omega

theorem get_0 (h : Hdr) (ho : h.Ok) (w : World) (ht : Tab w) :
    Calls Tryd.prog 15 #[.agg #[.int .i64 h.po, .int .u8 h.s0, .int .u8 h.s1, .int .u8 h.s2, .int .u8 h.s3, .int .u8 h.s4, .int .u8 h.s5, .int .u8 h.d0, .int .u8 h.d1, .int .u8 h.d2, .int .u8 h.d3, .int .u8 h.d4, .int .u8 h.d5, .int .i64 h.ty, .int .u32 h.si, .int .u32 h.di, .int .i64 h.pr, .int .i64 h.sp, .int .i64 h.dp], .int .i64 0] w fun e w' => e = .returned (.int .u64 (get h 0)) ∧ Below w.heap.size w w' := by
  have b_po := ho.po
  have b_s0 := ho.s0
  have b_s1 := ho.s1
  have b_s2 := ho.s2
  have b_s3 := ho.s3
  have b_s4 := ho.s4
  have b_s5 := ho.s5
  have b_d0 := ho.d0
  have b_d1 := ho.d1
  have b_d2 := ho.d2
  have b_d3 := ho.d3
  have b_d4 := ho.d4
  have b_d5 := ho.d5
  have b_ty := ho.ty
  have b_si := ho.si
  have b_di := ho.di
  have b_pr := ho.pr
  have b_sp := ho.sp
  have b_dp := ho.dp
  have HR := Lib.hid (show get h 0 = h.po % 256 from rfl)
  have ef : full 0 = 255 := by decide
  have ea := wrap_255 h.po
  go_enter Tryd.func15, Tryd.ntmps15
  go_wp2_with fail
  refine (full_any _ _ (ht.alloc _)).mono ?_
  rintro e w' ⟨rfl, rfl⟩
  go_wp2
  go_ret
  exact ⟨by rw [HR.out]; rfl, (Below.refl w.heap.size w).alloc (Nat.le_refl _) _⟩

theorem get_1 (h : Hdr) (ho : h.Ok) (w : World) (ht : Tab w) :
    Calls Tryd.prog 15 #[.agg #[.int .i64 h.po, .int .u8 h.s0, .int .u8 h.s1, .int .u8 h.s2, .int .u8 h.s3, .int .u8 h.s4, .int .u8 h.s5, .int .u8 h.d0, .int .u8 h.d1, .int .u8 h.d2, .int .u8 h.d3, .int .u8 h.d4, .int .u8 h.d5, .int .i64 h.ty, .int .u32 h.si, .int .u32 h.di, .int .i64 h.pr, .int .i64 h.sp, .int .i64 h.dp], .int .i64 1] w fun e w' => e = .returned (.int .u64 (get h 1)) ∧ Below w.heap.size w w' := by
  have b_po := ho.po
  have b_s0 := ho.s0
  have b_s1 := ho.s1
  have b_s2 := ho.s2
  have b_s3 := ho.s3
  have b_s4 := ho.s4
  have b_s5 := ho.s5
  have b_d0 := ho.d0
  have b_d1 := ho.d1
  have b_d2 := ho.d2
  have b_d3 := ho.d3
  have b_d4 := ho.d4
  have b_d5 := ho.d5
  have b_ty := ho.ty
  have b_si := ho.si
  have b_di := ho.di
  have b_pr := ho.pr
  have b_sp := ho.sp
  have b_dp := ho.dp
  have HR := Lib.hid (show get h 1 = num h.s0 h.s1 h.s2 h.s3 h.s4 h.s5 from rfl)
  have ef : full 1 = 281474976710655 := by decide
  obtain ⟨n0, n1⟩ := num_bd _ _ _ _ _ _ b_s0 b_s1 b_s2 b_s3 b_s4 b_s5
  have ea := and_48 (num h.s0 h.s1 h.s2 h.s3 h.s4 h.s5) n0 n1
  go_enter Tryd.func15, Tryd.ntmps15
  go_wp2_with fail
  refine (num_any _ _ _ _ _ _ (by omega) (by omega) (by omega) (by omega) (by omega) (by omega) _).mono ?_
  rintro e w1 ⟨rfl, hb1⟩
  replace ht := (ht.alloc _).keep hb1 (by simp)
  replace hb1 := Law.next1 (Below.refl w.heap.size w) (Nat.le_refl _) hb1 (by simp)
  go_wp2_with fail
  refine (full_any _ _ ht).mono ?_
  rintro e w' ⟨rfl, rfl⟩
  go_wp2
  go_ret
  exact ⟨by rw [HR.out]; rfl, hb1⟩

theorem get_2 (h : Hdr) (ho : h.Ok) (w : World) (ht : Tab w) :
    Calls Tryd.prog 15 #[.agg #[.int .i64 h.po, .int .u8 h.s0, .int .u8 h.s1, .int .u8 h.s2, .int .u8 h.s3, .int .u8 h.s4, .int .u8 h.s5, .int .u8 h.d0, .int .u8 h.d1, .int .u8 h.d2, .int .u8 h.d3, .int .u8 h.d4, .int .u8 h.d5, .int .i64 h.ty, .int .u32 h.si, .int .u32 h.di, .int .i64 h.pr, .int .i64 h.sp, .int .i64 h.dp], .int .i64 2] w fun e w' => e = .returned (.int .u64 (get h 2)) ∧ Below w.heap.size w w' := by
  have b_po := ho.po
  have b_s0 := ho.s0
  have b_s1 := ho.s1
  have b_s2 := ho.s2
  have b_s3 := ho.s3
  have b_s4 := ho.s4
  have b_s5 := ho.s5
  have b_d0 := ho.d0
  have b_d1 := ho.d1
  have b_d2 := ho.d2
  have b_d3 := ho.d3
  have b_d4 := ho.d4
  have b_d5 := ho.d5
  have b_ty := ho.ty
  have b_si := ho.si
  have b_di := ho.di
  have b_pr := ho.pr
  have b_sp := ho.sp
  have b_dp := ho.dp
  have HR := Lib.hid (show get h 2 = num h.d0 h.d1 h.d2 h.d3 h.d4 h.d5 from rfl)
  have ef : full 2 = 281474976710655 := by decide
  obtain ⟨n0, n1⟩ := num_bd _ _ _ _ _ _ b_d0 b_d1 b_d2 b_d3 b_d4 b_d5
  have ea := and_48 (num h.d0 h.d1 h.d2 h.d3 h.d4 h.d5) n0 n1
  go_enter Tryd.func15, Tryd.ntmps15
  go_wp2_with fail
  refine (num_any _ _ _ _ _ _ (by omega) (by omega) (by omega) (by omega) (by omega) (by omega) _).mono ?_
  rintro e w1 ⟨rfl, hb1⟩
  replace ht := (ht.alloc _).keep hb1 (by simp)
  replace hb1 := Law.next1 (Below.refl w.heap.size w) (Nat.le_refl _) hb1 (by simp)
  go_wp2_with fail
  refine (full_any _ _ ht).mono ?_
  rintro e w' ⟨rfl, rfl⟩
  go_wp2
  go_ret
  exact ⟨by rw [HR.out]; rfl, hb1⟩

theorem get_3 (h : Hdr) (ho : h.Ok) (w : World) (ht : Tab w) :
    Calls Tryd.prog 15 #[.agg #[.int .i64 h.po, .int .u8 h.s0, .int .u8 h.s1, .int .u8 h.s2, .int .u8 h.s3, .int .u8 h.s4, .int .u8 h.s5, .int .u8 h.d0, .int .u8 h.d1, .int .u8 h.d2, .int .u8 h.d3, .int .u8 h.d4, .int .u8 h.d5, .int .i64 h.ty, .int .u32 h.si, .int .u32 h.di, .int .i64 h.pr, .int .i64 h.sp, .int .i64 h.dp], .int .i64 3] w fun e w' => e = .returned (.int .u64 (get h 3)) ∧ Below w.heap.size w w' := by
  have b_po := ho.po
  have b_s0 := ho.s0
  have b_s1 := ho.s1
  have b_s2 := ho.s2
  have b_s3 := ho.s3
  have b_s4 := ho.s4
  have b_s5 := ho.s5
  have b_d0 := ho.d0
  have b_d1 := ho.d1
  have b_d2 := ho.d2
  have b_d3 := ho.d3
  have b_d4 := ho.d4
  have b_d5 := ho.d5
  have b_ty := ho.ty
  have b_si := ho.si
  have b_di := ho.di
  have b_pr := ho.pr
  have b_sp := ho.sp
  have b_dp := ho.dp
  have HR := Lib.hid (show get h 3 = h.ty % 65536 from rfl)
  have ef : full 3 = 65535 := by decide
  have ea := wrap_65535 h.ty
  go_enter Tryd.func15, Tryd.ntmps15
  go_wp2_with fail
  refine (full_any _ _ (ht.alloc _)).mono ?_
  rintro e w' ⟨rfl, rfl⟩
  go_wp2
  go_ret
  exact ⟨by rw [HR.out]; rfl, (Below.refl w.heap.size w).alloc (Nat.le_refl _) _⟩

theorem get_4 (h : Hdr) (ho : h.Ok) (w : World) (ht : Tab w) :
    Calls Tryd.prog 15 #[.agg #[.int .i64 h.po, .int .u8 h.s0, .int .u8 h.s1, .int .u8 h.s2, .int .u8 h.s3, .int .u8 h.s4, .int .u8 h.s5, .int .u8 h.d0, .int .u8 h.d1, .int .u8 h.d2, .int .u8 h.d3, .int .u8 h.d4, .int .u8 h.d5, .int .i64 h.ty, .int .u32 h.si, .int .u32 h.di, .int .i64 h.pr, .int .i64 h.sp, .int .i64 h.dp], .int .i64 4] w fun e w' => e = .returned (.int .u64 (get h 4)) ∧ Below w.heap.size w w' := by
  have b_po := ho.po
  have b_s0 := ho.s0
  have b_s1 := ho.s1
  have b_s2 := ho.s2
  have b_s3 := ho.s3
  have b_s4 := ho.s4
  have b_s5 := ho.s5
  have b_d0 := ho.d0
  have b_d1 := ho.d1
  have b_d2 := ho.d2
  have b_d3 := ho.d3
  have b_d4 := ho.d4
  have b_d5 := ho.d5
  have b_ty := ho.ty
  have b_si := ho.si
  have b_di := ho.di
  have b_pr := ho.pr
  have b_sp := ho.sp
  have b_dp := ho.dp
  have HR := Lib.hid (show get h 4 = h.si from rfl)
  have ef : full 4 = 4294967295 := by decide
  have ea := and_32 h.si b_si.1 b_si.2
  go_enter Tryd.func15, Tryd.ntmps15
  go_wp2_with fail
  refine (full_any _ _ (ht.alloc _)).mono ?_
  rintro e w' ⟨rfl, rfl⟩
  go_wp2
  go_ret
  exact ⟨by rw [HR.out]; rfl, (Below.refl w.heap.size w).alloc (Nat.le_refl _) _⟩

theorem get_5 (h : Hdr) (ho : h.Ok) (w : World) (ht : Tab w) :
    Calls Tryd.prog 15 #[.agg #[.int .i64 h.po, .int .u8 h.s0, .int .u8 h.s1, .int .u8 h.s2, .int .u8 h.s3, .int .u8 h.s4, .int .u8 h.s5, .int .u8 h.d0, .int .u8 h.d1, .int .u8 h.d2, .int .u8 h.d3, .int .u8 h.d4, .int .u8 h.d5, .int .i64 h.ty, .int .u32 h.si, .int .u32 h.di, .int .i64 h.pr, .int .i64 h.sp, .int .i64 h.dp], .int .i64 5] w fun e w' => e = .returned (.int .u64 (get h 5)) ∧ Below w.heap.size w w' := by
  have b_po := ho.po
  have b_s0 := ho.s0
  have b_s1 := ho.s1
  have b_s2 := ho.s2
  have b_s3 := ho.s3
  have b_s4 := ho.s4
  have b_s5 := ho.s5
  have b_d0 := ho.d0
  have b_d1 := ho.d1
  have b_d2 := ho.d2
  have b_d3 := ho.d3
  have b_d4 := ho.d4
  have b_d5 := ho.d5
  have b_ty := ho.ty
  have b_si := ho.si
  have b_di := ho.di
  have b_pr := ho.pr
  have b_sp := ho.sp
  have b_dp := ho.dp
  have HR := Lib.hid (show get h 5 = h.di from rfl)
  have ef : full 5 = 4294967295 := by decide
  have ea := and_32 h.di b_di.1 b_di.2
  go_enter Tryd.func15, Tryd.ntmps15
  go_wp2_with fail
  refine (full_any _ _ (ht.alloc _)).mono ?_
  rintro e w' ⟨rfl, rfl⟩
  go_wp2
  go_ret
  exact ⟨by rw [HR.out]; rfl, (Below.refl w.heap.size w).alloc (Nat.le_refl _) _⟩

theorem get_6 (h : Hdr) (ho : h.Ok) (w : World) (ht : Tab w) :
    Calls Tryd.prog 15 #[.agg #[.int .i64 h.po, .int .u8 h.s0, .int .u8 h.s1, .int .u8 h.s2, .int .u8 h.s3, .int .u8 h.s4, .int .u8 h.s5, .int .u8 h.d0, .int .u8 h.d1, .int .u8 h.d2, .int .u8 h.d3, .int .u8 h.d4, .int .u8 h.d5, .int .i64 h.ty, .int .u32 h.si, .int .u32 h.di, .int .i64 h.pr, .int .i64 h.sp, .int .i64 h.dp], .int .i64 6] w fun e w' => e = .returned (.int .u64 (get h 6)) ∧ Below w.heap.size w w' := by
  have b_po := ho.po
  have b_s0 := ho.s0
  have b_s1 := ho.s1
  have b_s2 := ho.s2
  have b_s3 := ho.s3
  have b_s4 := ho.s4
  have b_s5 := ho.s5
  have b_d0 := ho.d0
  have b_d1 := ho.d1
  have b_d2 := ho.d2
  have b_d3 := ho.d3
  have b_d4 := ho.d4
  have b_d5 := ho.d5
  have b_ty := ho.ty
  have b_si := ho.si
  have b_di := ho.di
  have b_pr := ho.pr
  have b_sp := ho.sp
  have b_dp := ho.dp
  have HR := Lib.hid (show get h 6 = h.pr % 256 from rfl)
  have ef : full 6 = 255 := by decide
  have ea := wrap_255 h.pr
  go_enter Tryd.func15, Tryd.ntmps15
  go_wp2_with fail
  refine (full_any _ _ (ht.alloc _)).mono ?_
  rintro e w' ⟨rfl, rfl⟩
  go_wp2
  go_ret
  exact ⟨by rw [HR.out]; rfl, (Below.refl w.heap.size w).alloc (Nat.le_refl _) _⟩

theorem get_7 (h : Hdr) (ho : h.Ok) (w : World) (ht : Tab w) :
    Calls Tryd.prog 15 #[.agg #[.int .i64 h.po, .int .u8 h.s0, .int .u8 h.s1, .int .u8 h.s2, .int .u8 h.s3, .int .u8 h.s4, .int .u8 h.s5, .int .u8 h.d0, .int .u8 h.d1, .int .u8 h.d2, .int .u8 h.d3, .int .u8 h.d4, .int .u8 h.d5, .int .i64 h.ty, .int .u32 h.si, .int .u32 h.di, .int .i64 h.pr, .int .i64 h.sp, .int .i64 h.dp], .int .i64 7] w fun e w' => e = .returned (.int .u64 (get h 7)) ∧ Below w.heap.size w w' := by
  have b_po := ho.po
  have b_s0 := ho.s0
  have b_s1 := ho.s1
  have b_s2 := ho.s2
  have b_s3 := ho.s3
  have b_s4 := ho.s4
  have b_s5 := ho.s5
  have b_d0 := ho.d0
  have b_d1 := ho.d1
  have b_d2 := ho.d2
  have b_d3 := ho.d3
  have b_d4 := ho.d4
  have b_d5 := ho.d5
  have b_ty := ho.ty
  have b_si := ho.si
  have b_di := ho.di
  have b_pr := ho.pr
  have b_sp := ho.sp
  have b_dp := ho.dp
  have HR := Lib.hid (show get h 7 = h.sp % 65536 from rfl)
  have ef : full 7 = 65535 := by decide
  have ea := wrap_65535 h.sp
  go_enter Tryd.func15, Tryd.ntmps15
  go_wp2_with fail
  refine (full_any _ _ (ht.alloc _)).mono ?_
  rintro e w' ⟨rfl, rfl⟩
  go_wp2
  go_ret
  exact ⟨by rw [HR.out]; rfl, (Below.refl w.heap.size w).alloc (Nat.le_refl _) _⟩

theorem get_8 (h : Hdr) (ho : h.Ok) (w : World) (ht : Tab w) :
    Calls Tryd.prog 15 #[.agg #[.int .i64 h.po, .int .u8 h.s0, .int .u8 h.s1, .int .u8 h.s2, .int .u8 h.s3, .int .u8 h.s4, .int .u8 h.s5, .int .u8 h.d0, .int .u8 h.d1, .int .u8 h.d2, .int .u8 h.d3, .int .u8 h.d4, .int .u8 h.d5, .int .i64 h.ty, .int .u32 h.si, .int .u32 h.di, .int .i64 h.pr, .int .i64 h.sp, .int .i64 h.dp], .int .i64 8] w fun e w' => e = .returned (.int .u64 (get h 8)) ∧ Below w.heap.size w w' := by
  have b_po := ho.po
  have b_s0 := ho.s0
  have b_s1 := ho.s1
  have b_s2 := ho.s2
  have b_s3 := ho.s3
  have b_s4 := ho.s4
  have b_s5 := ho.s5
  have b_d0 := ho.d0
  have b_d1 := ho.d1
  have b_d2 := ho.d2
  have b_d3 := ho.d3
  have b_d4 := ho.d4
  have b_d5 := ho.d5
  have b_ty := ho.ty
  have b_si := ho.si
  have b_di := ho.di
  have b_pr := ho.pr
  have b_sp := ho.sp
  have b_dp := ho.dp
  have HR := Lib.hid (show get h 8 = h.dp % 65536 from rfl)
  have ef : full 8 = 65535 := by decide
  have ea := wrap_65535 h.dp
  go_enter Tryd.func15, Tryd.ntmps15
  go_wp2_with fail
  refine (full_any _ _ (ht.alloc _)).mono ?_
  rintro e w' ⟨rfl, rfl⟩
  go_wp2
  go_ret
  exact ⟨by rw [HR.out]; rfl, (Below.refl w.heap.size w).alloc (Nat.le_refl _) _⟩

theorem get_no (h : Hdr) (f : Int) (hf : f < 0 ∨ 9 ≤ f) (w : World) (ht : Tab w) :
    Calls Tryd.prog 15 #[.agg #[.int .i64 h.po, .int .u8 h.s0, .int .u8 h.s1, .int .u8 h.s2, .int .u8 h.s3, .int .u8 h.s4, .int .u8 h.s5, .int .u8 h.d0, .int .u8 h.d1, .int .u8 h.d2, .int .u8 h.d3, .int .u8 h.d4, .int .u8 h.d5, .int .i64 h.ty, .int .u32 h.si, .int .u32 h.di, .int .i64 h.pr, .int .i64 h.sp, .int .i64 h.dp], .int .i64 f] w fun e w' => e = .returned (.int .u64 (get h f)) ∧ Below w.heap.size w w' := by
  have HR := Lib.hid (get_out (h := h) hf)
  have ef := full_out hf
  have ea : bits .and .u64 0 0 = 0 := by decide
  have ne0 : (f == 0) = false := beq_eq_false_iff_ne.2 (by omega)
  have ne1 : (f == 1) = false := beq_eq_false_iff_ne.2 (by omega)
  have ne2 : (f == 2) = false := beq_eq_false_iff_ne.2 (by omega)
  have ne3 : (f == 3) = false := beq_eq_false_iff_ne.2 (by omega)
  have ne4 : (f == 4) = false := beq_eq_false_iff_ne.2 (by omega)
  have ne5 : (f == 5) = false := beq_eq_false_iff_ne.2 (by omega)
  have ne6 : (f == 6) = false := beq_eq_false_iff_ne.2 (by omega)
  have ne7 : (f == 7) = false := beq_eq_false_iff_ne.2 (by omega)
  have ne8 : (f == 8) = false := beq_eq_false_iff_ne.2 (by omega)
  clear hf
  go_enter Tryd.func15, Tryd.ntmps15
  go_wp2_with fail
  refine (full_any _ _ (ht.alloc _)).mono ?_
  rintro e w' ⟨rfl, rfl⟩
  go_wp2
  go_ret
  exact ⟨by rw [HR.out]; rfl, (Below.refl w.heap.size w).alloc (Nat.le_refl _) _⟩

theorem get_any (h : Hdr) (ho : h.Ok) (f : Int) (w : World) (ht : Tab w) :
    Calls Tryd.prog 15 #[.agg #[.int .i64 h.po, .int .u8 h.s0, .int .u8 h.s1, .int .u8 h.s2, .int .u8 h.s3, .int .u8 h.s4, .int .u8 h.s5, .int .u8 h.d0, .int .u8 h.d1, .int .u8 h.d2, .int .u8 h.d3, .int .u8 h.d4, .int .u8 h.d5, .int .i64 h.ty, .int .u32 h.si, .int .u32 h.di, .int .i64 h.pr, .int .i64 h.sp, .int .i64 h.dp], .int .i64 f] w fun e w' => e = .returned (.int .u64 (get h f)) ∧ Below w.heap.size w w' := by
  have hw := ways f
  rw [← or_assoc] at hw
  rcases hw with hw | rfl | rfl | rfl | rfl | rfl | rfl | rfl | rfl | rfl
  · exact get_no h f hw w ht
  · exact get_0 h ho w ht
  · exact get_1 h ho w ht
  · exact get_2 h ho w ht
  · exact get_3 h ho w ht
  · exact get_4 h ho w ht
  · exact get_5 h ho w ht
  · exact get_6 h ho w ht
  · exact get_7 h ho w ht
  · exact get_8 h ho w ht

end Hd
end Go.Proofs.YtgoplihimajjkaaDoor
