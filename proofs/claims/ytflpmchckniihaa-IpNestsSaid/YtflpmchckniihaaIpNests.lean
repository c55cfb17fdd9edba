/-
  The law 'IpNests': for every input it answers true. No conditions.
-/
import Derived.Test.YtflpmchckniihaaIpC
import Derived.Test.YtflpmchckniihaaRefThree
import Derived.Test.YtflpmchckniihaaIpLawMath
namespace Go.Proofs.Ytflpmchckniihaa
open Go.ChangeShapes Go.WideShapes Go.ChangeAt Go.RowKit
open Pl
set_option linter.unusedVariables false
namespace IpNests

theorem cl_cl (n : Int) : cl (cl n : Nat) = cl n := by unfold cl; omega
theorem ok_of (a n : Int) : ok (a - a % K n) (cl n) = true := by
  have h := cl_le n
  refine ok_iff.2 ⟨by omega, by omega, ?_⟩
  rw [Ip.K_same (cl_cl n), Int.sub_emod, Int.emod_emod_of_dvd _ (Int.dvd_refl _)]
  simp
theorem of_le (a n : Int) (h0 : 0 ≤ a) : a % K n ≤ a := by
  have := K_pos n
  rw [Int.emod_def]
  have := Int.mul_nonneg (show 0 ≤ K n by omega) (Int.ediv_nonneg h0 (show 0 ≤ K n by omega))
  omega
theorem of_lo (a n : Int) (h0 : 0 ≤ a) : 0 ≤ a - a % K n := by have := of_le a n h0; omega
theorem of_hi (a n : Int) (h1 : a < 4294967296) : a - a % K n < 4294967296 := by
  have := K_pos n
  have := Int.emod_nonneg a (show K n ≠ 0 by omega)
  omega
/-- Of two prefixes of one address the shorter one covers the longer one. -/
theorem of_covers (a n m : Int) (h : cl n ≤ cl m) : covers (a - a % K n) (cl n) (a - a % K m) (cl m) = true := by
  have hd : K m ∣ K n := by
    unfold K
    rw [Int.natCast_dvd_natCast]
    exact Nat.pow_dvd_pow 2 (by omega)
  unfold covers has
  rw [ok_of, ok_of, Ip.K_same (cl_cl n)]
  have e : (a - a % K m) % K n = a % K n - a % K m := by
    obtain ⟨c, hc⟩ := hd
    have kp := K_pos m
    have kn := K_pos n
    have h1 := Int.mul_ediv_add_emod a (K n)
    have h2 := Int.mul_ediv_add_emod (a % K n) (K m)
    have h3 : a % K n % K m = a % K m := Int.emod_emod_of_dvd a ⟨c, hc⟩
    rw [h3] at h2
    have h4 := Int.emod_nonneg a (show K m ≠ 0 by omega)
    have h5 := Int.emod_nonneg a (show K n ≠ 0 by omega)
    have h6 := Int.emod_lt_of_pos a kn
    have h7 : 0 ≤ K m * (a % K n / K m) := Int.mul_nonneg (by omega) (Int.ediv_nonneg h5 (by omega))
    have e1 : a - a % K m = (a % K n - a % K m) + K n * (a / K n) := by omega
    rw [e1, Int.add_mul_emod_self_left, Int.emod_eq_of_lt (by omega) (by omega)]
  rw [e]
  simp
  omega
theorem bit_nat (a : Int) (k : Nat) (h : k < 32) : Ip.bit a k = a / 2 ^ (31 - k) % 2 := by
  unfold Ip.bit
  rw [if_neg (by omega), show (31 - (k : Int)).toNat = 31 - k from by omega]

section
variable {a b : Int} (h0 : 0 ≤ a) (h1 : a < 4294967296) (b0 : 0 ≤ b) (b1 : b < 4294967296)
include h0 h1 b0 b1
/-- So many first bits are alike: the addresses' prefixes of that length are one. -/
theorem alike_of (k : Nat) (hk : k ≤ 32) : RefOne.Alike a b k ↔ a - a % K k = b - b % K k := by
  have hc : cl (k : Int) = k := by unfold cl; omega
  obtain ⟨A, rfl⟩ := Int.eq_ofNat_of_zero_le h0
  obtain ⟨B, rfl⟩ := Int.eq_ofNat_of_zero_le b0
  have key := tops_nat A B (by omega) (by omega) (32 - k)
  have e1 : RefOne.Alike (A : Int) B k ↔ A / 2 ^ (32 - k) = B / 2 ^ (32 - k) := by
    rw [← key]
    constructor
    · intro h j hj hj2
      have := h (31 - j) (by omega)
      rw [bit_cast, bit_cast, show 31 - (31 - j) = j from by omega] at this
      omega
    · intro h i hi
      have := h (31 - i) (by omega) (by omega)
      rw [bit_cast, bit_cast]
      omega
  rw [e1]
  unfold K
  rw [hc]
  generalize hP : 2 ^ (32 - k) = P
  have pp : 0 < P := by rw [← hP]; exact Nat.two_pow_pos _
  have hA := Nat.div_add_mod A P
  have hB := Nat.div_add_mod B P
  have ea : ((A : Int) % (P : Int)) = ((A % P : Nat) : Int) := by simp
  have eb : ((B : Int) % (P : Int)) = ((B % P : Nat) : Int) := by simp
  rw [ea, eb]
  constructor
  · intro h
    rw [h] at hA
    omega
  · intro h
    have : P * (A / P) = P * (B / P) := by omega
    exact Nat.eq_of_mul_eq_mul_left pp this
theorem has_of (k : Nat) (hk : k ≤ 32) : has (a - a % K k) k b = true ↔ RefOne.Alike a b k := by
  have hc : ((cl (k : Int) : Nat) : Int) = k := by unfold cl; omega
  have ho := ok_of a k
  rw [hc] at ho
  rw [alike_of h0 h1 b0 b1 k hk]
  unfold has
  rw [ho]
  simp
  omega
end
theorem has_self (a : Int) (k : Nat) (hk : k ≤ 32) : has (a - a % K k) k a = true := by
  have hc : ((cl (k : Int) : Nat) : Int) = k := by unfold cl; omega
  have ho := ok_of a k
  rw [hc] at ho
  unfold has
  rw [ho]
  simp
theorem not_alike {a b : Int} {k : Nat} (h : ¬ a / 2 ^ (31 - k) % 2 = b / 2 ^ (31 - k) % 2) : ¬ RefOne.Alike a b (k + 1) := fun hh => h (hh k (by omega))

set_option maxHeartbeats 1000000 in
theorem walk (a b n m : Int) (wa : (Lit.int .u32 a).wf = true) (wb : (Lit.int .u32 b).wf = true) (wn : (Lit.int .i64 n).wf = true) (wm : (Lit.int .i64 m).wf = true) (w : World) :
    Calls Try.prog 10 #[.int .u32 a, .int .u32 b, .int .i64 n, .int .i64 m] w fun e w' => e = .returned (.bool true) ∧ Below w.heap.size w w' := by
  obtain ⟨h0, h1⟩ := Law.bd_u32 wa
  obtain ⟨b0, b1⟩ := Law.bd_u32 wb
  have t1 : covers 167772160 8 167837696 16 = true := by decide
  by_cases hl : cl n ≤ cl m
  case' pos =>
    have t2 := of_covers a n m hl
    have t3 : decide (cl n ≤ cl m) = true := by simp; omega
    have t4 : decide (cl m < cl n) = false := by simp; omega
    clear hl
    go_enter Try.func10, Try.ntmps10
    have hB := Below.refl w.heap.size w
    go_wp2_with fail
    refine (Ip.covers_any _ _ _ _ (by omega) (by omega) (by omega) (by omega) _).mono ?_
    rintro e w1 ⟨rfl, hb1⟩
    replace hB := hB.trans (hb1.mono hB.size)
    clear hb1
    go_wp2_with fail
    refine (Ip.of_any _ _ h0 h1 _).mono ?_
    rintro e w2 ⟨rfl, hb2⟩
    replace hB := hB.trans (hb2.mono hB.size)
    clear hb2
    go_wp2_with fail
    refine (Ip.of_any _ _ h0 h1 _).mono ?_
    rintro e w3 ⟨rfl, hb3⟩
    obtain ⟨c0, c1⟩ := Law.box2b hb3 (by simp)
    replace hB := (hB.alloc hB.size _).trans (hb3.mono (by have := hB.size; simp; omega))
    clear hb3
    have lc0 := Law.blk_lt c0
    go_wp2_with fail
    refine (Ip.covers_any _ _ _ _ (of_lo a n h0) (of_hi a n h1) (of_lo a m h0) (of_hi a m h1) _).mono ?_
    rintro e w4 ⟨rfl, hb4⟩
    obtain ⟨c2, c3⟩ := Law.box2b hb4 (by simp)
    replace c0 := Law.keep1 hb4 (by simp) c0
    replace c1 := Law.keep1 hb4 (by simp) c1
    replace hB := (hB.alloc hB.size _).trans (hb4.mono (by have := hB.size; simp; omega))
    clear hb4
    replace lc0 := Law.blk_lt c0
    have lc2 := Law.blk_lt c2
  case' neg =>
    have t2 := of_covers a m n (by omega)
    have t3 : decide (cl n ≤ cl m) = false := by simp; omega
    have t4 : decide (cl m < cl n) = true := by simp; omega
    clear hl
    go_enter Try.func10, Try.ntmps10
    have hB := Below.refl w.heap.size w
    go_wp2_with fail
    refine (Ip.covers_any _ _ _ _ (by omega) (by omega) (by omega) (by omega) _).mono ?_
    rintro e w1 ⟨rfl, hb1⟩
    replace hB := hB.trans (hb1.mono hB.size)
    clear hb1
    go_wp2_with fail
    refine (Ip.of_any _ _ h0 h1 _).mono ?_
    rintro e w2 ⟨rfl, hb2⟩
    replace hB := hB.trans (hb2.mono hB.size)
    clear hb2
    go_wp2_with fail
    refine (Ip.of_any _ _ h0 h1 _).mono ?_
    rintro e w3 ⟨rfl, hb3⟩
    obtain ⟨c0, c1⟩ := Law.box2b hb3 (by simp)
    replace hB := (hB.alloc hB.size _).trans (hb3.mono (by have := hB.size; simp; omega))
    clear hb3
    have lc0 := Law.blk_lt c0
    go_wp2_with fail
    refine (Ip.covers_any _ _ _ _ (of_lo a m h0) (of_hi a m h1) (of_lo a n h0) (of_hi a n h1) _).mono ?_
    rintro e w4 ⟨rfl, hb4⟩
    obtain ⟨c2, c3⟩ := Law.box2b hb4 (by simp)
    replace c0 := Law.keep1 hb4 (by simp) c0
    replace c1 := Law.keep1 hb4 (by simp) c1
    replace hB := (hB.alloc hB.size _).trans (hb4.mono (by have := hB.size; simp; omega))
    clear hb4
    replace lc0 := Law.blk_lt c0
    have lc2 := Law.blk_lt c2
  all_goals
    go_wp2
    clear c0 c1 c2 c3 t1 t2 t3 t4 lc0 lc2
    go_loop [11] (fun i => ∃ k : Nat, k ≤ 32 ∧ i = .int .i64 k ∧ RefOne.Alike a b k) (fun i => 32 - (intOf i).toNat)
    case atStart => exact ⟨0, by omega, rfl, fun i h => by omega⟩
    case round =>
      obtain ⟨k, hk, rfl, hal⟩ := hrel
      have f1 := has_self a k hk
      have f2 := (has_of h0 h1 b0 b1 k hk).2 hal
      have f3 := ((alike_of h0 h1 b0 b1 k hk).1 hal).symm
      have f4 : ((cl (k : Int) : Nat) : Int) = k := by unfold cl; omega
      by_cases hlt : k < 32
      · have g1 := bit_nat a k hlt
        have g2 := bit_nat b k hlt
        by_cases hb : a / 2 ^ (31 - k) % 2 = b / 2 ^ (31 - k) % 2
        · have HZ := Lib.hid (RefOne.alike_step hal hb)
          have hbb : (a / 2 ^ (31 - k) % 2 == b / 2 ^ (31 - k) % 2) = true := by simp [hb]
          clear hal hb f1 f2 f3 f4
          go_wp2_with fail
          refine (Ip.bit_any _ _ h0 h1 _).mono ?_
          rintro e w' ⟨rfl, rfl⟩
          go_wp2_with fail
          refine (Ip.bit_any _ _ b0 b1 _).mono ?_
          rintro e w' ⟨rfl, rfl⟩
          go_wp2
          go_round
          case rel => exact ⟨k + 1, by omega, by go_num, HZ.out⟩
          case measure => simp [intOf]; omega
        · have hbb : (a / 2 ^ (31 - k) % 2 == b / 2 ^ (31 - k) % 2) = false := by simp [hb]
          have f5 : has (a - a % K ((k : Int) + 1)) ((k : Int) + 1) b = false := by
            cases hh : has (a - a % K ((k : Int) + 1)) ((k : Int) + 1) b with
            | false => rfl
            | true => exact absurd ((has_of h0 h1 b0 b1 (k + 1) (by omega)).1 hh) (not_alike hb)
          have f6 : ((cl ((k : Int) + 1) : Nat) : Int) = k + 1 := by unfold cl; omega
          have f7 : ((k : Int) == 32) = false := by simp; omega
          have f8 : IntKind.i64.wrap ((k : Int) + 1) = k + 1 := IntWalk.i64_in _ (by omega)
          clear hal hb
          go_wp2_with fail
          refine (Ip.bit_any _ _ h0 h1 _).mono ?_
          rintro e w' ⟨rfl, rfl⟩
          go_wp2_with fail
          refine (Ip.bit_any _ _ b0 b1 _).mono ?_
          rintro e w' ⟨rfl, rfl⟩
          go_wp2_with fail
          refine (Ip.of_any _ _ h0 h1 _).mono ?_
          rintro e w5 ⟨rfl, hb5⟩
          replace hB := hB.trans (hb5.mono hB.size)
          clear hb5
          have hR := Below.refl (w5.heap.size + 1) (w5.alloc (.cells #[.int .u32 (a - a % K k), .int .i64 k] 33))
          have d6 := Law.carry hR (by simp) (Law.cell_new w5 _ _ 0)
          have d7 := Law.carry hR (by simp) (Law.cell_new w5 _ _ 1)
          go_wp2
          have hz := Law.hz1 hR
          refine Law.wp_region_below (by kernel_rfl) (by kernel_rfl) hR ?_
          repeat (go_big_quiet_step (first | (go_at_call 20; with_reducible exact Law.calls_below hz (Ip.has_is f1 (of_lo _ _ h0) (of_hi _ _ h1) h0 h1 _)) | (go_at_call 20; with_reducible exact Law.calls_below hz (Ip.has_is f2 (of_lo _ _ h0) (of_hi _ _ h1) b0 b1 _)) | (go_at_call 20; with_reducible exact Law.calls_below hz (Ip.has_is f5 (of_lo _ _ h0) (of_hi _ _ h1) b0 b1 _)) | (go_at_call 17; with_reducible exact Law.calls_below hz (Ip.of_any _ _ (by first | exact h0 | exact b0) (by first | exact h1 | exact b1) _))))
          refine wpQuiet_nil ?_
          rintro _ ⟨p, rfl⟩
          go_wp2
          go_ret
          exact ⟨rfl, (hB.alloc hB.size _).trans (p.below.mono (by have := hB.size; simp; omega))⟩
      · obtain rfl : k = 32 := by omega
        have f1 : has (a - a % K 32) 32 a = true := f1
        have f2 : has (a - a % K 32) 32 b = true := f2
        have f3 : b - b % K 32 = a - a % K 32 := f3
        have f4 : cl 32 = 32 := by decide
        clear hal
        go_wp2_with fail
        refine (Ip.of_any _ _ h0 h1 _).mono ?_
        rintro e w5 ⟨rfl, hb5⟩
        replace hB := hB.trans (hb5.mono hB.size)
        clear hb5
        have hR := Below.refl (w5.heap.size + 1) (w5.alloc (.cells #[.int .u32 (a - a % K 32), .int .i64 32] 33))
        have d6 := Law.carry hR (by simp) (Law.cell_new w5 _ _ 0)
        have d7 := Law.carry hR (by simp) (Law.cell_new w5 _ _ 1)
        go_wp2
        have hz := Law.hz1 hR
        refine Law.wp_region_below (by kernel_rfl) (by kernel_rfl) hR ?_
        repeat (go_big_quiet_step (first | (go_at_call 20; with_reducible exact Law.calls_below hz (Ip.has_is f1 (of_lo _ _ h0) (of_hi _ _ h1) h0 h1 _)) | (go_at_call 20; with_reducible exact Law.calls_below hz (Ip.has_is f2 (of_lo _ _ h0) (of_hi _ _ h1) b0 b1 _)) | (go_at_call 20; with_reducible exact Law.calls_below hz (Ip.has_is f5 (of_lo _ _ h0) (of_hi _ _ h1) b0 b1 _)) | (go_at_call 17; with_reducible exact Law.calls_below hz (Ip.of_any _ _ (by first | exact h0 | exact b0) (by first | exact h1 | exact b1) _))))
        refine wpQuiet_nil ?_
        rintro _ ⟨p, rfl⟩
        go_wp2
        go_ret
        exact ⟨rfl, (hB.alloc hB.size _).trans (p.below.mono (by have := hB.size; simp; omega))⟩

/-! ### The row's step -/
set_option maxRecDepth 100000 in
theorem lifted (os : Os) (started : os.Started) (H : Type) (enc : TypeId × Value → H) :
    ReturnsInHanded {} Try.checked os 10 .any (Rows.ipNestsSpec.pre6 enc Try.prog Try.f10 Rows.ipNestsRow.domain false) (Rows.ipNestsSpec.post enc Try.prog Try.f10 false true false false) := by
  refine returnsInHanded_of_change (C := Try.checked) Law.own started (by kernel_rfl) Try.func10
    (ChangeSpec.witness6 (enc := enc) (C := Try.checked) false ⟨#[], #[.int .u32 0, .int .u32 0, .int .i64 0, .int .i64 0], []⟩ 8 (by kernel_rfl) (by kernel_rfl) (by kernel_rfl) (by kernel_rfl)) ?_
  intro W base args ds gs before hval0 hW hcnd _
  have hval : ∀ (j : Nat) t v, Try.f10.params[j]? = some t → args[j]? = some v → Value.okWide Try.prog W .any base t v := hval0
  have hW' := hW
  obtain ⟨p, q, hA0, hV, rfl, hfz, hnd⟩ := hW
  have hA : DataW.TrodAll enc Try.prog W 0 (fun _ => true) true Try.f10.params.toList args.toList ds p := hA0
  rw [Try.params10] at hA hval
  obtain ⟨v0, vs0, d0, ds0, p0, q0, hargs, rfl, rfl, h0, r0⟩ := trodAll_cons hA
  obtain ⟨v1, vs1, d1, ds1, p1, q1, rfl, rfl, rfl, h1, r1⟩ := trodAll_cons r0
  obtain ⟨v2, vs2, d2, ds2, p2, q2, rfl, rfl, rfl, h2, r2⟩ := trodAll_cons r1
  obtain ⟨v3, vs3, d3, ds3, p3, q3, rfl, rfl, rfl, h3, r3⟩ := trodAll_cons r2
  obtain ⟨rfl, rfl, rfl⟩ := trodAll_nil r3
  obtain rfl : args = #[v0, v1, v2, v3] := by cases args; simp_all
  obtain ⟨rfl, rfl⟩ := trodVars_none hV
  obtain ⟨x0, rfl, rfl, rfl, w0⟩ := open_int Try.underlying25 (hval 0 25 v0 rfl rfl) h0
  obtain ⟨x1, rfl, rfl, rfl, w1⟩ := open_int Try.underlying25 (hval 1 25 v1 rfl rfl) h1
  obtain ⟨x2, rfl, rfl, rfl, w2⟩ := open_int Try.underlying3 (hval 2 3 v2 rfl rfl) h2
  obtain ⟨x3, rfl, rfl, rfl, w3⟩ := open_int Try.underlying3 (hval 3 3 v3 rfl rfl) h3
  clear hA0 hval0
  exact (walk x0 x1 x2 x3 w0 w1 w2 w3 W).mono fun e W' ⟨he, hg⟩ => ⟨_, he, Law.post_law Law.laidOut (by kernel_rfl) hW' rfl rfl Try.underlying4 rfl hg⟩

theorem over : Rows.ipNestsRow.holds Try.pinned (OpenSpec.ofChange Rows.ipNestsSpec) :=
  OpenClaim.holds_of_wide 10 Try.f10 rfl rfl rfl rfl rfl rfl rfl ⟨rfl, rfl, rfl, rfl, rfl⟩ rfl rfl rfl rfl rfl (by kernel_rfl) Try.func10 (by kernel_rfl)
    (of_decide_eq_true (by kernel_rfl)) (by unfold Func.isWrapper; first | (rw [if_pos (by decide +kernel)]; kernel_rfl) | (rw [if_neg (by decide +kernel)]; exact ⟨rfl, rfl⟩))
    (fun os started H enc _ => lifted os started H enc)

/-- THE STATEMENT. -/
theorem proved : Rows.IpNestsSaid := over
#print axioms proved

end IpNests
end Go.Proofs.Ytflpmchckniihaa
