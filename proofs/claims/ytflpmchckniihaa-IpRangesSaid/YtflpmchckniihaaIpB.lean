/-
  The functions of package ip: what each answers (Has, Covers, Meets, Of, Bit, First, Last, Half, Cmp). Conditions: that an address is a number of 32 bits.
-/
import Derived.Test.YtflpmchckniihaaIp
namespace Go.Proofs.Ytflpmchckniihaa
open Go.RowKit
namespace Ip
open Pl

theorem box2c (w : World) (x y : Value) (t : TypeId) : (w.alloc (.cells #[x, y] t)).cell? ⟨w.heap.size, 0, none⟩ = some x ∧ (w.alloc (.cells #[x, y] t)).cell? ⟨w.heap.size, 1, none⟩ = some y :=
  ⟨Law.cell_new w _ t 0, Law.cell_new w _ t 1⟩

theorem has_any (a n x : Int) (h0 : 0 ≤ a) (h1 : a < 4294967296) (x0 : 0 ≤ x) (x1 : x < 4294967296) (w : World) :
    Calls Try.prog 20 #[.agg #[.int .u32 a, .int .i64 n], .int .u32 x] w fun e w' => e = .returned (.bool (has a n x)) ∧ Below w.heap.size w w' := by
  have c0 := fun p => (Law.box2 w (.int .u32 a) (.int .i64 n) 33 p).1
  have c1 := fun p => (Law.box2 w (.int .u32 a) (.int .i64 n) 33 p).2
  have ea := and_mk x n x0 x1
  by_cases hk : ok a n = true
  · have hc := chk_yes hk
    by_cases hx : x - x % K n = a
    · have HR := Lib.hid (show has a n x = true by simp [has, hk, hx])
      have ht : (x - x % K n == a) = true := by simp [hx]
      clear hk hx
      go_enter Try.func20, Try.ntmps20
      go_wp2
      refine Law.wp_region_below (B := w.heap.size + 1) (by kernel_rfl) (by kernel_rfl) (Below.refl _ _) ?_
      repeat (go_big_quiet_step (first | (go_at_call 21; exact Law.calls_below (by simp) (check_any _ _ h0 h1 _)) | (go_at_call 15; exact Law.calls_same (mask_any _ _))))
      refine wpQuiet_nil ?_
      rintro _ ⟨p, rfl⟩
      go_wp2
      go_ret
      exact ⟨by rw [HR.out]; rfl, Law.below_box (Nat.le_succ _) p.below⟩
    · have HR := Lib.hid (show has a n x = false by simp [has, hx])
      have ht : (x - x % K n == a) = false := by simp [hx]
      clear hk hx
      go_enter Try.func20, Try.ntmps20
      go_wp2
      refine Law.wp_region_below (B := w.heap.size + 1) (by kernel_rfl) (by kernel_rfl) (Below.refl _ _) ?_
      repeat (go_big_quiet_step (first | (go_at_call 21; exact Law.calls_below (by simp) (check_any _ _ h0 h1 _)) | (go_at_call 15; exact Law.calls_same (mask_any _ _))))
      refine wpQuiet_nil ?_
      rintro _ ⟨p, rfl⟩
      go_wp2
      go_ret
      exact ⟨by rw [HR.out]; rfl, Law.below_box (Nat.le_succ _) p.below⟩
  · have hk' : ok a n = false := by simpa using hk
    have hc := chk_no hk'
    have HR := Lib.hid (show has a n x = false by simp [has, hk'])
    clear hk hk'
    go_enter Try.func20, Try.ntmps20
    go_wp2
    refine Law.wp_region_below (B := w.heap.size + 1) (by kernel_rfl) (by kernel_rfl) (Below.refl _ _) ?_
    repeat (go_big_quiet_step (first | (go_at_call 21; exact Law.calls_below (by simp) (check_any _ _ h0 h1 _)) | (go_at_call 15; exact Law.calls_same (mask_any _ _))))
    refine wpQuiet_nil ?_
    rintro _ ⟨p, rfl⟩
    go_wp2
    go_ret
    exact ⟨by rw [HR.out]; rfl, Law.below_box (Nat.le_succ _) p.below⟩

/-- Two boxed structs of two cells. -/
theorem box22 (w : World) (x y x' y' : Value) (t t' : TypeId) {B : Nat} {w1 : World} (h : Below B ((w.alloc (.cells #[x, y] t)).alloc (.cells #[x', y'] t')) w1) (hB : w.heap.size + 2 ≤ B) :
    w1.cell? ⟨w.heap.size, 0, none⟩ = some x ∧ w1.cell? ⟨w.heap.size, 1, none⟩ = some y ∧ w1.cell? ⟨w.heap.size + 1, 0, none⟩ = some x' ∧ w1.cell? ⟨w.heap.size + 1, 1, none⟩ = some y' := by
  have e : (w.alloc (.cells #[x, y] t)).heap.size = w.heap.size + 1 := by simp
  have o : ∀ i, ((w.alloc (.cells #[x, y] t)).alloc (.cells #[x', y'] t')).cell? ⟨w.heap.size, i, none⟩ = (#[x, y] : Array Value)[i]? := fun i =>
    (World.cell?_of_block (Below.heap_alloc _ _ _ (by simp))).trans (Law.cell_new w #[x, y] t i)
  have o' : ∀ i, ((w.alloc (.cells #[x, y] t)).alloc (.cells #[x', y'] t')).cell? ⟨w.heap.size + 1, i, none⟩ = (#[x', y'] : Array Value)[i]? := fun i => by
    have := Law.cell_new (w.alloc (.cells #[x, y] t)) #[x', y'] t' i
    rw [e] at this
    exact this
  exact ⟨(h.cell (p := ⟨w.heap.size, 0, none⟩) (by show w.heap.size < B; omega)).trans (o 0), (h.cell (p := ⟨w.heap.size, 1, none⟩) (by show w.heap.size < B; omega)).trans (o 1),
    (h.cell (p := ⟨w.heap.size + 1, 0, none⟩) (by show w.heap.size + 1 < B; omega)).trans (o' 0), (h.cell (p := ⟨w.heap.size + 1, 1, none⟩) (by show w.heap.size + 1 < B; omega)).trans (o' 1)⟩
theorem below_box2 {w w' : World} {o o' : Obj} {B : Nat} (hB : w.heap.size ≤ B) (h : Below B ((w.alloc o).alloc o') w') : Below w.heap.size w w' :=
  Law.below_box (Nat.le_refl _) (((Below.refl w.heap.size (w.alloc o)).alloc (by simp) o').trans (h.mono hB))

theorem covers_any (a n b m : Int) (h0 : 0 ≤ a) (h1 : a < 4294967296) (b0 : 0 ≤ b) (b1 : b < 4294967296) (w : World) :
    Calls Try.prog 22 #[.agg #[.int .u32 a, .int .i64 n], .agg #[.int .u32 b, .int .i64 m]] w fun e w' => e = .returned (.bool (covers a n b m)) ∧ Below w.heap.size w w' := by
  by_cases hk : ok b m = true
  · have hc := chk_yes hk
    by_cases hx : n ≤ m
    · have HR := Lib.hid (show covers a n b m = has a n b by simp [covers, hk, hx])
      clear hk
      go_enter Try.func22, Try.ntmps22
      go_wp2_with fail
      refine (check_any _ _ b0 b1 _).mono ?_
      rintro e w1 ⟨rfl, hb1⟩
      obtain ⟨c0, c1, c2, c3⟩ := box22 _ _ _ _ _ _ _ hb1 (by simp)
      go_wp2_with fail
      refine (has_any _ _ _ h0 h1 b0 b1 _).mono ?_
      rintro e w2 ⟨rfl, hb2⟩
      have hb := below_box2 (by simp; omega) (hb1.trans (hb2.mono hb1.size))
      clear c0 c1 c2 c3 hb1 hb2
      go_wp2
      go_ret
      exact ⟨by rw [HR.out]; rfl, hb⟩
    · have HR := Lib.hid (show covers a n b m = false by simp [covers, hx])
      have hx' : m < n := by omega
      clear hk hx
      go_enter Try.func22, Try.ntmps22
      go_wp2_with fail
      refine (check_any _ _ b0 b1 _).mono ?_
      rintro e w1 ⟨rfl, hb1⟩
      obtain ⟨c0, c1, c2, c3⟩ := box22 _ _ _ _ _ _ _ hb1 (by simp)
      have hb := below_box2 (by simp; omega) hb1
      clear hb1
      go_wp2
      go_ret
      exact ⟨by rw [HR.out]; rfl, hb⟩
  · have hk' : ok b m = false := by simpa using hk
    have hc := chk_no hk'
    have HR := Lib.hid (show covers a n b m = false by simp [covers, hk'])
    clear hk hk'
    go_enter Try.func22, Try.ntmps22
    go_wp2_with fail
    refine (check_any _ _ b0 b1 _).mono ?_
    rintro e w1 ⟨rfl, hb1⟩
    obtain ⟨c0, c1, c2, c3⟩ := box22 _ _ _ _ _ _ _ hb1 (by simp)
    have hb := below_box2 (by simp; omega) hb1
    clear hb1
    go_wp2
    go_ret
    exact ⟨by rw [HR.out]; rfl, hb⟩

theorem meets_any (a n b m : Int) (h0 : 0 ≤ a) (h1 : a < 4294967296) (b0 : 0 ≤ b) (b1 : b < 4294967296) (w : World) :
    Calls Try.prog 24 #[.agg #[.int .u32 a, .int .i64 n], .agg #[.int .u32 b, .int .i64 m]] w fun e w' => e = .returned (.bool (meets a n b m)) ∧ Below w.heap.size w w' := by
  cases hk : covers a n b m with
  | true =>
    have HR := Lib.hid (show meets a n b m = true by simp [meets, hk])
    go_enter Try.func24, Try.ntmps24
    go_wp2_with fail
    refine (covers_any _ _ _ _ h0 h1 b0 b1 _).mono ?_
    rintro e w1 ⟨rfl, hb1⟩
    have hb := below_box2 (by simp; omega) hb1
    clear hb1
    go_wp2
    go_ret
    exact ⟨by rw [HR.out]; rfl, hb⟩
  | false =>
    have HR := Lib.hid (show meets a n b m = covers b m a n by simp [meets, hk])
    go_enter Try.func24, Try.ntmps24
    go_wp2_with fail
    refine (covers_any _ _ _ _ h0 h1 b0 b1 _).mono ?_
    rintro e w1 ⟨rfl, hb1⟩
    obtain ⟨c0, c1, c2, c3⟩ := box22 _ _ _ _ _ _ _ hb1 (by simp)
    go_wp2_with fail
    refine (covers_any _ _ _ _ b0 b1 h0 h1 _).mono ?_
    rintro e w2 ⟨rfl, hb2⟩
    have hb := below_box2 (by simp; omega) (hb1.trans (hb2.mono hb1.size))
    clear c0 c1 c2 c3 hb1 hb2
    go_wp2
    go_ret
    exact ⟨by rw [HR.out]; rfl, hb⟩

theorem K_same {n m : Int} (h : cl n = cl m) : K n = K m := by unfold K; rw [h]
/-- 'Of' once the length is known: c is n brought between 0 and 32. -/
theorem of_end {c n : Int} (h : ((cl n : Nat) : Int) = c) (a : Int) : (Ending.returned (.agg #[.int .u32 (a - a % K n), .int .i64 c]) : Ending) = .returned (.agg #[.int .u32 (a - a % K n), .int .i64 (cl n)]) := by rw [h]
theorem of_any (a n : Int) (h0 : 0 ≤ a) (h1 : a < 4294967296) (w : World) :
    Calls Try.prog 17 #[.int .u32 a, .int .i64 n] w fun e w' => e = .returned (.agg #[.int .u32 (a - a % K n), .int .i64 (cl n)]) ∧ Below w.heap.size w w' := by
  by_cases hn : n < 0
  · have ea := and_mk a 0 h0 h1
    rw [K_same (show cl 0 = cl n by unfold cl; omega)] at ea
    have hc : ((cl n : Nat) : Int) = 0 := by unfold cl; omega
    have HC := Lib.hid hc
    clear hc
    go_enter Try.func17, Try.ntmps17
    go_wp2_with (go_at_call 15; refine (mask_any _ _).mono ?_; rintro e w' ⟨rfl, rfl⟩)
    refine bodyPost_ret (v := .agg #[.int .u32 (a - a % K n), .int .i64 0]) (by simp [results, Try.results17, go_sem]) rfl ⟨of_end HC.out a, ?_⟩
    exact (Below.refl _ _).alloc (Nat.le_refl _) _
  · by_cases hg : 32 < n
    · have ea := and_mk a 32 h0 h1
      rw [K_same (show cl 32 = cl n by unfold cl; omega)] at ea
      have hc : ((cl n : Nat) : Int) = 32 := by unfold cl; omega
      have HC := Lib.hid hc
      clear hc
      go_enter Try.func17, Try.ntmps17
      go_wp2_with (go_at_call 15; refine (mask_any _ _).mono ?_; rintro e w' ⟨rfl, rfl⟩)
      refine bodyPost_ret (v := .agg #[.int .u32 (a - a % K n), .int .i64 32]) (by simp [results, Try.results17, go_sem]) rfl ⟨of_end HC.out a, ?_⟩
      exact (Below.refl _ _).alloc (Nat.le_refl _) _
    · have ea := and_mk a n h0 h1
      have hc : ((cl n : Nat) : Int) = n := cl_of n (by omega) (by omega)
      have HC := Lib.hid hc
      clear hc
      go_enter Try.func17, Try.ntmps17
      go_wp2_with (go_at_call 15; refine (mask_any _ _).mono ?_; rintro e w' ⟨rfl, rfl⟩)
      refine bodyPost_ret (v := .agg #[.int .u32 (a - a % K n), .int .i64 n]) (by simp [results, Try.results17, go_sem]) rfl ⟨of_end HC.out a, ?_⟩
      exact (Below.refl _ _).alloc (Nat.le_refl _) _

/-- A bit of an address: 0 is the highest. -/
def bit (a n : Int) : Int := if n < 0 ∨ 31 < n then 0 else a / 2 ^ (31 - n).toNat % 2
theorem bit_any (a n : Int) (h0 : 0 ≤ a) (h1 : a < 4294967296) (w : World) :
    Calls Try.prog 13 #[.int .u32 a, .int .i64 n] w fun e w' => e = .returned (.int .i64 (bit a n)) ∧ w = w' := by
  by_cases hn : n < 0
  · have HR := Lib.hid (show bit a n = 0 by unfold bit; rw [if_pos (.inl hn)])
    go_enter Try.func13, Try.ntmps13
    go_wp2
    go_ret
    exact ⟨by rw [HR.out]; rfl, rfl⟩
  · by_cases hg : 31 < n
    · have HR := Lib.hid (show bit a n = 0 by unfold bit; rw [if_pos (.inr hg)])
      go_enter Try.func13, Try.ntmps13
      go_wp2
      go_ret
      exact ⟨by rw [HR.out]; rfl, rfl⟩
    · have HR := Lib.hid (show bit a n = a / 2 ^ (31 - n).toNat % 2 by unfold bit; rw [if_neg (by omega)])
      have eb := and_u32_1 (a / 2 ^ (31 - n).toNat) (shr_lo _ _ h0) (shr_hi _ _ h0 h1)
      have b0 : 0 ≤ a / 2 ^ (31 - n).toNat % 2 := by omega
      have b1 : a / 2 ^ (31 - n).toNat % 2 < 2 := by omega
      go_enter Try.func13, Try.ntmps13
      go_wp2
      go_ret
      exact ⟨by rw [HR.out]; rfl, rfl⟩

theorem first_any (a n : Int) (w : World) :
    Calls Try.prog 26 #[.agg #[.int .u32 a, .int .i64 n]] w fun e w' => e = .returned (.int .u32 a) ∧ Below w.heap.size w w' := by
  go_enter Try.func26, Try.ntmps26
  go_wp2
  go_ret
  exact ⟨rfl, (Below.refl _ _).alloc (Nat.le_refl _) _⟩

theorem last_any (a n : Int) (h0 : 0 ≤ a) (h1 : a < 4294967296) (w : World) :
    Calls Try.prog 25 #[.agg #[.int .u32 a, .int .i64 n]] w fun e w' => e = .returned (.int .u32 (a - a % K n + (K n - 1))) ∧ Below w.heap.size w w' := by
  have c0 := fun p => (Law.box2 w (.int .u32 a) (.int .i64 n) 33 p).1
  have c1 := fun p => (Law.box2 w (.int .u32 a) (.int .i64 n) 33 p).2
  have ea := or_notmk a n h0 h1
  have ex := not_u32 (mk n) (mk_lo n) (mk_hi n)
  have hs : IntKind.u32.signed = false := rfl
  go_enter Try.func25, Try.ntmps25
  go_wp2
  refine Law.wp_region_below (B := w.heap.size + 1) (by kernel_rfl) (by kernel_rfl) (Below.refl _ _) ?_
  repeat (go_big_quiet_step ((go_at_call 15; exact Law.calls_same (mask_any _ _))))
  refine wpQuiet_nil ?_
  rintro _ ⟨p, rfl⟩
  go_wp2
  go_ret
  exact ⟨rfl, Law.below_box (Nat.le_succ _) p.below⟩

end Ip
end Go.Proofs.Ytflpmchckniihaa
