/-
  Matches bit by bit: plain facts on masks of 64 bits. No program in sight.
-/
import Derived.Test.YtgoplihimajjkaaDoorMtB
namespace Go.Proofs.YtgoplihimajjkaaDoor
open Go.RowKit
namespace Mt
open Hd (full get Hdr)
def U (a : Int) : Prop := 0 ≤ a ∧ a ≤ 18446744073709551615
def bv (a : Int) : BitVec 64 := BitVec.ofInt 64 a
/-- A number's bit. -/
def bt (a : Int) (i : Nat) : Bool := (bv a).getLsbD i
theorem bv_nat {a : Int} (h : U a) : ((bv a).toNat : Int) = a := by
  obtain ⟨h0, h1⟩ := h
  unfold bv
  rw [BitVec.toNat_ofInt]
  omega
theorem bv_of (X : BitVec 64) : bv (X.toNat : Int) = X := by
  unfold bv
  rw [BitVec.ofInt_natCast, BitVec.ofNat_toNat, BitVec.setWidth_eq]
theorem wrap_nat (X : BitVec 64) : IntKind.u64.wrap (X.toNat : Int) = (X.toNat : Int) := by
  have := X.isLt
  rw [IntKind.wrap_u64]
  omega
theorem and_bv (a b : Int) : bits .and .u64 a b = ((bv a &&& bv b).toNat : Int) := wrap_nat _
theorem or_bv (a b : Int) : bits .or .u64 a b = ((bv a ||| bv b).toNat : Int) := wrap_nat _
theorem andNot_bv (a b : Int) : bits .andNot .u64 a b = ((bv a &&& ~~~bv b).toNat : Int) := wrap_nat _
theorem bt_big (a : Int) {i : Nat} (h : 64 ≤ i) : bt a i = false := BitVec.getLsbD_of_ge _ _ h
theorem bt_and (a b : Int) (i : Nat) : bt (bits .and .u64 a b) i = (bt a i && bt b i) := by unfold bt; rw [and_bv, bv_of, BitVec.getLsbD_and]
theorem bt_or (a b : Int) (i : Nat) : bt (bits .or .u64 a b) i = (bt a i || bt b i) := by unfold bt; rw [or_bv, bv_of, BitVec.getLsbD_or]
theorem bt_andNot (a b : Int) (i : Nat) : bt (bits .andNot .u64 a b) i = (bt a i && !bt b i) := by
  by_cases h : i < 64
  · unfold bt
    rw [andNot_bv, bv_of, BitVec.getLsbD_and, BitVec.getLsbD_not]
    simp [h]
  · rw [bt_big _ (by omega), bt_big a (by omega), Bool.false_and]
theorem nat_U (X : BitVec 64) : U (X.toNat : Int) := by
  have := X.isLt
  exact ⟨by omega, by omega⟩
theorem and_U (a b : Int) : U (bits .and .u64 a b) := by rw [and_bv]; exact nat_U _
theorem or_U (a b : Int) : U (bits .or .u64 a b) := by rw [or_bv]; exact nat_U _
theorem andNot_U (a b : Int) : U (bits .andNot .u64 a b) := by rw [andNot_bv]; exact nat_U _
theorem zero_U : U 0 := ⟨by omega, by omega⟩
theorem bt_zero (i : Nat) : bt 0 i = false := by unfold bt bv; simp
theorem bt_ext {a b : Int} (ha : U a) (hb : U b) (h : ∀ i, bt a i = bt b i) : a = b := by
  rw [← bv_nat ha, ← bv_nat hb]
  have : bv a = bv b := BitVec.eq_of_getLsbD_eq fun i _ => h i
  rw [this]
theorem bt_iff {a b : Int} (ha : U a) (hb : U b) : a = b ↔ ∀ i, bt a i = bt b i := ⟨fun h i => by rw [h], bt_ext ha hb⟩
theorem beq_iff {a b : Int} : (a == b) = true ↔ a = b := beq_iff_eq
/-- How many bits a field has. -/
def wN (k : Nat) : Nat := ([8, 48, 48, 16, 32, 32, 8, 16, 16] : List Nat).getD k 0
theorem full_is {k : Nat} (h : k < 9) : full k = ((2 ^ wN k - 1 : Nat) : Int) := by
  match k, h with
  | 0, _ | 1, _ | 2, _ | 3, _ | 4, _ | 5, _ | 6, _ | 7, _ | 8, _ => decide
theorem wN_le {k : Nat} (h : k < 9) : wN k ≤ 48 := by
  match k, h with
  | 0, _ | 1, _ | 2, _ | 3, _ | 4, _ | 5, _ | 6, _ | 7, _ | 8, _ => decide
theorem full_U {k : Nat} : U (full k) := by
  obtain ⟨h0, h1⟩ := Hd.full_bd k
  exact ⟨h0, by omega⟩
theorem bt_nat (n i : Nat) (hi : i < 64) : bt (n : Int) i = n.testBit i := by
  unfold bt bv
  rw [BitVec.ofInt_natCast, BitVec.getLsbD_ofNat]
  simp [hi]
theorem bt_full {k : Nat} (h : k < 9) (i : Nat) : bt (full k) i = decide (i < wN k) := by
  by_cases hi : i < 64
  · rw [full_is h, bt_nat _ _ hi, Nat.testBit_two_pow_sub_one]
  · rw [bt_big _ (by omega)]
    have := wN_le h
    simp
    omega
theorem le_full {a : Int} (ha : U a) {k : Nat} (h : k < 9) : a ≤ full k ↔ ∀ i, bt a i = true → i < wN k := by
  obtain ⟨n, rfl⟩ := Int.eq_ofNat_of_zero_le ha.1
  have hw := wN_le h
  rw [full_is h]
  have hp := Nat.two_pow_pos (wN k)
  constructor
  · intro hl i hb
    have hi : i < 64 := Nat.lt_of_not_le fun hge => by rw [bt_big _ hge] at hb; cases hb
    rw [bt_nat _ _ hi] at hb
    apply Nat.lt_of_not_le
    intro hge
    have : n < 2 ^ i := Nat.lt_of_lt_of_le (show n < 2 ^ wN k by omega) (Nat.pow_le_pow_right (by decide) hge)
    rw [Nat.testBit_lt_two_pow this] at hb
    cases hb
  · intro hall
    have : n < 2 ^ wN k := Nat.lt_pow_two_of_testBit n fun i hge => by
      by_cases hi : i < 64
      · cases hb : n.testBit i with
        | false => rfl
        | true =>
          have := hall i (by rw [bt_nat _ _ hi]; exact hb)
          omega
      · exact Nat.testBit_lt_two_pow (Nat.lt_of_lt_of_le (show n < 2 ^ 64 by have := ha.2; omega) (Nat.pow_le_pow_right (by decide) (by omega)))
    omega
/-- 'a >> j & 1 == 1'. -/
theorem shr_bit {a : Int} (ha : U a) {j : Nat} (hj : j < 64) : bits .and .u64 (a / 2 ^ min j IntKind.u64.bits) 1 = if bt a j then 1 else 0 := by
  obtain ⟨n, rfl⟩ := Int.eq_ofNat_of_zero_le ha.1
  have e : min j IntKind.u64.bits = j := by show min j 64 = j; omega
  have e2 : ((n : Int) / 2 ^ j) = ((n >>> j : Nat) : Int) := by rw [Nat.shiftRight_eq_div_pow]; simp
  rw [e, e2]
  have hlt : n >>> j ≤ 18446744073709551615 := by
    have := Nat.div_le_self n (2 ^ j)
    rw [Nat.shiftRight_eq_div_pow]
    have := ha.2
    omega
  apply bt_ext (and_U _ _)
  · split <;> exact ⟨by omega, by omega⟩
  · intro i
    rw [bt_and]
    by_cases hi : i < 64
    · rw [bt_nat _ _ hi, bt_nat n j hj, Nat.testBit_shiftRight]
      have h1 : bt 1 i = decide (i = 0) := by
        rw [show (1 : Int) = ((1 : Nat) : Int) from rfl, bt_nat _ _ hi]
        cases i <;> simp [Nat.testBit_succ]
      rw [h1]
      by_cases h0 : i = 0
      · subst h0
        cases hb : n.testBit j with
        | true => simp [hb, h1]
        | false => simp [hb, bt_zero]
      · split <;> simp [h0, bt_zero, h1]
    · have hi' : 64 ≤ i := Nat.le_of_not_lt hi
      split <;> simp [bt_big _ hi']
/-- A match whose numbers are numbers of 64 bits. -/
structure M.Ok (x : M) : Prop where
  v : ∀ k, U (x.v k)
  m : ∀ k, U (x.m k)
/-- It is in its form at a field. -/
structure Fine (x : M) (k : Nat) : Prop where
  w : ∀ i, bt (x.m k) i = true → i < wN k
  s : ∀ i, bt (x.v k) i = true → bt (x.m k) i = true
theorem okAt_iff {x : M} (hx : x.Ok) {k : Nat} (h : k < 9) : okAt x k = true ↔ Fine x k := by
  unfold okAt
  rw [Bool.and_eq_true, beq_iff, beq_iff, bt_iff (andNot_U _ _) zero_U, bt_iff (andNot_U _ _) zero_U]
  simp only [bt_andNot, bt_zero, bt_full h]
  constructor
  · rintro ⟨h1, h2⟩
    refine ⟨fun i hi => ?_, fun i hi => ?_⟩
    · simpa [hi] using h1 i
    · simpa [hi] using h2 i
  · rintro ⟨h1, h2⟩
    refine ⟨fun i => ?_, fun i => ?_⟩
    · cases hb : bt (x.m k) i with
      | false => rfl
      | true => simp [h1 i hb]
    · cases hb : bt (x.v k) i with
      | false => rfl
      | true => simp [h2 i hb]
theorem rightAt_iff {x : M} (hx : x.Ok) {k : Nat} (h : k < 9) : rightAt x k = true ↔ Fine x k := by
  unfold rightAt
  rw [Bool.and_eq_true, beq_iff, Bool.not_eq_true', decide_eq_false_iff_not, Int.not_lt, le_full (hx.m k) h, bt_iff (and_U _ _) (hx.v k)]
  simp only [bt_and]
  constructor
  · rintro ⟨h1, h2⟩
    refine ⟨h1, fun i hi => ?_⟩
    simpa [hi] using h2 i
  · rintro ⟨h1, h2⟩
    refine ⟨h1, fun i => ?_⟩
    cases hb : bt (x.v k) i with
    | false => rfl
    | true => simp [h2 i hb]
theorem all_iff {p : Nat → Bool} {n : Nat} : (List.range n).all p = true ↔ ∀ k, k < n → p k = true := by
  rw [List.all_eq_true]
  exact ⟨fun h k hk => h k (List.mem_range.2 hk), fun h k hk => h k (List.mem_range.1 hk)⟩
theorem ok_right {x : M} (hx : x.Ok) : okB x = rightB x := by
  rw [Bool.eq_iff_iff]
  unfold okB rightB
  rw [all_iff, all_iff]
  exact ⟨fun h k hk => (rightAt_iff hx hk).2 ((okAt_iff hx hk).1 (h k hk)), fun h k hk => (okAt_iff hx hk).2 ((rightAt_iff hx hk).1 (h k hk))⟩
theorem right_fine {x : M} (hx : x.Ok) (h : rightB x = true) {k : Nat} (hk : k < 9) : Fine x k := (rightAt_iff hx hk).1 (all_iff.1 h k hk)
theorem get_U {h : Hdr} (ho : h.Ok) (k : Int) : U (get h k) := by
  have := Hd.get_bd h ho k
  have := Hd.full_bd k
  exact ⟨by omega, by omega⟩
theorem hitAt_iff {x : M} (hx : x.Ok) {h : Hdr} (ho : h.Ok) {k : Nat} : hitAt x h k = true ↔ ∀ i, (bt (get h k) i && bt (x.m k) i) = bt (x.v k) i := by
  unfold hitAt
  rw [beq_iff, bt_iff (and_U _ _) (hx.v k)]
  simp only [bt_and]
theorem covAt_iff {x y : M} (hx : x.Ok) {k : Nat} : covAt x y k = true ↔ (∀ i, bt (x.m k) i = true → bt (y.m k) i = true) ∧ ∀ i, (bt (y.v k) i && bt (x.m k) i) = bt (x.v k) i := by
  unfold covAt
  rw [Bool.and_eq_true, beq_iff, beq_iff, bt_iff (andNot_U _ _) zero_U, bt_iff (and_U _ _) (hx.v k)]
  simp only [bt_and, bt_andNot, bt_zero]
  constructor
  · rintro ⟨h1, h2⟩
    exact ⟨fun i hi => by simpa [hi] using h1 i, h2⟩
  · rintro ⟨h1, h2⟩
    refine ⟨fun i => ?_, h2⟩
    cases hb : bt (x.m k) i with
    | false => rfl
    | true => simp [h1 i hb]
theorem andAt_iff {x y : M} {k : Nat} : andAt x y k = true ↔ ∀ i, bt (x.m k) i = true → bt (y.m k) i = true → bt (x.v k) i = bt (y.v k) i := by
  unfold andAt bothAt
  rw [beq_iff, bt_iff (and_U _ _) (and_U _ _)]
  simp only [bt_and]
  constructor
  · intro h i h1 h2
    simpa [h1, h2] using h i
  · intro h i
    cases h1 : bt (x.m k) i <;> cases h2 : bt (y.m k) i <;> simp
    exact h i h1 h2
/-- The law's own count: no bit of the mask at which the value is another than the number's. -/
def goodAt (x : M) (h : Hdr) (k j : Nat) : Bool := !(bt (x.m k) j && bt (x.v k) j != bt (get h k) j)
theorem hits_want {x : M} (hx : x.Ok) {h : Hdr} (ho : h.Ok) (hr : rightB x = true) : hitB x h = (List.range 9).all fun k => (List.range 48).all fun j => goodAt x h k j := by
  rw [Bool.eq_iff_iff]
  unfold hitB
  rw [all_iff, all_iff]
  constructor
  · intro hh k hk
    rw [all_iff]
    intro j _
    have := (hitAt_iff hx ho).1 (hh k hk) j
    unfold goodAt
    cases h1 : bt (x.m k) j <;> simp [h1] at this ⊢
    exact this.symm
  · intro hh k hk
    have hf := right_fine hx hr hk
    rw [hitAt_iff hx ho]
    intro i
    cases h1 : bt (x.m k) i with
    | false =>
      cases h2 : bt (x.v k) i with
      | false => simp
      | true =>
        have := hf.s i h2
        rw [h1] at this
        cases this
    | true =>
      have hw := hf.w i h1
      have := wN_le hk
      have := (all_iff.1 (hh k hk)) i (by omega)
      unfold goodAt at this
      simp [h1] at this
      simp [this]
end Mt
end Go.Proofs.YtgoplihimajjkaaDoor
