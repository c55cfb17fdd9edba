/-
  Matches made, joined and covered: plain facts. No program in sight.
-/
import Derived.Test.YtgoplihimajjkaaDoorMtD
namespace Go.Proofs.YtgoplihimajjkaaDoor
open Go.RowKit
namespace Mt
open Hd (full get Hdr)
theorem and_zero (a : Int) : bits .and .u64 a 0 = 0 := bt_ext (and_U _ _) zero_U fun i => by rw [bt_and, bt_zero, Bool.and_false]
theorem andNot_self (a : Int) : bits .andNot .u64 a a = 0 := bt_ext (andNot_U _ _) zero_U fun i => by rw [bt_andNot, bt_zero]; cases bt a i <;> rfl
theorem andNot_zero (b : Int) : bits .andNot .u64 0 b = 0 := bt_ext (andNot_U _ _) zero_U fun i => by rw [bt_andNot, bt_zero, Bool.false_and]
theorem zero_and (b : Int) : bits .and .u64 0 b = 0 := bt_ext (and_U _ _) zero_U fun i => by rw [bt_and, bt_zero, Bool.false_and]
theorem andNot_is {a b : Int} (ha : U a) : bits .andNot .u64 a b = 0 ↔ ∀ i, bt a i = true → bt b i = true := by
  rw [bt_iff (andNot_U _ _) zero_U]
  constructor
  · intro h i hi
    have := h i
    rw [bt_andNot, bt_zero, hi] at this
    simpa using this
  · intro h i
    rw [bt_andNot, bt_zero]
    cases hb : bt a i with
    | false => rfl
    | true => rw [h i hb]; rfl
theorem and_is' {a b : Int} (ha : U a) : bits .and .u64 a b = a ↔ ∀ i, bt a i = true → bt b i = true := by
  rw [bt_iff (and_U _ _) ha]
  constructor
  · intro h i hi
    have := h i
    rw [bt_and, hi] at this
    simpa using this
  · intro h i
    rw [bt_and]
    cases hb : bt a i with
    | false => rfl
    | true => rw [h i hb]; rfl
theorem onB_iff {k : Nat} {v m : Int} (h : k < 9) (hv : U v) (hm : U m) : onB k v m = true ↔ m ≤ full k ∧ bits .and .u64 v m = v := by
  unfold onB
  rw [Bool.and_eq_true, Bool.and_eq_true, beq_iff, beq_iff, decide_eq_true_iff, andNot_is hm, andNot_is hv, and_is' hv, le_full hm h]
  simp only [bt_full h, decide_eq_true_eq]
  constructor
  · rintro ⟨_, h1, h2⟩
    exact ⟨h1, h2⟩
  · rintro ⟨h1, h2⟩
    exact ⟨by omega, h1, h2⟩
theorem upd_same (g : Nat → Int) (k : Nat) (a : Int) : upd g k a k = a := by simp [upd]
theorem upd_other (g : Nat → Int) {k j : Nat} (a : Int) (h : j ≠ k) : upd g k a j = g j := by simp [upd, h]
theorem hit_on {k : Nat} (hk : k < 9) {v m : Int} {h : Hdr} (e : onB k v m = true) : hitB (onM k v m) h = (bits .and .u64 (get h k) m == v) := by
  have ek : ((k : Nat) : Int).toNat = k := by simp
  unfold onM
  rw [e, if_pos rfl, ek]
  rw [Bool.eq_iff_iff]
  unfold hitB
  rw [all_iff]
  constructor
  · intro hh
    have := hh k hk
    unfold hitAt at this
    simpa only [upd_same] using this
  · intro hh j _
    unfold hitAt
    by_cases hj : j = k
    · subst hj
      simpa only [upd_same] using hh
    · simp only [upd_other _ _ hj, and_zero]
      rfl
theorem onB_exact {k : Nat} (hk : k < 9) {v : Int} (hv : U v) : onB k v (full k) = true ↔ v ≤ full k := by
  rw [onB_iff hk hv full_U, and_is' hv, le_full hv hk]
  simp only [bt_full hk, decide_eq_true_eq]
  exact ⟨fun h => h.2, fun h => ⟨Int.le_refl _, h⟩⟩
theorem get_full {h : Hdr} (ho : h.Ok) {k : Nat} (hk : k < 9) : bits .and .u64 (get h k) (full k) = get h k := by
  rw [and_is' (get_U ho k)]
  have := (le_full (get_U ho k) hk).1 (Hd.get_bd h ho k).2
  intro i hi
  rw [bt_full hk]
  exact decide_eq_true (this i hi)
theorem hit_exact {k : Nat} (hk : k < 9) {v : Int} {h : Hdr} (ho : h.Ok) (e : onB k v (full k) = true) : hitB (onM k v (full k)) h = (get h k == v) := by
  rw [hit_on hk e, get_full ho hk]
/-! ### Prefixes -/
theorem bits_32 {x y : Int} (x0 : 0 ≤ x) (x1 : x < 4294967296) (y0 : 0 ≤ y) (y1 : y < 4294967296) : bits .and .u64 x y = bits .and .u32 x y := by
  obtain ⟨a, rfl⟩ := Int.eq_ofNat_of_zero_le x0
  obtain ⟨b, rfl⟩ := Int.eq_ofNat_of_zero_le y0
  have e1 : bits .and .u64 (a : Int) b = ((a &&& b : Nat) : Int) := by
    rw [and_bv]
    unfold bv
    rw [BitVec.ofInt_natCast, BitVec.ofInt_natCast, BitVec.toNat_and, BitVec.toNat_ofNat, BitVec.toNat_ofNat, Nat.mod_eq_of_lt (by omega), Nat.mod_eq_of_lt (by omega)]
  have hle : a &&& b ≤ a := Nat.and_le_left
  have e2 : bits .and .u32 (a : Int) b = ((a &&& b : Nat) : Int) := by
    show IntKind.u32.wrap (((BitVec.ofInt 32 (a : Int) &&& BitVec.ofInt 32 (b : Int)).toNat : Nat) : Int) = _
    rw [BitVec.ofInt_natCast, BitVec.ofInt_natCast, BitVec.toNat_and, BitVec.toNat_ofNat, BitVec.toNat_ofNat, Nat.mod_eq_of_lt (by omega), Nat.mod_eq_of_lt (by omega), IntKind.wrap_u32]
    omega
  rw [e1, e2]
theorem and_mk64 {a n : Int} (h0 : 0 ≤ a) (h1 : a < 4294967296) : bits .and .u64 a (Pl.mk n) = a - a % Pl.K n := by
  rw [bits_32 h0 h1 (Pl.mk_lo n) (Pl.mk_hi n), Pl.and_mk a n h0 h1]
theorem u32_U {a : Int} (h0 : 0 ≤ a) (h1 : a < 4294967296) : U a := ⟨h0, by omega⟩
theorem mk_U (n : Int) : U (Pl.mk n) := u32_U (Pl.mk_lo n) (Pl.mk_hi n)
theorem full_45 {f : Int} (h : f = 4 ∨ f = 5) : full f = 4294967295 := by rcases h with rfl | rfl <;> decide
theorem ok_and {a n : Int} (h0 : 0 ≤ a) (h1 : a < 4294967296) (h : Pl.ok a n = true) : bits .and .u64 a (Pl.mk n) = a := by
  rw [and_mk64 h0 h1, (Pl.ok_iff.1 h).2.2, Int.sub_zero]
theorem net_on {f a n : Int} (h0 : 0 ≤ a) (h1 : a < 4294967296) (hf : f = 4 ∨ f = 5) (h : Pl.ok a n = true) : onB f a (Pl.mk n) = true := by
  obtain ⟨k, rfl⟩ : ∃ k : Nat, f = k := ⟨f.toNat, by omega⟩
  rw [onB_iff (by omega) (u32_U h0 h1) (mk_U n), full_45 hf]
  exact ⟨by have := Pl.mk_hi n; omega, ok_and h0 h1 h⟩
theorem netB_yes {f a n : Int} (hf : f = 4 ∨ f = 5) (h : Pl.ok a n = true) : netB f a n = true := by unfold netB; rw [decide_eq_true hf, h]; rfl
theorem netF_yes {f a n : Int} (h0 : 0 ≤ a) (h1 : a < 4294967296) (hf : f = 4 ∨ f = 5) (h : Pl.ok a n = true) : netF f a n = true := by
  unfold netF
  rw [netB_yes hf h, net_on h0 h1 hf h]
  rfl
theorem netM_yes {f a n : Int} (hf : f = 4 ∨ f = 5) (h : Pl.ok a n = true) : netM f a n = onM f a (Pl.mk n) := by
  unfold netM
  rw [netB_yes hf h, if_pos rfl]
theorem netF_no {f a n : Int} (h : ¬ ((f = 4 ∨ f = 5) ∧ Pl.ok a n = true)) : netF f a n = false := by
  unfold netF netB
  by_cases hf : f = 4 ∨ f = 5
  · have : Pl.ok a n = false := by simpa [hf] using h
    rw [this]
    simp
  · rw [decide_eq_false hf]
    rfl
theorem hit_net {f a n : Int} (h0 : 0 ≤ a) (h1 : a < 4294967296) (hf : f = 4 ∨ f = 5) (h : Pl.ok a n = true) {hd : Hdr} (ho : hd.Ok) : hitB (netM f a n) hd = Pl.has a n (get hd f) := by
  have hg := Hd.get_bd hd ho f
  rw [full_45 hf] at hg
  rw [netM_yes hf h]
  obtain ⟨k, rfl⟩ : ∃ k : Nat, f = k := ⟨f.toNat, by omega⟩
  rw [hit_on (by omega) (net_on h0 h1 hf h), and_mk64 hg.1 (by omega)]
  unfold Pl.has
  rw [h, Bool.true_and, Bool.beq_eq_decide_eq]
theorem mk_is (n : Int) : Pl.mk n = ((2 ^ 32 - 2 ^ (32 - Pl.cl n) : Nat) : Int) := by
  unfold Pl.mk Pl.K
  have : 2 ^ (32 - Pl.cl n) ≤ 2 ^ 32 := Nat.pow_le_pow_right (by decide) (by omega)
  omega
theorem bt_mk (n : Int) (i : Nat) : bt (Pl.mk n) i = (decide (32 - Pl.cl n ≤ i) && decide (i < 32)) := by
  by_cases hi : i < 64
  · have e : 2 ^ 32 - 2 ^ (32 - Pl.cl n) = (2 ^ Pl.cl n - 1) * 2 ^ (32 - Pl.cl n) := by
      have hc := Pl.cl_le n
      rw [Nat.sub_mul, ← Nat.pow_add, show Pl.cl n + (32 - Pl.cl n) = 32 by omega, Nat.one_mul]
    have hc := Pl.cl_le n
    rw [mk_is, bt_nat _ _ hi, e, Nat.testBit_mul_two_pow, Nat.testBit_two_pow_sub_one, Bool.eq_iff_iff]
    simp
    omega
  · rw [bt_big _ (by omega)]
    simp
    omega
theorem mk_sub {n m : Int} (hn : 0 ≤ n ∧ n ≤ 32) (hm : 0 ≤ m ∧ m ≤ 32) : bits .andNot .u64 (Pl.mk n) (Pl.mk m) = 0 ↔ n ≤ m := by
  have e1 := Pl.cl_of n hn.1 hn.2
  have e2 := Pl.cl_of m hm.1 hm.2
  rw [andNot_is (mk_U n)]
  simp only [bt_mk, Bool.and_eq_true, decide_eq_true_eq]
  constructor
  · intro h
    by_cases h0 : Pl.cl n = 0
    · omega
    · have := h (32 - Pl.cl n) ⟨Nat.le_refl _, by omega⟩
      omega
  · intro h i hi
    omega
/-- The match of a prefix, field by field. -/
theorem net_v {a n : Int} (h0 : 0 ≤ a) (h1 : a < 4294967296) (h : Pl.ok a n = true) : (netM 5 a n) = ⟨upd (fun _ => 0) 5 a, upd (fun _ => 0) 5 (Pl.mk n)⟩ := by
  rw [netM_yes (.inr rfl) h]
  unfold onM
  rw [net_on h0 h1 (.inr rfl) h, if_pos rfl]
  rfl
theorem all_five {p : Nat → Bool} (h : ∀ j, j ≠ 5 → p j = true) : (List.range 9).all p = p 5 := by
  rw [Bool.eq_iff_iff, all_iff]
  constructor
  · exact fun hh => hh 5 (by omega)
  · intro hh j _
    by_cases hj : j = 5
    · rw [hj]; exact hh
    · exact h j hj
theorem cov_net {a n b m : Int} (h0 : 0 ≤ a) (h1 : a < 4294967296) (g0 : 0 ≤ b) (g1 : b < 4294967296) (h : Pl.ok a n = true) (g : Pl.ok b m = true) : covB (netM 5 a n) (netM 5 b m) = Pl.covers a n b m := by
  rw [net_v h0 h1 h, net_v g0 g1 g]
  have := all_five (p := covAt ⟨upd (fun _ => 0) 5 a, upd (fun _ => 0) 5 (Pl.mk n)⟩ ⟨upd (fun _ => 0) 5 b, upd (fun _ => 0) 5 (Pl.mk m)⟩) fun j hj => by
    unfold covAt
    simp only [upd_other _ _ hj, andNot_zero, and_zero]
    rfl
  unfold covB
  rw [this]
  unfold covAt Pl.covers Pl.has
  simp only [upd_same]
  rw [and_mk64 g0 g1, h, g, Bool.eq_iff_iff]
  have e := mk_sub (n := n) (m := m) ⟨(Pl.ok_iff.1 h).1, (Pl.ok_iff.1 h).2.1⟩ ⟨(Pl.ok_iff.1 g).1, (Pl.ok_iff.1 g).2.1⟩
  rw [Bool.and_eq_true, beq_iff, beq_iff, e]
  simp
theorem and_net1 {a n b m : Int} (h0 : 0 ≤ a) (h1 : a < 4294967296) (g0 : 0 ≤ b) (g1 : b < 4294967296) (h : Pl.ok a n = true) (g : Pl.ok b m = true) (hl : n ≤ m) : andAt ⟨upd (fun _ => 0) 5 a, upd (fun _ => 0) 5 (Pl.mk n)⟩ ⟨upd (fun _ => 0) 5 b, upd (fun _ => 0) 5 (Pl.mk m)⟩ 5 = (b - b % Pl.K n == a) := by
  have e := (mk_sub (n := n) (m := m) ⟨(Pl.ok_iff.1 h).1, (Pl.ok_iff.1 h).2.1⟩ ⟨(Pl.ok_iff.1 g).1, (Pl.ok_iff.1 g).2.1⟩).2 hl
  rw [andNot_is (mk_U n)] at e
  have ea := (and_is' (u32_U h0 h1)).1 (ok_and h0 h1 h)
  rw [← and_mk64 g0 g1, Bool.eq_iff_iff, andAt_iff, beq_iff, bt_iff (and_U _ _) (u32_U h0 h1)]
  simp only [upd_same, bt_and]
  constructor
  · intro hh i
    cases hb : bt (Pl.mk n) i with
    | false =>
      cases ha : bt a i with
      | false => simp
      | true => rw [ea i ha] at hb; cases hb
    | true => rw [hh i hb (e i hb), Bool.and_true]
  · intro hh i h2 _
    have := hh i
    rw [h2, Bool.and_true] at this
    exact this.symm
theorem andAt_comm (x y : M) (k : Nat) : andAt x y k = andAt y x k := by
  rw [Bool.eq_iff_iff, andAt_iff, andAt_iff]
  exact ⟨fun h i a b => (h i b a).symm, fun h i a b => (h i b a).symm⟩
theorem and_net {a n b m : Int} (h0 : 0 ≤ a) (h1 : a < 4294967296) (g0 : 0 ≤ b) (g1 : b < 4294967296) (h : Pl.ok a n = true) (g : Pl.ok b m = true) : andB (netM 5 a n) (netM 5 b m) = Pl.meets a n b m := by
  rw [net_v h0 h1 h, net_v g0 g1 g]
  have := all_five (p := andAt ⟨upd (fun _ => 0) 5 a, upd (fun _ => 0) 5 (Pl.mk n)⟩ ⟨upd (fun _ => 0) 5 b, upd (fun _ => 0) 5 (Pl.mk m)⟩) fun j hj => by
    unfold andAt bothAt
    simp only [upd_other _ _ hj, and_zero]
    rfl
  unfold andB
  rw [this]
  have ka := (Pl.ok_iff.1 h).2.2
  have kb := (Pl.ok_iff.1 g).2.2
  unfold Pl.meets Pl.covers Pl.has
  rw [h, g]
  rcases Int.lt_trichotomy n m with hl | rfl | hl
  · rw [and_net1 h0 h1 g0 g1 h g (by omega), decide_eq_true (show n ≤ m by omega), decide_eq_false (show ¬ m ≤ n by omega)]
    simp [Bool.beq_eq_decide_eq]
  · rw [and_net1 h0 h1 g0 g1 h g (by omega), decide_eq_true (show n ≤ n by omega), ka, kb, Bool.eq_iff_iff, beq_iff]
    simp
    omega
  · rw [andAt_comm, and_net1 g0 g1 h0 h1 g h (by omega), decide_eq_true (show m ≤ n by omega), decide_eq_false (show ¬ n ≤ m by omega)]
    simp [Bool.beq_eq_decide_eq]
/-! ### Two matches -/
theorem or_comm' (a b : Int) : bits .or .u64 a b = bits .or .u64 b a := bt_ext (or_U _ _) (or_U _ _) fun i => by rw [bt_or, bt_or, Bool.or_comm]
theorem andB_comm (x y : M) : andB y x = andB x y := by
  unfold andB
  rw [show andAt y x = andAt x y from funext fun k => andAt_comm y x k]
theorem cells_comm (x y : M) : (andM y x).cells = (andM x y).cells := by
  unfold andM
  rw [andB_comm]
  split
  · simp [M.cells, andTo, or_comm']
  · rfl
theorem and_no {x y : M} (h : andB x y = false) : andM x y = M.zero := by unfold andM; rw [h]; rfl
theorem to9 {x y : M} {k : Nat} (h : k < 9) : (andTo x y 9).v k = bits .or .u64 (x.v k) (y.v k) ∧ (andTo x y 9).m k = bits .or .u64 (x.m k) (y.m k) := by simp [andTo, h]
theorem to_Ok {x y : M} (hx : x.Ok) (hy : y.Ok) : (andTo x y 9).Ok :=
  ⟨fun k => by unfold andTo; dsimp only; split; exact or_U _ _; exact hx.v k, fun k => by unfold andTo; dsimp only; split; exact or_U _ _; exact hx.m k⟩
theorem and_yes {x y : M} (h : andB x y = true) : andM x y = andTo x y 9 := by unfold andM; rw [h, if_pos rfl]
theorem and_right {x y : M} (hx : x.Ok) (hy : y.Ok) (h : andB x y = true) (rx : rightB x = true) (ry : rightB y = true) : rightB (andM x y) = true := by
  rw [and_yes h]
  unfold rightB
  rw [all_iff]
  intro k hk
  have fx := right_fine hx rx hk
  have fy := right_fine hy ry hk
  rw [rightAt_iff (to_Ok hx hy) hk]
  obtain ⟨e1, e2⟩ := to9 (x := x) (y := y) hk
  constructor
  · intro i hi
    rw [e2, bt_or, Bool.or_eq_true] at hi
    exact hi.elim (fx.w i) (fy.w i)
  · intro i hi
    rw [e1, bt_or, Bool.or_eq_true] at hi
    rw [e2, bt_or, Bool.or_eq_true]
    exact hi.imp (fx.s i) (fy.s i)
theorem hit_and {x y : M} (hx : x.Ok) (hy : y.Ok) {h : Hdr} (ho : h.Ok) (rx : rightB x = true) (ry : rightB y = true) : (hitB x h && hitB y h) = (andB x y && hitB (andM x y) h) := by
  rw [Bool.eq_iff_iff, Bool.and_eq_true, Bool.and_eq_true]
  unfold hitB
  constructor
  · rintro ⟨h1, h2⟩
    have ha : andB x y = true := by
      unfold andB
      rw [all_iff]
      intro k hk
      rw [andAt_iff]
      intro i hi hj
      have a := (hitAt_iff hx ho).1 (all_iff.1 h1 k hk) i
      have b := (hitAt_iff hy ho).1 (all_iff.1 h2 k hk) i
      rw [hi, Bool.and_true] at a
      rw [hj, Bool.and_true] at b
      rw [← a, ← b]
    refine ⟨ha, ?_⟩
    rw [and_yes ha, all_iff]
    intro k hk
    rw [hitAt_iff (to_Ok hx hy) ho]
    obtain ⟨e1, e2⟩ := to9 (x := x) (y := y) hk
    intro i
    have a := (hitAt_iff hx ho).1 (all_iff.1 h1 k hk) i
    have b := (hitAt_iff hy ho).1 (all_iff.1 h2 k hk) i
    rw [e1, e2, bt_or, bt_or, ← a, ← b]
    cases bt (get h k) i <;> simp
  · rintro ⟨ha, h3⟩
    rw [and_yes ha, all_iff] at h3
    have key : ∀ k : Nat, k < 9 → ∀ i, (bt (get h k) i && (bt (x.m k) i || bt (y.m k) i)) = (bt (x.v k) i || bt (y.v k) i) := fun k hk i => by
      have c := (hitAt_iff (to_Ok hx hy) ho).1 (h3 k hk) i
      obtain ⟨e1, e2⟩ := to9 (x := x) (y := y) hk
      rwa [e1, e2, bt_or, bt_or] at c
    unfold andB at ha
    constructor
    · rw [all_iff]
      intro k hk
      rw [hitAt_iff hx ho]
      intro i
      have c := key k hk i
      have d := andAt_iff.1 (all_iff.1 ha k hk) i
      have fx := (right_fine hx rx hk).s i
      have fy := (right_fine hy ry hk).s i
      revert c d fx fy
      cases bt (x.m k) i <;> cases bt (y.m k) i <;> cases bt (x.v k) i <;> cases bt (y.v k) i <;> cases bt (get h k) i <;> simp
    · rw [all_iff]
      intro k hk
      rw [hitAt_iff hy ho]
      intro i
      have c := key k hk i
      have d := andAt_iff.1 (all_iff.1 ha k hk) i
      have fx := (right_fine hx rx hk).s i
      have fy := (right_fine hy ry hk).s i
      revert c d fx fy
      cases bt (x.m k) i <;> cases bt (y.m k) i <;> cases bt (x.v k) i <;> cases bt (y.v k) i <;> cases bt (get h k) i <;> simp
theorem eqc_cells (x y : M) (h : ∀ k, k < 9 → x.v k = y.v k ∧ x.m k = y.m k) : x.cells = y.cells := by
  simp only [M.cells, (h 0 (by omega)).1, (h 1 (by omega)).1, (h 2 (by omega)).1, (h 3 (by omega)).1, (h 4 (by omega)).1, (h 5 (by omega)).1, (h 6 (by omega)).1, (h 7 (by omega)).1, (h 8 (by omega)).1, (h 0 (by omega)).2, (h 1 (by omega)).2, (h 2 (by omega)).2, (h 3 (by omega)).2, (h 4 (by omega)).2, (h 5 (by omega)).2, (h 6 (by omega)).2, (h 7 (by omega)).2, (h 8 (by omega)).2]
theorem cells_at {x y : M} (h : x.cells = y.cells) {k : Nat} (hk : k < 9) : x.v k = y.v k ∧ x.m k = y.m k := by
  have h1 := v_at x hk
  have h2 := m_at x hk
  rw [h] at h1 h2
  rw [v_at y hk] at h1
  rw [m_at y hk] at h2
  exact ⟨by simpa using h1.symm, by simpa using h2.symm⟩
/-- One covers another where what hits both is the other. -/
theorem cov_iff {x y : M} (hx : x.Ok) (hy : y.Ok) (rx : rightB x = true) (ry : rightB y = true) : covB x y = true ↔ andB x y = true ∧ (andM x y).cells = y.cells := by
  constructor
  · intro hc
    unfold covB at hc
    rw [all_iff] at hc
    have ha : andB x y = true := by
      unfold andB
      rw [all_iff]
      intro k hk
      rw [andAt_iff]
      intro i hi _
      have := ((covAt_iff hx).1 (hc k hk)).2 i
      rw [hi, Bool.and_true] at this
      exact this.symm
    refine ⟨ha, ?_⟩
    rw [and_yes ha]
    refine eqc_cells _ _ fun k hk => ?_
    obtain ⟨e1, e2⟩ := to9 (x := x) (y := y) hk
    obtain ⟨c1, c2⟩ := (covAt_iff hx).1 (hc k hk)
    have fx := right_fine hx rx hk
    rw [e1, e2]
    constructor
    · refine bt_ext (or_U _ _) (hy.v k) fun i => ?_
      rw [bt_or]
      have := c2 i
      cases h1 : bt (x.v k) i with
      | false => rfl
      | true =>
        rw [h1, Bool.and_eq_true] at this
        rw [this.1]
        rfl
    · refine bt_ext (or_U _ _) (hy.m k) fun i => ?_
      rw [bt_or]
      cases h1 : bt (x.m k) i with
      | false => rfl
      | true => rw [c1 i h1]; rfl
  · rintro ⟨ha, he⟩
    rw [and_yes ha] at he
    unfold covB
    unfold andB at ha
    rw [all_iff] at ha ⊢
    intro k hk
    obtain ⟨e1, e2⟩ := to9 (x := x) (y := y) hk
    obtain ⟨g1, g2⟩ := cells_at he hk
    rw [e1] at g1
    rw [e2] at g2
    rw [covAt_iff hx]
    have fx := right_fine hx rx hk
    have key : ∀ i, bt (x.m k) i = true → bt (y.m k) i = true := fun i hi => by
      rw [← g2, bt_or, hi]
      rfl
    refine ⟨key, fun i => ?_⟩
    cases h1 : bt (x.m k) i with
    | false =>
      rw [Bool.and_false]
      cases h2 : bt (x.v k) i with
      | false => rfl
      | true => rw [fx.s i h2] at h1; cases h1
    | true => rw [Bool.and_true, andAt_iff.1 (ha k hk) i h1 (key i h1)]
theorem cov_hit {x y : M} (hx : x.Ok) (hy : y.Ok) {h : Hdr} (ho : h.Ok) (hc : covB x y = true) (hh : hitB y h = true) : hitB x h = true := by
  unfold hitB covB at *
  rw [all_iff] at *
  intro k hk
  obtain ⟨c1, c2⟩ := (covAt_iff hx).1 (hc k hk)
  have a := (hitAt_iff hy ho).1 (hh k hk)
  rw [hitAt_iff hx ho]
  intro i
  rw [← c2 i, ← a i]
  cases h1 : bt (x.m k) i with
  | false => simp
  | true => rw [c1 i h1]; simp
end Mt
end Go.Proofs.YtgoplihimajjkaaDoor
