/-
  A header that hits one match and not another that does not cover it: plain facts; the complement of a number. No conditions beyond those in each statement.
-/
import Derived.Test.YtgoplihimajjkaaDoorMtE
namespace Go.Proofs.YtgoplihimajjkaaDoor
open Go.RowKit
namespace Mt
open Sl
open Hd (full get Hdr)
theorem y_complU {P : Program} {B : Foot} {n : Nat} {w0 : World} {T : Tm} {H : List Blk} {d : Option Tmp} {ty : TypeId} {ps : String} {af : Array Edge} {g : Option (Nat × Bool)} {x : Operand} {t : TypeId} {p : Int} (hx : ev T x = some (.int .u64 p)) : Y P B n w0 ⟨d, .unOp .xor t x, ty, ps, af, g⟩ T H (.int .u64 (bits .xor .u64 IntKind.u64.max p)) := .of fun a w hf _ => by
  simp [execOp, hf.ev hx, unary_xor, intBits_xor, IntKind.signed]
theorem xor_bv (a b : Int) : bits .xor .u64 a b = ((bv a ^^^ bv b).toNat : Int) := wrap_nat _
theorem bt_not (a : Int) {i : Nat} (hi : i < 64) : bt (bits .xor .u64 IntKind.u64.max a) i = !bt a i := by
  have e : bv IntKind.u64.max = BitVec.allOnes 64 := by decide
  unfold bt
  rw [xor_bv, bv_of, e, BitVec.getLsbD_xor, BitVec.getLsbD_allOnes]
  simp [hi]
/-- What a header says where it is to hit 'y' and not 'x'. -/
def wv (x y : M) (k : Nat) : Int := bits .or .u64 (y.v k) (bits .and .u64 (bits .andNot .u64 (bits .xor .u64 IntKind.u64.max (x.v k)) (y.m k)) (full k))
def wTo (x y : M) : Nat → Hdr
  | 0 => Hd.Hdr.zero
  | k + 1 => (wTo x y k).set k (wv x y k)
theorem bt_wv {x y : M} {k : Nat} (hk : k < 9) {i : Nat} (hi : i < 64) : bt (wv x y k) i = (bt (y.v k) i || (!bt (x.v k) i && !bt (y.m k) i && decide (i < wN k))) := by
  unfold wv
  rw [bt_or, bt_and, bt_andNot, bt_not _ hi, bt_full hk]
theorem wv_U (x y : M) (k : Nat) : U (wv x y k) := or_U _ _
theorem wv_le {x y : M} (hy : y.Ok) (ry : rightB y = true) {k : Nat} (hk : k < 9) : wv x y k ≤ full k := by
  rw [le_full (wv_U x y k) hk]
  intro i hb
  have hi : i < 64 := Nat.lt_of_not_le fun hge => by rw [bt_big _ hge] at hb; cases hb
  rw [bt_wv hk hi] at hb
  have f := right_fine hy ry hk
  cases hv : bt (y.v k) i with
  | true => exact f.w i (f.s i hv)
  | false =>
    rw [hv] at hb
    simp at hb
    exact hb.2
theorem zero_Ok : Hd.Hdr.zero.Ok := by constructor <;> (dsimp only [Hd.Hdr.zero]; omega)
theorem wTo_Ok {x y : M} (hy : y.Ok) (ry : rightB y = true) : ∀ k, k ≤ 9 → (wTo x y k).Ok
  | 0, _ => zero_Ok
  | k + 1, h => Hd.set_ok _ (wTo_Ok hy ry k (by omega)) _ _ (wv_U x y k).1 (wv_le hy ry (by omega))
theorem wTo_get {x y : M} (hy : y.Ok) (ry : rightB y = true) : ∀ n, n ≤ 9 → ∀ k, k < n → get (wTo x y n) k = wv x y k
  | 0, _, k, h => by omega
  | n + 1, hn, k, h => by
    by_cases e : k = n
    · subst e
      exact Hd.get_set _ (wTo_Ok hy ry k (by omega)) _ _ (by omega) (by omega) (wv_U x y k).1 (wv_le hy ry (by omega))
    · have := wTo_get (x := x) hy ry n (by omega) k (by omega)
      rw [← this]
      exact Hd.get_other _ _ _ k (by omega) (by omega)
theorem wit_yes {x y : M} (hy : y.Ok) (ry : rightB y = true) : hitB y (wTo x y 9) = true := by
  unfold hitB
  rw [all_iff]
  intro k hk
  rw [hitAt_iff hy (wTo_Ok hy ry 9 (by omega))]
  intro i
  rw [wTo_get hy ry 9 (by omega) k hk]
  have f := (right_fine hy ry hk).s i
  by_cases hi : i < 64
  · rw [bt_wv hk hi]
    revert f
    cases bt (y.v k) i <;> cases bt (y.m k) i <;> cases bt (x.v k) i <;> simp
  · rw [bt_big _ (Nat.le_of_not_lt hi), bt_big (y.v k) (Nat.le_of_not_lt hi), Bool.false_and]
theorem wit_no {x y : M} (hx : x.Ok) (hy : y.Ok) (rx : rightB x = true) (ry : rightB y = true) (hc : covB x y = false) : hitB x (wTo x y 9) = false := by
  cases e : hitB x (wTo x y 9) with
  | false => rfl
  | true =>
    exfalso
    have : covB x y = true := by
      unfold hitB covB at *
      rw [all_iff] at *
      intro k hk
      have a := (hitAt_iff hx (wTo_Ok hy ry 9 (by omega))).1 (e k hk)
      rw [wTo_get hy ry 9 (by omega) k hk] at a
      have fx := right_fine hx rx hk
      have fy := right_fine hy ry hk
      have key : ∀ i, bt (x.m k) i = true → bt (y.m k) i = true := by
        intro i hi
        have hi64 : i < 64 := Nat.lt_of_not_le fun hge => by rw [bt_big _ hge] at hi; cases hi
        have b := a i
        have hw := fx.w i hi
        have s := fy.s i
        rw [bt_wv hk hi64, hi, decide_eq_true hw] at b
        revert b s
        cases bt (y.v k) i <;> cases bt (y.m k) i <;> cases bt (x.v k) i <;> simp
      rw [covAt_iff hx]
      refine ⟨key, fun i => ?_⟩
      by_cases hi : i < 64
      · have b := a i
        have s := fx.s i
        have kk := key i
        rw [bt_wv hk hi] at b
        revert b s kk
        cases bt (y.v k) i <;> cases bt (y.m k) i <;> cases bt (x.v k) i <;> cases bt (x.m k) i <;> simp
      · rw [bt_big (y.v k) (Nat.le_of_not_lt hi), bt_big (x.v k) (Nat.le_of_not_lt hi), Bool.false_and]
    rw [this] at hc
    cases hc
end Mt
end Go.Proofs.YtgoplihimajjkaaDoor
