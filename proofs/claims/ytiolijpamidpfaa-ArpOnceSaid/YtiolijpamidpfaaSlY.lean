/-
  A run told by lists: what each operation yields that turns nothing in memory. Over any program; no conditions beyond those in each statement.
-/
import Derived.Test.YtiolijpamidpfaaSlOps
import Derived.Laws.Shifts
import Derived.Laws.Slices
import Derived.Laws.Unary
namespace Go.Proofs.Ytiolijpamidpfaa
open Go.RowKit
namespace Sl
set_option linter.unusedVariables false
theorem ofDec {p : Prop} [Decidable p] {c : Bool} (h : decide p = c) : decide p = c := h
class KnownT (P : Program) (t : TypeId) : Prop where
  u : ∃ dsc, P.underlying t = some dsc
instance {P : Program} {t : TypeId} {k : IntKind} [h : IntT P t k] : KnownT P t := ⟨⟨_, h.u⟩⟩
/-- 2 to the power of a shift's count. -/
class P2 (k : IntKind) (q : Int) (m : outParam Int) : Prop where
  h : 0 ≤ q ∧ (2 : Int) ^ min q.toNat k.bits = m

instance : P2 .i64 0 1 := ⟨by decide, by decide⟩
instance : P2 .i64 1 2 := ⟨by decide, by decide⟩
instance : P2 .i64 2 4 := ⟨by decide, by decide⟩
instance : P2 .i64 3 8 := ⟨by decide, by decide⟩
instance : P2 .i64 4 16 := ⟨by decide, by decide⟩
instance : P2 .i64 5 32 := ⟨by decide, by decide⟩
instance : P2 .i64 6 64 := ⟨by decide, by decide⟩
instance : P2 .i64 7 128 := ⟨by decide, by decide⟩
instance : P2 .i64 8 256 := ⟨by decide, by decide⟩
instance : P2 .i64 9 512 := ⟨by decide, by decide⟩
instance : P2 .i64 10 1024 := ⟨by decide, by decide⟩
instance : P2 .i64 11 2048 := ⟨by decide, by decide⟩
instance : P2 .i64 12 4096 := ⟨by decide, by decide⟩
instance : P2 .i64 13 8192 := ⟨by decide, by decide⟩
instance : P2 .i64 14 16384 := ⟨by decide, by decide⟩
instance : P2 .i64 15 32768 := ⟨by decide, by decide⟩
instance : P2 .i64 16 65536 := ⟨by decide, by decide⟩
instance : P2 .i64 17 131072 := ⟨by decide, by decide⟩
instance : P2 .i64 18 262144 := ⟨by decide, by decide⟩
instance : P2 .i64 19 524288 := ⟨by decide, by decide⟩
instance : P2 .i64 20 1048576 := ⟨by decide, by decide⟩
instance : P2 .i64 21 2097152 := ⟨by decide, by decide⟩
instance : P2 .i64 22 4194304 := ⟨by decide, by decide⟩
instance : P2 .i64 23 8388608 := ⟨by decide, by decide⟩
instance : P2 .i64 24 16777216 := ⟨by decide, by decide⟩
instance : P2 .i64 25 33554432 := ⟨by decide, by decide⟩
instance : P2 .i64 26 67108864 := ⟨by decide, by decide⟩
instance : P2 .i64 27 134217728 := ⟨by decide, by decide⟩
instance : P2 .i64 28 268435456 := ⟨by decide, by decide⟩
instance : P2 .i64 29 536870912 := ⟨by decide, by decide⟩
instance : P2 .i64 30 1073741824 := ⟨by decide, by decide⟩
instance : P2 .i64 31 2147483648 := ⟨by decide, by decide⟩
instance : P2 .i64 32 4294967296 := ⟨by decide, by decide⟩
instance : P2 .i64 33 8589934592 := ⟨by decide, by decide⟩
instance : P2 .i64 34 17179869184 := ⟨by decide, by decide⟩
instance : P2 .i64 35 34359738368 := ⟨by decide, by decide⟩
instance : P2 .i64 36 68719476736 := ⟨by decide, by decide⟩
instance : P2 .i64 37 137438953472 := ⟨by decide, by decide⟩
instance : P2 .i64 38 274877906944 := ⟨by decide, by decide⟩
instance : P2 .i64 39 549755813888 := ⟨by decide, by decide⟩
instance : P2 .i64 40 1099511627776 := ⟨by decide, by decide⟩
instance : P2 .i64 41 2199023255552 := ⟨by decide, by decide⟩
instance : P2 .i64 42 4398046511104 := ⟨by decide, by decide⟩
instance : P2 .i64 43 8796093022208 := ⟨by decide, by decide⟩
instance : P2 .i64 44 17592186044416 := ⟨by decide, by decide⟩
instance : P2 .i64 45 35184372088832 := ⟨by decide, by decide⟩
instance : P2 .i64 46 70368744177664 := ⟨by decide, by decide⟩
instance : P2 .i64 47 140737488355328 := ⟨by decide, by decide⟩
instance : P2 .i64 48 281474976710656 := ⟨by decide, by decide⟩
instance : P2 .u64 0 1 := ⟨by decide, by decide⟩
instance : P2 .u64 1 2 := ⟨by decide, by decide⟩
instance : P2 .u64 2 4 := ⟨by decide, by decide⟩
instance : P2 .u64 3 8 := ⟨by decide, by decide⟩
instance : P2 .u64 4 16 := ⟨by decide, by decide⟩
instance : P2 .u64 5 32 := ⟨by decide, by decide⟩
instance : P2 .u64 6 64 := ⟨by decide, by decide⟩
instance : P2 .u64 7 128 := ⟨by decide, by decide⟩
instance : P2 .u64 8 256 := ⟨by decide, by decide⟩
instance : P2 .u64 9 512 := ⟨by decide, by decide⟩
instance : P2 .u64 10 1024 := ⟨by decide, by decide⟩
instance : P2 .u64 11 2048 := ⟨by decide, by decide⟩
instance : P2 .u64 12 4096 := ⟨by decide, by decide⟩
instance : P2 .u64 13 8192 := ⟨by decide, by decide⟩
instance : P2 .u64 14 16384 := ⟨by decide, by decide⟩
instance : P2 .u64 15 32768 := ⟨by decide, by decide⟩
instance : P2 .u64 16 65536 := ⟨by decide, by decide⟩
instance : P2 .u64 17 131072 := ⟨by decide, by decide⟩
instance : P2 .u64 18 262144 := ⟨by decide, by decide⟩
instance : P2 .u64 19 524288 := ⟨by decide, by decide⟩
instance : P2 .u64 20 1048576 := ⟨by decide, by decide⟩
instance : P2 .u64 21 2097152 := ⟨by decide, by decide⟩
instance : P2 .u64 22 4194304 := ⟨by decide, by decide⟩
instance : P2 .u64 23 8388608 := ⟨by decide, by decide⟩
instance : P2 .u64 24 16777216 := ⟨by decide, by decide⟩
instance : P2 .u64 25 33554432 := ⟨by decide, by decide⟩
instance : P2 .u64 26 67108864 := ⟨by decide, by decide⟩
instance : P2 .u64 27 134217728 := ⟨by decide, by decide⟩
instance : P2 .u64 28 268435456 := ⟨by decide, by decide⟩
instance : P2 .u64 29 536870912 := ⟨by decide, by decide⟩
instance : P2 .u64 30 1073741824 := ⟨by decide, by decide⟩
instance : P2 .u64 31 2147483648 := ⟨by decide, by decide⟩
instance : P2 .u64 32 4294967296 := ⟨by decide, by decide⟩
instance : P2 .u64 33 8589934592 := ⟨by decide, by decide⟩
instance : P2 .u64 34 17179869184 := ⟨by decide, by decide⟩
instance : P2 .u64 35 34359738368 := ⟨by decide, by decide⟩
instance : P2 .u64 36 68719476736 := ⟨by decide, by decide⟩
instance : P2 .u64 37 137438953472 := ⟨by decide, by decide⟩
instance : P2 .u64 38 274877906944 := ⟨by decide, by decide⟩
instance : P2 .u64 39 549755813888 := ⟨by decide, by decide⟩
instance : P2 .u64 40 1099511627776 := ⟨by decide, by decide⟩
instance : P2 .u64 41 2199023255552 := ⟨by decide, by decide⟩
instance : P2 .u64 42 4398046511104 := ⟨by decide, by decide⟩
instance : P2 .u64 43 8796093022208 := ⟨by decide, by decide⟩
instance : P2 .u64 44 17592186044416 := ⟨by decide, by decide⟩
instance : P2 .u64 45 35184372088832 := ⟨by decide, by decide⟩
instance : P2 .u64 46 70368744177664 := ⟨by decide, by decide⟩
instance : P2 .u64 47 140737488355328 := ⟨by decide, by decide⟩
instance : P2 .u64 48 281474976710656 := ⟨by decide, by decide⟩
instance : P2 .u32 0 1 := ⟨by decide, by decide⟩
instance : P2 .u32 1 2 := ⟨by decide, by decide⟩
instance : P2 .u32 2 4 := ⟨by decide, by decide⟩
instance : P2 .u32 3 8 := ⟨by decide, by decide⟩
instance : P2 .u32 4 16 := ⟨by decide, by decide⟩
instance : P2 .u32 5 32 := ⟨by decide, by decide⟩
instance : P2 .u32 6 64 := ⟨by decide, by decide⟩
instance : P2 .u32 7 128 := ⟨by decide, by decide⟩
instance : P2 .u32 8 256 := ⟨by decide, by decide⟩
instance : P2 .u32 9 512 := ⟨by decide, by decide⟩
instance : P2 .u32 10 1024 := ⟨by decide, by decide⟩
instance : P2 .u32 11 2048 := ⟨by decide, by decide⟩
instance : P2 .u32 12 4096 := ⟨by decide, by decide⟩
instance : P2 .u32 13 8192 := ⟨by decide, by decide⟩
instance : P2 .u32 14 16384 := ⟨by decide, by decide⟩
instance : P2 .u32 15 32768 := ⟨by decide, by decide⟩
instance : P2 .u32 16 65536 := ⟨by decide, by decide⟩
instance : P2 .u32 17 131072 := ⟨by decide, by decide⟩
instance : P2 .u32 18 262144 := ⟨by decide, by decide⟩
instance : P2 .u32 19 524288 := ⟨by decide, by decide⟩
instance : P2 .u32 20 1048576 := ⟨by decide, by decide⟩
instance : P2 .u32 21 2097152 := ⟨by decide, by decide⟩
instance : P2 .u32 22 4194304 := ⟨by decide, by decide⟩
instance : P2 .u32 23 8388608 := ⟨by decide, by decide⟩
instance : P2 .u32 24 16777216 := ⟨by decide, by decide⟩
instance : P2 .u32 25 33554432 := ⟨by decide, by decide⟩
instance : P2 .u32 26 67108864 := ⟨by decide, by decide⟩
instance : P2 .u32 27 134217728 := ⟨by decide, by decide⟩
instance : P2 .u32 28 268435456 := ⟨by decide, by decide⟩
instance : P2 .u32 29 536870912 := ⟨by decide, by decide⟩
instance : P2 .u32 30 1073741824 := ⟨by decide, by decide⟩
instance : P2 .u32 31 2147483648 := ⟨by decide, by decide⟩
instance : P2 .u8 0 1 := ⟨by decide, by decide⟩
instance : P2 .u8 1 2 := ⟨by decide, by decide⟩
instance : P2 .u8 2 4 := ⟨by decide, by decide⟩
instance : P2 .u8 3 8 := ⟨by decide, by decide⟩
instance : P2 .u8 4 16 := ⟨by decide, by decide⟩
instance : P2 .u8 5 32 := ⟨by decide, by decide⟩
instance : P2 .u8 6 64 := ⟨by decide, by decide⟩
instance : P2 .u8 7 128 := ⟨by decide, by decide⟩

section
variable {P : Program} {B : Foot} {n : Nat} {w0 : World} {T : Tm} {H : List Blk} {d : Option Tmp} {ty : TypeId} {ps : String} {af : Array Edge} {g : Option (Nat × Bool)} {x y c : Operand} {t t' : TypeId} {k : IntKind} {p q : Int} {v u : Value}
theorem y_of {o : Oper} (h : ∀ a w, Fr n T a → Mem B w0 w H → (execOp a.eval o).run P w = .ok (.value v) w) : Y P B n w0 o T H v := .of h
theorem y_as {o : Oper} {v' : Value} (h : Y P B n w0 o T H v) (e : v = v') : Y P B n w0 o T H v' := e ▸ h
theorem y_isBin {op : BinOp} (h : Y P B n w0 ⟨d, .binOp op t x y t', ty, ps, af, g⟩ T H v) : Y P B n w0 ⟨d, .binOp op t x y t', ty, ps, af, g⟩ T H v := h
theorem y_is_add (h : Y P B n w0 ⟨d, .binOp .add t x y t', ty, ps, af, g⟩ T H v) : Y P B n w0 ⟨d, .binOp .add t x y t', ty, ps, af, g⟩ T H v := h
theorem y_is_sub (h : Y P B n w0 ⟨d, .binOp .sub t x y t', ty, ps, af, g⟩ T H v) : Y P B n w0 ⟨d, .binOp .sub t x y t', ty, ps, af, g⟩ T H v := h
theorem y_is_mul (h : Y P B n w0 ⟨d, .binOp .mul t x y t', ty, ps, af, g⟩ T H v) : Y P B n w0 ⟨d, .binOp .mul t x y t', ty, ps, af, g⟩ T H v := h
theorem y_is_lss (h : Y P B n w0 ⟨d, .binOp .lss t x y t', ty, ps, af, g⟩ T H v) : Y P B n w0 ⟨d, .binOp .lss t x y t', ty, ps, af, g⟩ T H v := h
theorem y_is_leq (h : Y P B n w0 ⟨d, .binOp .leq t x y t', ty, ps, af, g⟩ T H v) : Y P B n w0 ⟨d, .binOp .leq t x y t', ty, ps, af, g⟩ T H v := h
theorem y_is_gtr (h : Y P B n w0 ⟨d, .binOp .gtr t x y t', ty, ps, af, g⟩ T H v) : Y P B n w0 ⟨d, .binOp .gtr t x y t', ty, ps, af, g⟩ T H v := h
theorem y_is_geq (h : Y P B n w0 ⟨d, .binOp .geq t x y t', ty, ps, af, g⟩ T H v) : Y P B n w0 ⟨d, .binOp .geq t x y t', ty, ps, af, g⟩ T H v := h
theorem y_is_eql (h : Y P B n w0 ⟨d, .binOp .eql t x y t', ty, ps, af, g⟩ T H v) : Y P B n w0 ⟨d, .binOp .eql t x y t', ty, ps, af, g⟩ T H v := h
theorem y_is_neq (h : Y P B n w0 ⟨d, .binOp .neq t x y t', ty, ps, af, g⟩ T H v) : Y P B n w0 ⟨d, .binOp .neq t x y t', ty, ps, af, g⟩ T H v := h
theorem y_is_shl (h : Y P B n w0 ⟨d, .binOp .shl t x y t', ty, ps, af, g⟩ T H v) : Y P B n w0 ⟨d, .binOp .shl t x y t', ty, ps, af, g⟩ T H v := h
theorem y_is_shr (h : Y P B n w0 ⟨d, .binOp .shr t x y t', ty, ps, af, g⟩ T H v) : Y P B n w0 ⟨d, .binOp .shr t x y t', ty, ps, af, g⟩ T H v := h
theorem y_is_rem (h : Y P B n w0 ⟨d, .binOp .rem t x y t', ty, ps, af, g⟩ T H v) : Y P B n w0 ⟨d, .binOp .rem t x y t', ty, ps, af, g⟩ T H v := h
theorem y_is_quo (h : Y P B n w0 ⟨d, .binOp .quo t x y t', ty, ps, af, g⟩ T H v) : Y P B n w0 ⟨d, .binOp .quo t x y t', ty, ps, af, g⟩ T H v := h
theorem y_is_conv (h : Y P B n w0 ⟨d, .convert t t' x, ty, ps, af, g⟩ T H v) : Y P B n w0 ⟨d, .convert t t' x, ty, ps, af, g⟩ T H v := h
theorem y_is_load (h : Y P B n w0 ⟨d, .load t x, ty, ps, af, g⟩ T H v) : Y P B n w0 ⟨d, .load t x, ty, ps, af, g⟩ T H v := h
theorem y_is_ixa (h : Y P B n w0 ⟨d, .indexAddr t x y, ty, ps, af, g⟩ T H v) : Y P B n w0 ⟨d, .indexAddr t x y, ty, ps, af, g⟩ T H v := h
theorem y_is_slice {lo hi mx : Option Operand} (h : Y P B n w0 ⟨d, .slice t x lo hi mx, ty, ps, af, g⟩ T H v) : Y P B n w0 ⟨d, .slice t x lo hi mx, ty, ps, af, g⟩ T H v := h
theorem y_move (hx : ev T x = some v) : Y P B n w0 ⟨d, .move x, ty, ps, af, g⟩ T H v := .of fun a w hf _ => by simp [execOp, hf.ev hx]
theorem y_assign (hx : ev T x = some v) : Y P B n w0 ⟨d, .assign x, ty, ps, af, g⟩ T H v := .of fun a w hf _ => by simp [execOp, hf.ev hx]
theorem y_pick_t (hc : ev T c = some (.bool true)) (hx : ev T x = some v) : Y P B n w0 ⟨d, .pick c x y, ty, ps, af, g⟩ T H v := .of fun a w hf _ => by simp [execOp, hf.ev hc, hf.ev hx, asBool]
theorem y_pick_f (hc : ev T c = some (.bool false)) (hy : ev T y = some v) : Y P B n w0 ⟨d, .pick c x y, ty, ps, af, g⟩ T H v := .of fun a w hf _ => by simp [execOp, hf.ev hc, hf.ev hy, asBool]
theorem y_pick_s {b e : Bool} (hc : ev T c = some (.bool b)) (hb : b = e) (hx : ev T (if e then x else y) = some v) : Y P B n w0 ⟨d, .pick c x y, ty, ps, af, g⟩ T H v := .of fun a w hf _ => by
  subst hb
  cases b <;> simp [execOp, hf.ev hc, asBool] <;> simp at hx <;> rw [hf.ev hx]

theorem y_add (hx : ev T x = some (.int k p)) (hy : ev T y = some (.int k q)) : Y P B n w0 ⟨d, .binOp .add t x y t', ty, ps, af, g⟩ T H (.int k (k.wrap (p + q))) := .of fun a w hf _ => by
  simp [execOp, eqGuard, binOp, Op.intArith, hf.ev hx, hf.ev hy]
theorem y_add_i64 (hx : ev T x = some (.int .i64 p)) (hy : ev T y = some (.int .i64 q)) (h0 : -9223372036854775808 ≤ p + q) (h1 : p + q ≤ 9223372036854775807) : Y P B n w0 ⟨d, .binOp .add t x y t', ty, ps, af, g⟩ T H (.int .i64 (p + q)) :=
  y_as (y_add hx hy) (by rw [IntKind.wrap_i64]; congr 1; omega)
theorem y_add_u64 (hx : ev T x = some (.int .u64 p)) (hy : ev T y = some (.int .u64 q)) (h0 : 0 ≤ p + q) (h1 : p + q ≤ 18446744073709551615) : Y P B n w0 ⟨d, .binOp .add t x y t', ty, ps, af, g⟩ T H (.int .u64 (p + q)) :=
  y_as (y_add hx hy) (by rw [IntKind.wrap_u64]; congr 1; omega)
theorem y_add_u32 (hx : ev T x = some (.int .u32 p)) (hy : ev T y = some (.int .u32 q)) (h0 : 0 ≤ p + q) (h1 : p + q ≤ 4294967295) : Y P B n w0 ⟨d, .binOp .add t x y t', ty, ps, af, g⟩ T H (.int .u32 (p + q)) :=
  y_as (y_add hx hy) (by rw [IntKind.wrap_u32]; congr 1; omega)
theorem y_add_u8 (hx : ev T x = some (.int .u8 p)) (hy : ev T y = some (.int .u8 q)) (h0 : 0 ≤ p + q) (h1 : p + q ≤ 255) : Y P B n w0 ⟨d, .binOp .add t x y t', ty, ps, af, g⟩ T H (.int .u8 (p + q)) :=
  y_as (y_add hx hy) (by rw [IntKind.wrap_u8]; congr 1; omega)
theorem y_sub (hx : ev T x = some (.int k p)) (hy : ev T y = some (.int k q)) : Y P B n w0 ⟨d, .binOp .sub t x y t', ty, ps, af, g⟩ T H (.int k (k.wrap (p - q))) := .of fun a w hf _ => by
  simp [execOp, eqGuard, binOp, Op.intArith, hf.ev hx, hf.ev hy]
theorem y_sub_i64 (hx : ev T x = some (.int .i64 p)) (hy : ev T y = some (.int .i64 q)) (h0 : -9223372036854775808 ≤ p - q) (h1 : p - q ≤ 9223372036854775807) : Y P B n w0 ⟨d, .binOp .sub t x y t', ty, ps, af, g⟩ T H (.int .i64 (p - q)) :=
  y_as (y_sub hx hy) (by rw [IntKind.wrap_i64]; congr 1; omega)
theorem y_sub_u64 (hx : ev T x = some (.int .u64 p)) (hy : ev T y = some (.int .u64 q)) (h0 : 0 ≤ p - q) (h1 : p - q ≤ 18446744073709551615) : Y P B n w0 ⟨d, .binOp .sub t x y t', ty, ps, af, g⟩ T H (.int .u64 (p - q)) :=
  y_as (y_sub hx hy) (by rw [IntKind.wrap_u64]; congr 1; omega)
theorem y_sub_u32 (hx : ev T x = some (.int .u32 p)) (hy : ev T y = some (.int .u32 q)) (h0 : 0 ≤ p - q) (h1 : p - q ≤ 4294967295) : Y P B n w0 ⟨d, .binOp .sub t x y t', ty, ps, af, g⟩ T H (.int .u32 (p - q)) :=
  y_as (y_sub hx hy) (by rw [IntKind.wrap_u32]; congr 1; omega)
theorem y_sub_u8 (hx : ev T x = some (.int .u8 p)) (hy : ev T y = some (.int .u8 q)) (h0 : 0 ≤ p - q) (h1 : p - q ≤ 255) : Y P B n w0 ⟨d, .binOp .sub t x y t', ty, ps, af, g⟩ T H (.int .u8 (p - q)) :=
  y_as (y_sub hx hy) (by rw [IntKind.wrap_u8]; congr 1; omega)
theorem y_mul (hx : ev T x = some (.int k p)) (hy : ev T y = some (.int k q)) : Y P B n w0 ⟨d, .binOp .mul t x y t', ty, ps, af, g⟩ T H (.int k (k.wrap (p * q))) := .of fun a w hf _ => by
  simp [execOp, eqGuard, binOp, Op.intArith, hf.ev hx, hf.ev hy]
theorem y_mul_i64 (hx : ev T x = some (.int .i64 p)) (hy : ev T y = some (.int .i64 q)) (h0 : -9223372036854775808 ≤ p * q) (h1 : p * q ≤ 9223372036854775807) : Y P B n w0 ⟨d, .binOp .mul t x y t', ty, ps, af, g⟩ T H (.int .i64 (p * q)) :=
  y_as (y_mul hx hy) (by rw [IntKind.wrap_i64]; congr 1; omega)
theorem y_mul_u64 (hx : ev T x = some (.int .u64 p)) (hy : ev T y = some (.int .u64 q)) (h0 : 0 ≤ p * q) (h1 : p * q ≤ 18446744073709551615) : Y P B n w0 ⟨d, .binOp .mul t x y t', ty, ps, af, g⟩ T H (.int .u64 (p * q)) :=
  y_as (y_mul hx hy) (by rw [IntKind.wrap_u64]; congr 1; omega)
theorem y_mul_u32 (hx : ev T x = some (.int .u32 p)) (hy : ev T y = some (.int .u32 q)) (h0 : 0 ≤ p * q) (h1 : p * q ≤ 4294967295) : Y P B n w0 ⟨d, .binOp .mul t x y t', ty, ps, af, g⟩ T H (.int .u32 (p * q)) :=
  y_as (y_mul hx hy) (by rw [IntKind.wrap_u32]; congr 1; omega)
theorem y_mul_u8 (hx : ev T x = some (.int .u8 p)) (hy : ev T y = some (.int .u8 q)) (h0 : 0 ≤ p * q) (h1 : p * q ≤ 255) : Y P B n w0 ⟨d, .binOp .mul t x y t', ty, ps, af, g⟩ T H (.int .u8 (p * q)) :=
  y_as (y_mul hx hy) (by rw [IntKind.wrap_u8]; congr 1; omega)
theorem y_lss (hx : ev T x = some (.int k p)) (hy : ev T y = some (.int k q)) : Y P B n w0 ⟨d, .binOp .lss t x y t', ty, ps, af, g⟩ T H (.bool (decide (p < q))) := .of fun a w hf _ => by
  simp [execOp, eqGuard, binOp, Op.intCmp, hf.ev hx, hf.ev hy]
theorem y_leq (hx : ev T x = some (.int k p)) (hy : ev T y = some (.int k q)) : Y P B n w0 ⟨d, .binOp .leq t x y t', ty, ps, af, g⟩ T H (.bool (decide (p ≤ q))) := .of fun a w hf _ => by
  simp [execOp, eqGuard, binOp, Op.intCmp, hf.ev hx, hf.ev hy]
theorem y_gtr (hx : ev T x = some (.int k p)) (hy : ev T y = some (.int k q)) : Y P B n w0 ⟨d, .binOp .gtr t x y t', ty, ps, af, g⟩ T H (.bool (decide (q < p))) := .of fun a w hf _ => by
  simp [execOp, eqGuard, binOp, Op.intCmp, hf.ev hx, hf.ev hy]
theorem y_geq (hx : ev T x = some (.int k p)) (hy : ev T y = some (.int k q)) : Y P B n w0 ⟨d, .binOp .geq t x y t', ty, ps, af, g⟩ T H (.bool (decide (q ≤ p))) := .of fun a w hf _ => by
  simp [execOp, eqGuard, binOp, Op.intCmp, hf.ev hx, hf.ev hy]
theorem y_eql (hx : ev T x = some (.int k p)) (hy : ev T y = some (.int k q)) : Y P B n w0 ⟨d, .binOp .eql t x y t', ty, ps, af, g⟩ T H (.bool (p == q)) := .of fun a w hf _ => by
  simp [execOp, eqGuard, binOp, Op.intCmp, hf.ev hx, hf.ev hy]
theorem y_neq (hx : ev T x = some (.int k p)) (hy : ev T y = some (.int k q)) : Y P B n w0 ⟨d, .binOp .neq t x y t', ty, ps, af, g⟩ T H (.bool (p != q)) := .of fun a w hf _ => by
  simp [execOp, eqGuard, binOp, Op.intCmp, hf.ev hx, hf.ev hy]
theorem y_lss_t (hx : ev T x = some (.int k p)) (hy : ev T y = some (.int k q)) (h : p < q) : Y P B n w0 ⟨d, .binOp .lss t x y t', ty, ps, af, g⟩ T H (.bool true) := y_as (y_lss hx hy) (by rw [decide_eq_true h])
theorem y_lss_f (hx : ev T x = some (.int k p)) (hy : ev T y = some (.int k q)) (h : ¬ (p < q)) : Y P B n w0 ⟨d, .binOp .lss t x y t', ty, ps, af, g⟩ T H (.bool false) := y_as (y_lss hx hy) (by rw [decide_eq_false h])
theorem y_leq_t (hx : ev T x = some (.int k p)) (hy : ev T y = some (.int k q)) (h : p ≤ q) : Y P B n w0 ⟨d, .binOp .leq t x y t', ty, ps, af, g⟩ T H (.bool true) := y_as (y_leq hx hy) (by rw [decide_eq_true h])
theorem y_leq_f (hx : ev T x = some (.int k p)) (hy : ev T y = some (.int k q)) (h : ¬ (p ≤ q)) : Y P B n w0 ⟨d, .binOp .leq t x y t', ty, ps, af, g⟩ T H (.bool false) := y_as (y_leq hx hy) (by rw [decide_eq_false h])
theorem y_gtr_t (hx : ev T x = some (.int k p)) (hy : ev T y = some (.int k q)) (h : q < p) : Y P B n w0 ⟨d, .binOp .gtr t x y t', ty, ps, af, g⟩ T H (.bool true) := y_as (y_gtr hx hy) (by rw [decide_eq_true h])
theorem y_gtr_f (hx : ev T x = some (.int k p)) (hy : ev T y = some (.int k q)) (h : ¬ (q < p)) : Y P B n w0 ⟨d, .binOp .gtr t x y t', ty, ps, af, g⟩ T H (.bool false) := y_as (y_gtr hx hy) (by rw [decide_eq_false h])
theorem y_geq_t (hx : ev T x = some (.int k p)) (hy : ev T y = some (.int k q)) (h : q ≤ p) : Y P B n w0 ⟨d, .binOp .geq t x y t', ty, ps, af, g⟩ T H (.bool true) := y_as (y_geq hx hy) (by rw [decide_eq_true h])
theorem y_geq_f (hx : ev T x = some (.int k p)) (hy : ev T y = some (.int k q)) (h : ¬ (q ≤ p)) : Y P B n w0 ⟨d, .binOp .geq t x y t', ty, ps, af, g⟩ T H (.bool false) := y_as (y_geq hx hy) (by rw [decide_eq_false h])
theorem y_eql_t (hx : ev T x = some (.int k p)) (hy : ev T y = some (.int k q)) (h : p = q) : Y P B n w0 ⟨d, .binOp .eql t x y t', ty, ps, af, g⟩ T H (.bool true) := y_as (y_eql hx hy) (by rw [beq_iff_eq.2 h])
theorem y_eql_f (hx : ev T x = some (.int k p)) (hy : ev T y = some (.int k q)) (h : ¬ p = q) : Y P B n w0 ⟨d, .binOp .eql t x y t', ty, ps, af, g⟩ T H (.bool false) := y_as (y_eql hx hy) (by rw [beq_eq_false_iff_ne.2 h])
theorem y_neq_t (hx : ev T x = some (.int k p)) (hy : ev T y = some (.int k q)) (h : ¬ p = q) : Y P B n w0 ⟨d, .binOp .neq t x y t', ty, ps, af, g⟩ T H (.bool true) := y_as (y_neq hx hy) (by rw [bne_iff_ne.2 h])
theorem y_neq_f (hx : ev T x = some (.int k p)) (hy : ev T y = some (.int k q)) (h : p = q) : Y P B n w0 ⟨d, .binOp .neq t x y t', ty, ps, af, g⟩ T H (.bool false) := y_as (y_neq hx hy) (by rw [h]; simp)
theorem y_and (hx : ev T x = some (.int k p)) (hy : ev T y = some (.int k q)) : Y P B n w0 ⟨d, .binOp .and t x y t', ty, ps, af, g⟩ T H (.int k (bits .and k p q)) := .of fun a w hf _ => by
  simp [execOp, eqGuard, binOp, hf.ev hx, hf.ev hy, intBits_and]
theorem y_and_is {r : Int} (hx : ev T x = some (.int k p)) (hy : ev T y = some (.int k q)) (e : bits .and k p q = r) : Y P B n w0 ⟨d, .binOp .and t x y t', ty, ps, af, g⟩ T H (.int k r) := y_as (y_and hx hy) (by rw [e])
theorem y_or (hx : ev T x = some (.int k p)) (hy : ev T y = some (.int k q)) : Y P B n w0 ⟨d, .binOp .or t x y t', ty, ps, af, g⟩ T H (.int k (bits .or k p q)) := .of fun a w hf _ => by
  simp [execOp, eqGuard, binOp, hf.ev hx, hf.ev hy, intBits_or]
theorem y_or_is {r : Int} (hx : ev T x = some (.int k p)) (hy : ev T y = some (.int k q)) (e : bits .or k p q = r) : Y P B n w0 ⟨d, .binOp .or t x y t', ty, ps, af, g⟩ T H (.int k r) := y_as (y_or hx hy) (by rw [e])
theorem y_xor (hx : ev T x = some (.int k p)) (hy : ev T y = some (.int k q)) : Y P B n w0 ⟨d, .binOp .xor t x y t', ty, ps, af, g⟩ T H (.int k (bits .xor k p q)) := .of fun a w hf _ => by
  simp [execOp, eqGuard, binOp, hf.ev hx, hf.ev hy, intBits_xor]
theorem y_xor_is {r : Int} (hx : ev T x = some (.int k p)) (hy : ev T y = some (.int k q)) (e : bits .xor k p q = r) : Y P B n w0 ⟨d, .binOp .xor t x y t', ty, ps, af, g⟩ T H (.int k r) := y_as (y_xor hx hy) (by rw [e])
theorem y_andNot (hx : ev T x = some (.int k p)) (hy : ev T y = some (.int k q)) : Y P B n w0 ⟨d, .binOp .andNot t x y t', ty, ps, af, g⟩ T H (.int k (bits .andNot k p q)) := .of fun a w hf _ => by
  simp [execOp, eqGuard, binOp, hf.ev hx, hf.ev hy, intBits_andNot]
theorem y_andNot_is {r : Int} (hx : ev T x = some (.int k p)) (hy : ev T y = some (.int k q)) (e : bits .andNot k p q = r) : Y P B n w0 ⟨d, .binOp .andNot t x y t', ty, ps, af, g⟩ T H (.int k r) := y_as (y_andNot hx hy) (by rw [e])
theorem y_shl {yk : IntKind} {m : Int} (hx : ev T x = some (.int k p)) (hy : ev T y = some (.int yk q)) [h : P2 k q m] : Y P B n w0 ⟨d, .binOp .shl t x y t', ty, ps, af, g⟩ T H (.int k (k.wrap (p * m))) := .of fun a w hf _ => by
  simp [execOp, eqGuard, binOp, hf.ev hx, hf.ev hy, shift_shl_any k yk p q h.h.1, h.h.2]
theorem y_shr {yk : IntKind} {m : Int} (hx : ev T x = some (.int k p)) (hy : ev T y = some (.int yk q)) [h : P2 k q m] : Y P B n w0 ⟨d, .binOp .shr t x y t', ty, ps, af, g⟩ T H (.int k (p / m)) := .of fun a w hf _ => by
  simp [execOp, eqGuard, binOp, hf.ev hx, hf.ev hy, shift_shr_any k yk p q h.h.1, h.h.2]
theorem y_shr_any {yk : IntKind} (hx : ev T x = some (.int k p)) (hy : ev T y = some (.int yk q)) (h : 0 ≤ q) : Y P B n w0 ⟨d, .binOp .shr t x y t', ty, ps, af, g⟩ T H (.int k (p / 2 ^ min q.toNat k.bits)) := .of fun a w hf _ => by
  simp [execOp, eqGuard, binOp, hf.ev hx, hf.ev hy, shift_shr_any k yk p q h]
theorem y_shl_any {yk : IntKind} (hx : ev T x = some (.int k p)) (hy : ev T y = some (.int yk q)) (h : 0 ≤ q) : Y P B n w0 ⟨d, .binOp .shl t x y t', ty, ps, af, g⟩ T H (.int k (k.wrap (p * 2 ^ min q.toNat k.bits))) := .of fun a w hf _ => by
  simp [execOp, eqGuard, binOp, hf.ev hx, hf.ev hy, shift_shl_any k yk p q h]
theorem y_quo (hx : ev T x = some (.int k p)) (hy : ev T y = some (.int k q)) (h : q ≠ 0) : Y P B n w0 ⟨d, .binOp .quo t x y t', ty, ps, af, g⟩ T H (.int k (k.wrap (p.tdiv q))) := .of fun a w hf _ => by
  simp [execOp, eqGuard, binOp, Op.intDiv, hf.ev hx, hf.ev hy, h]
theorem y_rem (hx : ev T x = some (.int k p)) (hy : ev T y = some (.int k q)) (h : q ≠ 0) : Y P B n w0 ⟨d, .binOp .rem t x y t', ty, ps, af, g⟩ T H (.int k (p.tmod q)) := .of fun a w hf _ => by
  simp [execOp, eqGuard, binOp, Op.intDiv, hf.ev hx, hf.ev hy, h]
theorem y_rem_nn (hx : ev T x = some (.int k p)) (hy : ev T y = some (.int k q)) (h : 0 < q) (h0 : 0 ≤ p) : Y P B n w0 ⟨d, .binOp .rem t x y t', ty, ps, af, g⟩ T H (.int k (p % q)) :=
  y_as (y_rem hx hy (by omega)) (by rw [Int.tmod_eq_emod_of_nonneg h0])
theorem run_conv {w : World} {k' : IntKind} [h : IntT P t' k'] (ht : ∃ dsc, P.underlying t = some dsc) : (convert t t' (.int k p)).run P w = .ok (.int k' (k'.wrap p)) w := by
  obtain ⟨dsc, ht⟩ := ht
  simp [convert, run_underlying ht, run_underlying h.u, Conv.intToInt]
theorem y_conv {k' : IntKind} (hx : ev T x = some (.int k p)) [h : IntT P t' k'] [ht : KnownT P t] : Y P B n w0 ⟨d, .convert t t' x, ty, ps, af, g⟩ T H (.int k' (k'.wrap p)) := .of fun a w hf _ => by
  simp [execOp, hf.ev hx, run_conv ht.u]
theorem y_shl_i64 {yk : IntKind} {m : Int} (hx : ev T x = some (.int .i64 p)) (hy : ev T y = some (.int yk q)) [h : P2 .i64 q m] (h0 : -9223372036854775808 ≤ p * m) (h1 : p * m ≤ 9223372036854775807) : Y P B n w0 ⟨d, .binOp .shl t x y t', ty, ps, af, g⟩ T H (.int .i64 (p * m)) :=
  y_as (y_shl hx hy) (by rw [IntKind.wrap_i64]; congr 1; omega)
theorem y_quo_i64 (hx : ev T x = some (.int .i64 p)) (hy : ev T y = some (.int .i64 q)) (h : 0 < q) (h0 : 0 ≤ p) (h1 : p ≤ 9223372036854775807) : Y P B n w0 ⟨d, .binOp .quo t x y t', ty, ps, af, g⟩ T H (.int .i64 (p / q)) :=
  y_as (y_quo hx hy (by omega)) (by
    rw [Int.tdiv_eq_ediv_of_nonneg h0, IntKind.wrap_i64]
    have e0 : 0 ≤ p / q := Int.ediv_nonneg h0 (by omega)
    have e1 : p / q ≤ p := Int.ediv_le_self _ h0
    congr 1; omega)
theorem y_conv_i64 (hx : ev T x = some (.int k p)) [h : IntT P t' .i64] [ht : KnownT P t] (h0 : -9223372036854775808 ≤ p) (h1 : p ≤ 9223372036854775807) : Y P B n w0 ⟨d, .convert t t' x, ty, ps, af, g⟩ T H (.int .i64 p) :=
  y_as (y_conv hx) (by rw [IntKind.wrap_i64]; congr 1; omega)
theorem y_shl_u64 {yk : IntKind} {m : Int} (hx : ev T x = some (.int .u64 p)) (hy : ev T y = some (.int yk q)) [h : P2 .u64 q m] (h0 : 0 ≤ p * m) (h1 : p * m ≤ 18446744073709551615) : Y P B n w0 ⟨d, .binOp .shl t x y t', ty, ps, af, g⟩ T H (.int .u64 (p * m)) :=
  y_as (y_shl hx hy) (by rw [IntKind.wrap_u64]; congr 1; omega)
theorem y_quo_u64 (hx : ev T x = some (.int .u64 p)) (hy : ev T y = some (.int .u64 q)) (h : 0 < q) (h0 : 0 ≤ p) (h1 : p ≤ 18446744073709551615) : Y P B n w0 ⟨d, .binOp .quo t x y t', ty, ps, af, g⟩ T H (.int .u64 (p / q)) :=
  y_as (y_quo hx hy (by omega)) (by
    rw [Int.tdiv_eq_ediv_of_nonneg h0, IntKind.wrap_u64]
    have e0 : 0 ≤ p / q := Int.ediv_nonneg h0 (by omega)
    have e1 : p / q ≤ p := Int.ediv_le_self _ h0
    congr 1; omega)
theorem y_conv_u64 (hx : ev T x = some (.int k p)) [h : IntT P t' .u64] [ht : KnownT P t] (h0 : 0 ≤ p) (h1 : p ≤ 18446744073709551615) : Y P B n w0 ⟨d, .convert t t' x, ty, ps, af, g⟩ T H (.int .u64 p) :=
  y_as (y_conv hx) (by rw [IntKind.wrap_u64]; congr 1; omega)
theorem y_shl_u32 {yk : IntKind} {m : Int} (hx : ev T x = some (.int .u32 p)) (hy : ev T y = some (.int yk q)) [h : P2 .u32 q m] (h0 : 0 ≤ p * m) (h1 : p * m ≤ 4294967295) : Y P B n w0 ⟨d, .binOp .shl t x y t', ty, ps, af, g⟩ T H (.int .u32 (p * m)) :=
  y_as (y_shl hx hy) (by rw [IntKind.wrap_u32]; congr 1; omega)
theorem y_quo_u32 (hx : ev T x = some (.int .u32 p)) (hy : ev T y = some (.int .u32 q)) (h : 0 < q) (h0 : 0 ≤ p) (h1 : p ≤ 4294967295) : Y P B n w0 ⟨d, .binOp .quo t x y t', ty, ps, af, g⟩ T H (.int .u32 (p / q)) :=
  y_as (y_quo hx hy (by omega)) (by
    rw [Int.tdiv_eq_ediv_of_nonneg h0, IntKind.wrap_u32]
    have e0 : 0 ≤ p / q := Int.ediv_nonneg h0 (by omega)
    have e1 : p / q ≤ p := Int.ediv_le_self _ h0
    congr 1; omega)
theorem y_conv_u32 (hx : ev T x = some (.int k p)) [h : IntT P t' .u32] [ht : KnownT P t] (h0 : 0 ≤ p) (h1 : p ≤ 4294967295) : Y P B n w0 ⟨d, .convert t t' x, ty, ps, af, g⟩ T H (.int .u32 p) :=
  y_as (y_conv hx) (by rw [IntKind.wrap_u32]; congr 1; omega)
theorem y_shl_u8 {yk : IntKind} {m : Int} (hx : ev T x = some (.int .u8 p)) (hy : ev T y = some (.int yk q)) [h : P2 .u8 q m] (h0 : 0 ≤ p * m) (h1 : p * m ≤ 255) : Y P B n w0 ⟨d, .binOp .shl t x y t', ty, ps, af, g⟩ T H (.int .u8 (p * m)) :=
  y_as (y_shl hx hy) (by rw [IntKind.wrap_u8]; congr 1; omega)
theorem y_quo_u8 (hx : ev T x = some (.int .u8 p)) (hy : ev T y = some (.int .u8 q)) (h : 0 < q) (h0 : 0 ≤ p) (h1 : p ≤ 255) : Y P B n w0 ⟨d, .binOp .quo t x y t', ty, ps, af, g⟩ T H (.int .u8 (p / q)) :=
  y_as (y_quo hx hy (by omega)) (by
    rw [Int.tdiv_eq_ediv_of_nonneg h0, IntKind.wrap_u8]
    have e0 : 0 ≤ p / q := Int.ediv_nonneg h0 (by omega)
    have e1 : p / q ≤ p := Int.ediv_le_self _ h0
    congr 1; omega)
theorem y_conv_u8 (hx : ev T x = some (.int k p)) [h : IntT P t' .u8] [ht : KnownT P t] (h0 : 0 ≤ p) (h1 : p ≤ 255) : Y P B n w0 ⟨d, .convert t t' x, ty, ps, af, g⟩ T H (.int .u8 p) :=
  y_as (y_conv hx) (by rw [IntKind.wrap_u8]; congr 1; omega)
theorem y_not {b : Bool} (hx : ev T x = some (.bool b)) : Y P B n w0 ⟨d, .unOp .not t x, ty, ps, af, g⟩ T H (.bool (!b)) := .of fun a w hf _ => by simp [execOp, hf.ev hx, unary_not]
theorem y_neg_i64 (hx : ev T x = some (.int .i64 p)) (h0 : -9223372036854775807 ≤ p) (h1 : p ≤ 9223372036854775807) : Y P B n w0 ⟨d, .unOp .neg t x, ty, ps, af, g⟩ T H (.int .i64 (-p)) := .of fun a w hf _ => by
  have e : IntKind.i64.wrap (0 - p) = -p := by rw [IntKind.wrap_i64]; omega
  simp [execOp, hf.ev hx, unary_neg, Op.intArith] at e ⊢
  exact e
theorem y_nil {p : Addr} (hx : ev T x = some (.pointer (some p))) : Y P B n w0 ⟨d, .nilCheck x, ty, ps, af, g⟩ T H (.pointer (some p)) := .of fun a w hf _ => by simp [execOp, hf.ev hx]
theorem y_extract {vs : List Value} {i : Nat} (hx : ev T x = some (.tuple vs.toArray)) (hv : vs[i]? = some v) : Y P B n w0 ⟨d, .extract x i, ty, ps, af, g⟩ T H v := .of fun a w hf _ => by
  simp [execOp, hf.ev hx, Instr.extract, hv]
theorem y_fieldAddr {b o f off ft : Nat} (hx : ev T x = some (.pointer (some ⟨b, o, none⟩))) [h : FieldT P t f off ft] : Y P B n w0 ⟨d, .fieldAddr t x f, ty, ps, af, g⟩ T H (.pointer (some ⟨b, o + off, none⟩)) := .of fun a w hf _ => by
  simp [execOp, hf.ev hx, h.run]
theorem y_fieldAddr0 {b f off ft : Nat} (hx : ev T x = some (.pointer (some ⟨b, 0, none⟩))) [h : FieldT P t f off ft] : Y P B n w0 ⟨d, .fieldAddr t x f, ty, ps, af, g⟩ T H (.pointer (some ⟨b, off, none⟩)) := .of fun a w hf _ => by
  simp [execOp, hf.ev hx, h.run]
theorem y_indexAddr {b o len e m : Nat} (hx : ev T x = some (.pointer (some ⟨b, o, none⟩))) (hy : ev T y = some (.int k p)) [h : ArrT P t len e m] (h0 : 0 ≤ p) (h1 : p < len) : Y P B n w0 ⟨d, .indexAddr t x y, ty, ps, af, g⟩ T H (.pointer (some ⟨b, o + p.toNat * m, none⟩)) := .of fun a w hf _ => by
  simp [execOp, hf.ev hx, hf.ev hy, ArrT.run h0 h1]
theorem y_indexAddr1 {b o len e : Nat} {j : Nat} (hx : ev T x = some (.pointer (some ⟨b, o, none⟩))) (hy : ev T y = some (.int k j)) [h : ArrT P t len e 1] (h1 : j < len) : Y P B n w0 ⟨d, .indexAddr t x y, ty, ps, af, g⟩ T H (.pointer (some ⟨b, o + j, none⟩)) := .of fun a w hf _ => by
  simp [execOp, hf.ev hx, hf.ev hy, ArrT.run (t := t) (k := k) (i := (j : Int)) (P := P) (by omega) (by omega)]
theorem y_indexAddrS {b o len cap e m : Nat} (hx : ev T x = some (.slice (some ⟨b, o, none⟩) len cap)) (hy : ev T y = some (.int k p)) [h : SliT P t e m] (h0 : 0 ≤ p) (h1 : p < len) : Y P B n w0 ⟨d, .indexAddr t x y, ty, ps, af, g⟩ T H (.pointer (some ⟨b, o + p.toNat * m, none⟩)) := .of fun a w hf _ => by
  simp [execOp, hf.ev hx, hf.ev hy, SliT.run h0 h1]
theorem y_indexAddrL {b o len e m j : Nat} (hx : ev T x = some (.pointer (some ⟨b, o, none⟩))) (hy : ev T y = some (.int k (OfNat.ofNat j))) [h : ArrT P t len e m] (h1 : j < len) : Y P B n w0 ⟨d, .indexAddr t x y, ty, ps, af, g⟩ T H (.pointer (some ⟨b, o + OfNat.ofNat j * m, none⟩)) := .of fun a w hf _ => by
  simp [execOp, hf.ev hx, hf.ev hy, ArrT.run (t := t) (k := k) (i := (OfNat.ofNat j : Int)) (len := len) (P := P) (Int.natCast_nonneg j) (Int.ofNat_lt.2 h1)]
  rfl
theorem y_indexAddrSL {b o len cap e j : Nat} (hx : ev T x = some (.slice (some ⟨b, o, none⟩) len cap)) (hy : ev T y = some (.int k (OfNat.ofNat j))) [h : SliT P t e 1] (h1 : j < len) : Y P B n w0 ⟨d, .indexAddr t x y, ty, ps, af, g⟩ T H (.pointer (some ⟨b, o + OfNat.ofNat j, none⟩)) := .of fun a w hf _ => by
  simp [execOp, hf.ev hx, hf.ev hy, SliT.run (t := t) (k := k) (i := (OfNat.ofNat j : Int)) (len := len) (P := P) (Int.natCast_nonneg j) (Int.ofNat_lt.2 h1)]
  rfl
theorem y_slice_l {b o len cap e m : Nat} {lo : Operand} (hx : ev T x = some (.slice (some ⟨b, o, none⟩) len cap)) (hl : ev T lo = some (.int k p)) [h : SliT P t e m] (h0 : 0 ≤ p) (h1 : p ≤ len) (h2 : p < cap) : Y P B n w0 ⟨d, .slice t x (some lo) none none, ty, ps, af, g⟩ T H (.slice (some ⟨b, o + p.toNat * m, none⟩) (len - p.toNat) (cap - p.toNat)) := .of fun a w hf _ => by
  have hne : ¬ cap = p.toNat := by omega
  simp [execOp, hf.ev hx, hf.ev hl, Instr.sliceAt, Instr.slice, Instr.sliceBounds, run_sliceBound, run_underlying h.u, h0, h1, Siz.run h.s, addr_add, hne]
theorem y_slice_h {b o len cap e m : Nat} {hi : Operand} (hx : ev T x = some (.slice (some ⟨b, o, none⟩) len cap)) (hl : ev T hi = some (.int k p)) [h : SliT P t e m] (h0 : 0 ≤ p) (h1 : p ≤ cap) (h2 : 0 < cap) : Y P B n w0 ⟨d, .slice t x none (some hi) none, ty, ps, af, g⟩ T H (.slice (some ⟨b, o, none⟩) p.toNat cap) := .of fun a w hf _ => by
  have hne : ¬ cap = 0 := by omega
  simp [execOp, hf.ev hx, hf.ev hl, Instr.sliceAt, Instr.slice, Instr.sliceBounds, run_sliceBound, run_underlying h.u, h0, h1, Siz.run h.s, addr_add, hne]
theorem y_slice_lh {b o len cap e m : Nat} {lo hi : Operand} {k' : IntKind} (hx : ev T x = some (.slice (some ⟨b, o, none⟩) len cap)) (hl : ev T lo = some (.int k p)) (hh : ev T hi = some (.int k' q)) [h : SliT P t e m] (h0 : 0 ≤ p) (h1 : p ≤ q) (h3 : q ≤ cap) (h2 : p < cap) : Y P B n w0 ⟨d, .slice t x (some lo) (some hi) none, ty, ps, af, g⟩ T H (.slice (some ⟨b, o + p.toNat * m, none⟩) (q.toNat - p.toNat) (cap - p.toNat)) := .of fun a w hf _ => by
  have hne : ¬ cap = p.toNat := by omega
  have e : (q.toNat : Int) = q := Int.toNat_of_nonneg (by omega)
  have hq : 0 ≤ q := by omega
  simp [execOp, hf.ev hx, hf.ev hl, hf.ev hh, Instr.sliceAt, Instr.slice, Instr.sliceBounds, run_sliceBound, run_underlying h.u, h0, h1, h3, hq, e, Siz.run h.s, addr_add, hne]
theorem y_indexAddrS1 {b o len cap e : Nat} {j : Nat} (hx : ev T x = some (.slice (some ⟨b, o, none⟩) len cap)) (hy : ev T y = some (.int k j)) [h : SliT P t e 1] (h1 : j < len) : Y P B n w0 ⟨d, .indexAddr t x y, ty, ps, af, g⟩ T H (.pointer (some ⟨b, o + j, none⟩)) := .of fun a w hf _ => by
  simp [execOp, hf.ev hx, hf.ev hy, SliT.run (t := t) (k := k) (i := (j : Int)) (len := len) (P := P) (by omega) (by omega)]
/-- A load of one cell out of a block of the call's own. -/
theorem y_load {b o : Nat} {cs : List Value} {et : TypeId} (hx : ev T x = some (.pointer (some ⟨b, o, none⟩))) [hs : Sca P t] [hh : Has H b cs et] (hc : cs[o]? = some v) : Y P B n w0 ⟨d, .load t x, ty, ps, af, g⟩ T H v := .of fun a w hf hm => by
  have hl : w.cell? ⟨b, o, none⟩ = some v := by rw [cell_of_row w b o _ _ _ (hm.at_ hh.mem)]; simpa using hc
  simp [execOp, hf.ev hx, Instr.loadAt, Instr.sureAddr, loadVar, Sca.run, hl]
/-- A whole row of cells out of a block of the call's own. -/
theorem y_load_row {b m : Nat} {cs : List Value} {et : TypeId} (hx : ev T x = some (.pointer (some ⟨b, 0, none⟩))) [hs : AggT P t m] [hh : Has H b cs et] (hc : cs.length = m) : Y P B n w0 ⟨d, .load t x, ty, ps, af, g⟩ T H (.agg cs.toArray) := .of fun a w hf hm => by
  have hat := hm.at_ hh.mem
  have hl : (loadCells ⟨b, 0, none⟩ m).run P w = .ok cs.toArray w := by
    have := run_loadCells_list (P := P) w ⟨b, 0, none⟩ cs (fun j v hv => by
      rw [addr_add, cell_of_row w b _ _ _ _ hat]
      simpa using hv)
    rwa [hc] at this
  simp [execOp, hf.ev hx, Instr.loadAt, Instr.sureAddr, loadVar, AggT.run, Siz.run hs.s, hl]
/-- The first cells of a list; what stands behind them. -/
class Take (cs : List Value) (m : Nat) (r : outParam (List Value)) : Prop where
  h : cs.take m = r ∧ m ≤ cs.length
instance (cs : List Value) : Take cs 0 [] := ⟨by simp⟩
instance (c : Value) (cs : List Value) (m : Nat) (r : List Value) [h : Take cs m r] : Take (c :: cs) (m + 1) (c :: r) := ⟨by simp [h.h.1], by have := h.h.2; simp; omega⟩
class Cut (cs : List Value) (o m : Nat) (r : outParam (List Value)) : Prop where
  h : (cs.drop o).take m = r ∧ o + m ≤ cs.length
instance (cs : List Value) (m : Nat) (r : List Value) [h : Take cs m r] : Cut cs 0 m r := ⟨by simp [h.h.1], by have := h.h.2; omega⟩
instance (c : Value) (cs : List Value) (o m : Nat) (r : List Value) [h : Cut cs o m r] : Cut (c :: cs) (o + 1) m r := ⟨by simp [h.h.1], by have := h.h.2; simp; omega⟩
theorem Cut.at {cs r : List Value} {o m j : Nat} (h : Cut cs o m r) {v : Value} (hv : r[j]? = some v) : cs[o + j]? = some v := by
  have e := h.h.1
  have hj : j < r.length := (List.getElem?_eq_some_iff.1 hv).1
  have hjm : j < m := by
    have := congrArg List.length e
    simp at this
    omega
  rw [← e, List.getElem?_take, if_pos hjm, List.getElem?_drop] at hv
  exact hv
theorem Cut.len {cs r : List Value} {o m : Nat} (h : Cut cs o m r) : r.length = m := by
  have e := congrArg List.length h.h.1
  have := h.h.2
  simp at e
  omega
theorem y_load_cut {b o m : Nat} {cs r : List Value} {et : TypeId} (hx : ev T x = some (.pointer (some ⟨b, o, none⟩))) [hs : AggT P t m] [hh : Has H b cs et] [hc : Cut cs o m r] : Y P B n w0 ⟨d, .load t x, ty, ps, af, g⟩ T H (.agg r.toArray) := .of fun a w hf hm => by
  have hat := hm.at_ hh.mem
  have hl : (loadCells ⟨b, o, none⟩ m).run P w = .ok r.toArray w := by
    have := run_loadCells_list (P := P) w ⟨b, o, none⟩ r (fun j v hv => by
      rw [addr_add, cell_of_row w b _ _ _ _ hat]
      simpa using hc.at hv)
    rwa [hc.len] at this
  simp [execOp, hf.ev hx, Instr.loadAt, Instr.sureAddr, loadVar, AggT.run, Siz.run hs.s, hl]
/-- A field of a struct by value. -/
theorem run_part_sca {w : World} [Sca P t] {cs : List Value} {o : Nat} (h : cs[o]? = some v) : (part t cs.toArray o).run P w = .ok v w := by simp [part, Sca.run, h]
theorem run_part_agg {w : World} {m : Nat} [hs : AggT P t m] {cs r : List Value} {o : Nat} [hc : Cut cs o m r] : (part t cs.toArray o).run P w = .ok (.agg r.toArray) w := by
  have := hc.h.1
  simp [part, AggT.run, Siz.run hs.s, ← this, List.extract_eq_take_drop]
theorem y_field {cs : List Value} {f off ft : Nat} (hx : ev T x = some (.agg cs.toArray)) [h : FieldT P t f off ft] [hs : Sca P ft] (hc : cs[off]? = some v) : Y P B n w0 ⟨d, .field t x f, ty, ps, af, g⟩ T H v := .of fun a w hf _ => by
  obtain ⟨fs, y, hu, hy, rfl, rfl⟩ := h.get
  simp [execOp, hf.ev hx, Instr.field, run_underlying hu, hy, asAgg, run_part_sca hc]
theorem y_field_agg {cs r : List Value} {f off ft m : Nat} (hx : ev T x = some (.agg cs.toArray)) [h : FieldT P t f off ft] [hs : AggT P ft m] [hc : Cut cs off m r] : Y P B n w0 ⟨d, .field t x f, ty, ps, af, g⟩ T H (.agg r.toArray) := .of fun a w hf _ => by
  obtain ⟨fs, y, hu, hy, rfl, rfl⟩ := h.get
  simp [execOp, hf.ev hx, Instr.field, run_underlying hu, hy, asAgg, run_part_agg]
theorem y_index {cs : List Value} {len e m : Nat} (hx : ev T x = some (.agg cs.toArray)) (hy : ev T y = some (.int k p)) [h : ArrT P t len e m] [hs : Sca P e] (h0 : 0 ≤ p) (h1 : p < len) (hc : cs[p.toNat * m]? = some v) : Y P B n w0 ⟨d, .index t x y, ty, ps, af, g⟩ T H v := .of fun a w hf _ => by
  simp [execOp, hf.ev hx, hf.ev hy, Instr.index, asIntOf, run_underlying h.u, h0, h1, Siz.run h.s, run_part_sca hc]
theorem y_len {b : Option Addr} {len cap e m : Nat} {at' : Array TypeId} (hx : ev T x = some (.slice b len cap)) (ha : at'[0]? = some t) [h : SliT P t e m] : Y P B n w0 ⟨d, .call ⟨.builtin .len, #[x], at'⟩, ty, ps, af, g⟩ T H (.int .i64 len) := .of fun a w hf _ => by
  simp [execOp, resolve, invoke, builtin, Builtin.len_, ha, hf.ev hx, run_underlying h.u, goInt]
end
end Sl
end Go.Proofs.Ytiolijpamidpfaa

