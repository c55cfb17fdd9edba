/-
  A run told by lists: bytes as strings. Over any program; no conditions beyond those in each statement.
-/
import Derived.Test.YtiolijpamidpfaaSxU
import Derived.Test.YtiolijpamidpfaaFrA
import Derived.Laws.BytesArg
namespace Go.Proofs.Ytiolijpamidpfaa
open Go.RowKit
namespace Sx
section
variable {P : Program} {B n : Nat} {w0 : World} {T : Tm} {H : List Blk} {d : Option Tmp} {ty : TypeId} {ps : String} {af : Array Edge} {g : Option (Nat × Bool)} {x y : Operand} {t t' : TypeId}
theorem y_bstr {b o len cap e m : Nat} {bs : List Int} (hx : ev T x = some (.slice (some ⟨b, o, none⟩) len cap)) [h : SliT P t e m] (he : P.underlying e = some (.int .u8)) (hd : P.underlying t' = some .string) (hl : bs.length = len) (hb : ∀ w, Mem B w0 w H → Fr.BS w b o bs) : Y P B n w0 ⟨d, .convert t t' x, ty, ps, af, g⟩ T H (.string (strOfNums bs)) := .of fun a w hf hm => by
  have := run_convert_bytes_arg w t e h.u he b o len cap bs hl (fun i hi => hb w hm i (by omega)) t' hd
  simp [execOp, hf.ev hx, this]
theorem y_bstr0 {len cap e m : Nat} (hx : ev T x = some (.slice none len cap)) [h : SliT P t e m] (he : P.underlying e = some (.int .u8)) (hd : P.underlying t' = some .string) : Y P B n w0 ⟨d, .convert t t' x, ty, ps, af, g⟩ T H (.string (strOfNums [])) := .of fun a w hf hm => by
  have := run_convert_bytes_nil (P := P) w t e h.u he len cap t' hd
  simp [execOp, hf.ev hx, this]
  rfl
theorem y_seql {r s : ByteArray} (hx : ev T x = some (.string r)) (hy : ev T y = some (.string s)) : Y P B n w0 ⟨d, .binOp .eql t x y t', ty, ps, af, g⟩ T H (.bool (r.toList == s.toList)) := .of fun a w hf _ => by
  simp [execOp, eqGuard, binOp, Op.stringOp, hf.ev hx, hf.ev hy]
theorem y_sneq {r s : ByteArray} (hx : ev T x = some (.string r)) (hy : ev T y = some (.string s)) : Y P B n w0 ⟨d, .binOp .neq t x y t', ty, ps, af, g⟩ T H (.bool (!(r.toList == s.toList))) := .of fun a w hf _ => by
  simp [execOp, eqGuard, binOp, Op.stringOp, hf.ev hx, hf.ev hy]
theorem y_seql_same {r : ByteArray} (hx : ev T x = some (.string r)) (hy : ev T y = some (.string r)) : Y P B n w0 ⟨d, .binOp .eql t x y t', ty, ps, af, g⟩ T H (.bool true) := y_as (y_seql hx hy) (by simp)
end
end Sx
end Go.Proofs.Ytiolijpamidpfaa
