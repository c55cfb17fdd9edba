/-
  A run told by lists: slices made. Over any program; no conditions beyond those in each statement.
-/
import Derived.Test.YtiolijpamidpfaaSxV
import Derived.Laws.MakeOwn
namespace Go.Proofs.Ytiolijpamidpfaa
open Go.RowKit
namespace Sx
section
variable {P : Program} {B n : Nat} {w0 : World} {T : Tm} {H : List Blk} {d : Option Tmp} {ty : TypeId} {ps : String} {af : Array Edge} {g : Option (Nat × Bool)} {x y : Operand} {t : TypeId}
theorem made_one (z : Value) (n : Nat) : madeCells #[z] n = (List.replicate n z).toArray := by
  apply Array.ext
  · simp [madeCells]
  · intro i h1 h2
    simp [madeCells, Nat.mod_one]
theorem d_make {e bytes : Nat} {p q : Int} {k k' : IntKind} {z : Value} {cs : List Value} (hx : ev T x = some (.int k p)) (hy : ev T y = some (.int k' q)) [h : SliT P t e 1] (hz : (P.info? e).bind (fun i => i.zero.map fun v => (v.cells, i.bytes)) = some (#[z], bytes)) (h0 : 0 ≤ p) (h1 : p ≤ q) (h2 : q ≤ 1000000) (hb : bytes ≤ 64) (hcs : List.replicate q.toNat z = cs) :
    D P B n w0 ⟨d, .makeSlice t x y, ty, ps, af, g⟩ T H (fun b : Nat => .slice (some ⟨b, 0, none⟩) p.toNat q.toNat) (fun b => ⟨b, cs, e⟩ :: H) := .of fun a w hf hm => by
  obtain ⟨i, hi, hz'⟩ := Option.bind_eq_some_iff.1 hz
  obtain ⟨zv, hzv, e1⟩ := Option.map_eq_some_iff.1 hz'
  obtain ⟨e2, e3⟩ : zv.cells = #[z] ∧ i.bytes = bytes := by simpa using e1
  have hs := h.s
  rw [hi] at hs
  have hs1 : i.size = 1 := by simpa using hs
  have hr := run_makeSlice (P := P) (w := w) t e i zv h.u hi hzv k k' p q h0 h1 (by rw [hs1]; omega) (by
    rw [e3]
    have : (bytes : Int) * q ≤ 64 * 1000000 := Int.mul_le_mul (by omega) h2 (by omega) (by omega)
    omega) (by omega)
  rw [e2, hs1, Nat.mul_one, made_one, hcs] at hr
  have : (execOp a.eval ⟨d, .makeSlice t x y, ty, ps, af, g⟩).run P w = .ok (.value (.slice (some ⟨w.heap.size, 0, none⟩) p.toNat q.toNat)) (w.alloc (.cells cs.toArray e)) := by
    simp [execOp, hf.ev hx, hf.ev hy, hr]
  rw [this]
  exact ⟨w.heap.size, rfl, hm.alloc cs e⟩
theorem y_append_none {b o k cap c e m : Nat} {a : Option Addr} {ats : Array TypeId} (hx : ev T x = some (.slice (some ⟨b, o, none⟩) k cap)) (hy : ev T y = some (.slice a 0 c)) [ht : SliT P t e m] (ha : ats = #[t, t]) (hkc : k ≤ cap) : Y P B n w0 ⟨d, .call ⟨.builtin .append, #[x, y], ats⟩, ty, ps, af, g⟩ T H (.slice (some ⟨b, o, none⟩) k cap) := .of fun a' w hf hm => by
  subst ha
  obtain ⟨i, hi, hs⟩ := Option.map_eq_some_iff.1 ht.s
  have hr : (Builtin.append_ #[t, t] ty #[.slice (some ⟨b, o, none⟩) k cap, .slice a 0 c]).run P w = .ok (.slice (some ⟨b, o, none⟩) k cap) w := by
    cases a <;> simp [Builtin.append_, run_underlying ht.u, sizeOf, typeInfo, hi, Builtin.lenOf, Builtin.firstCells, hkc, storeCells, loadCells, loadCellsFrom]
  simp [execOp, resolve, invoke, builtin, hf.ev hx, hf.ev hy, hr]
end
end Sx
end Go.Proofs.Ytiolijpamidpfaa
