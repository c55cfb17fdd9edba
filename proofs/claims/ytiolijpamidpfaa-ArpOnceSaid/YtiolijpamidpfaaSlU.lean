/-
  A run told by lists: places named by the caller. Over any program; no conditions beyond those in each statement.
-/
import Derived.Test.YtiolijpamidpfaaSlT
namespace Go.Proofs.Ytiolijpamidpfaa
open Go.RowKit
namespace Sl
set_option linter.unusedVariables false
section
variable {P : Program} {B : Foot} {n : Nat} {w0 : World} {T : Tm} {H : List Blk} {d : Option Tmp} {ty : TypeId} {ps : String} {af : Array Edge} {g : Option (Nat × Bool)} {x y : Operand} {t : TypeId} {k : IntKind} {p : Int}
theorem y_ixS {b o len cap e m : Nat} (q : Nat) (hx : ev T x = some (.slice (some ⟨b, o, none⟩) len cap)) (hy : ev T y = some (.int k p)) [h : SliT P t e m] (h0 : 0 ≤ p) (h1 : p < len) (hq : o + p.toNat * m = q) : Y P B n w0 ⟨d, .indexAddr t x y, ty, ps, af, g⟩ T H (.pointer (some ⟨b, q, none⟩)) := by
  subst hq
  exact y_indexAddrS hx hy h0 h1
theorem y_ixA {b o len e m : Nat} (q : Nat) (hx : ev T x = some (.pointer (some ⟨b, o, none⟩))) (hy : ev T y = some (.int k p)) [h : ArrT P t len e m] (h0 : 0 ≤ p) (h1 : p < len) (hq : o + p.toNat * m = q) : Y P B n w0 ⟨d, .indexAddr t x y, ty, ps, af, g⟩ T H (.pointer (some ⟨b, q, none⟩)) := by
  subst hq
  exact y_indexAddr hx hy h0 h1
/-- The value, written otherwise. -/
theorem y_to {o : Oper} {u : Value} (v' : Value) (h : Y P B n w0 o T H u) (e : u = v') : Y P B n w0 o T H v' := e ▸ h
/-- The parts of an array, of one cell each, laid into 'cur'. -/
structure BldA (n : Nat) (T : Tm) (cur : List Value) (parts : List (Nat × Operand)) (r : List Value) : Prop where of ::
  run : ∀ a, Fr n T a → Instr.fill (fun i => some (i * 1, 1)) cur.toArray (parts.map fun (i, x) => (i, a.eval x)) = some r.toArray
theorem ba_nil {cur : List Value} : BldA n T cur [] cur := .of fun _ _ => rfl
theorem ba_one {cur cur' r : List Value} {i : Nat} {v : Value} {ps : List (Nat × Operand)} (hx : ev T x = some v) (h1 : one v = true) [hc : SetL cur i v cur'] (k : BldA n T cur' ps r) : BldA n T cur ((i, x) :: ps) r := .of fun a hf => by
  have hlt := hc.h.2
  simp only [List.map_cons, Instr.fill, hf.ev hx, one_cells h1]
  rw [if_neg (by simp; omega)]
  simpa [hc.h.1] using k.run a hf
theorem y_buildA {z r : List Value} {len e : Nat} {ps' : List (Nat × Operand)} [hz : ZeroT P t z] [h : ArrT P t len e 1] (hb : BldA n T z ps' r) : Y P B n w0 ⟨d, .build t ps'.toArray, ty, ps, af, g⟩ T H (.agg r.toArray) := .of fun a w hf _ => by
  obtain ⟨i, hi, hz'⟩ := Option.bind_eq_some_iff.1 hz.z
  obtain ⟨zv, hzv, e⟩ := Option.map_eq_some_iff.1 hz'
  have e' : zv.cells = z.toArray := by rw [← e]
  obtain ⟨ie, hie, hsz⟩ := Option.map_eq_some_iff.1 h.s
  have := run_build (P := P) w t (ps'.map fun (i, x) => (i, a.eval x)).toArray r.toArray (by
    simp only [Program.built, hi, h.u, hzv, hie, e', hsz]
    exact hb.run a hf)
  simp [execOp] at this ⊢
  rw [this]
  rfl
theorem y_buildA0 {z : List Value} {len e : Nat} [hz : ZeroT P t z] [h : ArrT P t len e 1] : Y P B n w0 ⟨d, .build t #[], ty, ps, af, g⟩ T H (.agg z.toArray) := y_buildA (ps' := []) ba_nil
end
section
variable {P : Program} {B : Foot} {n : Nat} {w0 : World} {T : Tm} {H : List Blk} {fn : Func} {R : Ending → World → Prop}
theorem post4 {e : Exit} (he : e = .ret ∨ e = .normal) {r1 r2 r3 r4 : ResultVar} {v1 v2 v3 v4 : Value} (hr : fn.results = #[r1, r2, r3, r4]) (h1 : Res P B n w0 T H r1 v1) (h2 : Res P B n w0 T H r2 v2) (h3 : Res P B n w0 T H r3 v3) (h4 : Res P B n w0 T H r4 v4) (k : ∀ w, Mem B w0 w H → R (.returned (.tuple #[v1, v2, v3, v4])) w) : E B n w0 (bodyPost P fn R) e T H := .of fun a w hf hm => by
  have h0 : (results fn a.tmps).run P w = .ok (.tuple #[v1, v2, v3, v4]) w := by
    rw [results_eq, hr]
    simp [h1.run a w hf hm, h2.run a w hf hm, h3.run a w hf hm, h4.run a w hf hm]
  rcases he with rfl | rfl <;> exact ⟨hf.nodef, _, h0, k w hm⟩
end
end Sl
end Go.Proofs.Ytiolijpamidpfaa
