/-
  A run told by lists: the operations on slices as opaque values. Over any program; no conditions beyond those in each statement.
-/
import Derived.Test.YtiolijpamidpfaaSlV
import Derived.Laws.MakeOwn
namespace Go.Proofs.Ytiolijpamidpfaa
open Go.RowKit
namespace Sl
set_option linter.unusedVariables false
/-- What an element type's cells are: their number, its bytes. -/
class ElT (P : Program) (e : TypeId) (size : outParam Nat) (bytes : outParam Nat) : Prop where
  i : (P.info? e).map (fun i => (i.size, i.bytes)) = some (size, bytes)
  z : (P.info? e).bind (fun i => i.zero.map fun v => v.cells.size) = some size
  p : 0 < size
theorem ElT.get {P : Program} {e : TypeId} {size bytes : Nat} [h : ElT P e size bytes] : ∃ (i : TypeInfo) (z : Value), P.info? e = some i ∧ i.zero = some z ∧ i.size = size ∧ i.bytes = bytes ∧ z.cells.size = size ∧ 0 < size := by
  obtain ⟨i, hi, h1⟩ := Option.map_eq_some_iff.1 h.i
  simp only [Prod.mk.injEq] at h1
  have h2 := h.z
  rw [hi] at h2
  obtain ⟨z, hz, h3⟩ := Option.map_eq_some_iff.1 h2
  exact ⟨i, z, hi, hz, h1.1, h1.2, h3, h.p⟩
/-- Elements whose cells are values of one cell. -/
class OneE {α : Type} (enc : α → List Value) : Prop where
  h : ∀ x, ∀ u ∈ enc x, u.oneCell' = true
instance (k : IntKind) : OneE (enc1 k) := ⟨fun x u hu => by obtain rfl : u = .int k x := by simpa [enc1] using hu
                                                            rfl⟩
/-- Some numbers out of a list, written out. -/
class IvN (k : IntKind) (xs : List Int) (o m : Nat) (r : outParam (List Value)) : Prop where
  h : (List.range' o m).map (fun j => .int k (xs.getD j 0)) = r
instance (k : IntKind) (xs : List Int) (o : Nat) : IvN k xs o 0 [] := ⟨rfl⟩
instance (k : IntKind) (xs : List Int) (o m : Nat) (r : List Value) [h : IvN k xs (o + 1) m r] : IvN k xs o (m + 1) (.int k (xs.getD o 0) :: r) := ⟨by rw [List.range'_succ, List.map_cons, h.h]⟩
section
variable {P : Program} {B : Foot} {n : Nat} {w0 : World} {T : Tm} {H : List Blk} {d : Option Tmp} {ty : TypeId} {ps : String} {af : Array Edge} {g : Option (Nat × Bool)} {x y c : Operand} {t t' e : TypeId} {k : IntKind} {p q : Int} {v u : Value}
variable {α : Type} {enc : α → List Value} {m : Nat} {xs ys : List α}
theorem y_lenV {at' : Array TypeId} (hx : ev T x = some v) (ha : at'[0]? = some t) [h : SliT P t e m] [r : Rd B w0 H v enc m xs] : Y P B n w0 ⟨d, .call ⟨.builtin .len, #[x], at'⟩, ty, ps, af, g⟩ T H (.int .i64 xs.length) := .of fun a w hf hm => by
  obtain ⟨_, _, b, cap, rfl, _⟩ := hm.rd r
  simp [execOp, resolve, invoke, builtin, Builtin.len_, ha, hf.ev hx, run_underlying h.u, goInt]
theorem y_ixV (hx : ev T x = some v) (hy : ev T y = some (.int k p)) [h : SliT P t e m] [r : Rd B w0 H v enc m xs] (h0 : 0 ≤ p) (h1 : p < xs.length) : Y P B n w0 ⟨d, .indexAddr t x y, ty, ps, af, g⟩ T H (.pointer (some (adr v (p.toNat * m)))) := .of fun a w hf hm => by
  obtain ⟨_, _, b, cap, rfl, _, _, h3⟩ := hm.rd r
  rcases h3 with rfl | ⟨b, o, rfl, _⟩
  · simp at h1; omega
  · simp [execOp, hf.ev hx, hf.ev hy, SliT.run h0 h1, adr]
/-- Elements of one cell. -/
theorem y_ixV1 (hx : ev T x = some v) (hy : ev T y = some (.int k p)) [h : SliT P t e 1] [r : Rd B w0 H v enc 1 xs] (h0 : 0 ≤ p) (h1 : p < xs.length) : Y P B n w0 ⟨d, .indexAddr t x y, ty, ps, af, g⟩ T H (.pointer (some (adr v p.toNat))) :=
  y_as (y_ixV hx hy h0 h1) (by rw [Nat.mul_one])
theorem y_ixVn {j : Nat} (hx : ev T x = some v) (hy : ev T y = some (.int k j)) [h : SliT P t e 1] [r : Rd B w0 H v enc 1 xs] (h1 : j < xs.length) : Y P B n w0 ⟨d, .indexAddr t x y, ty, ps, af, g⟩ T H (.pointer (some (adr v j))) :=
  y_as (y_ixV1 hx hy (by omega) (by omega)) (by simp)
theorem y_ixVl {j : Nat} (hx : ev T x = some v) (hy : ev T y = some (.int k (OfNat.ofNat j))) [h : SliT P t e 1] [r : Rd B w0 H v enc 1 xs] (h1 : OfNat.ofNat j < xs.length) : Y P B n w0 ⟨d, .indexAddr t x y, ty, ps, af, g⟩ T H (.pointer (some (adr v (OfNat.ofNat j)))) :=
  y_as (y_ixV1 (p := ((j : Nat) : Int)) hx hy (Int.natCast_nonneg j) (Int.ofNat_lt.2 h1)) rfl
theorem y_ixVm {j : Nat} (hx : ev T x = some v) (hy : ev T y = some (.int k j)) [h : SliT P t e m] [r : Rd B w0 H v enc m xs] (h1 : j < xs.length) : Y P B n w0 ⟨d, .indexAddr t x y, ty, ps, af, g⟩ T H (.pointer (some (adr v (j * m)))) :=
  y_as (y_ixV hx hy (by omega) (by omega)) (by simp)
theorem y_fieldV {j f off ft : Nat} (hx : ev T x = some (.pointer (some (adr v j)))) [h : FieldT P t f off ft] : Y P B n w0 ⟨d, .fieldAddr t x f, ty, ps, af, g⟩ T H (.pointer (some (adr v (j + off)))) := .of fun a w hf _ => by
  have e1 : ∃ b o, adr v j = ⟨b, o, none⟩ ∧ adr v (j + off) = ⟨b, o + off, none⟩ := by
    unfold adr
    split
    · exact ⟨_, _, rfl, by simp⟩
    · exact ⟨_, _, rfl, rfl⟩
  obtain ⟨b, o, e1, e2⟩ := e1
  rw [e1] at hx
  rw [e2]
  simp [execOp, hf.ev hx, h.run]
theorem y_ldV {j : Nat} (hx : ev T x = some (.pointer (some (adr v j)))) [hs : Sca P t] [r : Rd B w0 H v enc m xs] (hj : (flat enc xs)[j]? = some u) : Y P B n w0 ⟨d, .load t x, ty, ps, af, g⟩ T H u := .of fun a w hf hm => by
  have hl := (hm.rd r).cell hj
  simp [execOp, hf.ev hx, Instr.loadAt, Instr.sureAddr, loadVar, Sca.run, hl]
theorem y_ldI {j : Nat} {xs : List Int} (hx : ev T x = some (.pointer (some (adr v j)))) [hs : Sca P t] [r : Rd B w0 H v (enc1 k) 1 xs] (hj : j < xs.length) : Y P B n w0 ⟨d, .load t x, ty, ps, af, g⟩ T H (.int k (xs.getD j 0)) :=
  y_ldV hx (xs := xs) (enc := enc1 k) (m := 1) (by rw [flat_enc1]; simp [hj])
/-- A cell of the i-th element. -/
theorem y_ldR {i o : Nat} {z : α} (hx : ev T x = some (.pointer (some (adr v (i * m + o))))) [hs : Sca P t] [r : Rd B w0 H v enc m xs] (hz : xs[i]? = some z) (ho : o < m) (hu : (enc z)[o]? = some u) : Y P B n w0 ⟨d, .load t x, ty, ps, af, g⟩ T H u := .of fun a w hf hm => by
  have h1 := hm.rd r
  have hl := h1.cell (j := i * m + o) (u := u) (by rw [flat_at h1.row hz ho]; exact hu)
  simp [execOp, hf.ev hx, Instr.loadAt, Instr.sureAddr, loadVar, Sca.run, hl]
theorem y_ldR0 {i : Nat} {z : α} (hx : ev T x = some (.pointer (some (adr v (i * m))))) [hs : Sca P t] [r : Rd B w0 H v enc m xs] (hz : xs[i]? = some z) (hu : (enc z)[0]? = some u) : Y P B n w0 ⟨d, .load t x, ty, ps, af, g⟩ T H u := .of fun a w hf hm =>
  (y_ldR (i := i) (o := 0) (P := P) (B := B) (n := n) (w0 := w0) (H := H) (d := d) (ty := ty) (ps := ps) (af := af) (g := g) (t := t) (x := x) (v := v) (T := T) (enc := enc) (xs := xs) (by simpa using hx) hz (hm.rd r).pos hu).run a w hf hm
theorem run_loadRow {w : World} {F : Foot} (s : SlV w.heap F v enc m xs) {j mm : Nat} {r : List Value} (hr : r.length = mm) (hc : ∀ i u, r[i]? = some u → (flat enc xs)[j + i]? = some u) : (loadCells (adr v j) mm).run P w = .ok r.toArray w := by
  have := run_loadCells_list (P := P) w (adr v j) r (fun i u hu => by
    rw [adr_add]
    exact s.cell (hc i u hu))
  rwa [hr] at this
/-- An element whole. -/
theorem y_ldE {i : Nat} {z : α} (hx : ev T x = some (.pointer (some (adr v (i * m))))) [hs : AggT P t m] [r : Rd B w0 H v enc m xs] (hz : xs[i]? = some z) : Y P B n w0 ⟨d, .load t x, ty, ps, af, g⟩ T H (.agg (enc z).toArray) := .of fun a w hf hm => by
  have h1 := hm.rd r
  have hrow := h1.row z (List.mem_of_getElem? hz)
  have hl := run_loadRow (P := P) h1 (j := i * m) hrow (fun o u hu => by rw [flat_at h1.row hz (by rw [← hrow]; exact (List.getElem?_eq_some_iff.1 hu).1)]; exact hu)
  simp [execOp, hf.ev hx, Instr.loadAt, Instr.sureAddr, loadVar, AggT.run, Siz.run hs.s, hl]
/-- Some numbers whole (an array out of a slice). -/
theorem y_ldIs {j mm : Nat} {xs : List Int} {r : List Value} (hx : ev T x = some (.pointer (some (adr v j)))) [hs : AggT P t mm] [rd : Rd B w0 H v (enc1 k) 1 xs] [hi : IvN k xs j mm r] (hj : j + mm ≤ xs.length) : Y P B n w0 ⟨d, .load t x, ty, ps, af, g⟩ T H (.agg r.toArray) := .of fun a w hf hm => by
  have h1 := hm.rd rd
  have hr := hi.h
  subst hr
  have hl := run_loadRow (P := P) h1 (j := j) (r := (List.range' j mm).map (fun j => .int k (xs.getD j 0))) (mm := mm) (by simp) (fun o u hu => by
    rw [flat_enc1]
    have ho : o < mm := by
      have := (List.getElem?_eq_some_iff.1 hu).1
      simpa using this
    rw [List.getElem?_map, List.getElem?_range' ho] at hu
    obtain rfl := Option.some.inj hu
    simp [show j + o < xs.length by omega])
  simp [execOp, hf.ev hx, Instr.loadAt, Instr.sureAddr, loadVar, AggT.run, Siz.run hs.s] at hl ⊢
  rw [hl]
  rfl
theorem y_s2aV {mm el s : Nat} (hx : ev T x = some v) [h : ArrT P t mm el s] [r : Rd B w0 H v enc m xs] (h0 : 0 < mm) (h1 : mm ≤ xs.length) : Y P B n w0 ⟨d, .sliceToArrayPointer t x, ty, ps, af, g⟩ T H (.pointer (some (adr v 0))) := .of fun a w hf hm => by
  obtain ⟨_, _, b, cap, rfl, _, _, h3⟩ := hm.rd r
  rcases h3 with rfl | ⟨b, o, rfl, _⟩
  · simp at h1; omega
  · simp [execOp, hf.ev hx, Instr.arrayAt, run_underlying h.u, Nat.not_lt.2 h1, adr]
theorem y_slL {lo : Operand} (hx : ev T x = some v) (hl : ev T lo = some (.int k p)) [h : SliT P t e m] [r : Rd B w0 H v enc m xs] (h0 : 0 ≤ p) (h1 : p ≤ xs.length) : Y P B n w0 ⟨d, .slice t x (some lo) none none, ty, ps, af, g⟩ T H (slL v m p.toNat) := .of fun a w hf hm => by
  obtain ⟨_, _, b, cap, rfl, _⟩ := hm.rd r
  by_cases hne : cap = p.toNat
  · simp [execOp, hf.ev hx, hf.ev hl, Instr.sliceAt, Instr.slice, Instr.sliceBounds, run_sliceBound, run_underlying h.u, h0, h1, Siz.run h.s, slL, hne]
  · simp [execOp, hf.ev hx, hf.ev hl, Instr.sliceAt, Instr.slice, Instr.sliceBounds, run_sliceBound, run_underlying h.u, h0, h1, Siz.run h.s, slL, hne]
theorem y_slH {hi : Operand} (hx : ev T x = some v) (hl : ev T hi = some (.int k p)) [h : SliT P t e m] [r : Rd B w0 H v enc m xs] (h0 : 0 ≤ p) (h1 : p ≤ xs.length) : Y P B n w0 ⟨d, .slice t x none (some hi) none, ty, ps, af, g⟩ T H (slH v p.toNat) := .of fun a w hf hm => by
  obtain ⟨_, _, b, cap, rfl, hc, _⟩ := hm.rd r
  have e1 : min p.toNat xs.length = p.toNat := by omega
  have e2 : p ≤ cap := by omega
  have e3 : (b.map fun x => x.add 0) = b := by cases b <;> simp [Addr.add]
  simp [execOp, hf.ev hx, hf.ev hl, Instr.sliceAt, Instr.slice, Instr.sliceBounds, run_sliceBound, run_underlying h.u, h0, e1, e2, Siz.run h.s, slH, e3]
theorem y_slLH {lo hi : Operand} {k' : IntKind} (hx : ev T x = some v) (hl : ev T lo = some (.int k p)) (hh : ev T hi = some (.int k' q)) [h : SliT P t e m] [r : Rd B w0 H v enc m xs] (h0 : 0 ≤ p) (h1 : p ≤ q) (h2 : q ≤ xs.length) : Y P B n w0 ⟨d, .slice t x (some lo) (some hi) none, ty, ps, af, g⟩ T H (slL (slH v q.toNat) m p.toNat) := .of fun a w hf hm => by
  obtain ⟨_, _, b, cap, rfl, hc, _⟩ := hm.rd r
  have e1 : min q.toNat xs.length = q.toNat := by omega
  have e2 : q ≤ cap := by omega
  have e3 : 0 ≤ q := by omega
  have e4 : (q.toNat : Int) = q := Int.toNat_of_nonneg e3
  by_cases hne : cap = p.toNat
  · obtain rfl : q = p := by omega
    obtain ⟨N, rfl⟩ := Int.eq_ofNat_of_zero_le h0
    obtain rfl : cap = N := by simpa using hne
    simp [execOp, hf.ev hx, hf.ev hl, hf.ev hh, Instr.sliceAt, Instr.slice, Instr.sliceBounds, run_sliceBound, run_underlying h.u, Siz.run h.s, slL, slH]
    simp at e1
    simp [e1]
  · simp [execOp, hf.ev hx, hf.ev hl, hf.ev hh, Instr.sliceAt, Instr.slice, Instr.sliceBounds, run_sliceBound, run_underlying h.u, h0, h1, e1, e2, e3, e4, Siz.run h.s, slL, slH, hne]
theorem y_bstrV {xs : List Int} (hx : ev T x = some v) [h : SliT P t e m] (he : P.underlying e = some (.int .u8)) (hd : P.underlying t' = some .string) [r : Rd B w0 H v (enc1 .u8) 1 xs] : Y P B n w0 ⟨d, .convert t t' x, ty, ps, af, g⟩ T H (.string (strOfNums xs)) := .of fun a w hf hm => by
  have hr := hm.rd r
  have hcell := fun j u => hr.cell (j := j) (u := u)
  obtain ⟨_, _, b, cap, rfl, hc, _, h3⟩ := hr
  rcases h3 with rfl | ⟨b, o, rfl, _, _, hcc⟩
  · cases b with
    | none =>
      have := run_convert_bytes_nil (P := P) w t e h.u he 0 cap t' hd
      simp [execOp, hf.ev hx, this]
      rfl
    | some b =>
      obtain ⟨b, o, s⟩ := b
      have : (convert t t' (.slice (some ⟨b, o, s⟩) 0 cap)).run P w = .ok (.string (strOfNums [])) w := by
        simp [convert, run_underlying h.u, run_underlying hd, run_underlying he, Conv.bytesToString, loadCells, loadCellsFrom, strOfNums]
        rfl
      simp [execOp, hf.ev hx, this]
  · have := run_convert_bytes_arg w t e h.u he b o xs.length cap xs rfl (fun i hi => by
      have := hcell i (.int .u8 (xs.getD i 0)) (by rw [flat_enc1]; simp [hi])
      simpa [adr, hi] using this) t' hd
    simp [execOp, hf.ev hx, this]
end
end Sl
end Go.Proofs.Ytiolijpamidpfaa
