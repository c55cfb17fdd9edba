/-
  A run told by lists: pieces of memory behind one name, pointers beside nil, and every operation on maps, found by its kind. Over any program; no conditions beyond those in each statement.
-/
import Derived.Test.YtiolijpamidpfaaSlMp
import Derived.Test.YtiolijpamidpfaaTl
namespace Go.Proofs.Ytiolijpamidpfaa
open Go.RowKit
namespace Sl
set_option linter.unusedVariables false
/-- Pieces behind one name: which they are is said by i. -/
def grp {ι : Type} (L : Nat → ι → List Blk) : Kind where
  sat b h S := (∃ i, Sat (L b i) h S) ∧ ∀ j, S j → j < h.size
  dom := fun {b h S} hs j hj => hs.2 j hj
  loc := by
    rintro b h h' S ⟨⟨i, hs⟩, hd⟩ hh
    refine ⟨⟨i, hs.loc fun j hj hl => hh j hj⟩, fun j hj => ?_⟩
    have h1 := hd j hj
    have h2 := hh j hj
    by_cases h3 : j < h'.size
    · exact h3
    · rw [Array.getElem?_eq_none (by omega), Array.getElem?_eq_getElem h1] at h2
      cases h2
section
variable {P : Program} {B : Foot} {n : Nat} {w0 w : World} {T : Tm} {H R : List Blk} {ι : Type} {L : Nat → ι → List Blk} {b : Nat} {Q : Exit → Act → World → Prop} {c : Code}
theorem Mem.open_grp (hm : Mem B w0 w (⟨b, grp L⟩ :: R)) : ∃ i, Mem B w0 w (L b i ++ R) := by
  obtain ⟨S1, ⟨⟨i, h1⟩, hd⟩, h2, h3⟩ := hm.sat
  exact ⟨i, hm.kept, h1.join (fun j hj _ => h2 j hj) h3⟩
theorem Mem.fold_grp {i : ι} (hm : Mem B w0 w (L b i ++ R)) : Mem B w0 w (⟨b, grp L⟩ :: R) := by
  obtain ⟨S1, h1, h2, h3⟩ := hm.sat.append
  exact ⟨hm.kept, S1, ⟨⟨i, h2⟩, fun j hj => (h1 j hj).2⟩, fun j hj => (h1 j hj).1, h3⟩
theorem c_open (h : ∀ i, C P B n w0 Q c T (L b i ++ R)) : C P B n w0 Q c T (⟨b, grp L⟩ :: R) := .of fun a w hf hm =>
  let ⟨i, hi⟩ := hm.open_grp
  (h i).run a w hf hi
/-- Some of what there is, in another order. -/
theorem Mem.pick {G : List Blk} (hm : Mem B w0 w H) [s : Split H G R] : Mem B w0 w G := (hm.perm s.perm).sub (List.sublist_append_left _ _)
theorem w_open {ops : Array Oper} {l : List Oper} (h : ∀ i, W P B n w0 ops Q l T (L b i ++ R)) : W P B n w0 ops Q l T (⟨b, grp L⟩ :: R) := .of fun a w hf hm =>
  let ⟨i, hi⟩ := hm.open_grp
  (h i).run a w hf hi
theorem w_fold {ops : Array Oper} {l : List Oper} (i : ι) (h : W P B n w0 ops Q l T (⟨b, grp L⟩ :: R)) : W P B n w0 ops Q l T (L b i ++ R) := .of fun a w hf hm => h.run a w hf hm.fold_grp
theorem c_fold (i : ι) (h : C P B n w0 Q c T (⟨b, grp L⟩ :: R)) : C P B n w0 Q c T (L b i ++ R) := .of fun a w hf hm => h.run a w hf hm.fold_grp
/-- A piece that ends in one of the states 'S i', whatever follows. -/
theorem c_cutE {ι : Type} {x : Code} (S : ι → Tm) (G : ι → List Blk) (hx : C P B n w0 (Exit.then (fun a w => ∃ i, Fr n (S i) a ∧ Mem B w0 w (G i)) Q) x T H) (hy : ∀ i, E B n w0 Q .normal (S i) (G i)) : C P B n w0 Q x T H := by
  refine .of fun a w hf hm => wp_mono (hx.run a w hf hm) (fun e a w hq => ?_)
  cases e with
  | normal =>
    obtain ⟨i, h1, h2⟩ := hq
    exact (hy i).run a w h1 h2
  | exit id => exact hq
  | goto l => exact hq
  | ret => exact hq
  | panic ch => exact hq
  | outgrown => exact hq
theorem c_perm (hp : H.Perm R) (h : C P B n w0 Q c T R) : C P B n w0 Q c T H := .of fun a w hf hm => h.run a w hf (hm.perm hp)
theorem e_perm {e : Exit} (hp : H.Perm R) (h : E B n w0 Q e T R) : E B n w0 Q e T H := .of fun a w hf hm => h.run a w hf (hm.perm hp)
theorem e_fold {e : Exit} (i : ι) (h : E B n w0 Q e T (⟨b, grp L⟩ :: R)) : E B n w0 Q e T (L b i ++ R) := .of fun a w hf hm => h.run a w hf hm.fold_grp
/-- What was handed over, seen otherwise on both sides. -/
theorem Con.pre {f : FuncId} {args : List Value} {Pre : World → Foot → Prop} {κ : Type} {V : κ → Value} {G : κ → List Blk} (h : ∀ i, Con P f args Pre (L b i ++ R) V G) : Con P f args Pre (⟨b, grp L⟩ :: R) V G := .of fun w S hS hp hs => by
  obtain ⟨S1, ⟨⟨i, h1⟩, hd⟩, h2, h3⟩ := hs
  exact (h i).run w S hS hp (h1.join (fun j hj _ => h2 j hj) h3)
theorem Con.post {f : FuncId} {args : List Value} {Pre : World → Foot → Prop} {Hp : List Blk} {κ μ : Type} {V : κ → Value} {G : κ → List Blk} {V' : μ → Value} {G' : μ → List Blk} (h : Con P f args Pre Hp V G) (hg : ∀ i, ∃ j, V i = V' j ∧ ∀ (S : Foot) (w w' : World), Mem S w w' (G i) → Mem S w w' (G' j)) : Con P f args Pre Hp V' G' := .of fun w S hS hp hs =>
  (h.run w S hS hp hs).mono fun e w' ⟨i, he, hm⟩ => let ⟨j, h1, h2⟩ := hg i; ⟨j, by rw [he, h1], h2 _ _ _ hm⟩
end
section
variable {P : Program} {B : Foot} {n : Nat} {w0 : World} {T : Tm} {H : List Blk} {d : Option Tmp} {ty : TypeId} {ps : String} {af : Array Edge} {g : Option (Nat × Bool)} {t t' : TypeId} {x y c : Operand} {v : Value} {ι : Type} {V : ι → Value} {G : ι → List Blk}
/-! ### Pointers beside nil -/
theorem run_peq {e : TypeId} {p q : Option Addr} (hu : P.underlying t = some (.pointer e)) (w : World) (D : Nat) (hpq : p = none ∨ q = none) : (Op.equalIn (D + 1) t (.pointer p) (.pointer q)).run P w = .ok (p.isNone && q.isNone) w := by
  rcases hpq with rfl | rfl
  · cases q <;> simp [Op.equalIn, run_underlying hu]
  · cases p <;> simp [Op.equalIn, run_underlying hu]
theorem y_peq {e : Nat} {p q : Option Addr} (hx : ev T x = some (.pointer p)) (hy : ev T y = some (.pointer q)) [h : PtrT P t e] (hpq : p = none ∨ q = none) : Y P B n w0 ⟨d, .binOp .eql t x y t', ty, ps, af, g⟩ T H (.bool (p.isNone && q.isNone)) := .of fun a w hf _ => by
  have he : ∀ w, (Op.equal t (.pointer p) (.pointer q)).run P w = .ok (p.isNone && q.isNone) w := fun w => run_peq h.u w 9999 hpq
  simp [execOp, eqGuard, binOp, hf.ev hx, hf.ev hy, he]
theorem y_pne {e : Nat} {p q : Option Addr} (hx : ev T x = some (.pointer p)) (hy : ev T y = some (.pointer q)) [h : PtrT P t e] (hpq : p = none ∨ q = none) : Y P B n w0 ⟨d, .binOp .neq t x y t', ty, ps, af, g⟩ T H (.bool !(p.isNone && q.isNone)) := .of fun a w hf _ => by
  have he : ∀ w, (Op.equal t (.pointer p) (.pointer q)).run P w = .ok (p.isNone && q.isNone) w := fun w => run_peq h.u w 9999 hpq
  simp [execOp, eqGuard, binOp, hf.ev hx, hf.ev hy, he]
/-- A pointer that points somewhere is not nil; nil is. -/
theorem y_peq_f {e : Nat} {p : Addr} (hx : ev T x = some (.pointer (some p))) (hy : ev T y = some (.pointer none)) [h : PtrT P t e] : Y P B n w0 ⟨d, .binOp .eql t x y t', ty, ps, af, g⟩ T H (.bool false) := y_peq hx hy (.inr rfl)
theorem y_peq_t {e : Nat} (hx : ev T x = some (.pointer none)) (hy : ev T y = some (.pointer none)) [h : PtrT P t e] : Y P B n w0 ⟨d, .binOp .eql t x y t', ty, ps, af, g⟩ T H (.bool true) := y_peq hx hy (.inr rfl)
theorem y_pne_f {e : Nat} (hx : ev T x = some (.pointer none)) (hy : ev T y = some (.pointer none)) [h : PtrT P t e] : Y P B n w0 ⟨d, .binOp .neq t x y t', ty, ps, af, g⟩ T H (.bool false) := y_pne hx hy (.inr rfl)
theorem y_pne_t {e : Nat} {p : Addr} (hx : ev T x = some (.pointer (some p))) (hy : ev T y = some (.pointer none)) [h : PtrT P t e] : Y P B n w0 ⟨d, .binOp .neq t x y t', ty, ps, af, g⟩ T H (.bool true) := y_pne hx hy (.inr rfl)
/-- The operands of a literal's parts, in order. -/
class PartsL (ps : List (Nat × Operand)) (i : Nat) (xo : outParam (List Operand)) : Prop where
  h : ps = (List.range' i xo.length).zip xo
instance partsN (i : Nat) : PartsL [] i [] := ⟨rfl⟩
instance partsC (i : Nat) (x : Operand) (ps : List (Nat × Operand)) (xo : List Operand) [h : PartsL ps (i + 1) xo] : PartsL ((i, x) :: ps) i (x :: xo) := ⟨by rw [List.length_cons, List.range'_succ, List.zip_cons_cons, h.h]⟩
theorem parts0 {ps : List (Nat × Operand)} {len : Nat} {xo : List Operand} (h : PartsL ps 0 xo) (hl : xo.length = len) : ps.toArray.toList = (List.range len).zip xo := by
  rw [h.h, hl, List.range_eq_range']
/-- A literal of numbers. -/
theorem d_litI {k : IntKind} {e bytes len : Nat} {xo : List Operand} {vs : List Value} {xs : List Int} {ps' : List (Nat × Operand)} [hp : PartsL ps' 0 xo] [ht : SliT P t e 1] [hel : ElT P e 1 bytes] (hx : evs T xo = some vs := by rfl) (hn : Nums k vs xs := by infer_instance) (hl : xo.length = len ∧ vs.length = len := by exact ⟨rfl, rfl⟩) (hlen : len ≤ 64 := by decide) :
    D P B n w0 ⟨d, .buildSlice t len ps'.toArray, ty, ps, af, g⟩ T H (fun b : Nat => .slice (some ⟨b, 0, none⟩) len len) (fun b => ⟨0, osl (.slice (some ⟨b, 0, none⟩) len len) (enc1 k) 1 xs e⟩ :: H) := d_lit1 (hn := hn) hx (parts0 hp hl.1) hl.2 hlen
theorem y_lenA {α : Type} {enc : α → List Value} {m e : Nat} {xs : List α} {at' : Array TypeId} (hx : ev T x = some v) (ha : at' = #[t]) [h : SliT P t e m] [r : Rd B w0 H v enc m xs] : Y P B n w0 ⟨d, .call ⟨.builtin .len, #[x], at'⟩, ty, ps, af, g⟩ T H (.int .i64 xs.length) := y_lenV (t := t) (e := e) hx (by rw [ha]; rfl)
/-! ### Each kind behind its probe -/
theorem y_is_look {b : Bool} (h : Y P B n w0 ⟨d, .lookup t x y b, ty, ps, af, g⟩ T H v) : Y P B n w0 ⟨d, .lookup t x y b, ty, ps, af, g⟩ T H v := h
theorem y_is_entry (h : Y P B n w0 ⟨d, .entry x, ty, ps, af, g⟩ T H v) : Y P B n w0 ⟨d, .entry x, ty, ps, af, g⟩ T H v := h
theorem d_is_mput (h : D P B n w0 ⟨d, .mapUpdate t x y c, ty, ps, af, g⟩ T H V G) : D P B n w0 ⟨d, .mapUpdate t x y c, ty, ps, af, g⟩ T H V G := h
theorem d_is_ment (h : D P B n w0 ⟨d, .mapEntry t x y, ty, ps, af, g⟩ T H V G) : D P B n w0 ⟨d, .mapEntry t x y, ty, ps, af, g⟩ T H V G := h
theorem d_is_mset (h : D P B n w0 ⟨d, .entryStore t x y c, ty, ps, af, g⟩ T H V G) : D P B n w0 ⟨d, .entryStore t x y c, ty, ps, af, g⟩ T H V G := h
theorem d_is_range (h : D P B n w0 ⟨d, .range t x, ty, ps, af, g⟩ T H V G) : D P B n w0 ⟨d, .range t x, ty, ps, af, g⟩ T H V G := h
theorem d_is_mmake {m : Option Operand} (h : D P B n w0 ⟨d, .makeMap t m, ty, ps, af, g⟩ T H V G) : D P B n w0 ⟨d, .makeMap t m, ty, ps, af, g⟩ T H V G := h
/-- How a map's keys and elements are written. -/
class MapE (P : Program) (t : TypeId) {κ ν : outParam Type} (ke : outParam (κ → Value)) (ve : outParam (ν → Value)) : Prop where
  t : True
theorem d_mmakeE {κ ν : Type} [DecidableEq κ] {ke : κ → Value} {ve : ν → Value} [h : MapE P t ke ve] : D P B n w0 ⟨d, .makeMap t none, ty, ps, af, g⟩ T H (fun b : Nat => .map (some b)) (fun b => ⟨b, mp ke ve (mempty : MS κ ν)⟩ :: H) := d_mmake ke ve
theorem Nx.mem {κ ν : Type} {m : MS κ ν} {seen : List Nat} {p : κ × ν × Nat} (h : Nx m seen (some p)) : p ∈ m.l := h.1
theorem Nx.new {κ ν : Type} {m : MS κ ν} {seen : List Nat} {p : κ × ν × Nat} (h : Nx m seen (some p)) : p.2.2 ∉ seen := h.2
theorem Nx.all {κ ν : Type} {m : MS κ ν} {seen : List Nat} (h : Nx m seen none) : ∀ p ∈ m.l, p.2.2 ∈ seen := h
variable {o : Oper} {w : World} {Q : Exit → Act → World → Prop} {ops : Array Oper} {l : List Oper}
theorem isWnx {s : Bool} (h : W P B n w0 ops Q (⟨d, .next x s, ty, ps, af, g⟩ :: l) T H) : W P B n w0 ops Q (⟨d, .next x s, ty, ps, af, g⟩ :: l) T H := h
theorem y_b (h : Y P B n w0 o T H v := by first | (apply y_is_look; first | exact y_look rfl rfl | exact y_lookOk rfl rfl) | (apply y_is_entry; exact y_entry rfl rfl (Nx.mem (by assumption))) | (apply y_is_bcall; first | exact y_mlen rfl rfl | exact y_lenA rfl rfl) | (apply y_isBin; first | exact y_peq_f rfl rfl | exact y_peq_t rfl rfl | exact y_pne_t rfl rfl | exact y_pne_f rfl rfl) | exact y_a) : Y P B n w0 o T H v := h
theorem d_b (h : D P B n w0 o T H V G := by first | (apply d_is_mput; exact d_mput rfl rfl rfl) | (apply d_is_ment; exact d_ment rfl rfl) | (apply d_is_mset; exact d_mset rfl rfl rfl) | (apply d_is_mmake; exact d_mmakeE) | (apply d_is_range; exact d_range rfl) | (apply d_is_bslice; exact d_litI) | (apply d_is_bcall; exact d_mdel rfl rfl rfl) | exact d_a) : D P B n w0 o T H V G := h
end
end Sl
end Go.Proofs.Ytiolijpamidpfaa
