/-
  A run told by lists: appends to slices of one's own, slices made, stores into them. Over any program; no conditions beyond those in each statement.
-/
import Derived.Test.YtiolijpamidpfaaSlO
namespace Go.Proofs.Ytiolijpamidpfaa
open Go.RowKit
namespace Sl
set_option linter.unusedVariables false
section
variable {P : Program} {α : Type} {enc : α → List Value} {m : Nat} {xs ys : List α} {v u : Value} {t e ty : TypeId} {w : World}
/-- What comes of an append: a slice of one's own, made of what was owned or of new memory. -/
theorem run_app {bytes : Nat} [ht : SliT P t e m] [hel : ElT P e m bytes] [ho : OneE enc] {k : Nat} {S1 F : Foot} (s : (osl v enc m xs e).sat k w.heap S1) (r : SlV w.heap F u enc m ys) (hm : xs.length + ys.length ≤ maxLen) (hby : (xs.length + ys.length) * bytes ≤ 140737488355328) :
    ∃ v' w1, (Builtin.append_ #[t, t] ty #[v, u]).run P w = .ok v' w1 ∧ (∃ S2 : Foot, (osl v' enc m (xs ++ ys) e).sat 0 w1.heap S2 ∧ ∀ i, S2 i → S1 i ∨ w.heap.size ≤ i) ∧ (∀ i, i < w.heap.size → ¬ S1 i → w1.heap[i]? = w.heap[i]?) ∧ w1.os = w.os ∧ w1.tape = w.tape ∧ w1.output = w.output ∧ w.heap.size ≤ w1.heap.size := by
  obtain ⟨i, z, hi, hz, hs1, hs2, hzs, hsz⟩ := hel.get
  obtain ⟨h1, h2, hcase⟩ := s
  have hrowx : ∀ x ∈ xs, (enc x).length = m := fun x hx => (h1 x hx).1
  have hrowy := r.row
  have hfx := flat_length hrowx
  have hfy := flat_length hrowy
  have hboth : ∀ x ∈ xs ++ ys, (enc x).length = m ∧ ∀ u ∈ enc x, u.oneCell' = true := fun x hx => by
    rcases List.mem_append.1 hx with hx | hx
    · exact h1 x hx
    · exact ⟨hrowy x hx, ho.h x⟩
  have hone : ∀ u ∈ flat enc ys, u.oneCell' = true := flat_one fun x _ => ho.h x
  have hcells := fun j c => r.cell (w := w) (j := j) (u := c)
  obtain ⟨_, _, a, c, rfl, hc, _, h3⟩ := r
  rcases List.eq_nil_or_concat ys with rfl | hne
  · -- nothing is appended
    have hr : (Builtin.append_ #[t, t] ty #[v, .slice a 0 c]).run P w = .ok v w := by
      rcases hcase with ⟨rfl, rfl, _⟩ | ⟨b, pre, rest, cap, rfl, hb, hl, hcm, hS⟩
      · cases a <;> simp [Builtin.append_, run_underlying ht.u, sizeOf, typeInfo, hi, Builtin.lenOf, Builtin.firstCells, loadCells, loadCellsFrom]
      · have hkc : xs.length ≤ cap := by
          simp only [List.length_append, hfx] at hl
          exact Nat.le_of_mul_le_mul_right (by omega) h2
        cases a <;> simp [Builtin.append_, run_underlying ht.u, sizeOf, typeInfo, hi, Builtin.lenOf, Builtin.firstCells, hkc, storeCells, loadCells, loadCellsFrom]
    refine ⟨v, w, hr, ⟨S1, ?_, fun _ => .inl⟩, fun _ _ _ => rfl, rfl, rfl, rfl, Nat.le_refl _⟩
    simpa using ⟨h1, h2, hcase⟩
  have hny : 0 < ys.length := by
    obtain ⟨l, x, rfl⟩ := hne
    simp
  rcases h3 with rfl | ⟨b', o', rfl, hb', _, _⟩
  · simp at hny
  have hnews : ∀ j c, (flat enc ys)[j]? = some c → w.cell? ((⟨b', o', none⟩ : Addr).add j) = some c := fun j c hj => by
    rw [addr_add]
    exact hcells j c hj
  have hl' : (flat enc ys).length = ys.length * i.size := by rw [hs1]; exact hfy
  rcases hcase with ⟨rfl, rfl, hS⟩ | ⟨b, pre, rest, cap, rfl, hb, hl, hcm, hS⟩
  · -- behind nothing: a new row
    have hm' : ys.length ≤ maxLen := by simpa using hm
    have hby' : ys.length * bytes ≤ 140737488355328 := by simpa using hby
    have hr := run_append_nil (P := P) w t ty e i z ht.u hi hz ⟨b', o', none⟩ ys.length c (flat enc ys) hl' hnews hny (by unfold maxLen at hm'; omega) (by rw [hs2]; omega)
    refine ⟨_, _, hr, ⟨fun i => i = w.heap.size, ⟨by simpa using hboth, h2, .inr ⟨w.heap.size, [], (Builtin.zeroCells z.cells (grownCap w ys.length 0 e - ys.length)).toList, grownCap w ys.length 0 e, by simp, ?_, ?_, grownCap_le_maxLen w _ 0 e hm', fun _ => Iff.rfl⟩⟩, fun i hi => .inr (by omega)⟩, fun i hi _ => Below.heap_alloc _ _ _ hi, rfl, rfl, rfl, by simp⟩
    · have := heap_alloc_new w.drew (.cells ((flat enc ys).toArray ++ Builtin.zeroCells z.cells (grownCap w ys.length 0 e - ys.length)) e)
      rw [show (([] : List Value) ++ flat enc ([] ++ ys) ++ (Builtin.zeroCells z.cells (grownCap w ys.length 0 e - ys.length)).toList).toArray = (flat enc ys).toArray ++ Builtin.zeroCells z.cells (grownCap w ys.length 0 e - ys.length) by apply Array.ext'; simp]
      exact this
    · have := grownCap_ge w ys.length 0 e
      simp only [List.nil_append, List.length_append, Array.length_toList, size_zeroCells, hzs, hfy, ← Nat.add_mul]
      congr 1
      omega
  · have hkc : xs.length ≤ cap := by
      simp only [List.length_append, hfx] at hl
      exact Nat.le_of_mul_le_mul_right (by omega) h2
    by_cases hroom : xs.length + ys.length ≤ cap
    · -- there is room
      have hlen : pre.length + (xs.length * m) + 0 + (flat enc ys).length ≤ (pre ++ flat enc xs ++ rest).length := by
        have e1 : (xs.length + ys.length) * m ≤ cap * m := Nat.mul_le_mul_right _ hroom
        rw [Nat.add_mul] at e1
        simp only [List.length_append, hfx, hfy] at hl ⊢
        omega
      obtain ⟨w1, e1, e2, e3, e4, e5, e6, e7⟩ := run_storeCells_row (P := P) (flat enc ys) 0 (pre.length + xs.length * m) (pre ++ flat enc xs ++ rest) w hb hlen hone
      have hf := run_firstCells_some (P := P) w i.size ys.length ⟨b', o', none⟩ ys.length c (flat enc ys) hl' hnews
      have hr : (Builtin.append_ #[t, t] ty #[.slice (some ⟨b, pre.length, none⟩) xs.length cap, .slice (some ⟨b', o', none⟩) ys.length c]).run P w = .ok (.slice (some ⟨b, pre.length, none⟩) (xs.length + ys.length) cap) w1 := by
        subst hs1
        simp [Builtin.append_, run_underlying ht.u, sizeOf, typeInfo, hi, Builtin.lenOf, hroom, hf, addr_add, e1]
      refine ⟨_, w1, hr, ⟨fun i => i = b, ⟨hboth, h2, .inr ⟨b, pre, rest.drop (ys.length * m), cap, by simp, ?_, ?_, hcm, fun _ => Iff.rfl⟩⟩, fun i hi => .inl (by rw [hi]; exact (hS b).2 rfl)⟩, fun i _ hn => e3 i fun e => hn (by rw [e]; exact (hS b).2 rfl), e4, e5, e6, by omega⟩
      · rw [e2, Nat.add_zero, flat_append]
        have t1 : (pre ++ flat enc xs ++ rest).take (pre.length + xs.length * m) = pre ++ flat enc xs := by
          rw [List.take_append_of_le_length (by simp [hfx]), List.take_of_length_le (by simp [hfx])]
        have t2 : (pre ++ flat enc xs ++ rest).drop (pre.length + xs.length * m + (flat enc ys).length) = rest.drop (ys.length * m) := by
          rw [show pre.length + xs.length * m + (flat enc ys).length = (pre ++ flat enc xs).length + ys.length * m by simp [hfx, hfy], List.drop_append, List.drop_of_length_le (by simp), Nat.add_sub_cancel_left, List.nil_append]
        rw [t1, t2]
        simp only [List.append_assoc]
      · have e8 : (xs.length + ys.length) * m ≤ cap * m := Nat.mul_le_mul_right _ hroom
        rw [Nat.add_mul] at e8
        simp only [flat_append, List.length_append, List.length_drop, hfx, hfy] at hl ⊢
        omega
    · -- there is none
      have holds : ∀ j c, (flat enc xs)[j]? = some c → w.cell? ((⟨b, pre.length, none⟩ : Addr).add j) = some c := fun j c hj => by
        rw [addr_add, cell_eq, cellAt_row hb, List.append_assoc, List.getElem?_append_right (by omega), Nat.add_sub_cancel_left, List.getElem?_append_left (List.getElem?_eq_some_iff.1 hj).1]
        exact hj
      have hr := run_append_grow (P := P) w t ty e i z ht.u hi hz ⟨b, pre.length, none⟩ xs.length cap (flat enc xs) (by rw [hs1]; exact hfx) holds ⟨b', o', none⟩ ys.length c (flat enc ys) hl' hnews (by omega) (by unfold maxLen at hm; omega) (by rw [hs2]; exact growslice_fits (by omega) hby)
      refine ⟨_, _, hr, ⟨fun i => i = w.heap.size, ⟨hboth, h2, .inr ⟨w.heap.size, [], (Builtin.zeroCells z.cells (grownCap w (xs.length + ys.length) cap e - (xs.length + ys.length))).toList, grownCap w (xs.length + ys.length) cap e, by simp, ?_, ?_, grownCap_le_maxLen w _ cap e hm, fun _ => Iff.rfl⟩⟩, fun i hi => .inr (by omega)⟩, fun i hi _ => Below.heap_alloc _ _ _ hi, rfl, rfl, rfl, by simp⟩
      · have := heap_alloc_new w.drew (.cells ((flat enc xs).toArray ++ (flat enc ys).toArray ++ Builtin.zeroCells z.cells (grownCap w (xs.length + ys.length) cap e - (xs.length + ys.length))) e)
        rw [show (([] : List Value) ++ flat enc (xs ++ ys) ++ (Builtin.zeroCells z.cells (grownCap w (xs.length + ys.length) cap e - (xs.length + ys.length))).toList).toArray = (flat enc xs).toArray ++ (flat enc ys).toArray ++ Builtin.zeroCells z.cells (grownCap w (xs.length + ys.length) cap e - (xs.length + ys.length)) by apply Array.ext'; simp [flat_append]]
        exact this
      · have := grownCap_ge w (xs.length + ys.length) cap e
        simp only [List.length_append, Array.length_toList, size_zeroCells, hzs, flat_append, hfx, hfy, ← Nat.add_mul]
        congr 1
        omega
end
section
variable {P : Program} {B : Foot} {n : Nat} {w0 : World} {T : Tm} {H H' R : List Blk} {dd : Option Tmp} {ty : TypeId} {ps : String} {af : Array Edge} {g : Option (Nat × Bool)} {x y : Operand} {t e : TypeId} {v u : Value} {k : IntKind} {p q : Int}
variable {α : Type} {enc : α → List Value} {m : Nat} {xs ys : List α}
theorem d_app {bytes : Nat} {ats : Array TypeId} (hx : ev T x = some v) (hy : ev T y = some u) [ht : SliT P t e m] [hel : ElT P e m bytes] (ha : ats = #[t, t]) [ho : OneE enc] [hv : OwnOut H v enc m xs e R] [hu : Rd B w0 H u enc m ys] (hm : xs.length + ys.length ≤ maxLen) (hby : (xs.length + ys.length) * bytes ≤ 140737488355328) :
    D P B n w0 ⟨dd, .call ⟨.builtin .append, #[x, y], ats⟩, ty, ps, af, g⟩ T H (fun v' : Value => v') (fun v' => ⟨0, osl v' enc m (xs ++ ys) e⟩ :: R) := .of fun a' w hf hM => by
  subst ha
  obtain ⟨b0, hp⟩ := hv.perm
  have hM' := hM.perm hp
  obtain ⟨S1, s1, s2⟩ := hM'.sat.mem (x := ⟨b0, osl v enc m xs e⟩) (by simp)
  obtain ⟨v', w1, hr, hstep, hkeep, h3, h4, h5, hsz⟩ := run_app (P := P) (ty := ty) (t := t) s1 (hM.rd hu) hm hby
  have hrun : (execOp a'.eval ⟨dd, .call ⟨.builtin .append, #[x, y], #[t, t]⟩, ty, ps, af, g⟩).run P w = .ok (.value v') w1 := by
    simp [execOp, resolve, invoke, builtin, hf.ev hx, hf.ev hy, hr]
  rw [hrun]
  refine ⟨v', rfl, hM'.turn (x' := ⟨0, osl v' enc m (xs ++ ys) e⟩) hsz (fun S3 s3 => ?_) h3 h4 h5⟩
  obtain ⟨v2, w2, hr2, hstep2, hkeep2, _⟩ := run_app (P := P) (ty := ty) (t := t) s3 (hM.rd hu) hm hby
  rw [hr] at hr2
  obtain ⟨rfl, rfl⟩ : v' = v2 ∧ w1 = w2 := by simpa using hr2
  exact ⟨hstep2, hkeep2⟩
theorem sat_nil (enc : α → List Value) (m : Nat) (e : TypeId) (hm : 0 < m) (h : Array Obj) : (osl (.slice none 0 0) enc m [] e).sat 0 h none0 := ⟨fun _ hx => by simp at hx, hm, .inl ⟨rfl, rfl, fun _ => id⟩⟩
/-- Nothing, as a slice of one's own. -/
theorem Mem.nil_own {w : World} (h : Mem B w0 w H) (enc : α → List Value) {m : Nat} (e : TypeId) (hm : 0 < m) : Mem B w0 w (⟨0, osl (.slice none 0 0) enc m [] e⟩ :: H) :=
  ⟨h.kept, none0, sat_nil enc m e hm _, fun _ e => e.elim, h.sat.mono fun i hi _ => ⟨hi, id⟩⟩
theorem d_appN {bytes : Nat} {ats : Array TypeId} (hx : ev T x = some (.slice none 0 0)) (hy : ev T y = some u) [ht : SliT P t e m] [hel : ElT P e m bytes] (ha : ats = #[t, t]) [ho : OneE enc] [hu : Rd B w0 H u enc m ys] (hm : ys.length ≤ maxLen) (hby : ys.length * bytes ≤ 140737488355328) :
    D P B n w0 ⟨dd, .call ⟨.builtin .append, #[x, y], ats⟩, ty, ps, af, g⟩ T H (fun v' : Value => v') (fun v' => ⟨0, osl v' enc m ys e⟩ :: H) := .of fun a' w hf hM => by
  have hu' : Rd B w0 (⟨0, osl (.slice none 0 0) enc m [] e⟩ :: H) u enc m ys := ⟨fun w S1 hk ⟨S2, _, _, hs⟩ h1 => hu.h w S1 hk (hs.mono fun i hi _ => hi.1) h1⟩
  have := (d_app (P := P) (B := B) (n := n) (w0 := w0) (dd := dd) (ty := ty) (ps := ps) (af := af) (g := g) (T := T) (xs := []) (hel := hel) (hv := ownOutHead (H := H) 0) (hu := hu') hx hy ha (by simpa using hm) (by simpa using hby)).run a' w hf (hM.nil_own enc e hel.get.choose_spec.choose_spec.2.2.2.2.2)
  simpa using this
/-- A new row of cells, as a slice of one's own. -/
theorem Mem.row_own {w : World} (h : Mem B w0 w H) {cs : List Value} {N : Nat} (e : TypeId) (ho : ∀ x ∈ xs, (enc x).length = m ∧ ∀ u ∈ enc x, u.oneCell' = true) (hm : 0 < m) (hcs : cs = flat enc xs) (hN : xs.length = N) (hle : N ≤ maxLen) :
    Mem B w0 (w.alloc (.cells cs.toArray e)) (⟨0, osl (.slice (some ⟨w.heap.size, 0, none⟩) N N) enc m xs e⟩ :: H) := by
  refine h.call_more (R := [⟨0, osl (.slice (some ⟨w.heap.size, 0, none⟩) N N) enc m xs e⟩]) ((Below.refl _ _).alloc (Nat.le_refl _) _) ⟨fun i => i = w.heap.size, ⟨ho, hm, .inr ⟨w.heap.size, [], [], N, by simp [hN], ?_, ?_, hle, fun _ => Iff.rfl⟩⟩, fun i hi => by rw [hi]; exact Nat.le_refl _, trivial⟩
  · rw [heap_alloc_new, hcs]
    simp
  · simp [flat_length fun x hx => (ho x hx).1, hN]
theorem fill_all (size : Nat) : ∀ (vs done : List Value) (rest : List Value), vs.length = rest.length → vs.all one = true →
    Instr.fill (fun i => some (i * 1, 1)) (done ++ rest).toArray ((List.range' done.length vs.length).zip vs) = some (done ++ vs).toArray
  | [], done, rest, hl, _ => by
    obtain rfl : rest = [] := List.length_eq_zero_iff.1 hl.symm
    have _ := size
    simp [Instr.fill]
  | v :: vs, done, r0 :: rest, hl, h1 => by
    simp only [List.all_cons, Bool.and_eq_true] at h1
    rw [List.length_cons, List.range'_succ, List.zip_cons_cons, fill_cons (vs := [v]) (off := done.length) (size := 1) (by simp) (one_cells h1.1) rfl (by simp)]
    have e1 : ([v].zipIdx).foldl (fun (cs : Array Value) (p : Value × Nat) => cs.setIfInBounds (done.length + p.2) p.1) (done ++ r0 :: rest).toArray = ((done ++ [v]) ++ rest).toArray := by
      simp [List.zipIdx]
    rw [e1]
    have := fill_all size vs (done ++ [v]) rest (by simpa using hl) h1.2
    simpa using this
/-- Numbers written out, as a list. -/
class Nums (k : outParam IntKind) (vs : List Value) (xs : outParam (List Int)) : Prop where
  h : vs = xs.map (.int k)
instance nums1 (k : IntKind) (a : Int) : Nums k [.int k a] [a] := ⟨rfl⟩
instance nums2 (k : IntKind) (a : Int) (v : Value) (vs : List Value) (xs : List Int) [h : Nums k (v :: vs) xs] : Nums k (.int k a :: v :: vs) (a :: xs) := ⟨by rw [h.h]; rfl⟩
theorem d_lit1 {xo : List Operand} {vs : List Value} {xs : List Int} {len : Nat} {parts : Array (Nat × Operand)} {bytes : Nat} (hx : evs T xo = some vs) (hp : parts.toList = (List.range len).zip xo) (hl : vs.length = len) [hn : Nums k vs xs] (hlen : len ≤ 64) [ht : SliT P t e 1] [hel : ElT P e 1 bytes] :
    D P B n w0 ⟨dd, .buildSlice t len parts, ty, ps, af, g⟩ T H (fun b : Nat => .slice (some ⟨b, 0, none⟩) len len) (fun b => ⟨0, osl (.slice (some ⟨b, 0, none⟩) len len) (enc1 k) 1 xs e⟩ :: H) := .of fun a w hf hm => by
  obtain ⟨i, z, hi, hz, hs1, hs2, hzs, hsz⟩ := hel.get
  have h1 : vs.all one = true := by
    rw [hn.h]
    simp [one]
  have hmap : (parts.map fun (i, x) => (i, a.eval x)).toList = (List.range' 0 vs.length).zip vs := by
    rw [Array.toList_map, hp, hl, List.range_eq_range']
    rw [← hf.evs hx]
    rw [List.zip_map_right]
    rfl
  have hfill := fill_all 1 vs [] ((Array.range len).map (fun j => z.cells[j % z.cells.size]!)).toList (by simp [hl]) h1
  simp only [List.nil_append, List.length_nil, Array.toArray_toList] at hfill
  rw [← hmap] at hfill
  have hrun : (Instr.buildSlice t len (parts.map fun (i, x) => (i, a.eval x))).run P w = .ok (.slice (some ⟨w.heap.size, 0, none⟩) len len) (w.alloc (.cells vs.toArray e)) := by
    by_cases h0 : len = 0
    · subst h0
      obtain rfl : vs = [] := List.length_eq_zero_iff.1 hl
      have hnil : (parts.map fun (i, x) => (i, a.eval x)).toList = [] := by rw [hmap]; rfl
      simp only [Instr.buildSlice, Sem.run_bind, run_underlying ht.u, Result.andThen_ok, Siz.run ht.s, hnil]
      have hr0 : Array.range 0 = #[] := by simp
      simp [newRow, Instr.fill, hr0]
    · have hbig : ¬ (16777216 < len) := by omega
      simp only [Nat.mul_one] at hfill
      simp [Instr.buildSlice, run_underlying ht.u, Siz.run ht.s, zeroValue, typeInfo, hi, hz, h0, hbig, newRow] at hfill ⊢
      rw [hfill]
      simp
  have e1 : (execOp a.eval ⟨dd, .buildSlice t len parts, ty, ps, af, g⟩).run P w = .ok (.value (.slice (some ⟨w.heap.size, 0, none⟩) len len)) (w.alloc (.cells vs.toArray e)) := by
    show ((do pure (Next.value (← Instr.buildSlice t len (parts.map fun (i, x) => (i, a.eval x)))) : Sem Next)).run P w = _
    rw [Sem.run_bind, hrun]
    rfl
  rw [e1]
  refine ⟨w.heap.size, rfl, hm.row_own e (fun x _ => ⟨rfl, (inferInstance : OneE (enc1 k)).h x⟩) (by omega) (by rw [flat_enc1]; exact hn.h) (by rw [← hl, hn.h]; simp) (by unfold maxLen; omega)⟩
/-- 'make' of numbers. -/
theorem made_one (z : Value) (n : Nat) : madeCells #[z] n = (List.replicate n z).toArray := by
  apply Array.ext
  · simp [madeCells]
  · intro i h1 h2
    simp [madeCells, Nat.mod_one]
theorem d_make {bytes : Nat} {p : Int} {k' : IntKind} (hx : ev T x = some (.int k' p)) (hy : ev T y = some (.int k' p)) [h : SliT P t e 1] (hz : (P.info? e).bind (fun i => i.zero.map fun v => (v.cells, i.bytes)) = some (#[.int k 0], bytes)) (h0 : 0 ≤ p) (h2 : p ≤ 1000000) (hb : bytes ≤ 64) :
    D P B n w0 ⟨dd, .makeSlice t x y, ty, ps, af, g⟩ T H (fun b : Nat => .slice (some ⟨b, 0, none⟩) p.toNat p.toNat) (fun b => ⟨0, osl (.slice (some ⟨b, 0, none⟩) p.toNat p.toNat) (enc1 k) 1 (List.replicate p.toNat 0) e⟩ :: H) := .of fun a w hf hm => by
  obtain ⟨i, hi, hz'⟩ := Option.bind_eq_some_iff.1 hz
  obtain ⟨zv, hzv, e1⟩ := Option.map_eq_some_iff.1 hz'
  obtain ⟨e2, e3⟩ : zv.cells = #[.int k 0] ∧ i.bytes = bytes := by simpa using e1
  have hs := h.s
  rw [hi] at hs
  have hs1 : i.size = 1 := by simpa using hs
  have hr := run_makeSlice (P := P) (w := w) t e i zv h.u hi hzv k' k' p p h0 (by omega) (by rw [hs1]; omega) (by
    rw [e3]
    have : (bytes : Int) * p ≤ 64 * 1000000 := Int.mul_le_mul (by omega) h2 (by omega) (by omega)
    omega) (by omega)
  rw [e2, hs1, Nat.mul_one, made_one] at hr
  have : (execOp a.eval ⟨dd, .makeSlice t x y, ty, ps, af, g⟩).run P w = .ok (.value (.slice (some ⟨w.heap.size, 0, none⟩) p.toNat p.toNat)) (w.alloc (.cells (List.replicate p.toNat (.int k 0)).toArray e)) := by
    simp [execOp, hf.ev hx, hf.ev hy, hr]
  rw [this]
  exact ⟨w.heap.size, rfl, hm.row_own e (fun x _ => ⟨rfl, (inferInstance : OneE (enc1 k)).h x⟩) (by omega) (by rw [flat_enc1]; simp) (by simp) (by unfold maxLen; omega)⟩
/-- A slice of one's own, with other elements in it. -/
class OwnUpd {α : Type} (H : List Blk) (v : Value) (enc : outParam (α → List Value)) (m : outParam Nat) (xs : outParam (List α)) (e : outParam TypeId) (xs' : List α) (H' : outParam (List Blk)) : Prop where
  u : ∃ b, UpdK H b (osl v enc m xs e) (osl v enc m xs' e) H'
instance (priority := high) ownUpdHead (b : Nat) (xs' : List α) : OwnUpd (⟨b, osl v enc m xs e⟩ :: H) v enc m xs e xs' (⟨b, osl v enc m xs' e⟩ :: H) := ⟨b, ⟨[], H, rfl, rfl⟩⟩
instance ownUpdTail (z : Blk) (xs' : List α) [h : OwnUpd H v enc m xs e xs' H'] : OwnUpd (z :: H) v enc m xs e xs' (z :: H') := by
  obtain ⟨b, ⟨l, r, e1, e2⟩⟩ := h.u
  exact ⟨b, ⟨z :: l, r, by simp [e1], by simp [e2]⟩⟩
/-- A store into one. -/
theorem d_stV {j : Nat} {xs : List Int} (hx : ev T x = some (.pointer (some (adr v j)))) (hy : ev T y = some (.int k p)) [hs : Siz P t 1] [ho : Own H v (enc1 k) 1 xs e] [hu : OwnUpd H v (enc1 k) 1 xs e (xs.set j p) H'] (hj : j < xs.length) : D P B n w0 ⟨dd, .store t x y, ty, ps, af, g⟩ T H (fun _ : Unit => undef) (fun _ => H') := .of fun a w hf hm => by
  obtain ⟨b0, hu⟩ := hu.u
  obtain ⟨l, r, e1, e2⟩ := hu.split
  obtain ⟨S1, s1, s2⟩ := hm.sat.mem (x := ⟨b0, osl v (enc1 k) 1 xs e⟩) (by rw [e1]; simp)
  obtain ⟨h1, h2, ⟨rfl, rfl, _⟩ | ⟨b, pre, rest, cap, rfl, hb, hl, hcm, hS⟩⟩ := s1
  · simp at hj
  rw [flat_enc1] at hb
  have hat : cellAt w.heap b (pre.length + j) = some (.int k xs[j]) := by
    rw [cellAt_row hb, List.append_assoc, List.getElem?_append_right (by omega), Nat.add_sub_cancel_left, List.getElem?_append_left (by simpa using hj)]
    simp [hj]
  have hl0 : w.cell? ⟨b, pre.length + j, none⟩ = some (.int k xs[j]) := by rw [cell_eq, hat]
  have hfr : w.frozen? ⟨b, pre.length + j, none⟩ = false := frozen_of_row w b _ _ _ hb
  have hst : (store ((⟨b, pre.length + j, none⟩ : Addr).add 0) (.int k p)).run P w = .ok () (w.setCell ⟨b, pre.length + j, none⟩ (.int k p)) := by
    rw [addr_add, run_store P w _ _ _ rfl]
    simp [hl0, hfr]
  have : (execOp a.eval ⟨dd, .store t x y, ty, ps, af, g⟩).run P w = .ok .skip (w.setCell ⟨b, pre.length + j, none⟩ (.int k p)) := by
    have hx' : a.eval x = .pointer (some ⟨b, pre.length + j, none⟩) := hf.ev hx
    simp [execOp, hx', hf.ev hy, Instr.storeAt, Instr.sureAddr, storeVar, one_cells (v := .int k p) rfl, Siz.run hs.s, storeCells, hst]
  rw [this]
  refine ⟨(), rfl, hm.updK hu (by simp) (fun S3 s3 => ?_) rfl rfl rfl⟩
  obtain ⟨_, _, ⟨h5, _, _⟩ | ⟨b5, pre5, rest5, cap5, h5, hb5, hl5, _, hS5⟩⟩ := s3
  · cases h5
  obtain ⟨rfl, hpl, rfl⟩ : b = b5 ∧ pre.length = pre5.length ∧ cap = cap5 := by
    simp only [Value.slice.injEq, Option.some.injEq, Addr.mk.injEq, true_and, and_true] at h5
    exact ⟨h5.1.1, h5.1.2, h5.2⟩
  rw [flat_enc1, hb] at hb5
  refine ⟨⟨S3, ⟨fun x _ => ⟨rfl, (inferInstance : OneE (enc1 k)).h x⟩, h2, .inr ⟨b, pre, rest, cap, by simp, ?_, ?_, hcm, hS5⟩⟩, fun _ => .inl⟩, fun i _ hn => heap_setCell_other w _ i _ fun e => hn ((hS5 i).2 e)⟩
  · rw [heap_setCell_same w b _ _ e _ hb, flat_enc1, List.setIfInBounds_toArray, List.append_assoc, List.set_append_right _ _ (by omega), Nat.add_sub_cancel_left, List.set_append_left _ _ (by simpa using hj), List.map_set, List.append_assoc]
  · simp only [flat_enc1, List.length_append, List.length_map, List.length_set] at hl ⊢
    exact hl
end
end Sl
end Go.Proofs.Ytiolijpamidpfaa
