/-
  A run told by lists: append, and slices that the call makes. Over any program; no conditions beyond those in each statement.
-/
import Derived.Test.YtiolijpamidpfaaSxN
import Derived.Laws.AppendOwn
namespace Go.Proofs.Ytiolijpamidpfaa
open Go.RowKit
namespace Sx
/-- An element type: its size, its bytes, that it has a zero value of that size. -/
class ElT (P : Program) (e : TypeId) (size bytes : outParam Nat) : Prop where
  i : (P.info? e).map (fun i => (i.size, i.bytes)) = some (size, bytes)
  z : (P.info? e).bind (fun i => i.zero.map fun v => v.cells.size) = some size
  p : 0 < size
/-- The list without one block. -/
class Del (H : List Blk) (b : Nat) (H' : outParam (List Blk)) : Prop where
  split : ∃ (l r : List Blk) (old : List Value) (t : TypeId), H = l ++ ⟨b, old, t⟩ :: r ∧ H' = l ++ r
instance (priority := high) delHead (b : Nat) (old : List Value) (t : TypeId) (H : List Blk) : Del (⟨b, old, t⟩ :: H) b H := ⟨[], H, old, t, rfl, rfl⟩
instance delTail (y : Blk) (b : Nat) (H H' : List Blk) [h : Del H b H'] : Del (y :: H) b (y :: H') := by
  obtain ⟨l, r, old, t, e1, e2⟩ := h.split
  exact ⟨y :: l, r, old, t, by simp [e1], by simp [e2]⟩
section
variable {P : Program} {B n : Nat} {w0 : World} {T : Tm} {H H' : List Blk} {dd : Option Tmp} {ty : TypeId} {ps : String} {af : Array Edge} {g : Option (Nat × Bool)} {x y : Operand} {t e : TypeId} {v : Value}
theorem ElT.get {size bytes : Nat} [h : ElT P e size bytes] : ∃ (i : TypeInfo) (z : Value), P.info? e = some i ∧ i.zero = some z ∧ i.size = size ∧ i.bytes = bytes ∧ z.cells.size = size ∧ 0 < size := by
  obtain ⟨i, hi, h1⟩ := Option.map_eq_some_iff.1 h.i
  simp only [Prod.mk.injEq] at h1
  have h2 := h.z
  rw [hi] at h2
  obtain ⟨z, hz, h3⟩ := Option.map_eq_some_iff.1 h2
  exact ⟨i, z, hi, hz, h1.1, h1.2, h3, h.p⟩
/-- What a new slice may be: its block, its capacity, what stands behind it. -/
abbrev Row (m size : Nat) (xs : List Value) := { r : Nat × Nat × List Value // m ≤ r.2.1 ∧ r.2.1 ≤ maxLen ∧ (xs ++ r.2.2).length = r.2.1 * size }
theorem mem_others {w w1 : World} {row : Option Nat} (h : Mem B w0 w H) (hg : w.grownBy w1 row) (hne : ∀ x ∈ H, some x.b ≠ row) (hrow : ∀ k, row = some k → B ≤ k) : Mem B w0 w1 H :=
  ⟨h.below.grown hg h.base hrow, Nat.le_trans h.base hg.size, fun x hx => (hg.block _ (h.lt hx) (hne x hx)).trans (h.at_ x hx), h.own, h.ne⟩
theorem mem_row {w w1 : World} {row : Option Nat} {size m : Nat} {xs : List Value} {v' : Value} (h : Mem B w0 w H) (hg : w.grownBy w1 row) (hne : ∀ x ∈ H, some x.b ≠ row) (hrow : ∀ k, row = some k → B ≤ k) (how : w1.ownsRow B e size v' m xs) (hv : v' ≠ .slice none 0 0)
    (hfresh : ∀ k, v'.ownBlock = some k → some k = row ∨ w.heap.size ≤ k) : ∃ r : Row m size xs, v' = .slice (some ⟨r.1.1, 0, none⟩) m r.1.2.1 ∧ Mem B w0 w1 (⟨r.1.1, xs ++ r.1.2.2, e⟩ :: H) := by
  obtain ⟨hl, h1⟩ := how
  rcases h1 with ⟨h1, _⟩ | ⟨b, cap, cur, rfl, hb, hat, hmc, hcm, hcs, htk⟩
  · exact absurd h1 hv
  · have hcur : xs ++ cur.toList.drop (m * size) = cur.toList := by rw [← htk]; exact List.take_append_drop _ _
    have hM := mem_others h hg hne hrow
    refine ⟨⟨⟨b, cap, cur.toList.drop (m * size)⟩, hmc, hcm, by simp only; rw [hcur]; simpa using hcs⟩, rfl, hM.below, hM.base, ?_, ?_, ?_⟩
    · intro x hx
      cases hx with
      | head => simpa [hcur] using hat
      | tail _ hx => exact hM.at_ x hx
    · intro x hx
      cases hx with
      | head => exact hb
      | tail _ hx => exact hM.own x hx
    · refine .cons (fun y hy => ?_) hM.ne
      rcases hfresh b rfl with h2 | h2
      · exact fun e' => hne y hy (by rw [← e']; exact h2)
      · have := h.lt hy
        show b ≠ y.b
        omega
theorem d_append_nil {a o m c size bytes : Nat} {news : List Value} {ats : Array TypeId} (hx : ev T x = some (.slice none 0 0)) (hy : ev T y = some (.slice (some ⟨a, o, none⟩) m c)) [ht : SliT P t e size] [hel : ElT P e size bytes] (ha : ats = #[t, t])
    (hl : news.length = m * size) (hn : ∀ w, Mem B w0 w H → ∀ j u, news[j]? = some u → w.cell? ⟨a, o + j, none⟩ = some u) (h0 : 0 < m) (hm : m ≤ maxLen) (hby : m * bytes ≤ 140737488355328) :
    D P B n w0 ⟨dd, .call ⟨.builtin .append, #[x, y], ats⟩, ty, ps, af, g⟩ T H (fun r : Row m size news => .slice (some ⟨r.1.1, 0, none⟩) m r.1.2.1) (fun r => ⟨r.1.1, news ++ r.1.2.2, e⟩ :: H) := .of fun a' w hf hM => by
  obtain ⟨i, z, hi, hz, rfl, rfl, hzs, hsz⟩ := hel.get
  subst ha
  have hcell : ∀ j u, news[j]? = some u → w.cell? ((⟨a, o, none⟩ : Addr).add j) = some u := fun j u hj => by rw [addr_add]; exact hn w hM j u hj
  have hnx := nextslicecap_zero (need := m) h0
  have hr := run_append_nil (P := P) w t ty e i z ht.u hi hz ⟨a, o, none⟩ m c news hl hcell h0 (by unfold maxLen at hm; omega) (by omega)
  have hrun : (execOp a'.eval ⟨dd, .call ⟨.builtin .append, #[x, y], #[t, t]⟩, ty, ps, af, g⟩).run P w = .ok (.value (.slice (some ⟨w.heap.size, 0, none⟩) m (grownCap w m 0 e))) (w.drew.alloc (.cells (news.toArray ++ Builtin.zeroCells z.cells (grownCap w m 0 e - m)) e)) := by
    simp [execOp, resolve, invoke, builtin, hf.ev hx, hf.ev hy, hr]
  rw [hrun]
  have hge := grownCap_ge w m 0 e
  have hle := grownCap_le_maxLen w m 0 e hm
  have := (hM.drew : Mem B w0 w.drew H).alloc (news ++ (Builtin.zeroCells z.cells (grownCap w m 0 e - m)).toList) e
  refine ⟨⟨⟨w.heap.size, grownCap w m 0 e, (Builtin.zeroCells z.cells (grownCap w m 0 e - m)).toList⟩, hge, hle, ?_⟩, rfl, ?_⟩
  · simp only [List.length_append, Array.length_toList, size_zeroCells, hzs, hl, ← Nat.add_mul]
    congr 1
    omega
  · have e1 : (news ++ (Builtin.zeroCells z.cells (grownCap w m 0 e - m)).toList).toArray = news.toArray ++ Builtin.zeroCells z.cells (grownCap w m 0 e - m) := by
      apply Array.ext'
      simp
    rw [e1] at this
    exact this
theorem d_append {b cap m c k a o size bytes : Nat} {xs rest news : List Value} {ats : Array TypeId} (hx : ev T x = some (.slice (some ⟨b, 0, none⟩) k cap)) (hy : ev T y = some (.slice (some ⟨a, o, none⟩) m c)) [ht : SliT P t e size] [hel : ElT P e size bytes] (ha : ats = #[t, t])
    [hh : Has H b (xs ++ rest) e] [hd : Del H b H'] (hxs : xs.length = k * size) (hcap : (xs ++ rest).length = cap * size) (hkc : k ≤ cap) (hcm : cap ≤ maxLen)
    (hl : news.length = m * size) (hn : ∀ w, Mem B w0 w H → ∀ j u, news[j]? = some u → w.cell? ⟨a, o + j, none⟩ = some u) (h1 : news.all one = true) (hm : k + m ≤ maxLen) (hby : (k + m) * bytes ≤ 140737488355328) :
    D P B n w0 ⟨dd, .call ⟨.builtin .append, #[x, y], ats⟩, ty, ps, af, g⟩ T H (fun r : Row (k + m) size (xs ++ news) => .slice (some ⟨r.1.1, 0, none⟩) (k + m) r.1.2.1) (fun r => ⟨r.1.1, xs ++ news ++ r.1.2.2, e⟩ :: H') := .of fun a' w hf hM => by
  obtain ⟨i, z, hi, hz, hs1, hs2, hzs, hsz⟩ := hel.get
  subst ha
  have hcell : ∀ j u, news[j]? = some u → w.cell? ((⟨a, o, none⟩ : Addr).add j) = some u := fun j u hj => by rw [addr_add]; exact hn w hM j u hj
  have hat := hM.at_ _ hh.mem
  have how : w.ownsRow B e size (.slice (some ⟨b, 0, none⟩) k cap) k xs := by
    refine ⟨hxs, .inr ⟨b, cap, (xs ++ rest).toArray, rfl, hM.own _ hh.mem, hat, hkc, hcm, by simpa using hcap, ?_⟩⟩
    rw [← hxs]
    simp
  obtain ⟨l, r, old, t', e1, e2⟩ := hd.split
  have hp := hM.ne
  rw [e1] at hp
  have hmid := pair_mid hp
  have hM' : Mem B w0 w H' := hM.sub (by rw [e1, e2]; exact List.Sublist.append_left (List.sublist_cons_self _ _) l)
  obtain ⟨v', w1, hrun, how', hg, hnil⟩ := run_append_own (P := P) w B t ty e i z size bytes ht.u hi hz hs1 hs2 hzs hsz _ k xs how ⟨a, o, none⟩ m c news hl hcell (fun u hu => one_cell' ((List.all_eq_true.1 h1) u hu)) hm hby hM.base
  have hrun' : (execOp a'.eval ⟨dd, .call ⟨.builtin .append, #[x, y], #[t, t]⟩, ty, ps, af, g⟩).run P w = .ok (.value v') w1 := by
    simp [execOp, resolve, invoke, builtin, hf.ev hx, hf.ev hy, hrun]
  rw [hrun']
  have hv : v' ≠ .slice none 0 0 := fun e' => by have := hnil.1 e'; simp at this
  have hmem := hM.own _ hh.mem
  have hfresh : ∀ q, v'.ownBlock = some q → some q = (Value.slice (some ⟨b, 0, none⟩) k cap).ownBlock ∨ w.heap.size ≤ q := by
    intro q hq
    by_cases hroom : k + m ≤ cap
    · left
      have hr := run_append_room (P := P) w t ty e i ht.u hi b k cap (xs ++ rest).toArray hat ⟨a, o, none⟩ m c news (by rw [hs1]; exact hl) hcell (fun u hu => one_cell' ((List.all_eq_true.1 h1) u hu)) hroom (by
        rw [hs1, hl, ← Nat.add_mul]
        simp only [List.size_toArray, hcap]
        exact Nat.mul_le_mul_right _ hroom)
      rw [hr] at hrun
      obtain ⟨rfl, _⟩ : _ = v' ∧ _ = w1 := by simpa using hrun
      simpa [Value.ownBlock] using hq.symm
    · right
      have hr := run_append_grow (P := P) w t ty e i z ht.u hi hz ⟨b, 0, none⟩ k cap xs (by rw [hs1]; exact hxs) (how.cells (g := b) rfl) ⟨a, o, none⟩ m c news (by rw [hs1]; exact hl) hcell (by omega) (by unfold maxLen at hm; omega) (by rw [hs2]; exact growslice_fits (by omega) hby)
      rw [hr] at hrun
      obtain ⟨rfl, _⟩ : _ = v' ∧ _ = w1 := by simpa using hrun
      have : w.heap.size = q := by simpa [Value.ownBlock] using hq
      omega
  obtain ⟨rr, h2, h3⟩ := mem_row (row := (Value.slice (some ⟨b, 0, none⟩) k cap).ownBlock) hM' hg (fun y hy => by
    rw [e2] at hy
    have := hmid y hy
    simp only [Value.ownBlock]
    exact fun e' => this (by simpa using e')) (fun q hq => by
      simp only [Value.ownBlock, Option.some.injEq] at hq
      subst hq
      exact hmem) how' hv hfresh
  exact ⟨rr, h2, h3⟩
theorem own_news {w : World} {b : Nat} {cs : List Value} {et : TypeId} [hh : Has H b cs et] (hM : Mem B w0 w H) (j : Nat) (u : Value) (h : cs[j]? = some u) : w.cell? ⟨b, 0 + j, none⟩ = some u := by
  rw [Nat.zero_add, cell_of_row w b j _ _ _ (hM.at_ _ hh.mem)]
  simpa using h
theorem y_slice_any {b o len cap m : Nat} {k : IntKind} {p : Int} {lo : Operand} (hx : ev T x = some (.slice (some ⟨b, o, none⟩) len cap)) (hl : ev T lo = some (.int k p)) [h : SliT P t e m] (h0 : 0 ≤ p) (h1 : p ≤ len) : Y P B n w0 ⟨dd, .slice t x (some lo) none none, ty, ps, af, g⟩ T H (.slice (some ⟨b, if cap = p.toNat then o else o + p.toNat * m, none⟩) (len - p.toNat) (cap - p.toNat)) := .of fun a w hf _ => by
  by_cases hne : cap = p.toNat
  · simp [execOp, hf.ev hx, hf.ev hl, Instr.sliceAt, Instr.slice, Instr.sliceBounds, run_sliceBound, run_underlying h.u, h0, h1, Siz.run h.s, hne]
  · simp [execOp, hf.ev hx, hf.ev hl, Instr.sliceAt, Instr.slice, Instr.sliceBounds, run_sliceBound, run_underlying h.u, h0, h1, Siz.run h.s, addr_add, hne]
theorem y_s2a {b o len cap m el s : Nat} (hx : ev T x = some (.slice (some ⟨b, o, none⟩) len cap)) [h : ArrT P t m el s] (h1 : m ≤ len) : Y P B n w0 ⟨dd, .sliceToArrayPointer t x, ty, ps, af, g⟩ T H (.pointer (some ⟨b, o, none⟩)) := .of fun a w hf _ => by
  simp [execOp, hf.ev hx, Instr.arrayAt, run_underlying h.u, Nat.not_lt.2 h1]
theorem y_load_rows {b o m : Nat} {r : List Value} (hx : ev T x = some (.pointer (some ⟨b, o, none⟩))) [hs : AggT P t m] (hr : r.length = m) (hc : ∀ w, Mem B w0 w H → ∀ j u, r[j]? = some u → w.cell? ⟨b, o + j, none⟩ = some u) : Y P B n w0 ⟨dd, .load t x, ty, ps, af, g⟩ T H (.agg r.toArray) := .of fun a w hf hm => by
  have hl : (loadCells ⟨b, o, none⟩ m).run P w = .ok r.toArray w := by
    have := run_loadCells_list (P := P) w ⟨b, o, none⟩ r (fun j v hv => by
      rw [addr_add]
      exact hc w hm j v hv)
    rwa [hr] at this
  simp [execOp, hf.ev hx, Instr.loadAt, Instr.sureAddr, loadVar, AggT.run, Siz.run hs.s, hl]
theorem y_sliceA {b o m el s : Nat} (hx : ev T x = some (.pointer (some ⟨b, o, none⟩))) [h : ArrT P t m el s] : Y P B n w0 ⟨dd, .slice t x none none none, ty, ps, af, g⟩ T H (.slice (some ⟨b, o, none⟩) m m) := .of fun a w hf _ => by
  simp [execOp, hf.ev hx, Instr.sliceAt, Instr.sliceBounds, Instr.sureAddr, run_underlying h.u, Siz.run h.s, addr_add]
/-- A slice written out, all its elements one cell each. -/
theorem fill_all (size : Nat) : ∀ (vs done : List Value) (rest : List Value), vs.length = rest.length → vs.all one = true →
    Instr.fill (fun i => some (i * 1, 1)) (done ++ rest).toArray ((List.range' done.length vs.length).zip vs) = some (done ++ vs).toArray
  | [], done, rest, hl, _ => by
    obtain rfl : rest = [] := List.length_eq_zero_iff.1 hl.symm
    have _ := size
    simp [Instr.fill]
  | v :: vs, done, r0 :: rest, hl, h1 => by
    simp only [List.all_cons, Bool.and_eq_true] at h1
    rw [List.length_cons, List.range'_succ, List.zip_cons_cons, fill_cons (vs := [v]) (off := done.length) (size := 1) (by simp) (one_cells h1.1) rfl (by simp)]
    have e1 : ([v].zipIdx).foldl (fun (cs : Array Value) (p : Value × Nat) => cs.setIfInBounds (done.length + p.2) p.1) (done ++ r0 :: rest).toArray = ((done ++ [v]) ++ rest).toArray := by
      simp [List.zipIdx]
    rw [e1]
    have := fill_all size vs (done ++ [v]) rest (by simpa using hl) h1.2
    simpa using this
theorem d_slit {xs : List Operand} {vs : List Value} {len : Nat} {parts : Array (Nat × Operand)} {bytes : Nat} (hx : evs T xs = some vs) (hp : parts.toList = (List.range len).zip xs) (hl : vs.length = len) (h1 : vs.all one = true) (hlen : len ≤ 64) [ht : SliT P t e 1] [hel : ElT P e 1 bytes] :
    D P B n w0 ⟨dd, .buildSlice t len parts, ty, ps, af, g⟩ T H (fun b : Nat => .slice (some ⟨b, 0, none⟩) len len) (fun b => ⟨b, vs, e⟩ :: H) := .of fun a w hf hm => by
  obtain ⟨i, z, hi, hz, hs1, hs2, hzs, hsz⟩ := hel.get
  have hmap : (parts.map fun (i, x) => (i, a.eval x)).toList = (List.range' 0 vs.length).zip vs := by
    rw [Array.toList_map, hp, hl, List.range_eq_range']
    rw [← hf.evs hx]
    rw [List.zip_map_right]
    rfl
  have hfill := fill_all 1 vs [] ((Array.range len).map (fun j => z.cells[j % z.cells.size]!)).toList (by simp [hl]) h1
  simp only [List.nil_append, List.length_nil, Array.toArray_toList] at hfill
  rw [← hmap] at hfill
  have hrun : (Instr.buildSlice t len (parts.map fun (i, x) => (i, a.eval x))).run P w = .ok (.slice (some ⟨w.heap.size, 0, none⟩) len len) (w.alloc (.cells vs.toArray e)) := by
    by_cases h0 : len = 0
    · subst h0
      obtain rfl : vs = [] := List.length_eq_zero_iff.1 hl
      have hnil : (parts.map fun (i, x) => (i, a.eval x)).toList = [] := by rw [hmap]; rfl
      simp only [Instr.buildSlice, Sem.run_bind, run_underlying ht.u, Result.andThen_ok, Siz.run ht.s, hnil]
      have hr0 : Array.range 0 = #[] := by simp
      simp [newRow, Instr.fill, hr0]
    · have hbig : ¬ (16777216 < len) := by omega
      simp only [Nat.mul_one] at hfill
      simp [Instr.buildSlice, run_underlying ht.u, Siz.run ht.s, zeroValue, typeInfo, hi, hz, h0, hbig, newRow] at hfill ⊢
      rw [hfill]
      simp
  have e1 : (execOp a.eval ⟨dd, .buildSlice t len parts, ty, ps, af, g⟩).run P w = .ok (.value (.slice (some ⟨w.heap.size, 0, none⟩) len len)) (w.alloc (.cells vs.toArray e)) := by
    show ((do pure (Next.value (← Instr.buildSlice t len (parts.map fun (i, x) => (i, a.eval x)))) : Sem Next)).run P w = _
    rw [Sem.run_bind, hrun]
    rfl
  rw [e1]
  exact ⟨w.heap.size, rfl, hm.alloc vs e⟩
theorem d_lit {xs : List Operand} {vs : List Value} {len : Nat} {parts : Array (Nat × Operand)} {bytes : Nat} (hx : evs T xs = some vs) (hp : parts.toList = (List.range len).zip xs) (hl : vs.length = len) (h1 : vs.all one = true) (hlen : len ≤ 64) [ht : SliT P t e 1] [hel : ElT P e 1 bytes] :
    D P B n w0 ⟨dd, .buildSlice t len parts, ty, ps, af, g⟩ T H (fun b : Nat => .slice (some ⟨b, 0, none⟩) len len) (fun b => ⟨b, vs, e⟩ :: H) := d_slit hx hp hl h1 hlen
/-- A loop: 'S i', 'G i': what is known at a round's head; 'μ i': how many rounds at most are to come. -/
theorem c_loop2 {ι : Type} {Q : Exit → Act → World → Prop} {c : Code} (S : ι → Tm) (G : ι → List Blk) (μ : ι → Nat) (i0 : ι) (hs : Sub T (S i0)) (hh : ∀ w, Mem B w0 w H → Mem B w0 w (G i0))
    (round : ∀ i, C P B n w0 (Exit.then (fun a w => ∃ j, μ j < μ i ∧ Fr n (S j) a ∧ Mem B w0 w (G j)) Q) c (S i) (G i)) : C P B n w0 Q (.loop c) T H :=
  c_loop (fun i => (S i, G i)) μ i0 hs hh round
theorem e_next {ι : Type} {S : ι → Tm} {G : ι → List Blk} {μ : ι → Nat} {m : Nat} {Q : Exit → Act → World → Prop} (j : ι) (hj : μ j < m) (hs : Sub T (S j)) (hh : ∀ w, Mem B w0 w H → Mem B w0 w (G j)) :
    E B n w0 (Exit.then (fun a w => ∃ j, μ j < m ∧ Fr n (S j) a ∧ Mem B w0 w (G j)) Q) .normal T H := .of fun _ w hf hm => ⟨j, hj, hf.sub hs, hh w hm⟩
/-- Ways that meet again. -/
theorem c_cut2 {ι : Type} {Q : Exit → Act → World → Prop} {x y : Code} (S : ι → Tm) (G : ι → List Blk) (hx : C P B n w0 (Exit.then (fun a w => ∃ i, Fr n (S i) a ∧ Mem B w0 w (G i)) Q) x T H) (hy : ∀ i, C P B n w0 Q y (S i) (G i)) : C P B n w0 Q (.seq x y) T H :=
  c_cut (fun i => (S i, G i)) hx hy
theorem e_meet {ι : Type} {S : ι → Tm} {G : ι → List Blk} {Q : Exit → Act → World → Prop} (i : ι) (hs : Sub T (S i)) (hh : ∀ w, Mem B w0 w H → Mem B w0 w (G i)) : E B n w0 (Exit.then (fun a w => ∃ i, Fr n (S i) a ∧ Mem B w0 w (G i)) Q) .normal T H :=
  .of fun _ w hf hm => ⟨i, hf.sub hs, hh w hm⟩
theorem y_len1 {b : Option Addr} {len cap e m : Nat} (hx : ev T x = some (.slice b len cap)) [h : SliT P t e m] : Y P B n w0 ⟨dd, .call ⟨.builtin .len, #[x], #[t]⟩, ty, ps, af, g⟩ T H (.int .i64 len) := y_len (t := t) hx rfl
end
end Sx
end Go.Proofs.Ytiolijpamidpfaa
