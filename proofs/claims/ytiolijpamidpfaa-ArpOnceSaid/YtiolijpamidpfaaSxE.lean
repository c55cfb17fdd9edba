/-
  A run told by lists: what turns memory, what calls, how a call begins and ends. Over any program; no conditions beyond those in each statement.
-/
import Derived.Test.YtiolijpamidpfaaSxY
namespace Go.Proofs.Ytiolijpamidpfaa
open Go.RowKit
namespace Sx
/-- A value of one cell. -/
def one : Value → Bool
  | .agg _ | .tuple _ => false
  | _ => true
theorem one_cells {v : Value} (h : one v = true) : v.cells = #[v] := by cases v <;> simp_all [one, Value.cells]
theorem one_cell' {v : Value} (h : one v = true) : v.oneCell' = true := by cases v <;> simp_all [one, Value.oneCell']
/-- A list with one element set. -/
class SetL (cs : List Value) (o : Nat) (v : Value) (r : outParam (List Value)) : Prop where
  h : cs.set o v = r ∧ o < cs.length
instance (c v : Value) (cs : List Value) : SetL (c :: cs) 0 v (v :: cs) := ⟨rfl, by simp⟩
instance (c v : Value) (cs r : List Value) (o : Nat) [h : SetL cs o v r] : SetL (c :: cs) (o + 1) v (c :: r) := ⟨by simp [h.h.1], by have := h.h.2; simp; omega⟩
/-- A list with several elements set, one behind the other. -/
class Lay (cs : List Value) (o : Nat) (vs : List Value) (r : outParam (List Value)) : Prop where
  h : cs.take o ++ vs ++ cs.drop (o + vs.length) = r ∧ o + vs.length ≤ cs.length
instance (cs : List Value) : Lay cs 0 [] cs := ⟨by simp, by simp⟩
instance (c v : Value) (cs vs r : List Value) [h : Lay cs 0 vs r] : Lay (c :: cs) 0 (v :: vs) (v :: r) := ⟨by have := h.h.1; simp at this ⊢; exact this, by have := h.h.2; simp at this ⊢; omega⟩
instance (c : Value) (cs vs r : List Value) (o : Nat) [h : Lay cs o vs r] : Lay (c :: cs) (o + 1) vs (c :: r) := ⟨by have := h.h.1; simp [Nat.add_right_comm] at this ⊢; exact this, by have := h.h.2; simp at this ⊢; omega⟩
theorem Lay.len {cs vs r : List Value} {o : Nat} (h : Lay cs o vs r) : r.length = cs.length := by
  have e := congrArg List.length h.h.1
  have := h.h.2
  simp at e
  omega

section
variable {P : Program} {B n : Nat} {w0 : World} {Q : Exit → Act → World → Prop} {T : Tm} {H H' : List Blk} {ops : Array Oper} {tl l : List Oper} {d : Nat} {v u : Value} {ty : TypeId} {ps : String} {af : Array Edge} {g : Option (Nat × Bool)} {x y : Operand} {t : TypeId}

theorem w_new {o : Oper} {cs : List Value} {et : TypeId} (hw : Wn n ops T o) (hr : ∀ a w, Fr n T a → (execOp a.eval o).run P w = .ok (.value (.pointer (some ⟨w.heap.size, 0, none⟩))) (w.alloc (.cells cs.toArray et))) (hd : o.dst = some d) (hn : d < n)
    (k : ∀ b, W P B n w0 ops Q l ((d, .pointer (some ⟨b, 0, none⟩)) :: T) (⟨b, cs, et⟩ :: H)) : W P B n w0 ops Q (o :: l) T H := .of fun a w hf hm =>
  wpList_step fun K hK => by
    rw [if_pos (hw.run a hf)]
    unfold Oper.wp
    rw [hr a w hf, Oper.upon_value, hd]
    exact hK _ _ ((k w.heap.size).run _ _ (hf.put hn _) (hm.alloc cs et))
theorem w_alloc {z : List Value} [hz : ZeroT P t z] (hw : Wn n ops T ⟨some d, .alloc t, ty, ps, af, g⟩) (hn : d < n) (k : ∀ b, W P B n w0 ops Q l ((d, .pointer (some ⟨b, 0, none⟩)) :: T) (⟨b, z, t⟩ :: H)) : W P B n w0 ops Q (⟨some d, .alloc t, ty, ps, af, g⟩ :: l) T H :=
  w_new hw (fun a w hf => by
    obtain ⟨i, hi, hz'⟩ := Option.bind_eq_some_iff.1 hz.z
    obtain ⟨zv, hzv, e⟩ := Option.map_eq_some_iff.1 hz'
    have e' : zv.cells = z.toArray := by rw [← e]
    simp [execOp, Instr.alloc, zeroValue, typeInfo, hi, hzv, newVar, newRow, e']) rfl hn k
theorem w_box {cs : List Value} (hx : ev T x = some (.agg cs.toArray)) (hw : Wn n ops T ⟨some d, .box t x, ty, ps, af, g⟩) (hn : d < n) (k : ∀ b, W P B n w0 ops Q l ((d, .pointer (some ⟨b, 0, none⟩)) :: T) (⟨b, cs, t⟩ :: H)) : W P B n w0 ops Q (⟨some d, .box t x, ty, ps, af, g⟩ :: l) T H :=
  w_new hw (fun a w hf => by simp [execOp, Instr.box, newVar, newRow, hf.ev hx, Value.cells]) rfl hn k
theorem w_box1 (hx : ev T x = some v) (h1 : one v = true) (hw : Wn n ops T ⟨some d, .box t x, ty, ps, af, g⟩) (hn : d < n) (k : ∀ b, W P B n w0 ops Q l ((d, .pointer (some ⟨b, 0, none⟩)) :: T) (⟨b, [v], t⟩ :: H)) : W P B n w0 ops Q (⟨some d, .box t x, ty, ps, af, g⟩ :: l) T H :=
  w_new hw (fun a w hf => by simp [execOp, Instr.box, newVar, newRow, hf.ev hx, one_cells h1]) rfl hn k

/-- A store of one cell. -/
theorem w_store {b o : Nat} {cs cs' : List Value} {et : TypeId} (hx : ev T x = some (.pointer (some ⟨b, o, none⟩))) (hy : ev T y = some v) (h1 : one v = true) [hs : Siz P t 1] [hh : Has H b cs et] [hc : SetL cs o v cs'] [hu : Upd H b cs' H'] (hw : Wn n ops T ⟨none, .store t x y, ty, ps, af, g⟩)
    (k : W P B n w0 ops Q l T H') : W P B n w0 ops Q (⟨none, .store t x y, ty, ps, af, g⟩ :: l) T H := .of fun a w hf hm =>
  wpList_step fun K hK => by
    rw [if_pos (hw.run a hf)]
    have hat := hm.at_ _ hh.mem
    have ho := hc.h.2
    have hl : w.cell? ⟨b, o, none⟩ = some cs[o] := by rw [cell_of_row w b o _ _ _ hat]; simp [hc.h.2]
    have hfr : w.frozen? ⟨b, o, none⟩ = false := frozen_of_row w b o _ _ hat
    have hst : (store ((⟨b, o, none⟩ : Addr).add 0) v).run P w = .ok () (w.setCell ⟨b, o, none⟩ v) := by
      rw [addr_add, run_store P w _ v _ (one_cell' h1)]
      simp [hl, hfr]
    unfold Oper.wp
    have : (execOp a.eval ⟨none, .store t x y, ty, ps, af, g⟩).run P w = .ok .skip (w.setCell ⟨b, o, none⟩ v) := by
      simp [execOp, hf.ev hx, hf.ev hy, Instr.storeAt, Instr.sureAddr, storeVar, one_cells h1, Siz.run hs.s, storeCells, hst]
    rw [this, Oper.upon_skip]
    exact hK _ _ (k.run _ _ (hf.put0 _) (hm.setCell hc.h.1))
theorem run_storeCells_row {b : Nat} {et : TypeId} : ∀ (vs : List Value) (i o : Nat) (cur : List Value) (w : World), w.heap[b]? = some (.cells cur.toArray et (0, 0)) → o + i + vs.length ≤ cur.length → (∀ v ∈ vs, v.oneCell' = true) →
    ∃ w1, (storeCells ⟨b, o, none⟩ vs i).run P w = .ok () w1 ∧ w1.heap[b]? = some (.cells (cur.take (o + i) ++ vs ++ cur.drop (o + i + vs.length)).toArray et (0, 0)) ∧ (∀ k, k ≠ b → w1.heap[k]? = w.heap[k]?) ∧ w1.os = w.os ∧ w1.tape = w.tape ∧ w1.output = w.output ∧ w1.heap.size = w.heap.size
  | [], i, o, cur, w, hat, _, _ => ⟨w, rfl, by simpa using hat, fun _ _ => rfl, rfl, rfl, rfl, rfl⟩
  | v :: vs, i, o, cur, w, hat, hl, h1 => by
    simp only [List.length_cons] at hl
    have hoi : o + i < cur.length := by omega
    have hc : w.cell? ⟨b, o + i, none⟩ = some cur[o + i] := by rw [cell_of_row w b _ _ _ _ hat]; simp [hoi]
    have hfr : w.frozen? ⟨b, o + i, none⟩ = false := frozen_of_row w b _ _ _ hat
    have hst : (store ((⟨b, o, none⟩ : Addr).add i) v).run P w = .ok () (w.setCell ⟨b, o + i, none⟩ v) := by
      rw [addr_add, run_store P w _ v _ (h1 v (by simp))]
      simp [hc, hfr]
    have hat' := heap_setCell_same w b (o + i) _ et v hat
    rw [List.setIfInBounds_toArray] at hat'
    obtain ⟨w1, e1, e2, e3, e4, e5, e6, e7⟩ := run_storeCells_row vs (i + 1) o (cur.set (o + i) v) (w.setCell ⟨b, o + i, none⟩ v) hat' (by simp; omega) (fun x hx => h1 x (by simp [hx]))
    refine ⟨w1, by simp only [storeCells, Sem.run_bind, hst, Result.andThen_ok, e1], ?_, fun k hk => (e3 k hk).trans (heap_setCell_other w _ k v hk), e4, e5, e6, e7.trans (by simp)⟩
    rw [e2]
    congr 3
    apply List.ext_getElem?
    intro j
    simp only [List.getElem?_append, List.length_take, List.length_set, List.length_append, List.length_cons, List.getElem?_take, List.getElem?_set, List.getElem?_drop]
    by_cases c1 : j < o + i
    · simp [show j < o + (i + 1) by omega, c1, show j < min (o + i) cur.length by omega, show j < min (o + i) cur.length + (vs.length + 1) by omega, show j < min (o + (i + 1)) cur.length by omega, show j < min (o + (i + 1)) cur.length + vs.length by omega, show ¬ o + i = j by omega]
    · by_cases c2 : j = o + i
      · subst c2
        simp [show o + i < min (o + (i + 1)) cur.length by omega, show o + i < min (o + (i + 1)) cur.length + vs.length by omega, show min (o + i) cur.length = o + i by omega, hoi, show o + i < o + (i + 1) by omega]
      · by_cases c3 : j < o + i + 1 + vs.length
        · simp [show min (o + (i + 1)) cur.length = o + i + 1 by omega, show min (o + i) cur.length = o + i by omega, show ¬ j < o + i + 1 by omega, show j < o + i + 1 + vs.length by omega, c1, show j < o + i + (vs.length + 1) by omega, show j - (o + i) = (j - (o + i + 1)) + 1 by omega]
        · simp [show min (o + (i + 1)) cur.length = o + i + 1 by omega, show min (o + i) cur.length = o + i by omega, show ¬ j < o + i + 1 + vs.length by omega, show ¬ j < o + i + (vs.length + 1) by omega]
          rw [if_neg (by omega)]
          congr 1
          omega
/-- A store of a row of cells. -/
theorem w_store_row {b o m : Nat} {cs vs cs' : List Value} {et : TypeId} (hx : ev T x = some (.pointer (some ⟨b, o, none⟩))) (hy : ev T y = some (.agg vs.toArray)) (h1 : vs.all one = true) (hm : vs.length = m) [hs : Siz P t m] [hh : Has H b cs et] [hc : Lay cs o vs cs'] [hu : Upd H b cs' H'] (hw : Wn n ops T ⟨none, .store t x y, ty, ps, af, g⟩)
    (k : W P B n w0 ops Q l T H') : W P B n w0 ops Q (⟨none, .store t x y, ty, ps, af, g⟩ :: l) T H := .of fun a w hf hm' =>
  wpList_step fun K hK => by
    rw [if_pos (hw.run a hf)]
    have hat := hm'.at_ _ hh.mem
    obtain ⟨w1, e1, e2, e3, e4, e5, e6, e7⟩ := run_storeCells_row (P := P) vs 0 o cs w hat (by have := hc.h.2; omega) (fun v hv => one_cell' ((List.all_eq_true.1 h1) v hv))
    unfold Oper.wp
    have : (execOp a.eval ⟨none, .store t x y, ty, ps, af, g⟩).run P w = .ok .skip w1 := by
      simp [execOp, hf.ev hx, hf.ev hy, Instr.storeAt, Instr.sureAddr, storeVar, Value.cells, hm, Siz.run hs.s, e1]
    rw [this, Oper.upon_skip]
    rw [Nat.add_zero, hc.h.1] at e2
    exact hK _ _ (k.run _ _ (hf.put0 _) (hm'.upd (b := b) (old := cs) (cs := cs') e2 e3 e4 e5 e6 (by omega)))

/-! ### Calls -/
/-- What a call hands back, memory below untouched; what it makes is let go. -/
structure Ret (P : Program) (f : FuncId) (args : List Value) (w : World) (v : Value) : Prop where of ::
  run : Calls P f args.toArray w fun e w' => e = .returned v ∧ Below w.heap.size w w'
theorem w_callx {ι : Type} {f : FuncId} {xs : List Operand} {ats : Array TypeId} {args : List Value} {V : ι → Value} {G : ι → List Blk} (hx : evs T xs = some args) [hi : IsFn P f] (hw : Wn n ops T ⟨some d, .call ⟨.value (.func f), xs.toArray, ats⟩, ty, ps, af, g⟩) (hn : d < n)
    (hc : ∀ w, Mem B w0 w H → Calls P f args.toArray w fun e w' => ∃ i, e = .returned (V i) ∧ Mem B w0 w' (G i)) (k : ∀ i, W P B n w0 ops Q l ((d, V i) :: T) (G i)) : W P B n w0 ops Q (⟨some d, .call ⟨.value (.func f), xs.toArray, ats⟩, ty, ps, af, g⟩ :: l) T H := .of fun a w hf hm =>
  wpList_step fun K hK => by
    rw [if_pos (hw.run a hf)]
    unfold Oper.wp
    have e : (execOp a.eval ⟨some d, .call ⟨.value (.func f), xs.toArray, ats⟩, ty, ps, af, g⟩).run P w = .ok (.enter f args.toArray) w := by
      have := hf.evs hx
      simp [execOp, resolve, Act.eval, Deferred.ofValue, invoke, hi.run, this]
    rw [e, Oper.upon_enter]
    refine (hc w hm).mono ?_
    rintro e' w' ⟨i, rfl, hm'⟩
    exact hK _ _ ((k i).run _ _ (hf.put hn _) hm')
theorem w_call {f : FuncId} {xs : List Operand} {ats : Array TypeId} {args : List Value} (hx : evs T xs = some args) [hi : IsFn P f] (hw : Wn n ops T ⟨some d, .call ⟨.value (.func f), xs.toArray, ats⟩, ty, ps, af, g⟩) (hn : d < n)
    (hc : ∀ w, Mem B w0 w H → Ret P f args w v) (k : W P B n w0 ops Q l ((d, v) :: T) H) : W P B n w0 ops Q (⟨some d, .call ⟨.value (.func f), xs.toArray, ats⟩, ty, ps, af, g⟩ :: l) T H :=
  w_callx (ι := Unit) (V := fun _ => v) (G := fun _ => H) hx hw hn (fun w hm => (hc w hm).run.mono fun _ _ ⟨he, hb⟩ => ⟨(), he, hm.call hb⟩) fun _ => k
theorem q_call {f : FuncId} {xs : List Operand} {ats : Array TypeId} {args : List Value} (hx : evs T xs = some args) [hi : IsFn P f] (hw : Wn n ops T ⟨some d, .call ⟨.value (.func f), xs.toArray, ats⟩, ty, ps, af, g⟩) (hn : d < n)
    (hc : ∀ w, Mem B w0 w H → Ret P f args w v) (k : WQ P B n w0 ops Q tl l ((d, v) :: T) H) : WQ P B n w0 ops Q tl (⟨some d, .call ⟨.value (.func f), xs.toArray, ats⟩, ty, ps, af, g⟩ :: l) T H := .of fun a hf =>
  wpQuiet_step fun K hK => by
    rw [if_pos (hw.run a hf)]
    refine ⟨v, fun w hm => ?_, hK _ (k.run _ (hf.put hn v))⟩
    have e : (execOp a.eval ⟨some d, .call ⟨.value (.func f), xs.toArray, ats⟩, ty, ps, af, g⟩).run P w = .ok (.enter f args.toArray) w := by
      have := hf.evs hx
      simp [execOp, resolve, Act.eval, Deferred.ofValue, invoke, hi.run, this]
    unfold Oper.quietAt
    rw [e]
    exact ⟨rfl, (hc w hm).run.mono fun _ _ ⟨he, hb⟩ => ⟨he, hm.call hb⟩⟩

/-! ### Where a call begins and ends -/
def nums : List Value → Nat → Tm
  | [], _ => []
  | v :: vs, i => (i, v) :: nums vs (i + 1)
theorem nums_find : ∀ (vs : List Value) (i j : Nat) (v : Value), find (nums vs i) j = some v → i ≤ j ∧ vs[j - i]? = some v
  | [], _, _, _, h => by cases h
  | u :: vs, i, j, v, h => by
    unfold nums at h
    by_cases e : j = i
    · subst e
      rw [find_same] at h
      simpa using h
    · rw [find_other _ _ e] at h
      obtain ⟨h1, h2⟩ := nums_find vs (i + 1) j v h
      refine ⟨by omega, ?_⟩
      rw [show j - i = (j - (i + 1)) + 1 by omega]
      simpa using h2
theorem enter {f : FuncId} {fn : Func} {c : Code} {args : List Value} {w : World} {R : Ending → World → Prop} (hf : P.funcs[f]? = some fn) (hb : fn.body = some c) (hn : fn.ntmps = n) (ha : args.length ≤ n) (h : C P w.heap.size n w (bodyPost P fn R) c (nums args 0) []) : Calls P f args.toArray w R := by
  refine calls_of_wp hf hb (h.run _ _ ⟨by simp [hn]; omega, fun i v hv => ?_, rfl⟩ (Mem.start w))
  obtain ⟨_, h2⟩ := nums_find args 0 i v hv
  have hlt : i < args.length := (List.getElem?_eq_some_iff.1 (by simpa using h2)).1
  rw [Array.getD_eq_getD_getElem?, Array.getElem?_append_left (by simpa using hlt)]
  simpa using congrArg (fun o => o.getD undef) h2
/-- What a result variable gives. -/
def resF (a : Act) : ResultVar → Sem Value
  | .tmp t => pure (a.tmps.getD t undef)
  | .cell p t => do loadVar t (← asAddr (a.tmps.getD p undef))
theorem results_eq {fn : Func} {a : Act} : results fn a.tmps = (do
    let vs ← fn.results.mapM (resF a)
    pure (if h : vs.size = 1 then vs[0] else .tuple vs)) := rfl
/-- What a contract of the walk's says, as a 'Ret'. -/
theorem Ret.ofCalls {f : FuncId} {args : List Value} {w : World} (h : Calls P f args.toArray w fun e w' => e = .returned v ∧ Below w.heap.size w w') : Ret P f args w v := .of h
theorem Ret.ofSame {f : FuncId} {args : List Value} {w : World} (h : Calls P f args.toArray w fun e w' => e = .returned v ∧ w = w') : Ret P f args w v := .of (h.mono fun _ _ ⟨he, hw⟩ => ⟨he, hw ▸ Below.refl _ _⟩)
/-- A result: what it is. -/
structure Res (P : Program) (B n : Nat) (w0 : World) (T : Tm) (H : List Blk) (r : ResultVar) (v : Value) : Prop where of ::
  run : ∀ a w, Fr n T a → Mem B w0 w H → (resF a r).run P w = .ok v w
theorem res_tmp {i : Nat} (h : find T i = some v) : Res P B n w0 T H (.tmp i) v := .of fun a w hf _ => by simp [resF, hf.get i v h]
theorem res_cell {i b : Nat} {cs : List Value} {et m : Nat} (h : find T i = some (.pointer (some ⟨b, 0, none⟩))) [hh : Has H b cs et] [hs : AggT P t m] (hc : cs.length = m) : Res P B n w0 T H (.cell i t) (.agg cs.toArray) := .of fun a w hf hm => by
  have hat := hm.at_ _ hh.mem
  have hl : (loadCells ⟨b, 0, none⟩ m).run P w = .ok cs.toArray w := by
    have := run_loadCells_list (P := P) w ⟨b, 0, none⟩ cs (fun j v hv => by
      rw [addr_add, cell_of_row w b _ _ _ _ hat]
      simpa using hv)
    rwa [hc] at this
  have hg : a.tmps[i]?.getD undef = .pointer (some ⟨b, 0, none⟩) := by simpa using hf.get i _ h
  simp [resF, hg, asAddr, loadVar, AggT.run, Siz.run hs.s, hl]
theorem res_cell1 {i b : Nat} {et : Nat} (h : find T i = some (.pointer (some ⟨b, 0, none⟩))) [hh : Has H b [v] et] [hs : Sca P t] : Res P B n w0 T H (.cell i t) v := .of fun a w hf hm => by
  have hl : w.cell? ⟨b, 0, none⟩ = some v := by rw [cell_of_row w b 0 _ _ _ (hm.at_ _ hh.mem)]; rfl
  have hg : a.tmps[i]?.getD undef = .pointer (some ⟨b, 0, none⟩) := by simpa using hf.get i _ h
  simp [resF, hg, asAddr, loadVar, Sca.run, hl]
variable {fn : Func} {R : Ending → World → Prop}
theorem post1 {e : Exit} (he : e = .ret ∨ e = .normal) {r : ResultVar} (hr : fn.results = #[r]) (h : Res P B n w0 T H r v) (k : ∀ w, Mem B w0 w H → R (.returned v) w) : E B n w0 (bodyPost P fn R) e T H := .of fun a w hf hm => by
  have h0 : (results fn a.tmps).run P w = .ok v w := by
    rw [results_eq, hr]
    simp [h.run a w hf hm]
  rcases he with rfl | rfl <;> exact ⟨hf.nodef, v, h0, k w hm⟩
theorem post0 {e : Exit} (he : e = .ret ∨ e = .normal) (hr : fn.results = #[]) (k : ∀ w, Mem B w0 w H → R (.returned (.tuple #[])) w) : E B n w0 (bodyPost P fn R) e T H := .of fun a w hf hm => by
  have h0 : (results fn a.tmps).run P w = .ok (.tuple #[]) w := by simp [results, hr]
  rcases he with rfl | rfl <;> exact ⟨hf.nodef, _, h0, k w hm⟩
theorem post2 {e : Exit} (he : e = .ret ∨ e = .normal) {r s : ResultVar} (hr : fn.results = #[r, s]) (h : Res P B n w0 T H r v) (h' : Res P B n w0 T H s u) (k : ∀ w, Mem B w0 w H → R (.returned (.tuple #[v, u])) w) : E B n w0 (bodyPost P fn R) e T H := .of fun a w hf hm => by
  have h0 : (results fn a.tmps).run P w = .ok (.tuple #[v, u]) w := by
    rw [results_eq, hr]
    simp [h.run a w hf hm, h'.run a w hf hm]
  rcases he with rfl | rfl <;> exact ⟨hf.nodef, _, h0, k w hm⟩
end
end Sx
end Go.Proofs.Ytiolijpamidpfaa
