/-
  A run told by lists: what is asked, as it is (so that a step that does not fit fails at once). Over any program; no conditions beyond those in each statement.
-/
import Derived.Test.YtiolijpamidpfaaSlQ
namespace Go.Proofs.Ytiolijpamidpfaa
open Go.RowKit
namespace Sl
set_option linter.unusedVariables false
section
variable {P : Program} {B : Foot} {n : Nat} {w0 : World} {Q : Exit → Act → World → Prop} {T : Tm} {H H0 : List Blk} {ops : Array Oper} {l tl : List Oper} {o : Oper} {f : Nat} {done : Array Bool} {c : Code} {e : Exit}
theorem isC (h : C P B n w0 Q c T H) : C P B n w0 Q c T H := h
theorem isE (h : E B n w0 Q e T H) : E B n w0 Q e T H := h
theorem isW (h : W P B n w0 ops Q l T H) : W P B n w0 ops Q l T H := h
theorem isQ (h : WQ P B n w0 ops Q tl l T H) : WQ P B n w0 ops Q tl l T H := h
theorem isS (h : S P B n w0 ops Q H0 l T H) : S P B n w0 ops Q H0 l T H := h
theorem isSQ (h : SQ P B n w0 ops Q H0 tl H l T) : SQ P B n w0 ops Q H0 tl H l T := h
theorem isSQA (h : SQA P B n w0 ops Q H0 f done H l T) : SQA P B n w0 ops Q H0 f done H l T := h
theorem isSA (h : SA P B n w0 ops Q H0 f done T H) : SA P B n w0 ops Q H0 f done T H := h
theorem isSO (h : SO P B n w0 ops Q H0 f done o T H) : SO P B n w0 ops Q H0 f done o T H := h
end
section
variable {P : Program} {B : Foot} {n : Nat} {w0 : World} {T : Tm} {H : List Blk} {d : Option Tmp} {ty : TypeId} {ps : String} {af : Array Edge} {g : Option (Nat × Bool)} {x y c : Operand} {t t' : TypeId} {v : Value} {i : Nat} {b : Builtin} {xs : Array Operand} {at' : Array TypeId} {u : UnOp} {pp : Array (Nat × Operand)}
theorem y_is_move (h : Y P B n w0 ⟨d, .move x, ty, ps, af, g⟩ T H v) : Y P B n w0 ⟨d, .move x, ty, ps, af, g⟩ T H v := h
theorem y_is_assign (h : Y P B n w0 ⟨d, .assign x, ty, ps, af, g⟩ T H v) : Y P B n w0 ⟨d, .assign x, ty, ps, af, g⟩ T H v := h
theorem y_is_pick (h : Y P B n w0 ⟨d, .pick c x y, ty, ps, af, g⟩ T H v) : Y P B n w0 ⟨d, .pick c x y, ty, ps, af, g⟩ T H v := h
theorem y_is_fieldAddr (h : Y P B n w0 ⟨d, .fieldAddr t x i, ty, ps, af, g⟩ T H v) : Y P B n w0 ⟨d, .fieldAddr t x i, ty, ps, af, g⟩ T H v := h
theorem y_is_nil (h : Y P B n w0 ⟨d, .nilCheck x, ty, ps, af, g⟩ T H v) : Y P B n w0 ⟨d, .nilCheck x, ty, ps, af, g⟩ T H v := h
theorem y_is_un (h : Y P B n w0 ⟨d, .unOp u t x, ty, ps, af, g⟩ T H v) : Y P B n w0 ⟨d, .unOp u t x, ty, ps, af, g⟩ T H v := h
theorem y_is_extract (h : Y P B n w0 ⟨d, .extract x i, ty, ps, af, g⟩ T H v) : Y P B n w0 ⟨d, .extract x i, ty, ps, af, g⟩ T H v := h
theorem y_is_field (h : Y P B n w0 ⟨d, .field t x i, ty, ps, af, g⟩ T H v) : Y P B n w0 ⟨d, .field t x i, ty, ps, af, g⟩ T H v := h
theorem y_is_index (h : Y P B n w0 ⟨d, .index t x y, ty, ps, af, g⟩ T H v) : Y P B n w0 ⟨d, .index t x y, ty, ps, af, g⟩ T H v := h
theorem y_is_bcall (h : Y P B n w0 ⟨d, .call ⟨.builtin b, xs, at'⟩, ty, ps, af, g⟩ T H v) : Y P B n w0 ⟨d, .call ⟨.builtin b, xs, at'⟩, ty, ps, af, g⟩ T H v := h
theorem y_is_s2a (h : Y P B n w0 ⟨d, .sliceToArrayPointer t x, ty, ps, af, g⟩ T H v) : Y P B n w0 ⟨d, .sliceToArrayPointer t x, ty, ps, af, g⟩ T H v := h
theorem y_is_build (h : Y P B n w0 ⟨d, .build t pp, ty, ps, af, g⟩ T H v) : Y P B n w0 ⟨d, .build t pp, ty, ps, af, g⟩ T H v := h
variable {ι : Type} {V : ι → Value} {G : ι → List Blk} {f : FuncId} {len : Nat}
theorem d_is_alloc (h : D P B n w0 ⟨d, .alloc t, ty, ps, af, g⟩ T H V G) : D P B n w0 ⟨d, .alloc t, ty, ps, af, g⟩ T H V G := h
theorem d_is_box (h : D P B n w0 ⟨d, .box t x, ty, ps, af, g⟩ T H V G) : D P B n w0 ⟨d, .box t x, ty, ps, af, g⟩ T H V G := h
theorem d_is_store (h : D P B n w0 ⟨d, .store t x y, ty, ps, af, g⟩ T H V G) : D P B n w0 ⟨d, .store t x y, ty, ps, af, g⟩ T H V G := h
theorem d_is_bslice (h : D P B n w0 ⟨d, .buildSlice t len pp, ty, ps, af, g⟩ T H V G) : D P B n w0 ⟨d, .buildSlice t len pp, ty, ps, af, g⟩ T H V G := h
theorem d_is_bcall (h : D P B n w0 ⟨d, .call ⟨.builtin b, xs, at'⟩, ty, ps, af, g⟩ T H V G) : D P B n w0 ⟨d, .call ⟨.builtin b, xs, at'⟩, ty, ps, af, g⟩ T H V G := h
theorem d_is_fcall (h : D P B n w0 ⟨d, .call ⟨.value (.func f), xs, at'⟩, ty, ps, af, g⟩ T H V G) : D P B n w0 ⟨d, .call ⟨.value (.func f), xs, at'⟩, ty, ps, af, g⟩ T H V G := h
theorem d_is_make (h : D P B n w0 ⟨d, .makeSlice t x y, ty, ps, af, g⟩ T H V G) : D P B n w0 ⟨d, .makeSlice t x y, ty, ps, af, g⟩ T H V G := h
end
section
variable {P : Program} {B : Foot} {n : Nat} {w0 : World} {Q : Exit → Act → World → Prop} {T : Tm} {H H0 : List Blk} {ops : Array Oper} {l tl : List Oper} {d f : Nat} {done : Array Bool} {v : Value} {op : Op} {ty : TypeId} {ps : String} {af : Array Edge}
theorem w_y0 (hy : Y P B n w0 ⟨some d, op, ty, ps, af, none⟩ T H v) (hn : d < n) (k : W P B n w0 ops Q l ((d, v) :: T) H) : W P B n w0 ops Q (⟨some d, op, ty, ps, af, none⟩ :: l) T H := w_y (wn_none rfl) hy rfl hn k
theorem q_y0 (hy : Y P B n w0 ⟨some d, op, ty, ps, af, none⟩ T H v) (hn : d < n) (k : WQ P B n w0 ops Q tl l ((d, v) :: T) H) : WQ P B n w0 ops Q tl (⟨some d, op, ty, ps, af, none⟩ :: l) T H := q_y (wn_none rfl) hy rfl hn k
theorem sq_y0 (hy : Y P B n w0 ⟨some d, op, ty, ps, af, none⟩ T H0 v) (hn : d < n) (k : SQ P B n w0 ops Q H0 tl H l ((d, v) :: T)) : SQ P B n w0 ops Q H0 tl H (⟨some d, op, ty, ps, af, none⟩ :: l) T := sq_y (wn_none rfl) hy rfl hn k
theorem sqa_y0 (hy : Y P B n w0 ⟨some d, op, ty, ps, af, none⟩ T H0 v) (hn : d < n) (k : SQA P B n w0 ops Q H0 f done H l ((d, v) :: T)) : SQA P B n w0 ops Q H0 f done H (⟨some d, op, ty, ps, af, none⟩ :: l) T := sqa_y (wn_none rfl) hy rfl hn k
theorem s_y0 (hy : Y P B n w0 ⟨some d, op, ty, ps, af, none⟩ T H v) [hs : SubH H0 H] (hn : d < n) (k : S P B n w0 ops Q H0 l ((d, v) :: T) H) : S P B n w0 ops Q H0 (⟨some d, op, ty, ps, af, none⟩ :: l) T H := s_y (wn_none rfl) hy rfl hn k
theorem so_y0 (hy : Y P B n w0 ⟨some d, op, ty, ps, af, none⟩ T H v) [hs : SubH H0 H] (hn : d < n) (k : SA P B n w0 ops Q H0 f done ((d, v) :: T) H) : SO P B n w0 ops Q H0 f done ⟨some d, op, ty, ps, af, none⟩ T H := so_y (wn_none rfl) hy rfl hn k
end
/-! ### Regions that draw their order: which law serves -/
/-- Does an operation turn memory? 'E': the callees that do. -/
def isEff (E : List Nat) (o : Oper) : Bool := match o.op with
  | .store .. | .alloc .. | .box .. | .mapUpdate .. | .insert .. | .makeMap .. | .makeSlice .. | .buildSlice .. | .entryStore .. | .mapEntry .. | .makeFunc .. => true
  | .call ⟨.builtin .append, _, _⟩ | .call ⟨.builtin .copy, _, _⟩ | .call ⟨.builtin .delete, _, _⟩ | .call ⟨.builtin .clear, _, _⟩ => true
  | .call ⟨.value (.func f), _, _⟩ => E.contains f
  | _ => false
def noEff (E : List Nat) : List Oper → Bool
  | [] => true
  | o :: l => !isEff E o && noEff E l
def firstEff (E : List Nat) : List Oper → Nat
  | [] => 0
  | o :: l => bif isEff E o then 0 else firstEff E l + 1
def takeQ (E : List Nat) : List Oper → List Oper
  | [] => []
  | o :: l => bif isEff E o then [] else o :: takeQ E l
def dropQ (E : List Nat) : List Oper → List Oper
  | [] => []
  | o :: l => bif isEff E o then o :: l else dropQ E l
theorem takeQ_eq (E : List Nat) : ∀ l : List Oper, l.take (firstEff E l) = takeQ E l
  | [] => rfl
  | o :: l => by
    unfold firstEff takeQ
    cases isEff E o <;> simp [takeQ_eq E l]
theorem dropQ_eq (E : List Nat) : ∀ l : List Oper, l.drop (firstEff E l) = dropQ E l
  | [] => rfl
  | o :: l => by
    unfold firstEff dropQ
    cases isEff E o <;> simp [dropQ_eq E l]
def idxs (p : Oper → Bool) : List Oper → Nat → List Nat
  | [], _ => []
  | o :: l, i => bif p o then i :: idxs p l (i + 1) else idxs p l (i + 1)
def keepP (p : Oper → Bool) : List Oper → List Oper
  | [] => []
  | o :: l => bif p o then o :: keepP p l else keepP p l
theorem nth_app : ∀ (pre : List Oper) (o : Oper) (l : List Oper), nth (pre ++ o :: l) pre.length = o
  | [], _, _ => rfl
  | _ :: pre, o, l => by simpa [nth] using nth_app pre o l
theorem pick_idxs (p : Oper → Bool) : ∀ (l pre : List Oper), pick (pre ++ l) (idxs p l pre.length) = keepP p l
  | [], _ => rfl
  | o :: l, pre => by
    have ih := pick_idxs p l (pre ++ [o])
    rw [List.append_assoc, List.singleton_append, List.length_append, List.length_cons, List.length_nil] at ih
    unfold idxs keepP
    cases p o with
    | true => simp only [cond_true, pick]; rw [nth_app, ih]
    | false => simpa using ih
section
variable {P : Program} {B : Foot} {n : Nat} {w0 : World} {Q : Exit → Act → World → Prop} {T : Tm} {H : List Blk} {l : List Oper} {id : Nat}
theorem c_drawA (E : List Nat) (he : noEff E l = true) (hm : P.follows .mixedOrders = true) (hB : Region.lexB .any l.toArray = true) (h : WQ P B n w0 l.toArray Q [] l T H) : C P B n w0 Q (.region id l.toArray true) T H := c_draw hm hB h
theorem c_tailA (E : List Nat) (hm : P.follows .mixedOrders = true) (hB : Region.lexTailB .any l.toArray (firstEff E l) = true) (h : WQ P B n w0 l.toArray Q (dropQ E l) (takeQ E l) T H) : C P B n w0 Q (.region id l.toArray true) T H :=
  c_tail (firstEff E l) hm hB (by rw [takeQ_eq, dropQ_eq]; exact h)
theorem c_mixA (E : List Nat) (H0 : List Blk) (hm : P.follows .mixedOrders = true) (hB : mixB l (idxs (fun o => !isEff E o) l 0) (idxs (isEff E) l 0) = true) [hs : SubH H0 H] (h : SQ P B n w0 l.toArray Q H0 (keepP (isEff E) l) H (keepP (fun o => !isEff E o) l) T) : C P B n w0 Q (.region id l.toArray true) T H :=
  c_mix _ _ H0 hm hB (by
    have e1 := pick_idxs (isEff E) l []
    have e2 := pick_idxs (fun o => !isEff E o) l []
    simp only [List.nil_append, List.length_nil] at e1 e2
    rw [e1, e2]
    exact h)
theorem c_treeA (E : List Nat) (H0 : List Blk) (hm : P.follows .mixedOrders = true) (hB : treeB l (idxs (fun o => !isEff E o) l 0) (idxs (isEff E) l 0).length = true) [hs : SubH H0 H] (h : SQA P B n w0 l.toArray Q H0 (idxs (isEff E) l 0).length (doneBy (idxs (fun o => !isEff E o) l 0) (Array.replicate l.length false)) H (keepP (fun o => !isEff E o) l) T) : C P B n w0 Q (.region id l.toArray true) T H :=
  c_tree _ _ H0 hm hB (by
    have e2 := pick_idxs (fun o => !isEff E o) l []
    simp only [List.nil_append, List.length_nil] at e2
    rw [e2]
    exact h)
end
end Sl
end Go.Proofs.Ytiolijpamidpfaa
