/-
  A run told by lists: what comes behind a region is hidden while its operations are walked; what an operation yields or does, found by itself (the proofs of the last hypotheses are tried in turn where they are left out). Over any program; no conditions beyond those in each statement.
-/
import Derived.Test.YtiolijpamidpfaaSlEq
namespace Go.Proofs.Ytiolijpamidpfaa
open Go.RowKit
namespace Sl
set_option linter.unusedVariables false
/-- Which slots a region's operations write. -/
def nthD : List (Option Nat) → Nat → Option Nat
  | [], _ => none
  | x :: _, 0 => x
  | _ :: l, i + 1 => nthD l i
class Dsts (ops : Array Oper) (D : outParam (List (Option Nat))) : Prop where
  h : ∀ j, (ops[j]?).bind (·.dst) = nthD D j
class DstL (l : List Oper) (D : outParam (List (Option Nat))) : Prop where
  h : ∀ j, (l[j]?).bind (·.dst) = nthD D j
instance : DstL [] [] := ⟨fun j => by simp [nthD]⟩
instance (l : List Oper) (D : List (Option Nat)) (d : Option Nat) (op : Op) (ty : TypeId) (ps : String) (af : Array Edge) (g : Option (Nat × Bool)) [h : DstL l D] : DstL (⟨d, op, ty, ps, af, g⟩ :: l) (d :: D) := ⟨fun j => by
  cases j with
  | zero => rfl
  | succ j => simpa [nthD] using h.h j⟩
theorem DstL.d {l : List Oper} {D : List (Option Nat)} (h : DstL l D) : Dsts l.toArray D := ⟨fun j => by simpa using h.h j⟩
/-- What comes behind. -/
class Hq (Q : Exit → Act → World → Prop) (Q0 : outParam (Exit → Act → World → Prop)) : Prop where
  h : Q = Q0
def gvD (D : List (Option Nat)) (T : Tm) (j : Nat) : Option Bool :=
  match nthD D j with
  | some d => match find T d with
    | some (.bool b) => some b
    | _ => none
  | none => none
theorem gv_d {ops : Array Oper} {D : List (Option Nat)} [h : Dsts ops D] {T : Tm} {j : Nat} {b : Bool} (e : gvD D T j = some b) : gv ops T j = some b := by
  unfold gv
  rw [h.h j]
  exact e
section
variable {P : Program} {B : Foot} {n : Nat} {w0 : World} {Q Q0 : Exit → Act → World → Prop} {T : Tm} {H H0 : List Blk} {ops : Array Oper} {l tl : List Oper} {o : Oper} {j dj d f id : Nat} {want b : Bool} {p : Prop} {done : Array Bool} {e : Exit} {D : List (Option Nat)}
theorem e_hq [hq : Hq Q Q0] (h : E B n w0 Q0 e T H) : E B n w0 Q e T H := hq.h ▸ h
theorem wn_d [hd : Dsts ops D] (h : o.guard = some (j, want)) (hg : gvD D T j = some b) (hb : b = want) : Wn n ops T o := wn_some h (gv_d hg) hb
theorem w_skipD [hD : Dsts ops D] (h : o.guard = some (j, want)) (hg : gvD D T j = some b) (hb : (b == want) = false) (hd : o.dst = some d) (hn : d < n) (k : W P B n w0 ops Q l ((d, undef) :: T) H) : W P B n w0 ops Q (o :: l) T H := w_skip h (gv_d hg) hb hd hn k
theorem w_skip0D [hD : Dsts ops D] (h : o.guard = some (j, want)) (hg : gvD D T j = some b) (hb : (b == want) = false) (hd : o.dst = none) (k : W P B n w0 ops Q l T H) : W P B n w0 ops Q (o :: l) T H := w_skip0 h (gv_d hg) hb hd k
theorem q_skipD [hD : Dsts ops D] (h : o.guard = some (j, want)) (hg : gvD D T j = some b) (hb : (b == want) = false) (hd : o.dst = some d) (hn : d < n) (k : WQ P B n w0 ops Q tl l ((d, undef) :: T) H) : WQ P B n w0 ops Q tl (o :: l) T H := q_skip h (gv_d hg) hb hd hn k
theorem sq_skipD [hD : Dsts ops D] (h : o.guard = some (j, want)) (hg : gvD D T j = some b) (hb : (b == want) = false) (hd : o.dst = some d) (hn : d < n) (k : SQ P B n w0 ops Q H0 tl H l ((d, undef) :: T)) : SQ P B n w0 ops Q H0 tl H (o :: l) T := sq_skip h (gv_d hg) hb hd hn k
theorem s_skipD [hD : Dsts ops D] (h : o.guard = some (j, want)) (hg : gvD D T j = some b) (hb : (b == want) = false) (hd : o.dst = some d) (hn : d < n) (k : S P B n w0 ops Q H0 l ((d, undef) :: T) H) : S P B n w0 ops Q H0 (o :: l) T H := s_skip h (gv_d hg) hb hd hn k
theorem s_skip0D [hD : Dsts ops D] (h : o.guard = some (j, want)) (hg : gvD D T j = some b) (hb : (b == want) = false) (hd : o.dst = none) [hs : SubH H0 H] (k : S P B n w0 ops Q H0 l T H) : S P B n w0 ops Q H0 (o :: l) T H := s_skip0 h (gv_d hg) hb hd k
theorem sqa_skipD [hD : Dsts ops D] (h : o.guard = some (j, want)) (hg : gvD D T j = some b) (hb : (b == want) = false) (hd : o.dst = some d) (hn : d < n) (k : SQA P B n w0 ops Q H0 f done H l ((d, undef) :: T)) : SQA P B n w0 ops Q H0 f done H (o :: l) T := sqa_skip h (gv_d hg) hb hd hn k
theorem so_skipD [hD : Dsts ops D] (h : o.guard = some (j, want)) (hg : gvD D T j = some b) (hb : (b == want) = false) (hd : o.dst = some d) (hn : d < n) (k : SA P B n w0 ops Q H0 f done ((d, undef) :: T) H) : SO P B n w0 ops Q H0 f done o T H := so_skip h (gv_d hg) hb hd hn k
theorem w_splitD [hD : Dsts ops D] (hg : o.guard = some (j, want)) (hj : nthD D j = some dj) (hb : find T dj = some (.bool b)) [hp : BP b p] (ht : p → W P B n w0 ops Q (o :: l) ((dj, .bool true) :: T) H) (hf : ¬ p → W P B n w0 ops Q (o :: l) ((dj, .bool false) :: T) H) : W P B n w0 ops Q (o :: l) T H := w_split hg ((hD.h j).trans hj) hb ht hf
theorem q_splitD [hD : Dsts ops D] (hg : o.guard = some (j, want)) (hj : nthD D j = some dj) (hb : find T dj = some (.bool b)) [hp : BP b p] (ht : p → WQ P B n w0 ops Q tl (o :: l) ((dj, .bool true) :: T) H) (hf : ¬ p → WQ P B n w0 ops Q tl (o :: l) ((dj, .bool false) :: T) H) : WQ P B n w0 ops Q tl (o :: l) T H := q_split hg ((hD.h j).trans hj) hb ht hf
theorem sq_splitD [hD : Dsts ops D] (hg : o.guard = some (j, want)) (hj : nthD D j = some dj) (hb : find T dj = some (.bool b)) [hp : BP b p] (ht : p → SQ P B n w0 ops Q H0 tl H (o :: l) ((dj, .bool true) :: T)) (hf : ¬ p → SQ P B n w0 ops Q H0 tl H (o :: l) ((dj, .bool false) :: T)) : SQ P B n w0 ops Q H0 tl H (o :: l) T := sq_split hg ((hD.h j).trans hj) hb ht hf
theorem s_splitD [hD : Dsts ops D] (hg : o.guard = some (j, want)) (hj : nthD D j = some dj) (hb : find T dj = some (.bool b)) [hp : BP b p] (ht : p → S P B n w0 ops Q H0 (o :: l) ((dj, .bool true) :: T) H) (hf : ¬ p → S P B n w0 ops Q H0 (o :: l) ((dj, .bool false) :: T) H) : S P B n w0 ops Q H0 (o :: l) T H := s_split hg ((hD.h j).trans hj) hb ht hf
theorem sqa_splitD [hD : Dsts ops D] (hg : o.guard = some (j, want)) (hj : nthD D j = some dj) (hb : find T dj = some (.bool b)) [hp : BP b p] (ht : p → SQA P B n w0 ops Q H0 f done H (o :: l) ((dj, .bool true) :: T)) (hf : ¬ p → SQA P B n w0 ops Q H0 f done H (o :: l) ((dj, .bool false) :: T)) : SQA P B n w0 ops Q H0 f done H (o :: l) T := sqa_split hg ((hD.h j).trans hj) hb ht hf
theorem so_splitD [hD : Dsts ops D] (hg : o.guard = some (j, want)) (hj : nthD D j = some dj) (hb : find T dj = some (.bool b)) [hp : BP b p] (ht : p → SO P B n w0 ops Q H0 f done o ((dj, .bool true) :: T) H) (hf : ¬ p → SO P B n w0 ops Q H0 f done o ((dj, .bool false) :: T) H) : SO P B n w0 ops Q H0 f done o T H := so_split hg ((hD.h j).trans hj) hb ht hf
theorem c_rg [hl : DstL l D] (h : ∀ ops Q, Dsts ops D → Hq Q Q0 → W P B n w0 ops Q l T H) : C P B n w0 Q0 (.region id l.toArray false) T H := c_region (h _ _ hl.d ⟨rfl⟩)
theorem c_dr (E : List Nat) [hl : DstL l D] (h : ∀ ops Q, Dsts ops D → Hq Q Q0 → WQ P B n w0 ops Q [] l T H) (he : noEff E l = true := by rfl) (hm : P.follows .mixedOrders = true := by kernel_rfl) (hB : Region.lexB .any l.toArray = true := by decide +kernel) : C P B n w0 Q0 (.region id l.toArray true) T H := c_draw hm hB (h _ _ hl.d ⟨rfl⟩)
theorem c_tl (E : List Nat) [hl : DstL l D] (h : ∀ ops Q, Dsts ops D → Hq Q Q0 → WQ P B n w0 ops Q (dropQ E l) (takeQ E l) T H) (hm : P.follows .mixedOrders = true := by kernel_rfl) (hB : Region.lexTailB .any l.toArray (firstEff E l) = true := by decide +kernel) : C P B n w0 Q0 (.region id l.toArray true) T H := c_tailA E hm hB (h _ _ hl.d ⟨rfl⟩)
theorem pick_range : ∀ (k : Nat) (l pre : List Oper), k ≤ l.length → pick (pre ++ l) (List.range' pre.length k) = l.take k
  | 0, l, pre, _ => by simp [pick]
  | k + 1, [], pre, h => by simp at h
  | k + 1, o :: l, pre, h => by
    have ih := pick_range k l (pre ++ [o]) (by simpa using h)
    rw [List.append_assoc, List.singleton_append, List.length_append, List.length_cons, List.length_nil] at ih
    rw [List.range'_succ, pick, nth_app, ih, List.take_succ_cons]
theorem firstEff_le (E : List Nat) : ∀ l : List Oper, firstEff E l ≤ l.length
  | [] => Nat.le_refl _
  | o :: l => by
    unfold firstEff
    have := firstEff_le E l
    cases isEff E o <;> simp
    exact this
theorem c_mx (E : List Nat) (H0 : List Blk) [hs : SubH H0 H] [hl : DstL l D] (h : ∀ ops Q, Dsts ops D → Hq Q Q0 → SQ P B n w0 ops Q H0 (dropQ E l) H (takeQ E l) T) (hm : P.follows .mixedOrders = true := by kernel_rfl) (hB : mixB l (List.range' 0 (firstEff E l)) (List.range' (firstEff E l) (l.length - firstEff E l)) = true := by decide +kernel) : C P B n w0 Q0 (.region id l.toArray true) T H :=
  c_mix _ _ H0 hm hB (by
    have hle := firstEff_le E l
    have e1 := pick_range (firstEff E l) l [] hle
    have e2 := pick_range (l.length - firstEff E l) (l.drop (firstEff E l)) (l.take (firstEff E l)) (by simp)
    rw [List.take_append_drop, List.length_take, Nat.min_eq_left hle, List.take_of_length_le (by simp), dropQ_eq] at e2
    simp only [List.nil_append, List.length_nil] at e1
    rw [takeQ_eq] at e1
    rw [e1, e2]
    exact h _ _ hl.d ⟨rfl⟩)
theorem c_mxI (hd tls : List Nat) (H0 : List Blk) [hs : SubH H0 H] [hl : DstL l D] (h : ∀ ops Q, Dsts ops D → Hq Q Q0 → SQ P B n w0 ops Q H0 (pick l tls) H (pick l hd) T) (hm : P.follows .mixedOrders = true := by kernel_rfl) (hB : mixB l hd tls = true := by decide +kernel) : C P B n w0 Q0 (.region id l.toArray true) T H := c_mix hd tls H0 hm hB (h _ _ hl.d ⟨rfl⟩)
theorem c_trI (hd : List Nat) (f : Nat) (H0 : List Blk) [hs : SubH H0 H] [hl : DstL l D] (h : ∀ ops Q, Dsts ops D → Hq Q Q0 → ops = l.toArray → SQA P B n w0 ops Q H0 f (doneBy hd (Array.replicate l.length false)) H (pick l hd) T) (hm : P.follows .mixedOrders = true := by kernel_rfl) (hB : treeB l hd f = true := by decide +kernel) : C P B n w0 Q0 (.region id l.toArray true) T H := c_tree hd f H0 hm hB (h _ _ hl.d ⟨rfl⟩ rfl)
theorem wn_a (h : Wn n ops T o := by first | exact wn_none rfl | exact wn_d rfl rfl rfl) : Wn n ops T o := h
end
section
variable {P : Program} {B : Foot} {n : Nat} {w0 : World} {Q : Exit → Act → World → Prop} {T : Tm} {H H0 : List Blk} {ops : Array Oper} {l tl : List Oper} {d f id : Nat} {done : Array Bool} {op : Op} {ty : TypeId} {ps : String} {af : Array Edge} {g : Nat × Bool} {gg : Option (Nat × Bool)} {dd : Option Tmp} {fn : FuncId} {xs : Array Operand} {ats : Array TypeId} {c : Operand} {x y : Code} {oa : Array Oper}
theorem isW0 (h : W P B n w0 ops Q (⟨some d, op, ty, ps, af, none⟩ :: l) T H) : W P B n w0 ops Q (⟨some d, op, ty, ps, af, none⟩ :: l) T H := h
theorem isWn (h : W P B n w0 ops Q (⟨none, op, ty, ps, af, none⟩ :: l) T H) : W P B n w0 ops Q (⟨none, op, ty, ps, af, none⟩ :: l) T H := h
theorem isWg (h : W P B n w0 ops Q (⟨dd, op, ty, ps, af, some g⟩ :: l) T H) : W P B n w0 ops Q (⟨dd, op, ty, ps, af, some g⟩ :: l) T H := h
theorem isWc (h : W P B n w0 ops Q (⟨dd, .call ⟨.value (.func fn), xs, ats⟩, ty, ps, af, gg⟩ :: l) T H) : W P B n w0 ops Q (⟨dd, .call ⟨.value (.func fn), xs, ats⟩, ty, ps, af, gg⟩ :: l) T H := h
theorem isQ0 (h : WQ P B n w0 ops Q tl (⟨some d, op, ty, ps, af, none⟩ :: l) T H) : WQ P B n w0 ops Q tl (⟨some d, op, ty, ps, af, none⟩ :: l) T H := h
theorem isQn (h : WQ P B n w0 ops Q tl (⟨none, op, ty, ps, af, none⟩ :: l) T H) : WQ P B n w0 ops Q tl (⟨none, op, ty, ps, af, none⟩ :: l) T H := h
theorem isQg (h : WQ P B n w0 ops Q tl (⟨dd, op, ty, ps, af, some g⟩ :: l) T H) : WQ P B n w0 ops Q tl (⟨dd, op, ty, ps, af, some g⟩ :: l) T H := h
theorem isQc (h : WQ P B n w0 ops Q tl (⟨dd, .call ⟨.value (.func fn), xs, ats⟩, ty, ps, af, gg⟩ :: l) T H) : WQ P B n w0 ops Q tl (⟨dd, .call ⟨.value (.func fn), xs, ats⟩, ty, ps, af, gg⟩ :: l) T H := h
theorem isS0 (h : S P B n w0 ops Q H0 (⟨some d, op, ty, ps, af, none⟩ :: l) T H) : S P B n w0 ops Q H0 (⟨some d, op, ty, ps, af, none⟩ :: l) T H := h
theorem isSn (h : S P B n w0 ops Q H0 (⟨none, op, ty, ps, af, none⟩ :: l) T H) : S P B n w0 ops Q H0 (⟨none, op, ty, ps, af, none⟩ :: l) T H := h
theorem isSg (h : S P B n w0 ops Q H0 (⟨dd, op, ty, ps, af, some g⟩ :: l) T H) : S P B n w0 ops Q H0 (⟨dd, op, ty, ps, af, some g⟩ :: l) T H := h
theorem isSc (h : S P B n w0 ops Q H0 (⟨dd, .call ⟨.value (.func fn), xs, ats⟩, ty, ps, af, gg⟩ :: l) T H) : S P B n w0 ops Q H0 (⟨dd, .call ⟨.value (.func fn), xs, ats⟩, ty, ps, af, gg⟩ :: l) T H := h
theorem isSQ0 (h : SQ P B n w0 ops Q H0 tl H (⟨some d, op, ty, ps, af, none⟩ :: l) T) : SQ P B n w0 ops Q H0 tl H (⟨some d, op, ty, ps, af, none⟩ :: l) T := h
theorem isSQn (h : SQ P B n w0 ops Q H0 tl H (⟨none, op, ty, ps, af, none⟩ :: l) T) : SQ P B n w0 ops Q H0 tl H (⟨none, op, ty, ps, af, none⟩ :: l) T := h
theorem isSQg (h : SQ P B n w0 ops Q H0 tl H (⟨dd, op, ty, ps, af, some g⟩ :: l) T) : SQ P B n w0 ops Q H0 tl H (⟨dd, op, ty, ps, af, some g⟩ :: l) T := h
theorem isSQc (h : SQ P B n w0 ops Q H0 tl H (⟨dd, .call ⟨.value (.func fn), xs, ats⟩, ty, ps, af, gg⟩ :: l) T) : SQ P B n w0 ops Q H0 tl H (⟨dd, .call ⟨.value (.func fn), xs, ats⟩, ty, ps, af, gg⟩ :: l) T := h
theorem isSQA0 (h : SQA P B n w0 ops Q H0 f done H (⟨some d, op, ty, ps, af, none⟩ :: l) T) : SQA P B n w0 ops Q H0 f done H (⟨some d, op, ty, ps, af, none⟩ :: l) T := h
theorem isSQAn (h : SQA P B n w0 ops Q H0 f done H (⟨none, op, ty, ps, af, none⟩ :: l) T) : SQA P B n w0 ops Q H0 f done H (⟨none, op, ty, ps, af, none⟩ :: l) T := h
theorem isSQAg (h : SQA P B n w0 ops Q H0 f done H (⟨dd, op, ty, ps, af, some g⟩ :: l) T) : SQA P B n w0 ops Q H0 f done H (⟨dd, op, ty, ps, af, some g⟩ :: l) T := h
theorem isSQAc (h : SQA P B n w0 ops Q H0 f done H (⟨dd, .call ⟨.value (.func fn), xs, ats⟩, ty, ps, af, gg⟩ :: l) T) : SQA P B n w0 ops Q H0 f done H (⟨dd, .call ⟨.value (.func fn), xs, ats⟩, ty, ps, af, gg⟩ :: l) T := h
theorem isSO0 (h : SO P B n w0 ops Q H0 f done ⟨some d, op, ty, ps, af, none⟩ T H) : SO P B n w0 ops Q H0 f done ⟨some d, op, ty, ps, af, none⟩ T H := h
theorem isSOn (h : SO P B n w0 ops Q H0 f done ⟨none, op, ty, ps, af, none⟩ T H) : SO P B n w0 ops Q H0 f done ⟨none, op, ty, ps, af, none⟩ T H := h
theorem isSOg (h : SO P B n w0 ops Q H0 f done ⟨dd, op, ty, ps, af, some g⟩ T H) : SO P B n w0 ops Q H0 f done ⟨dd, op, ty, ps, af, some g⟩ T H := h
theorem isSOc (h : SO P B n w0 ops Q H0 f done ⟨dd, .call ⟨.value (.func fn), xs, ats⟩, ty, ps, af, gg⟩ T H) : SO P B n w0 ops Q H0 f done ⟨dd, .call ⟨.value (.func fn), xs, ats⟩, ty, ps, af, gg⟩ T H := h
theorem isCcond (h : C P B n w0 Q (.cond c x y) T H) : C P B n w0 Q (.cond c x y) T H := h
theorem isCrg (h : C P B n w0 Q (.region id oa false) T H) : C P B n w0 Q (.region id oa false) T H := h
theorem isCdr (h : C P B n w0 Q (.region id oa true) T H) : C P B n w0 Q (.region id oa true) T H := h
end
section
variable {P : Program} {B : Foot} {n : Nat} {w0 : World} {T : Tm} {H : List Blk} {o : Oper} {v : Value} {ops : Array Oper} {ι : Type} {V : ι → Value} {G : ι → List Blk}
theorem y_a (h : Y P B n w0 o T H v := by first | (apply y_is_move; first | exact y_move rfl) | (apply y_is_assign; first | exact y_assign rfl) | (apply y_is_load; first | exact y_load rfl (by rfl) | exact y_load_row rfl (by rfl) | exact y_load_cut rfl | exact y_ldI rfl (by omega) | exact y_ldR rfl (by assumption) (by decide) (by rfl) | exact y_ldR0 rfl (by assumption) (by rfl) | exact y_ldE rfl (by assumption) | exact y_ldIs rfl (by omega)) | (apply y_is_fieldAddr; first | exact y_fieldAddr0 rfl | exact y_fieldAddr rfl | exact y_fieldV rfl) | (apply y_isBin; first | (apply y_is_eql; first | exact y_eql_t rfl rfl (by decide) | exact y_eql_f rfl rfl (by decide) | exact y_eql rfl rfl) | (apply y_is_neq; first | exact y_neq_t rfl rfl (by decide) | exact y_neq_f rfl rfl (by decide) | exact y_neq rfl rfl) | (apply y_is_lss; first | exact y_lss_t rfl rfl (by decide) | exact y_lss_f rfl rfl (by decide) | exact y_lss rfl rfl) | (apply y_is_gtr; first | exact y_gtr_t rfl rfl (by decide) | exact y_gtr_f rfl rfl (by decide) | exact y_gtr rfl rfl) | (apply y_is_leq; first | exact y_leq_t rfl rfl (by decide) | exact y_leq_f rfl rfl (by decide) | exact y_leq rfl rfl) | (apply y_is_geq; first | exact y_geq_t rfl rfl (by decide) | exact y_geq_f rfl rfl (by decide) | exact y_geq rfl rfl) | exact y_seql rfl rfl | exact y_sneq rfl rfl | exact y_eqlA rfl rfl (by rfl) (by rfl) | exact y_neqA rfl rfl (by rfl) (by rfl) | exact y_beql rfl rfl (by rfl) | exact y_bneq rfl rfl (by rfl) | (apply y_is_add; first | exact y_add_i64 rfl rfl (by omega) (by omega) | exact y_add_u64 rfl rfl (by omega) (by omega) | exact y_add_u32 rfl rfl (by omega) (by omega) | exact y_add_u8 rfl rfl (by omega) (by omega) | exact y_add rfl rfl) | (apply y_is_sub; first | exact y_sub_i64 rfl rfl (by omega) (by omega) | exact y_sub_u64 rfl rfl (by omega) (by omega) | exact y_sub_u32 rfl rfl (by omega) (by omega) | exact y_sub_u8 rfl rfl (by omega) (by omega) | exact y_sub rfl rfl) | (apply y_is_mul; first | exact y_mul_i64 rfl rfl (by omega) (by omega) | exact y_mul_u64 rfl rfl (by omega) (by omega) | exact y_mul_u32 rfl rfl (by omega) (by omega) | exact y_mul_u8 rfl rfl (by omega) (by omega) | exact y_mul rfl rfl) | exact y_and rfl rfl | exact y_or rfl rfl | (apply y_is_shl; first | exact y_shl_i64 rfl rfl (by omega) (by omega) | exact y_shl_u32 rfl rfl (by omega) (by omega) | exact y_shl_u64 rfl rfl (by omega) (by omega) | exact y_shl_u8 rfl rfl (by omega) (by omega) | exact y_shl rfl rfl) | (apply y_is_shr; first | exact y_shr rfl rfl | exact y_shrN rfl rfl) | (apply y_is_rem; first | exact y_rem_nn rfl rfl (by omega) (by omega)) | (apply y_is_quo; first | exact y_quo_i64 rfl rfl (by omega) (by omega) (by omega) | exact y_quo_u64 rfl rfl (by omega) (by omega) (by omega) | exact y_quo_u32 rfl rfl (by omega) (by omega) (by omega) | exact y_quo_u8 rfl rfl (by omega) (by omega) (by omega)) | exact y_xor rfl rfl | exact y_andNot rfl rfl) | (apply y_is_ixa; first | exact y_indexAddrL rfl rfl (by decide) | exact y_ixVl rfl rfl (by omega) | exact y_ixVn rfl rfl (by omega) | exact y_ixVm rfl rfl (by omega) | exact y_ixV1 rfl rfl (by omega) (by omega) | exact y_ixV rfl rfl (by omega) (by omega) | exact y_indexAddr1 rfl rfl (by omega) | exact y_indexAddr rfl rfl (by omega) (by omega)) | (apply y_is_pick; first | exact y_pick_t rfl rfl | exact y_pick_f rfl rfl) | (apply y_is_conv; first | exact y_conv_i64 rfl (by omega) (by omega) | exact y_conv_u64 rfl (by omega) (by omega) | exact y_conv_u32 rfl (by omega) (by omega) | exact y_conv_u8 rfl (by omega) (by omega) | exact y_conv rfl | exact y_bstrV rfl (by rfl) (by rfl)) | (apply y_is_extract; first | exact y_extract rfl (by rfl)) | (apply y_is_bcall; first | exact y_lenV rfl rfl | exact y_len rfl rfl) | (apply y_is_slice; first | exact y_slL rfl rfl (by omega) (by omega) | exact y_slH rfl rfl (by omega) (by omega) | exact y_slLH rfl rfl rfl (by omega) (by omega) (by omega)) | (apply y_is_nil; first | exact y_nil rfl) | (apply y_is_un; first | exact y_not rfl) | (apply y_is_field; first | exact y_field rfl (by rfl) | exact y_field_agg rfl) | (apply y_is_index; first | exact y_index rfl rfl (by omega) (by omega) (by rfl)) | (apply y_is_s2a; first | exact y_s2aV rfl (by decide) (by omega)) | (apply y_is_build; first | exact y_buildA0 | exact y_buildA (by repeat (first | exact ba_nil | apply ba_one rfl rfl)) | exact y_build0 (by kernel_rfl) | exact y_build (m := 0) (by kernel_rfl) (by repeat (first | exact b_nil | apply b_one rfl rfl | apply b_row rfl rfl)))) : Y P B n w0 o T H v := h
theorem d_a (h : D P B n w0 o T H V G := by first | (apply d_is_store; first | exact d_store rfl rfl (by rfl) | exact d_store_all rfl rfl (by rfl) (by rfl) (by rfl) | exact d_store_row rfl rfl (by rfl) (by rfl) | exact d_stV rfl rfl (by omega)) | (apply d_is_box; first | exact d_box rfl | exact d_box1 rfl (by rfl)) | exact d_alloc | (apply d_is_bslice; first | exact d_lit1 rfl rfl rfl (by decide)) | (apply d_is_bcall; first | exact d_app rfl rfl rfl (by first | omega | (unfold maxLen; omega)) (by omega) | exact d_appN rfl rfl rfl (by first | omega | (unfold maxLen; omega)) (by omega))) : D P B n w0 o T H V G := h
end
end Sl
end Go.Proofs.Ytiolijpamidpfaa
