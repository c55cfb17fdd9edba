/-
  A region that draws its order and ends in operations that turn memory, each behind all before it; the head's operations only read. Over any program; no conditions beyond those in each statement.
-/
import Derived.Test.YtiolijpamidpfaaSlE
namespace Go.Proofs.Ytiolijpamidpfaa
open Go.RowKit
namespace Sl
set_option linter.unusedVariables false
section
variable {P : Program} {ops : Array Oper} {md : Region.Mode} {C : World → Prop}
/-- So many operations of the head come up, all of them quiet; then L. -/
def HeadWalk (P : Program) (md : Region.Mode) (ops : Array Oper) (C : World → Prop) (n : Nat) (L : Array Bool → Act → Prop) : Nat → Array Bool → Act → Prop
  | 0, done, a => L done a
  | k + 1, done, a => Region.ready md ops done ≠ [] ∧ ∀ i, i ∈ Region.ready md ops done → i < n ∧ qOp P ops C i (HeadWalk P md ops C n L k (done.setIfInBounds i true)) a

theorem HeadWalk.any {n g : Nat} {L : Array Bool → Act → Prop} {Q : Exit → Act → World → Prop} (hL : ∀ done a w, C w → L done a → wpAny P md ops Q g done a w) :
    ∀ (k : Nat) (done : Array Bool) (a : Act) (w : World), C w → HeadWalk P md ops C n L k done a → wpAny P md ops Q (k + g) done a w
  | 0, done, a, w, hw, h => by simpa using hL done a w hw h
  | k + 1, done, a, w, hw, h => by
    have e : k + 1 + g = (k + g) + 1 := by omega
    rw [e]
    refine ⟨fun h0 => absurd h0 h.1, fun i hi => ?_⟩
    exact wpOp_of_qOp hw (fun a' w' hw' h' => HeadWalk.any hL k _ a' w' hw' h') (h.2 i hi).2

/-- An operation of the head that may come up now, and that is apart from all that need not wait for it, may be taken first. -/
theorem HeadWalk.first {n i : Nat} {oi : Oper} {v : Value} {L : Array Bool → Act → Prop} (hi : ops[i]? = some oi) (hsel : ∀ (j : Nat) (o : Oper) cs b, ops[j]? = some o → o.op ≠ .select cs b)
    (hs : Region.sinkB md ops n = true) (hc : Region.chainB md ops n = true) (hn : n < ops.size) (hin : i < n) (hL : ∀ done a, L done a → ∀ j ∈ Region.ready md ops done, n ≤ j) :
    ∀ (k : Nat) (done : Array Bool) (a : Act), HeadInv md ops n done →
      (∀ j oj, ops[j]? = some oj → j ≠ i → done.getD j true = false → (∀ e ∈ oj.after, Region.binds md e = true → e.on ≠ i) → oi.apart ops oj = true) →
      i ∈ Region.ready md ops done → YieldsIn P ops C oi v a → HeadWalk P md ops C n L k (done.setIfInBounds i true) (a.put oi.dst v) → HeadWalk P md ops C n L (k + 1) done a := by
  intro k
  induction k with
  | zero =>
    intro done a inv _ hr hy H
    have hlow : ∀ j, j ∈ Region.ready md ops done → j < n := fun j hj => Nat.lt_of_not_le fun hle => tail_waits hs hc hn inv _ i rfl hin (mem_ready.1 hr).1 j hle hj
    refine ⟨fun h => (by rw [h] at hr; cases hr), fun j hj => ⟨hlow j hj, ?_⟩⟩
    by_cases e : j = i
    · subst e
      exact hy.qOp hi H
    · have h1 := hL _ _ H j (ready_mono hj e)
      have h2 := hlow j hj
      omega
  | succ k ih =>
    intro done a inv hfree hr hy H
    have hlow : ∀ j, j ∈ Region.ready md ops done → j < n := fun j hj => Nat.lt_of_not_le fun hle => tail_waits hs hc hn inv _ i rfl hin (mem_ready.1 hr).1 j hle hj
    refine ⟨fun h => (by rw [h] at hr; cases hr), fun j hj => ⟨hlow j hj, ?_⟩⟩
    by_cases e : j = i
    · subst e
      exact hy.qOp hi H
    · obtain ⟨hjun, oj, hoj, hall⟩ := mem_ready.1 hj
      have hiun := getD_both (mem_ready.1 hr).1
      have hnot : ∀ e ∈ oj.after, Region.binds md e = true → e.on ≠ i := fun e' he hb heq => by
        have := hall e' he hb
        rw [heq, hiun] at this
        cases this
      have hput := qOp_put hoj (hfree j oj hoj e hjun hnot) (fun cs b => hsel i oi cs b hi) (fun cs b => hsel j oj cs b hoj) hy (H.2 j (ready_mono hj e)).2
      refine qOp_mono (fun a' h3 => ih (done.setIfInBounds j true) a' (inv.set hj (hlow j hj)) (fun m om hm hmi hun hno => ?_) (ready_mono hr (Ne.symm e)) h3.1 ?_) hput
      · refine hfree m om hm hmi ?_ hno
        by_cases hjm : j = m
        · subst hjm
          exact hjun
        · rwa [getD_set_ne true hjm] at hun
      · rw [Array.setIfInBounds_comm _ _ e]
        exact h3.2

theorem HeadWalk.lex {n g : Nat} {Lq : Act → Prop} (hsel : Region.noSelect ops = true) (hs : Region.sinkB md ops n = true) (hc : Region.chainB md ops n = true) (hn : n < ops.size) :
    ∀ (l : List Oper) (k : Nat) (done : Array Bool) (a : Act), (∀ j, j < l.length → l[j]? = ops[k + j]?) → k + l.length = n → HeadInv md ops n done →
      Region.lexHead md ops g l.length k done = true → wpQuiet P ops C Lq l a →
      HeadWalk P md ops C n (fun done' a' => Region.seqB md ops g n done' = true ∧ Lq a') l.length done a
  | [], k, done, a, _, hk, _, hB, h => by
    obtain rfl : k = n := by simpa using hk
    exact ⟨by simpa [Region.lexHead] using hB, h⟩
  | o :: l, k, done, a, hl, hk, inv, hB, h => by
    have h0 : ops[k]? = some o := by simpa using (hl 0 (by simp)).symm
    simp only [List.length_cons, Region.lexHead, Bool.and_eq_true] at hB
    have hkn : k < n := by simp only [List.length_cons] at hk; omega
    have hr : k ∈ Region.ready md ops done := by simpa using hB.1.1
    have hq : qOp P ops C k (wpQuiet P ops C Lq l) a := by unfold qOp; simp only [h0]; exact h
    obtain ⟨v, hy, hK⟩ := yieldsIn_of_qOp h0 hq
    refine HeadWalk.first h0 (Region.noSelect_spec hsel) hs hc hn hkn (fun done' a' hL => seqB_ready hL.1) l.length done a inv (Region.free_spec h0 hB.1.2) hr hy ?_
    refine HeadWalk.lex hsel hs hc hn l (k + 1) _ _ (fun j hj => ?_) (by simp only [List.length_cons] at hk; omega) (inv.set hr hkn) hB.2 hK
    have := hl (j + 1) (by simp; omega)
    simpa [Nat.add_assoc, Nat.add_comm 1 j] using this

end
section
variable {P : Program} {B : Foot} {n : Nat} {w0 : World} {Q : Exit → Act → World → Prop} {T : Tm} {H : List Blk} {l : List Oper}
theorem c_tail {id : Nat} (m : Nat) (hm : P.follows .mixedOrders = true) (hB : Region.lexTailB .any l.toArray m = true) (h : WQ P B n w0 l.toArray Q (l.drop m) (l.take m) T H) : C P B n w0 Q (.region id l.toArray true) T H := .of fun a w hf hw => by
  simp only [Region.lexTailB, Bool.and_eq_true, decide_eq_true_eq] at hB
  obtain ⟨⟨⟨⟨hsel, hn⟩, hs⟩, hc⟩, hlex⟩ := hB
  have hn' : m < l.length := by simpa using hn
  have htl : (l.take m).length = m := by simp; omega
  have hdl : (l.drop m).length = l.toArray.size - m := by simp
  have inv0 : HeadInv .any l.toArray m (Array.replicate l.toArray.size false) :=
    ⟨by simp, fun j oj _ hl => (by rw [getD_replicate_false] at hl; cases hl), fun t _ ht => getD_in (by simpa using ht) (getD_replicate_false _ _)⟩
  have H0 := HeadWalk.lex (md := .any) (g := l.toArray.size - m) hsel hs hc hn (l.take m) 0 _ a (fun j hj => by
    have hj' : j < m := by rw [htl] at hj; exact hj
    simp [hj']) (by simpa using htl) inv0 (by rw [htl]; exact hlex) (h.run a hf)
  refine wp_region_any hm ?_
  have := HeadWalk.any (Q := Q) (g := l.toArray.size - m) (fun done a w' hw' hL => by
    have := wpAny_of_seq (md := .any) (Q' := Q) (l.drop m) m done a w' (fun j => by simp [List.getElem?_drop]) (by rw [hdl]; exact hL.1) (hL.2 w' hw')
    rwa [hdl] at this) _ _ _ _ hw.drew H0
  rw [htl, show m + (l.toArray.size - m) = l.toArray.size by omega] at this
  exact this
end
end Sl
end Go.Proofs.Ytiolijpamidpfaa
