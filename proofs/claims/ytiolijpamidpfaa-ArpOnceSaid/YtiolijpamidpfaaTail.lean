/-
  A region that draws its order and ends in operations that write, each behind all before it: the head's operations only read, and the head's callees may lay blocks of their own. One walk of the head in the order of the text serves every order. Over any program; no conditions beyond those in each statement.
-/
import Derived.Test.YtiolijpamidpfaaLaw
import Derived.StillTail
namespace Go.Proofs.Ytiolijpamidpfaa
open Go.RowKit
namespace Law
theorem boxf_at {bs : List (Array Value × TypeId)} {w w1 : World} {B : Nat} (h : Below B (allocs w bs) w1) (hB : w.heap.size + bs.length ≤ B) {i : Nat} {cs : Array Value} {t : TypeId} (hi : bs[i]? = some (cs, t)) (j : Nat) :
    w1.frozen? ⟨w.heap.size + i, j, none⟩ = false := by
  have hlt : i < bs.length := (List.getElem?_eq_some_iff.1 hi).1
  rw [h.frozen (p := ⟨w.heap.size + i, j, none⟩) (by show w.heap.size + i < B; omega)]
  unfold World.frozen?
  rw [allocs_at bs w i cs t hi]
  simp
section
variable {P : Program} {ops : Array Oper} {md : Region.Mode} {C : World → Prop}

/-- So many operations of the head come up, all of them quiet; then L. -/
def HeadWalk (P : Program) (md : Region.Mode) (ops : Array Oper) (C : World → Prop) (n : Nat) (L : Array Bool → Act → Prop) : Nat → Array Bool → Act → Prop
  | 0, done, a => L done a
  | k + 1, done, a => Region.ready md ops done ≠ [] ∧ ∀ i, i ∈ Region.ready md ops done → i < n ∧ qOp P ops C i (HeadWalk P md ops C n L k (done.setIfInBounds i true)) a

theorem HeadWalk.any {n g : Nat} {L : Array Bool → Act → Prop} {Q : Exit → Act → World → Prop} (hL : ∀ done a w, C w → L done a → wpAny P md ops Q g done a w) :
    ∀ (k : Nat) (done : Array Bool) (a : Act) (w : World), C w → HeadWalk P md ops C n L k done a → wpAny P md ops Q (k + g) done a w
  | 0, done, a, w, hw, h => by simpa using hL done a w hw h
  | k + 1, done, a, w, hw, h => by
    have e : k + 1 + g = (k + g) + 1 := by omega
    rw [e]
    refine ⟨fun h0 => absurd h0 h.1, fun i hi => ?_⟩
    exact wpOp_of_qOp hw (fun a' w' hw' h' => HeadWalk.any hL k _ a' w' hw' h') (h.2 i hi).2

/-- An operation of the head that may come up now, and that is apart from all that need not wait for it, may be taken first. -/
theorem HeadWalk.first {n i : Nat} {oi : Oper} {v : Value} {L : Array Bool → Act → Prop} (hi : ops[i]? = some oi) (hsel : ∀ (j : Nat) (o : Oper) cs b, ops[j]? = some o → o.op ≠ .select cs b)
    (hs : Region.sinkB md ops n = true) (hc : Region.chainB md ops n = true) (hn : n < ops.size) (hin : i < n) (hL : ∀ done a, L done a → ∀ j ∈ Region.ready md ops done, n ≤ j) :
    ∀ (k : Nat) (done : Array Bool) (a : Act), HeadInv md ops n done →
      (∀ j oj, ops[j]? = some oj → j ≠ i → done.getD j true = false → (∀ e ∈ oj.after, Region.binds md e = true → e.on ≠ i) → oi.apart ops oj = true) →
      i ∈ Region.ready md ops done → YieldsIn P ops C oi v a → HeadWalk P md ops C n L k (done.setIfInBounds i true) (a.put oi.dst v) → HeadWalk P md ops C n L (k + 1) done a := by
  intro k
  induction k with
  | zero =>
    intro done a inv _ hr hy H
    have hlow : ∀ j, j ∈ Region.ready md ops done → j < n := fun j hj => Nat.lt_of_not_le fun hle => tail_waits hs hc hn inv _ i rfl hin (mem_ready.1 hr).1 j hle hj
    refine ⟨fun h => (by rw [h] at hr; cases hr), fun j hj => ⟨hlow j hj, ?_⟩⟩
    by_cases e : j = i
    · subst e
      exact hy.qOp hi H
    · have h1 := hL _ _ H j (ready_mono hj e)
      have h2 := hlow j hj
      omega
  | succ k ih =>
    intro done a inv hfree hr hy H
    have hlow : ∀ j, j ∈ Region.ready md ops done → j < n := fun j hj => Nat.lt_of_not_le fun hle => tail_waits hs hc hn inv _ i rfl hin (mem_ready.1 hr).1 j hle hj
    refine ⟨fun h => (by rw [h] at hr; cases hr), fun j hj => ⟨hlow j hj, ?_⟩⟩
    by_cases e : j = i
    · subst e
      exact hy.qOp hi H
    · obtain ⟨hjun, oj, hoj, hall⟩ := mem_ready.1 hj
      have hiun := getD_both (mem_ready.1 hr).1
      have hnot : ∀ e ∈ oj.after, Region.binds md e = true → e.on ≠ i := fun e' he hb heq => by
        have := hall e' he hb
        rw [heq, hiun] at this
        cases this
      have hput := qOp_put hoj (hfree j oj hoj e hjun hnot) (fun cs b => hsel i oi cs b hi) (fun cs b => hsel j oj cs b hoj) hy (H.2 j (ready_mono hj e)).2
      refine qOp_mono (fun a' h3 => ih (done.setIfInBounds j true) a' (inv.set hj (hlow j hj)) (fun m om hm hmi hun hno => ?_) (ready_mono hr (Ne.symm e)) h3.1 ?_) hput
      · refine hfree m om hm hmi ?_ hno
        by_cases hjm : j = m
        · subst hjm
          exact hjun
        · rwa [getD_set_ne true hjm] at hun
      · rw [Array.setIfInBounds_comm _ _ e]
        exact h3.2

theorem HeadWalk.lex {n g : Nat} {Lq : Act → Prop} (hsel : Region.noSelect ops = true) (hs : Region.sinkB md ops n = true) (hc : Region.chainB md ops n = true) (hn : n < ops.size) :
    ∀ (l : List Oper) (k : Nat) (done : Array Bool) (a : Act), (∀ j, j < l.length → l[j]? = ops[k + j]?) → k + l.length = n → HeadInv md ops n done →
      Region.lexHead md ops g l.length k done = true → wpQuiet P ops C Lq l a →
      HeadWalk P md ops C n (fun done' a' => Region.seqB md ops g n done' = true ∧ Lq a') l.length done a
  | [], k, done, a, _, hk, _, hB, h => by
    obtain rfl : k = n := by simpa using hk
    exact ⟨by simpa [Region.lexHead] using hB, h⟩
  | o :: l, k, done, a, hl, hk, inv, hB, h => by
    have h0 : ops[k]? = some o := by simpa using (hl 0 (by simp)).symm
    simp only [List.length_cons, Region.lexHead, Bool.and_eq_true] at hB
    have hkn : k < n := by simp only [List.length_cons] at hk; omega
    have hr : k ∈ Region.ready md ops done := by simpa using hB.1.1
    have hq : qOp P ops C k (wpQuiet P ops C Lq l) a := by unfold qOp; simp only [h0]; exact h
    obtain ⟨v, hy, hK⟩ := yieldsIn_of_qOp h0 hq
    refine HeadWalk.first h0 (Region.noSelect_spec hsel) hs hc hn hkn (fun done' a' hL => seqB_ready hL.1) l.length done a inv (Region.free_spec h0 hB.1.2) hr hy ?_
    refine HeadWalk.lex hsel hs hc hn l (k + 1) _ _ (fun j hj => ?_) (by simp only [List.length_cons] at hk; omega) (inv.set hr hkn) hB.2 hK
    have := hl (j + 1) (by simp; omega)
    simpa [Nat.add_assoc, Nat.add_comm 1 j] using this

theorem wp_region_tail {id : Nat} {Q : Exit → Act → World → Prop} {a : Act} {B : Nat} {w0 w : World} {l : List Oper} (n : Nat) (hm : P.follows .mixedOrders = true) (hB : Region.lexTailB .any l.toArray n = true) (hb : Below B w0 w)
    (h : wpQuiet P l.toArray (fun w' => ∃ p : BelowOf B w0, w' = p.world) (fun a' => ∀ w', (∃ p : BelowOf B w0, w' = p.world) → wpList P l.toArray Q (l.drop n) a' w') (l.take n) a) : (Code.region id l.toArray true).wp P Q a w := by
  simp only [Region.lexTailB, Bool.and_eq_true, decide_eq_true_eq] at hB
  obtain ⟨⟨⟨⟨hsel, hn⟩, hs⟩, hc⟩, hlex⟩ := hB
  have hn' : n < l.length := by simpa using hn
  have htl : (l.take n).length = n := by simp; omega
  have hdl : (l.drop n).length = l.toArray.size - n := by simp
  have inv0 : HeadInv .any l.toArray n (Array.replicate l.toArray.size false) :=
    ⟨by simp, fun j oj _ hl => (by rw [getD_replicate_false] at hl; cases hl), fun t _ ht => getD_in (by simpa using ht) (getD_replicate_false _ _)⟩
  have H := HeadWalk.lex (md := .any) (g := l.toArray.size - n) hsel hs hc hn (l.take n) 0 _ a (fun j hj => by
    have hj' : j < n := by rw [htl] at hj; exact hj
    simp [hj']) (by simpa using htl) inv0 (by rw [htl]; exact hlex) h
  refine wp_region_any hm ?_
  have hw : ∃ p : BelowOf B w0, { w with drawn := w.drawn + 1 } = p.world := ⟨⟨{ w with drawn := w.drawn + 1 }, ⟨hb.os, hb.tape, hb.output, hb.size, hb.block⟩⟩, rfl⟩
  have := HeadWalk.any (Q := Q) (g := l.toArray.size - n) (fun done a' w' hw' hL => by
    have := wpAny_of_seq (md := .any) (Q' := Q) (l.drop n) n done a' w' (fun j => by simp [List.getElem?_drop]) (by rw [hdl]; exact hL.1) (hL.2 w' hw')
    rwa [hdl] at this) _ _ _ _ hw H
  rw [htl, show n + (l.toArray.size - n) = l.toArray.size by omega] at this
  exact this
end
end Law
end Go.Proofs.Ytiolijpamidpfaa
