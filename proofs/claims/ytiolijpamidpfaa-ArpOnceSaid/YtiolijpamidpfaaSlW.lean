/-
  A run told by lists: an operation whose guard hangs on one that was itself left out. Over any program; no conditions beyond those in each statement.
-/
import Derived.Test.YtiolijpamidpfaaSlX
namespace Go.Proofs.Ytiolijpamidpfaa
open Go.RowKit
namespace Sl
set_option linter.unusedVariables false
def gvu (D : List (Option Nat)) (T : Tm) (j : Nat) : Bool :=
  match nthD D j with
  | some d => match find T d with
    | some (.tuple _) => true
    | _ => false
  | none => false
section
variable {P : Program} {B : Foot} {n : Nat} {w0 : World} {Q Q0 : Exit → Act → World → Prop} {T : Tm} {H H0 : List Blk} {ops : Array Oper} {l tl : List Oper} {o : Oper} {j dj d f id : Nat} {want b : Bool} {p : Prop} {done : Array Bool} {e : Exit} {D : List (Option Nat)}
theorem gvu_yielded [hD : Dsts ops D] (h : gvu D T j = true) {a : Act} (hf : Fr n T a) : yielded ops a.tmps j = none := by
  unfold gvu at h
  split at h
  · rename_i d hd
    split at h
    · rename_i xs hb'
      have hg := hf.get _ _ hb'
      unfold yielded
      rw [hD.h, hd]
      simp only [Option.bind_some]
      cases ht : a.tmps[d]? with
      | none => rfl
      | some u =>
        have : u = .tuple xs := by simpa [ht] using hg
        rw [this]
    · cases h
  · cases h
theorem w_skipU [hD : Dsts ops D] (h : o.guard = some (j, want)) (hg : gvu D T j = true) (hd : o.dst = some d) (hn : d < n) (k : W P B n w0 ops Q l ((d, undef) :: T) H) : W P B n w0 ops Q (o :: l) T H := .of fun a w hf hm =>
  wpList_step fun K hK => by
    rw [if_neg (by simp [Region.wanted, h, gvu_yielded hg hf]), hd]
    exact hK _ _ (k.run _ _ (hf.put hn undef) hm)
theorem w_skip0U [hD : Dsts ops D] (h : o.guard = some (j, want)) (hg : gvu D T j = true) (hd : o.dst = none) (k : W P B n w0 ops Q l T H) : W P B n w0 ops Q (o :: l) T H := .of fun a w hf hm =>
  wpList_step fun K hK => by
    rw [if_neg (by simp [Region.wanted, h, gvu_yielded hg hf]), hd]
    exact hK _ _ (k.run _ _ (hf.put0 undef) hm)
theorem q_skipU [hD : Dsts ops D] (h : o.guard = some (j, want)) (hg : gvu D T j = true) (hd : o.dst = some d) (hn : d < n) (k : WQ P B n w0 ops Q tl l ((d, undef) :: T) H) : WQ P B n w0 ops Q tl (o :: l) T H := .of fun a hf =>
  wpQuiet_step fun K hK => by
    rw [if_neg (by simp [Region.wanted, h, gvu_yielded hg hf]), hd]
    exact hK _ (k.run _ (hf.put hn undef))
theorem sq_skipU [hD : Dsts ops D] (h : o.guard = some (j, want)) (hg : gvu D T j = true) (hd : o.dst = some d) (hn : d < n) (k : SQ P B n w0 ops Q H0 tl H l ((d, undef) :: T)) : SQ P B n w0 ops Q H0 tl H (o :: l) T := .of fun a hf =>
  ⟨undef, .inr ⟨by simp [Region.wanted, h, gvu_yielded hg hf], rfl⟩, by rw [hd]; exact k.run _ (hf.put hn undef)⟩
theorem s_skipU [hD : Dsts ops D] (h : o.guard = some (j, want)) (hg : gvu D T j = true) (hd : o.dst = some d) (hn : d < n) (k : S P B n w0 ops Q H0 l ((d, undef) :: T) H) : S P B n w0 ops Q H0 (o :: l) T H := .of fun a hf =>
  .inr ⟨by simp [Region.wanted, h, gvu_yielded hg hf], by rw [hd]; exact k.run _ (hf.put hn undef)⟩
theorem s_skip0U [hD : Dsts ops D] (h : o.guard = some (j, want)) (hg : gvu D T j = true) (hd : o.dst = none) [hs : SubH H0 H] (k : S P B n w0 ops Q H0 l T H) : S P B n w0 ops Q H0 (o :: l) T H := .of fun a hf =>
  .inr ⟨by simp [Region.wanted, h, gvu_yielded hg hf], by rw [hd]; exact k.run _ (hf.put0 undef)⟩
theorem sqa_skipU [hD : Dsts ops D] (h : o.guard = some (j, want)) (hg : gvu D T j = true) (hd : o.dst = some d) (hn : d < n) (k : SQA P B n w0 ops Q H0 f done H l ((d, undef) :: T)) : SQA P B n w0 ops Q H0 f done H (o :: l) T := .of fun a hf =>
  ⟨undef, .inr ⟨by simp [Region.wanted, h, gvu_yielded hg hf], rfl⟩, by rw [hd]; exact k.run _ (hf.put hn undef)⟩
theorem so_skipU [hD : Dsts ops D] (h : o.guard = some (j, want)) (hg : gvu D T j = true) (hd : o.dst = some d) (hn : d < n) (k : SA P B n w0 ops Q H0 f done ((d, undef) :: T) H) : SO P B n w0 ops Q H0 f done o T H := .of fun a hf =>
  .inr ⟨by simp [Region.wanted, h, gvu_yielded hg hf], by rw [hd]; exact k.run _ (hf.put hn undef)⟩
end
end Sl
end Go.Proofs.Ytiolijpamidpfaa
