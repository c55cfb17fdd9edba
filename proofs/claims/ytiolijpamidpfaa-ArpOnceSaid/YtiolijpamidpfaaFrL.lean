/-
  Bytes that can be read, and the numbers that they are. No conditions beyond those in each statement.
-/
import Derived.Test.YtiolijpamidpfaaFr
import Derived.Test.YtiolijpamidpfaaSlIn
namespace Go.Proofs.Ytiolijpamidpfaa
open Go.RowKit
set_option linter.unusedVariables false
namespace FrL
open Sl
open Fr (BS Oct bv bv_at bv_len two four two_bd getD_drop getD_take)

abbrev Bs (h : Array Obj) (F : Foot) (v : Value) (bs : List Int) : Prop := SlV h F v (enc1 .u8) 1 bs
theorem flat_u8 : ∀ bs : List Int, flat (enc1 .u8) bs = bv bs
  | [] => rfl
  | b :: bs => by
    have := flat_u8 bs
    unfold flat at this ⊢
    rw [List.flatMap_cons, this]
    rfl
theorem bs_of {w : World} {F : Foot} {v : Value} {bs : List Int} (s : Bs w.heap F v bs) (hne : 0 < bs.length) : ∃ b o cap, v = .slice (some ⟨b, o, none⟩) bs.length cap ∧ bs.length ≤ cap ∧ cap ≤ maxLen ∧ BS w b o bs := by
  obtain ⟨_, _, a, cap, rfl, hc, hm, h3⟩ := s
  rcases h3 with rfl | ⟨b, o, rfl, hb, hF, hcell⟩
  · simp at hne
  · refine ⟨b, o, cap, rfl, hc, hm, fun i hi => ?_⟩
    rw [cell_eq]
    refine hcell i _ ?_
    rw [flat_u8]
    exact bv_at hi
theorem two_is {w : World} {v : Value} {bs : List Int} (s : Bs w.heap none0 v bs) (ho : Oct bs) (hl : 2 ≤ bs.length) : Ret Try.prog 25 [v] w (.int .i64 (two bs)) := by
  obtain ⟨b, o, cap, rfl, hc, hm, hb⟩ := bs_of s (by omega)
  exact ⟨(Fr.two_any hb ho hl rfl).run⟩
theorem four_is {w : World} {v : Value} {bs : List Int} (s : Bs w.heap none0 v bs) (ho : Oct bs) (hl : 4 ≤ bs.length) : Ret Try.prog 27 [v] w (.int .u32 (four bs)) := by
  obtain ⟨b, o, cap, rfl, hc, hm, hb⟩ := bs_of s (by omega)
  exact ⟨(Fr.four_any hb ho hl rfl hc).run⟩
theorem four_bd {bs : List Int} (h : Oct bs) : 0 ≤ four bs ∧ four bs ≤ 4294967295 := by
  have h1 := two_bd h
  have h2 := two_bd (h.drop 2)
  unfold four
  omega

end FrL
end Go.Proofs.Ytiolijpamidpfaa
