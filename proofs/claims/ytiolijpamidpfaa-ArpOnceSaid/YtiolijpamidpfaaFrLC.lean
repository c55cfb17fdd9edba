/-
  Bytes as the laws read them. No conditions beyond those in each statement.
-/
import Derived.Test.YtiolijpamidpfaaFrLP
import Derived.Test.YtiolijpamidpfaaFrH
import Derived.Test.YtiolijpamidpfaaFrR
namespace Go.Proofs.Ytiolijpamidpfaa
open Go.RowKit
set_option linter.unusedVariables false
namespace FrL
open Sl
open Fr (BS Oct bv bv_at bv_len two four two_bd getD_drop getD_take)

theorem head_is {w : World} : Ret Try.prog 10 [] w (.bool true) := ⟨Fr.headOk_is.run⟩
theorem rfour_is {w : World} {v : Value} {bs : List Int} {p : Int} (hb : Bs w.heap none0 v bs) (ho : Oct bs) (h0 : 0 ≤ p) (h1 : p + 3 < bs.length) (hmax : bs.length ≤ 1000000) : Ret Try.prog 17 [v, .int .i64 p] w (.int .u32 (four (bs.drop p.toNat))) := by
  obtain ⟨b, o, cap, rfl, hc, hm, hbs⟩ := bs_of hb (by omega)
  exact ⟨(Fr.rfour hbs ho rfl h0 h1 hmax rfl).run⟩
theorem u8_open {H : Type} {enc : TypeId × Value → H} {P : Program} {W : World} {base : Nat} {spare : Nat → Bool} {held : Bool} {r : List Value} (g : Law.FitsAll enc P W base spare held [.int .u8] r) : ∃ x : Int, (0 ≤ x ∧ x ≤ 255) ∧ enc1 .u8 x = r := by
  obtain ⟨_, _, rfl, ⟨a, rfl, ha⟩, hr⟩ := g
  have hr : _ = [] := hr
  subst hr
  have := Law.bd_u8 ha
  exact ⟨a, by omega, rfl⟩
theorem cut_list (bs : List Int) (i n : Nat) (h : i + n ≤ bs.length) : (bs.take (i + n)).drop i = (List.range n).map fun j => bs.getD (i + j) 0 := by
  apply List.ext_getElem?
  intro j
  rw [List.getElem?_drop, List.getElem?_take, List.getElem?_map]
  by_cases hj : j < n
  · rw [if_pos (by omega), List.getElem?_range hj, List.getElem?_eq_getElem (by omega), Option.map_some, List.getD_eq_getElem?_getD, List.getElem?_eq_getElem (by omega)]
    rfl
  · rw [if_neg (by omega), List.getElem?_eq_none (by simp; omega)]
    rfl
theorem oct_cut {bs : List Int} (ho : Oct bs) (i j : Nat) : octB ((bs.take i).drop j) := (ho.take i).drop j
theorem str7 : (ByteArray.mk #[0, 1, 8, 0, 6, 4, 0]) = strOfNums [0, 1, 8, 0, 6, 4, 0] := by decide
theorem cut6 (bs : List Int) (i : Nat) (h : i + 6 ≤ bs.length) : [bs.getD i 0, bs.getD (i + 1) 0, bs.getD (i + 2) 0, bs.getD (i + 3) 0, bs.getD (i + 4) 0, bs.getD (i + 5) 0] = (bs.take (i + 6)).drop i := (cut_list bs i 6 h).symm
theorem aerr_str {bs : List Int} (ho : Oct bs) (h : 42 ≤ bs.length) : ((bs.take 21).drop 14 = [0, 1, 8, 0, 6, 4, 0] ∧ (bs.getD 21 0 = 1 ∨ bs.getD 21 0 = 2)) ↔ (four (bs.drop 14) = 67584 ∧ two (bs.drop 18) = 1540 ∧ (two (bs.drop 20) = 1 ∨ two (bs.drop 20) = 2)) := by
  have e := cut_list bs 14 7 (by omega)
  have e : (bs.take 21).drop 14 = [bs.getD 14 0, bs.getD 15 0, bs.getD 16 0, bs.getD 17 0, bs.getD 18 0, bs.getD 19 0, bs.getD 20 0] := e
  rw [e]
  unfold four two
  simp only [List.drop_drop, getD_drop, List.cons.injEq, and_true]
  have b14 := ho.at 14
  have b15 := ho.at 15
  have b16 := ho.at 16
  have b17 := ho.at 17
  have b18 := ho.at 18
  have b19 := ho.at 19
  have b20 := ho.at 20
  have b21 := ho.at 21
  simp only [Nat.reduceAdd]
  omega

end FrL
end Go.Proofs.Ytiolijpamidpfaa
