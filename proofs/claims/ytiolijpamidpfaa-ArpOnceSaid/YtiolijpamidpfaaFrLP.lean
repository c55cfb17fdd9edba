/-
  Parse of a frame, its bytes wherever they lie. No conditions beyond those in each statement.
-/
import Derived.Test.YtiolijpamidpfaaFrQ
import Derived.Test.YtiolijpamidpfaaFrLA
import Derived.Test.YtiolijpamidpfaaSlBx
namespace Go.Proofs.Ytiolijpamidpfaa
open Go.RowKit
set_option linter.unusedVariables false
namespace FrL
open Sl
open Fr (BS Oct bv bv_at bv_len two four two_bd getD_drop getD_take)

open Fr (perr pzero pkOf pk)
/-- Why bytes at a port are no frame; 0: they are one. -/
def pErr (port : Int) (bs : List Int) : Int :=
  if port < 0 ∨ 255 < port then 1 else if bs.length < 14 then 10 else if 1514 < bs.length then 6 else perr bs
theorem parse_err {w : World} {v : Value} {bs : List Int} {port e : Int} (hb : Bs w.heap none0 v bs) (ho : Oct bs) (he : pErr port bs = e) (h0 : e ≠ 0) : Ret Try.prog 12 [.int .i64 port, v] w (.tuple #[.agg ([.int .i64 0, .int .u8 0, .int .u8 0, .int .u8 0, .int .u8 0, .int .u8 0, .int .u8 0, .int .u8 0, .int .u8 0, .int .u8 0, .int .u8 0, .int .u8 0, .int .u8 0, .int .i64 0, .int .u32 0, .int .u32 0, .int .i64 0, .int .i64 0, .int .i64 0, .slice none 0 0, .int .i64 0, .int .i64 0] : List Value).toArray, .int .i64 e]) := by
  subst he
  obtain ⟨_, _, a, cap, rfl, hc, hm, h3⟩ := id hb
  unfold pErr at h0 ⊢
  by_cases h1 : port < 0 ∨ 255 < port
  · rw [if_pos h1]
    rcases h1 with h1 | h1
    · exact ⟨(Fr.parse_lo h1).run⟩
    · exact ⟨(Fr.parse_hi (by omega) h1).run⟩
  · rw [if_neg h1] at h0 ⊢
    by_cases h2 : bs.length < 14
    · rw [if_pos h2]
      exact ⟨(Fr.parse_short (by omega) (by omega) h2).run⟩
    · rw [if_neg h2] at h0 ⊢
      by_cases h4 : 1514 < bs.length
      · rw [if_pos h4]
        exact ⟨(Fr.parse_long (by omega) (by omega) h4).run⟩
      · rw [if_neg h4] at h0 ⊢
        obtain ⟨b, o, cap', e1, hc', hm', hbs⟩ := bs_of hb (by omega)
        rw [e1]
        refine ⟨(Fr.parse_any hbs ho rfl hc' (by omega) (by omega) (by omega) (by omega)).mono ?_⟩
        rintro e w' ⟨hbw, ⟨_, rfl⟩ | ⟨h5, _⟩⟩
        · exact ⟨rfl, hbw⟩
        · exact absurd h5 h0
abbrev PI (bs : List Int) := { i : Nat × Nat // bs.length ≤ i.2 ∧ i.2 ≤ maxLen }
theorem parse_ok {v : Value} {bs : List Int} {port si di pr sp dp po en : Int} (ho : Oct bs) (he : pErr port bs = 0) (hk : ∀ nb cp, pkOf port bs nb bs.length cp = pk port bs si di pr sp dp nb bs.length cp po en) :
    Con Try.prog 12 [.int .i64 port, v] (fun w S => Bs w.heap S v bs) [] (fun i : PI bs => .tuple #[.agg ([.int .i64 port, .int .u8 (bs.getD 6 0), .int .u8 (bs.getD 7 0), .int .u8 (bs.getD 8 0), .int .u8 (bs.getD 9 0), .int .u8 (bs.getD 10 0), .int .u8 (bs.getD 11 0), .int .u8 (bs.getD 0 0), .int .u8 (bs.getD 1 0), .int .u8 (bs.getD 2 0), .int .u8 (bs.getD 3 0), .int .u8 (bs.getD 4 0), .int .u8 (bs.getD 5 0), .int .i64 (two (bs.drop 12)), .int .u32 si, .int .u32 di, .int .i64 pr, .int .i64 sp, .int .i64 dp, .slice (some ⟨i.1.1, 0, none⟩) bs.length i.1.2, .int .i64 po, .int .i64 en] : List Value).toArray, .int .i64 0]) (fun i => [⟨0, osl (.slice (some ⟨i.1.1, 0, none⟩) bs.length i.1.2) (enc1 .u8) 1 bs 5⟩]) := by
  refine Con.ofCalls fun w S hb0 => ?_
  have hb : Bs w.heap none0 v bs := hb0.mono (Nat.le_refl _) (fun _ _ _ => rfl) fun _ _ _ h => h
  unfold pErr at he
  by_cases h1 : port < 0 ∨ 255 < port
  · rw [if_pos h1] at he; omega
  · rw [if_neg h1] at he
    by_cases h2 : bs.length < 14
    · rw [if_pos h2] at he; omega
    · rw [if_neg h2] at he
      by_cases h4 : 1514 < bs.length
      · rw [if_pos h4] at he; omega
      · rw [if_neg h4] at he
        obtain ⟨b, o, cap', rfl, hc', hm', hbs⟩ := bs_of hb (by omega)
        refine (Fr.parse_any hbs ho rfl hc' (by omega) (by omega) (by omega) (by omega)).mono ?_
        rintro e w' ⟨hbw, ⟨h5, _⟩ | ⟨_, nb, cp, rest, rfl, hnb, hat, q1, q2, q3⟩⟩
        · exact absurd he h5
        · refine ⟨⟨(nb, cp), q1, q2⟩, by rw [hk]; rfl, ?_⟩
          have hs : Sat [⟨0, osl (.slice (some ⟨nb, 0, none⟩) bs.length cp) (enc1 .u8) 1 bs 5⟩] w'.heap (fun i => w.heap.size ≤ i) := by
            refine ⟨fun i => i = nb, ⟨fun x _ => ⟨rfl, fun u hu => ?_⟩, by decide, .inr ⟨nb, [], rest, cp, rfl, ?_, ?_, q2, fun _ => Iff.rfl⟩⟩, fun i hi => by rw [hi]; exact hnb, trivial⟩
            · simp only [enc1, List.mem_cons, List.not_mem_nil, or_false] at hu
              rw [hu]
              rfl
            · rw [List.nil_append, flat_u8]
              exact hat
            · rw [flat_u8, Nat.mul_one]
              exact q3
          have := (Mem.start w).call_more hbw hs
          simpa using this
theorem pk_shape (port : Int) (bs : List Int) : ∃ si di pr sp dp po en : Int, ∀ nb cp, pkOf port bs nb bs.length cp = pk port bs si di pr sp dp nb bs.length cp po en := by
  unfold pkOf
  by_cases h : two (bs.drop 12) ≠ 2048
  · exact ⟨0, 0, 0, 0, 0, 0, 0, fun _ _ => by rw [if_pos h]⟩
  · by_cases hP : Fr.hasP bs
    · exact ⟨_, _, _, _, _, _, _, fun _ _ => by rw [if_neg h, if_pos hP]⟩
    · exact ⟨_, _, _, _, _, _, _, fun _ _ => by rw [if_neg h, if_neg hP]⟩

end FrL
end Go.Proofs.Ytiolijpamidpfaa
