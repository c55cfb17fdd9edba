/-
  The bytes of a question or answer, as Parse and ParseArp see them. No conditions beyond those in each statement.
-/
import Derived.Test.YtiolijpamidpfaaFrLE
import Derived.Test.YtiolijpamidpfaaFrLC
namespace Go.Proofs.Ytiolijpamidpfaa
open Go.RowKit
set_option linter.unusedVariables false
namespace FrL
open Sl
open Fr (BS Oct bv bv_at bv_len two four two_bd getD_drop getD_take)

theorem l6_oct {m : Int × Int × Int × Int × Int × Int} (h : octB (l6 m)) : (0 ≤ m.1 ∧ m.1 ≤ 255) ∧ (0 ≤ m.2.1 ∧ m.2.1 ≤ 255) ∧ (0 ≤ m.2.2.1 ∧ m.2.2.1 ≤ 255) ∧ (0 ≤ m.2.2.2.1 ∧ m.2.2.2.1 ≤ 255) ∧ (0 ≤ m.2.2.2.2.1 ∧ m.2.2.2.2.1 ≤ 255) ∧ (0 ≤ m.2.2.2.2.2 ∧ m.2.2.2.2.2 ≤ 255) :=
  ⟨h _ (by simp [l6]), h _ (by simp [l6]), h _ (by simp [l6]), h _ (by simp [l6]), h _ (by simp [l6]), h _ (by simp [l6])⟩
theorem ip4_oct (a : Int) : octB (ip4 a) := fun x hx => by
  simp only [ip4, List.mem_cons, List.not_mem_nil, or_false] at hx
  omega
theorem Ak.oct {a : Ak} (h : a.Ok) : Oct a.bytes := by
  intro x hx
  unfold Ak.bytes at hx
  simp only [List.mem_append] at hx
  rcases hx with (((((hx | hx) | hx) | hx) | hx) | hx) | hx
  · split at hx
    · exact h.to x hx
    · simp only [List.mem_cons, List.not_mem_nil, or_false] at hx
      omega
  · exact h.mac x hx
  · simp only [List.mem_cons, List.not_mem_nil, or_false] at hx
    split at hx <;> omega
  · exact h.mac x hx
  · exact ip4_oct _ x hx
  · exact h.to x hx
  · exact ip4_oct _ x hx
theorem Ak.len (a : Ak) : a.bytes.length = 42 := by
  unfold Ak.bytes
  cases a.ans <;> rfl
theorem Ak.ty (a : Ak) : two (a.bytes.drop 12) = 2054 := by
  obtain ⟨ans, mac, ip, to, tip⟩ := a
  cases ans <;> rfl
theorem Ak.f1 (a : Ak) : four (a.bytes.drop 14) = 67584 := by
  obtain ⟨ans, mac, ip, to, tip⟩ := a
  cases ans <;> rfl
theorem Ak.f2 (a : Ak) : two (a.bytes.drop 18) = 1540 := by
  obtain ⟨ans, mac, ip, to, tip⟩ := a
  cases ans <;> rfl
theorem Ak.f3 (a : Ak) : two (a.bytes.drop 20) = if a.ans then 2 else 1 := by
  obtain ⟨ans, mac, ip, to, tip⟩ := a
  cases ans <;> rfl
theorem Ak.err (a : Ak) {port : Int} (p0 : 0 ≤ port) (p1 : port ≤ 255) : pErr port a.bytes = 0 := by
  unfold pErr Fr.perr
  rw [if_neg (by omega), if_neg (by rw [a.len]; decide), if_neg (by rw [a.len]; decide), if_pos (by rw [a.ty]; decide)]
theorem four_ip {a : Int} (h0 : 0 ≤ a) (h1 : a ≤ 4294967295) (r : List Int) : four (ip4 a ++ r) = a := by
  show (a / 16777216 % 256 * 256 + a / 65536 % 256) * 65536 + (a / 256 % 256 * 256 + a % 256) = a
  omega
theorem Ak.aof {a : Ak} (h : a.Ok) : aof a.bytes = a.cells := by
  have e1 : four (a.bytes.drop 28) = a.ip := by
    obtain ⟨ans, mac, ip, to, tip⟩ := a
    cases ans <;> exact four_ip h.ip.1 h.ip.2 _
  have e2 : four (a.bytes.drop 38) = a.tip := by
    obtain ⟨ans, mac, ip, to, tip⟩ := a
    cases ans <;> exact four_ip h.tip.1 h.tip.2 []
  unfold FrL.aof
  rw [e1, e2, a.f3]
  obtain ⟨ans, mac, ip, to, tip⟩ := a
  cases ans <;> rfl
theorem Ak.src (a : Ak) : ([.int .u8 (a.bytes.getD 6 0), .int .u8 (a.bytes.getD 7 0), .int .u8 (a.bytes.getD 8 0), .int .u8 (a.bytes.getD 9 0), .int .u8 (a.bytes.getD 10 0), .int .u8 (a.bytes.getD 11 0)] : List Value) = (l6 a.mac).map (.int .u8) := by
  obtain ⟨ans, mac, ip, to, tip⟩ := a
  cases ans <;> rfl
theorem Ak.dst (a : Ak) : ([.int .u8 (a.bytes.getD 0 0), .int .u8 (a.bytes.getD 1 0), .int .u8 (a.bytes.getD 2 0), .int .u8 (a.bytes.getD 3 0), .int .u8 (a.bytes.getD 4 0), .int .u8 (a.bytes.getD 5 0)] : List Value) = ((if a.ans then l6 a.to else [255, 255, 255, 255, 255, 255]).map (.int .u8)) := by
  obtain ⟨ans, mac, ip, to, tip⟩ := a
  cases ans <;> rfl

end FrL
end Go.Proofs.Ytiolijpamidpfaa
