/-
  Bytes in memory; sums by twos: plain facts. No conditions beyond those in each statement.
-/
import Derived.Test.YtiolijpamidpfaaSxX
import Derived.Test.YtiolijpamidpfaaBits
namespace Go.Proofs.Ytiolijpamidpfaa
open Go.RowKit
namespace Fr
open Sx
/-- Bytes that lie one behind the other. -/
def BS (w : World) (b o : Nat) (bs : List Int) : Prop := ∀ i, i < bs.length → w.cell? ⟨b, o + i, none⟩ = some (.int .u8 (bs.getD i 0))
def Oct (bs : List Int) : Prop := ∀ x ∈ bs, 0 ≤ x ∧ x ≤ 255
/-- Bytes as values. -/
def bv (bs : List Int) : List Value := bs.map (.int .u8)
theorem bv_at {bs : List Int} {i : Nat} (h : i < bs.length) : (bv bs)[i]? = some (.int .u8 (bs.getD i 0)) := by simp [bv, h]
theorem bv_len (bs : List Int) : (bv bs).length = bs.length := by simp [bv]
theorem bv_one (bs : List Int) : (bv bs).all one = true := by simp [bv, one]
theorem Oct.at {bs : List Int} (h : Oct bs) (i : Nat) : 0 ≤ bs.getD i 0 ∧ bs.getD i 0 ≤ 255 := by
  by_cases hi : i < bs.length
  · have e : bs.getD i 0 = bs[i] := by simp [hi]
    rw [e]
    exact h _ (List.getElem_mem hi)
  · have e : bs.getD i 0 = 0 := by simp [List.getElem?_eq_none (Nat.le_of_not_lt hi)]
    omega
theorem Oct.drop {bs : List Int} (h : Oct bs) (i : Nat) : Oct (bs.drop i) := fun x hx => h x (List.mem_of_mem_drop hx)
theorem Oct.take {bs : List Int} (h : Oct bs) (i : Nat) : Oct (bs.take i) := fun x hx => h x (List.mem_of_mem_take hx)
theorem getD_drop (bs : List Int) (i j : Nat) : (bs.drop i).getD j 0 = bs.getD (i + j) 0 := by simp [List.getD_eq_getElem?_getD, List.getElem?_drop]
theorem getD_take (bs : List Int) (i j : Nat) (h : j < i) : (bs.take i).getD j 0 = bs.getD j 0 := by simp [List.getD_eq_getElem?_getD, h]
theorem BS.drop {w : World} {b o : Nat} {bs : List Int} (h : BS w b o bs) (i : Nat) : BS w b (o + i) (bs.drop i) := fun j hj => by
  rw [getD_drop, Nat.add_assoc]
  exact h (i + j) (by simp at hj; omega)
theorem BS.take {w : World} {b o : Nat} {bs : List Int} (h : BS w b o bs) (i : Nat) : BS w b o (bs.take i) := fun j hj => by
  simp at hj
  rw [getD_take _ _ _ (by omega)]
  exact h j (by omega)
theorem BS.keep {w w' : World} {b o : Nat} {bs : List Int} (h : BS w b o bs) (hb : Below w.heap.size w w') : BS w' b o bs := fun i hi => by
  have := h i hi
  rw [hb.cell (p := ⟨b, o + i, none⟩) (block_lt_of_cell this)]
  exact this
theorem BS.news {w : World} {b o : Nat} {bs : List Int} (h : BS w b o bs) (j : Nat) (u : Value) (hu : (bv bs)[j]? = some u) : w.cell? ⟨b, o + j, none⟩ = some u := by
  have hj : j < bs.length := by
    have := (List.getElem?_eq_some_iff.1 hu).1
    simpa [bv] using this
  rw [h j hj, ← hu, bv_at hj]
theorem BS.own {B : Nat} {w0 w : World} {H : List Blk} {b : Nat} {bs : List Int} {rest : List Value} {et : TypeId} [hh : Has H b (bv bs ++ rest) et] (hM : Mem B w0 w H) : BS w b 0 bs := fun i hi => by
  rw [Nat.zero_add, cell_of_row w b i _ _ _ (hM.at_ _ hh.mem)]
  have := bv_at hi
  simp only [List.getElem?_toArray]
  rw [List.getElem?_append_left (by rw [bv_len]; exact hi)]
  exact this
def two (bs : List Int) : Int := bs.getD 0 0 * 256 + bs.getD 1 0
theorem two_bd {bs : List Int} (h : Oct bs) : 0 ≤ two bs ∧ two bs ≤ 65535 := by
  have h0 := h.at 0
  have h1 := h.at 1
  unfold two
  omega
def four (bs : List Int) : Int := two bs * 65536 + two (bs.drop 2)
theorem or_i64_8 (h l : Int) (h0 : 0 ≤ h) (h1 : h ≤ 255) (l0 : 0 ≤ l) (l1 : l ≤ 255) : bits .or .i64 (h * 256) l = h * 256 + l :=
  bits_join .i64 63 (by decide) Pl.wraps_i64 8 (h * 256) l (by omega) (by omega) (by omega) l0 (by omega) (by omega)
theorem or_u32_16 (h l : Int) (h0 : 0 ≤ h) (h1 : h ≤ 65535) (l0 : 0 ≤ l) (l1 : l ≤ 65535) : bits .or .u32 (h * 65536) l = h * 65536 + l :=
  bits_join .u32 32 (by decide) Pl.wraps_u32 16 (h * 65536) l (by omega) (by omega) (by omega) l0 (by omega) (by omega)
/-- The sum of bytes by twos. -/
def wsum : List Int → Int
  | x :: y :: r => x * 256 + y + wsum r
  | [x] => x * 256
  | [] => 0
theorem wsum_two {bs : List Int} (h : 2 ≤ bs.length) : wsum bs = two bs + wsum (bs.drop 2) := by
  match bs, h with
  | x :: y :: r, _ => rfl
theorem wsum_step (bs : List Int) (j : Nat) (h : 2 * j + 1 < bs.length) : wsum (bs.drop (2 * j)) = two (bs.drop (2 * j)) + wsum (bs.drop (2 * (j + 1))) := by
  rw [wsum_two (by simp; omega), List.drop_drop]
  rfl
theorem wsum_one (bs : List Int) (j : Nat) (h : bs.length = 2 * j + 1) : wsum (bs.drop (2 * j)) = (bs.drop (2 * j)).getD 0 0 * 256 := by
  have hl : (bs.drop (2 * j)).length = 1 := by simp; omega
  match bs.drop (2 * j), hl with
  | [x], _ => rfl
theorem wsum_none (bs : List Int) (j : Nat) (h : bs.length = 2 * j) : wsum (bs.drop (2 * j)) = 0 := by
  rw [List.drop_eq_nil_of_le (by omega)]
  rfl
/-- The ends carried round. -/
def foldN (n : Nat) : Nat := if n ≤ 65535 then n else foldN (n % 65536 + n / 65536)
termination_by n
decreasing_by omega
def foldI (n : Int) : Int := (foldN n.toNat : Int)
theorem foldI_le {n : Int} (h0 : 0 ≤ n) (h : n ≤ 65535) : foldI n = n := by
  unfold foldI
  rw [foldN, if_pos (by omega)]
  omega
theorem foldI_gt {n : Int} (h : 65535 < n) : foldI (n % 65536 + n / 65536) = foldI n := by
  unfold foldI
  rw [foldN.eq_1 n.toNat, if_neg (by omega)]
  congr 2
  omega
theorem sl_eq {b a a' l l' c c' : Nat} (h1 : a = a') (h2 : l = l') (h3 : c = c') : some (Value.slice (some ⟨b, a, none⟩) l c) = some (Value.slice (some ⟨b, a', none⟩) l' c') := by rw [h1, h2, h3]
theorem int_eq {k : IntKind} {x y : Int} (h : x = y) : some (Value.int k x) = some (Value.int k y) := by rw [h]
end Fr
end Go.Proofs.Ytiolijpamidpfaa
