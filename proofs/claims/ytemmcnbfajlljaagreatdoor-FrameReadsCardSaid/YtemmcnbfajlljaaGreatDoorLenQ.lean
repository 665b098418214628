/- Lengths: plain laws of texts of bits. -/
import Derived.Test.YtemmcnbfajlljaaGreatDoorLenP
namespace Go.Proofs.YtemmcnbfajlljaaGreatDoor
open Go Go.TP Go.TP.Ry
set_option maxRecDepth 100000
theorem bitZ_bit (x : Int) : bitZ (48 + x % 2) = x % 2 := by
  unfold bitZ byteZ
  split <;> omega
theorem byteZ_of {x : Int} (h0 : 0 ≤ x) (h1 : x < 256) : byteZ x = x := by unfold byteZ; omega
theorem getD_app_lt {l m : List Int} {i : Nat} (h : i < l.length) : (l ++ m).getD i 0 = l.getD i 0 := by
  simp only [List.getD_eq_getElem?_getD]
  rw [List.getElem?_append_left h]
theorem getD_app_eq {l : List Int} {x : Int} : (l ++ [x]).getD l.length 0 = x := by
  simp [List.getD_eq_getElem?_getD]
/-- A bit of bytes. -/
def bitAt (m : List Int) (i : Nat) : Int := (byteZ (m.getD (i / 8) 0) / 2 ^ (7 - i % 8)) % 2
theorem textL_getD (m : List Int) (i : Nat) : ∀ n, i < n → (textL m n).getD i 0 = 48 + bitAt m i
  | 0, h => by omega
  | n + 1, h => by
    rw [textL]
    by_cases hi : i < n
    · rw [getD_app_lt (by rw [textL_length]; exact hi), textL_getD m i n hi]
    · have : i = n := by omega
      subst this
      have := getD_app_eq (l := textL m i) (x := 48 + (byteZ (m.getD (i / 8) 0) / 2 ^ (7 - i % 8)) % 2)
      rw [textL_length] at this
      exact this
theorem getD_drop (l : List Int) (k i : Nat) : (l.drop k).getD i 0 = l.getD (k + i) 0 := by
  simp [List.getD_eq_getElem?_getD]
theorem bitZ_bitAt (m : List Int) (i : Nat) : bitZ (48 + bitAt m i) = bitAt m i := bitZ_bit _
theorem b8_text (m : List Int) (n : Nat) : ∀ k, k + 2 ≤ n → b8 ((textL m n).drop 2) 0 (k + 1) = 2 * b8 ((textL m n).drop 2) 0 k + (if k + 2 < n then bitAt m (k + 2) else 0) := by
  intro k hk
  rw [b8, getD_drop, Nat.zero_add]
  split
  · rw [show 2 + k = k + 2 by omega, textL_getD m _ n (by omega), bitZ_bitAt]
  · rw [List.getD_eq_getElem?_getD, List.getElem?_eq_none (by rw [textL_length]; omega)]
    simp [bitZ, byteZ]
theorem bitAt_eq {m : List Int} (hm : isB m) (q r : Nat) (hr : r < 8) : bitAt m (8 * q + r) = (m.getD q 0 / 2 ^ (7 - r)) % 2 := by
  have h := hm.get q
  unfold bitAt
  rw [show (8 * q + r) / 8 = q by omega, show (8 * q + r) % 8 = r by omega, byteZ_of h.1 h.2]
/-- The bits behind the first two, of some bytes, as a number. -/
theorem b8_vB {m : List Int} (hm : isB m) (n : Nat) : ∀ q, 8 * q + 8 ≤ n → b8 ((textL m n).drop 2) 0 (8 * q + 6) = vB m q
  | 0, h => by
    have h0 := hm.get 0
    have e : ∀ k, k < 6 → b8 ((textL m n).drop 2) 0 (k + 1) = 2 * b8 ((textL m n).drop 2) 0 k + (m.getD 0 0 / 2 ^ (5 - k)) % 2 := fun k hk => by
      rw [b8_text m n k (by omega), if_pos (by omega)]
      have := bitAt_eq hm 0 (k + 2) (by omega)
      rw [Nat.mul_zero, Nat.zero_add] at this
      rw [this, show 7 - (k + 2) = 5 - k by omega]
    have e0 : b8 ((textL m n).drop 2) 0 0 = 0 := rfl
    have e1 := e 0 (by omega)
    have e2 := e 1 (by omega)
    have e3 := e 2 (by omega)
    have e4 := e 3 (by omega)
    have e5 := e 4 (by omega)
    have e6 := e 5 (by omega)
    simp only [Nat.zero_add, Nat.reduceAdd, Nat.reduceSub, Nat.sub_self, Nat.sub_zero, Int.reducePow] at e1 e2 e3 e4 e5 e6
    show b8 _ 0 6 = m.getD 0 0 % 64
    omega
  | q + 1, h => by
    have ih := b8_vB hm n q (by omega)
    have h0 := hm.get (q + 1)
    have e : ∀ j, j < 8 → b8 ((textL m n).drop 2) 0 (8 * q + 6 + j + 1) = 2 * b8 ((textL m n).drop 2) 0 (8 * q + 6 + j) + (m.getD (q + 1) 0 / 2 ^ (7 - j)) % 2 := fun j hj => by
      rw [b8_text m n _ (by omega), if_pos (by omega)]
      have := bitAt_eq hm (q + 1) j hj
      rw [show 8 * q + 6 + j + 2 = 8 * (q + 1) + j by omega, this]
    have e1 := e 0 (by omega)
    have e2 := e 1 (by omega)
    have e3 := e 2 (by omega)
    have e4 := e 3 (by omega)
    have e5 := e 4 (by omega)
    have e6 := e 5 (by omega)
    have e7 := e 6 (by omega)
    have e8 := e 7 (by omega)
    simp only [Nat.add_assoc, Nat.reduceAdd, Nat.reduceSub, Nat.sub_self, Nat.sub_zero, Int.reducePow, Nat.add_zero] at e1 e2 e3 e4 e5 e6 e7 e8 ih
    rw [show 8 * (q + 1) + 6 = 8 * q + 14 by omega]
    show _ = vB m q * 256 + m.getD (q + 1) 0
    omega
theorem val_text {m : List Int} (hm : isB m) (q : Nat) : valL ((textL m (8 * q + 8)).drop 2) = vB m q := by
  unfold valL
  rw [List.length_drop, textL_length, show 8 * q + 8 - 2 = 8 * q + 6 by omega]
  exact b8_vB hm _ q (by omega)
theorem bl1 {n : Int} (h0 : 0 ≤ n) (h1 : n < 64) : bytesL (48 :: 48 :: numL n 6) = [n] := by
  simp [bytesL, outL, b8, numL, bitZ_bit, show bitZ 48 = 0 from by decide]
  omega
theorem bl2 {n : Int} (h0 : 0 ≤ n) (h1 : n < 16384) : bytesL (48 :: 49 :: numL n 14) = [64 + n / 256, n % 256] := by
  simp [bytesL, outL, b8, numL, bitZ_bit, show bitZ 48 = 0 from by decide, show bitZ 49 = 1 from by decide]
  omega
theorem bl3 {n : Int} (h0 : 0 ≤ n) (h1 : n < 4194304) : bytesL (49 :: 48 :: numL n 22) = [128 + n / 65536, n / 256 % 256, n % 256] := by
  simp [bytesL, outL, b8, numL, bitZ_bit, show bitZ 48 = 0 from by decide, show bitZ 49 = 1 from by decide]
  omega
theorem bl4 {n : Int} (h0 : 0 ≤ n) (h1 : n < 1073741824) : bytesL (49 :: 49 :: numL n 30) = [192 + n / 16777216, n / 65536 % 256, n / 256 % 256, n % 256] := by
  simp [bytesL, outL, b8, numL, bitZ_bit, show bitZ 49 = 1 from by decide]
  omega
end Go.Proofs.YtemmcnbfajlljaaGreatDoor
