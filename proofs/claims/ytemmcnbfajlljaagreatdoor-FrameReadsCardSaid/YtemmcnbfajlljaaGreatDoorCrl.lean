/- The sum of bytes: both ways to reckon it come to the same. -/
import Derived.Test.YtemmcnbfajlljaaGreatDoorCrc
namespace Go.Proofs.YtemmcnbfajlljaaGreatDoor
open Go Go.TP Go.TP.Ry
set_option maxRecDepth 100000
theorem numL_getD (v : Int) : ∀ n k, k < n → (numL v n).getD k 0 = 48 + v / 2 ^ (n - 1 - k) % 2
  | 0, _, h => by omega
  | n + 1, 0, _ => by simp [numL]
  | n + 1, k + 1, h => by
    rw [numL, List.getD_cons_succ, numL_getD v n k (by omega), show n + 1 - 1 - (k + 1) = n - 1 - k by omega]
theorem numL_snoc (v : Int) : ∀ n, numL (2 * v) (n + 1) = numL v n ++ [48]
  | 0 => by simp [numL]
  | n + 1 => by
    rw [numL, numL_snoc v n, numL]
    have : 2 * v / 2 ^ (n + 1) = v / 2 ^ n := by
      rw [Int.pow_succ, Int.mul_comm (2 ^ n) 2, Int.mul_ediv_mul_of_pos _ _ (by omega)]
    rw [this]; rfl
theorem pow_pos (n : Nat) : (0 : Int) < 2 ^ n := Int.pow_pos (by omega)
theorem mod_div_bit (v : Int) (n k : Nat) (h : k < n) : v % 2 ^ n / 2 ^ k % 2 = v / 2 ^ k % 2 := by
  obtain ⟨d, rfl⟩ : ∃ d, n = k + (d + 1) := ⟨n - k - 1, by omega⟩
  have e : v % 2 ^ (k + (d + 1)) = v - 2 ^ k * (2 * (2 ^ d * (v / 2 ^ (k + (d + 1))))) := by
    have := Int.emod_add_mul_ediv v (2 ^ (k + (d + 1)))
    have h2 : (2 : Int) ^ (k + (d + 1)) = 2 ^ k * (2 * 2 ^ d) := by rw [Int.pow_add, Int.pow_succ, Int.mul_comm (2 ^ d) 2]
    have h3 : (2 : Int) ^ (k + (d + 1)) * (v / 2 ^ (k + (d + 1))) = 2 ^ k * (2 * (2 ^ d * (v / 2 ^ (k + (d + 1))))) := by
      rw [h2]; simp only [Int.mul_assoc]
    omega
  rw [e, show v - 2 ^ k * (2 * (2 ^ d * (v / 2 ^ (k + (d + 1))))) = v + 2 ^ k * (-(2 * (2 ^ d * (v / 2 ^ (k + (d + 1)))))) by rw [Int.mul_neg]; omega, Int.add_mul_ediv_left _ _ (by have := pow_pos k; omega)]
  omega
theorem numL_mod (v : Int) (m : Nat) : ∀ n, n ≤ m → numL (v % 2 ^ m) n = numL v n
  | 0, _ => rfl
  | n + 1, h => by rw [numL, numL, numL_mod v m n (by omega), mod_div_bit v m n (by omega)]
theorem b8_num (v : Int) (n : Nat) : ∀ k, k ≤ n → b8 (numL v n) 0 k = v / 2 ^ (n - k) % 2 ^ k
  | 0, _ => by simp [b8]
  | k + 1, h => by
    rw [b8, b8_num v n k (by omega), Nat.zero_add, numL_getD v n k (by omega), bitZ_bit, show n - 1 - k = n - (k + 1) by omega]
    obtain ⟨d, rfl⟩ : ∃ d, n = k + 1 + d := ⟨n - k - 1, by omega⟩
    rw [show k + 1 + d - k = d + 1 by omega, show k + 1 + d - (k + 1) = d by omega, div_pow_succ]
    generalize v / 2 ^ d = w
    have h1 := Int.emod_add_mul_ediv w (2 ^ (k + 1))
    have h2 := Int.emod_add_mul_ediv (w / 2) (2 ^ k)
    have h3 : w / 2 / 2 ^ k = w / 2 ^ (k + 1) := by rw [Int.ediv_ediv_of_nonneg (by omega), Int.pow_succ, Int.mul_comm (2 ^ k) 2]
    rw [h3] at h2
    have h4 : (2 : Int) ^ (k + 1) * (w / 2 ^ (k + 1)) = 2 * (2 ^ k * (w / 2 ^ (k + 1))) := by rw [Int.pow_succ, Int.mul_comm (2 ^ k) 2, Int.mul_assoc]
    omega
theorem val_num (v : Int) (n : Nat) : valL (numL v n) = v % 2 ^ n := by
  unfold valL
  rw [numL_length, b8_num v n n (Nat.le_refl _)]
  simp
theorem regL_length (x : BitVec 32) : (regL x).length = 32 := numL_length _ _
theorem val_reg (x : BitVec 32) : valL (regL x) = x.toNat := by
  unfold regL
  rw [val_num]
  have := x.isLt
  omega
theorem reg_val (x : BitVec 32) : BitVec.ofInt 32 (valL (regL x)) = x := by
  rw [val_reg]
  simp
/-- A bit of a register. -/
theorem bit_toNat (x : BitVec 32) (k : Nat) : (x.toNat : Int) / 2 ^ k % 2 = if x.getLsbD k then 1 else 0 := by
  have h : (x.toNat / 2 ^ k) % 2 = if x.getLsbD k then 1 else 0 := by
    unfold BitVec.getLsbD
    rw [Nat.testBit_eq_decide_div_mod_eq]
    split <;> rename_i h <;> simp at h <;> omega
  have h2 : (((x.toNat / 2 ^ k) % 2 : Nat) : Int) = (x.toNat : Int) / 2 ^ k % 2 := by simp
  rw [← h2, h]
  split <;> rfl
theorem reg_getD (x : BitVec 32) (k : Nat) (h : k < 32) : (regL x).getD k 0 = if x.getLsbD (31 - k) then 49 else 48 := by
  unfold regL
  rw [numL_getD _ _ _ h, bit_toNat]
  split <;> rfl
theorem reg_next (x : BitVec 32) : (regL x).drop 1 ++ [(48 : Int)] = regL (x <<< 1) := by
  have h : ((x <<< 1).toNat : Int) = (2 * (x.toNat : Int)) % 2 ^ 32 := by
    rw [BitVec.toNat_shiftLeft, Nat.shiftLeft_eq]
    omega
  unfold regL
  rw [h, numL_mod _ _ _ (Nat.le_refl _), numL_snoc]
  rfl
theorem take_snoc {l : List Int} {k : Nat} (h : k < l.length) : l.take (k + 1) = l.take k ++ [l.getD k 0] := by
  rw [List.take_add_one, List.getD_eq_getElem?_getD, List.getElem?_eq_getElem h]
  rfl
/-! Bit by bit, or byte by byte. -/
theorem cBit_xor (x d : BitVec 32) : cBit (x ^^^ d) = rBit x d.msb ^^^ (d <<< 1) := by
  have hs : (x ^^^ d) <<< 1 = x <<< 1 ^^^ d <<< 1 := BitVec.shiftLeft_xor_distrib ..
  unfold cBit rBit
  rw [BitVec.msb_xor, hs]
  cases x.msb <;> cases d.msb <;> simp [BitVec.xor_assoc, BitVec.xor_comm (d <<< 1)]
/-- The register behind so many bits that are told. -/
def rSt (r : BitVec 32) (f : Nat → Bool) : Nat → BitVec 32
  | 0 => r
  | k + 1 => rBit (rSt r f k) (f k)
theorem cIt_xor (r d : BitVec 32) : ∀ k, cIt (r ^^^ d) k = rSt r (fun j => (d <<< j).msb) k ^^^ (d <<< k)
  | 0 => by simp [cIt, rSt]
  | k + 1 => by
    rw [cIt, cIt_xor r d k, cBit_xor, rSt, ← BitVec.shiftLeft_add]
theorem shl_zero (c : Int) (h0 : 0 ≤ c) (h1 : c < 256) : (BitVec.ofInt 32 (c * 16777216)) <<< 8 = 0#32 := by
  apply BitVec.eq_of_toNat_eq
  obtain ⟨n, rfl⟩ := Int.eq_ofNat_of_zero_le h0
  rw [show ((n : Int) * 16777216) = ((n * 16777216 : Nat) : Int) by simp, BitVec.ofInt_natCast, BitVec.toNat_shiftLeft, BitVec.toNat_ofNat, Nat.shiftLeft_eq]
  simp
  omega
theorem msb_shl (c : Int) (h0 : 0 ≤ c) (h1 : c < 256) (j : Nat) (hj : j < 8) : ((BitVec.ofInt 32 (c * 16777216)) <<< j).msb = decide (c / 2 ^ (7 - j) % 2 = 1) := by
  obtain ⟨n, rfl⟩ := Int.eq_ofNat_of_zero_le h0
  rw [show ((n : Int) * 16777216) = ((n * 16777216 : Nat) : Int) by simp, BitVec.ofInt_natCast]
  have e : ((n : Int) / 2 ^ (7 - j) % 2 = 1) ↔ (n / 2 ^ (7 - j) % 2 = 1) := by
    have : ((n : Int) / 2 ^ (7 - j) % 2) = ((n / 2 ^ (7 - j) % 2 : Nat) : Int) := by simp
    rw [this]; omega
  have e2 : decide ((n : Int) / 2 ^ (7 - j) % 2 = 1) = decide (n / 2 ^ (7 - j) % 2 = 1) := decide_eq_decide.2 e
  rw [e2, BitVec.msb_shiftLeft, BitVec.getMsbD_eq_getLsbD, BitVec.getLsbD_ofNat]
  have hl : j < 32 := by omega
  have hl2 : 32 - 1 - j < 32 := by omega
  simp only [hl, hl2, decide_true, Bool.true_and]
  rw [Nat.testBit_eq_decide_div_mod_eq]
  apply decide_eq_decide.2
  rw [show 32 - 1 - j = 24 + (7 - j) by omega, Nat.pow_add, ← Nat.div_div_eq_div_mul, Nat.mul_div_cancel _ (by decide)]
theorem cStep_bits (r : BitVec 32) (c : Int) (h0 : 0 ≤ c) (h1 : c < 256) : cStep r c = rSt r (fun j => decide (c / 2 ^ (7 - j) % 2 = 1)) 8 := by
  unfold cStep cIn
  rw [cIt_xor, shl_zero c h0 h1, BitVec.xor_zero]
  have : ∀ k, k ≤ 8 → rSt r (fun j => (BitVec.ofInt 32 (c * 16777216) <<< j).msb) k = rSt r (fun j => decide (c / 2 ^ (7 - j) % 2 = 1)) k := by
    intro k
    induction k with
    | zero => intro _; rfl
    | succ k ih => intro hk; rw [rSt, rSt, ih (by omega), msb_shl c h0 h1 k (by omega)]
  exact this 8 (Nat.le_refl _)
theorem isOne_bit {x : Int} : isOne (48 + x % 2) = decide (x % 2 = 1) := by
  unfold isOne byteZ
  rcases (show x % 2 = 0 ∨ x % 2 = 1 by omega) with h | h <;> rw [h] <;> decide
theorem rGo_bytes {l : List Int} (hb : isB l) : ∀ k, k ≤ l.length → rGo (textL l (8 * l.length)) (8 * k) = cGo l k
  | 0, _ => rfl
  | k + 1, hk => by
    have ih := rGo_bytes hb k (by omega)
    have hc := hb.get k
    rw [cGo, cStep_bits _ _ hc.1 hc.2, ← ih]
    have : ∀ j, j ≤ 8 → rGo (textL l (8 * l.length)) (8 * k + j) = rSt (rGo (textL l (8 * l.length)) (8 * k)) (fun j => decide (l.getD k 0 / 2 ^ (7 - j) % 2 = 1)) j := by
      intro j
      induction j with
      | zero => intro _; rfl
      | succ j ihj =>
        intro hj
        rw [show 8 * k + (j + 1) = (8 * k + j) + 1 by omega, rGo, ihj (by omega), rSt, textL_getD _ _ _ (by omega), bitAt_eq hb k j (by omega), isOne_bit]
    rw [show 8 * (k + 1) = 8 * k + 8 by omega]
    exact this 8 (Nat.le_refl _)
end Go.Proofs.YtemmcnbfajlljaaGreatDoor
