/- Lengths, as numbers and lists: what GetLen and tidepoleref24.Parse come to. -/
import Derived.Test.YtemmcnbfajlljaaGreatDoorRhk
import Derived.Test.YtemmcnbfajlljaaGreatDoorRc
namespace Go.Proofs.YtemmcnbfajlljaaGreatDoor
open Go Go.TP Go.TP.Ry
set_option maxRecDepth 100000
/-- How many bytes a length has. -/
def szL (n : Int) : Int := if n < 64 then 1 else if n < 16384 then 2 else if n < 4194304 then 3 else 4
/-- A length's first byte, and so many behind it. -/
def vB (l : List Int) : Nat → Int
  | 0 => l.getD 0 0 % 64
  | k + 1 => vB l k * 256 + l.getD (k + 1) 0
def usL (l : List Int) : Int := l.getD 0 0 / 64 + 1
def geL (l : List Int) : Int := if l.length = 0 ∨ (l.length : Int) < usL l then 16 else if szL (vB l (usL l - 1).toNat) ≠ usL l then 10 else 0
def gnL (l : List Int) : Int := if geL l = 0 then vB l (usL l - 1).toNat else 0
def guL (l : List Int) : Int := if geL l = 0 then usL l else 0
theorem acl (a b : Int) : a + b - a = b := by omega
theorem acl2 (a b c : Int) : a + b + c - a = b + c := by omega
theorem relO_ro (T : Nat) (o : Int) : relO .ro T o = o - T := rfl
theorem wrap_u8d (n : Int) : IntKind.u8.wrap n = n % 256 := by simp [IntKind.wrap, IntKind.bits, IntKind.signed]
theorem fdiv_nat (a : Int) (b : Nat) : Int.fdiv a (b : Int) = a / (b : Int) := Int.fdiv_eq_ediv_of_nonneg _ (by omega)
theorem fdiv_nn {a b : Int} (h : 0 ≤ b) : Int.fdiv a b = a / b := Int.fdiv_eq_ediv_of_nonneg _ h
theorem and_63 {x : Int} (h0 : 0 ≤ x) (h1 : x < 9223372036854775808) : bitOp .and .i64 x 63 = x % 64 := by
  obtain ⟨n, rfl⟩ := Int.eq_ofNat_of_zero_le h0
  have := (bitOp_nat (k := .i64) (m := n) (n := 63) (by simp [IntKind.bits]; omega) (by simp [IntKind.bits])).1
  rw [show ((63 : Nat) : Int) = 63 from rfl] at this
  rw [this, show n &&& 63 = n % 64 from Nat.and_two_pow_sub_one_eq_mod n 6, wrap_i64 (by omega) (by omega)]
  omega
theorem or_256 {x c : Int} (h0 : 0 ≤ x) (h1 : x < 18014398509481984) (h2 : 0 ≤ c) (h3 : c < 256) : bitOp .or .i64 (x * 256) c = x * 256 + c := by
  obtain ⟨n, rfl⟩ := Int.eq_ofNat_of_zero_le h0
  obtain ⟨m, rfl⟩ := Int.eq_ofNat_of_zero_le h2
  have := (bitOp_nat (k := .i64) (m := n * 256) (n := m) (by simp [IntKind.bits]; omega) (by simp [IntKind.bits]; omega)).2.1
  rw [show ((n : Int) * 256) = ((n * 256 : Nat) : Int) by simp, this]
  have h : n * 256 ||| m = n * 256 + m := by
    rw [Nat.mul_comm n 256, Nat.two_pow_add_eq_or_of_lt (i := 8) (by omega)]
  rw [h, wrap_i64 (by omega) (by omega)]
  omega
end Go.Proofs.YtemmcnbfajlljaaGreatDoor
