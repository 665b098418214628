/- The sum of bytes: what crc's and tidepoleref23's functions come to. -/
import Derived.Test.YtemmcnbfajlljaaGreatDoorLhk
namespace Go.Proofs.YtemmcnbfajlljaaGreatDoor
open Go Go.TP Go.TP.Ry
def pol : BitVec 32 := 79764919#32
/-- One bit further. -/
def cBit (r : BitVec 32) : BitVec 32 := if r.msb then (r <<< 1) ^^^ pol else r <<< 1
def cIt (r : BitVec 32) : Nat → BitVec 32
  | 0 => r
  | k + 1 => cBit (cIt r k)
/-- The register and one more byte. -/
def cIn (r : BitVec 32) (c : Int) : BitVec 32 := r ^^^ BitVec.ofInt 32 (c * 16777216)
def cStep (r : BitVec 32) (c : Int) : BitVec 32 := cIt (cIn r c) 8
def cGo (l : List Int) : Nat → BitVec 32
  | 0 => BitVec.allOnes 32
  | k + 1 => cStep (cGo l k) (l.getD k 0)
def cSum (l : List Int) : Int := ((~~~ (cGo l l.length)).toNat : Int)
/-- The same, bit by bit: the register behind so many bits of a text. -/
def rBit (r : BitVec 32) (b : Bool) : BitVec 32 := if b != r.msb then (r <<< 1) ^^^ pol else r <<< 1
def isOne (c : Int) : Bool := byteZ c == 49
def rGo (s : List Int) : Nat → BitVec 32
  | 0 => BitVec.allOnes 32
  | k + 1 => rBit (rGo s k) (isOne (s.getD k 0))
noncomputable section
def stI (r c : Int) : Int := ((cStep (BitVec.ofInt 32 r) c).toNat : Int)
/-- The loop of crc.step: t0 the register, t10 how many. -/
def stpH (r c : Int) : LH := ([0, 10], fun _ H => [⟨fun g => 0 ≤ g.i ∧ g.i ≤ 8 ∧ g.m = ((cIt (cIn (BitVec.ofInt 32 r) c) g.i.toNat).toNat : Int), fun g => (8 - g.i).toNat, fun g => [.X (.si .u32 g.m), .X (.si .i64 g.i)], fun _ => H⟩])
/-- The loop of crc.Go: t5 the register, t10 the slice, t11 its length, t12 where. -/
def cgoH (l : List Int) : LH := ([5, 10, 11, 12], fun vs H => match vs with
  | [_, s, _, _] => [⟨fun g => 0 ≤ g.i ∧ g.i ≤ l.length ∧ g.m = ((cGo l g.i.toNat).toNat : Int), fun g => (l.length - g.i).toNat, fun g => [.X (.si .u32 g.m), s, .X (.si .i64 l.length), .X (.si .i64 g.i)], fun _ => H⟩]
  | _ => [])
/-- The loops of tidepoleref23.Sum: t3 the text, t4 the register, t5 where; t6 the next one, t7 what there is of it, t8 how much; t10 what is out, t11 how much. -/
def regL (x : BitVec 32) : List Int := numL (x.toNat : Int) 32
def rsmH1 : LH := ([3, 4, 5], fun vs H => match vs with
  | [.X (.bs a s), _, _] => [⟨fun g => g.u = s ∧ 0 ≤ g.i ∧ g.i ≤ s.length ∧ g.t = regL (rGo s g.i.toNat), fun g => (s.length - g.i).toNat, fun g => [.X (.bs a g.u), .X (.bs false g.t), .X (.si .i64 g.i)], fun _ => H⟩]
  | _ => [])
def rsmH2 : LH := ([3, 5, 6, 7, 8], fun vs H => match vs with
  | [s, i, .X (.bs a x), _, _] => [⟨fun g => g.u = x ∧ 0 ≤ g.i ∧ g.i ≤ 32 ∧ g.t = (regL (BitVec.ofInt 32 (valL x) ^^^ pol)).take g.i.toNat, fun g => (32 - g.i).toNat, fun g => [s, i, .X (.bs a g.u), .X (.bs false g.t), .X (.si .i64 g.i)], fun _ => H⟩]
  | _ => [])
def rsmH3 : LH := ([4, 10, 11], fun vs H => match vs with
  | [.X (.bs a x), _, _] => [⟨fun g => 0 ≤ g.i ∧ g.i ≤ 32 ∧ g.t = (regL (~~~ BitVec.ofInt 32 (valL x))).take g.i.toNat, fun g => (32 - g.i).toNat, fun g => [.X (.bs a x), .X (.bs false g.t), .X (.si .i64 g.i)], fun _ => H⟩]
  | _ => [])
def rsmH : Nat → List Nat → Option LH := fun f ids => match Nat.beq f 46 with
  | true => match ids with
    | c :: _ => match Nat.beq c 0 with
      | true => some rsmH1
      | false => match Nat.beq c 2 with
        | true => some rsmH2
        | false => match Nat.beq c 4 with
          | true => some rsmH3
          | false => none
    | [] => none
  | false => none
end
end Go.Proofs.YtemmcnbfajlljaaGreatDoor
