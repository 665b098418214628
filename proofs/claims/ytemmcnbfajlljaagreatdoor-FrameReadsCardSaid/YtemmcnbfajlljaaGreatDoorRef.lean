/- What the functions of tidepoleref01 come to: plain lists of bytes. -/
import Derived.Test.YtemmcnbfajlljaaGreatDoorRc
import Derived.Test.YtemmcnbfajlljaaGreatDoorProg
namespace Go.Proofs.YtemmcnbfajlljaaGreatDoor
open Go Go.TP Go.TP.Ry
/-- The lowest bits of a number, as a text. -/
def numL (v : Int) : Nat → List Int
  | 0 => []
  | i + 1 => (48 + (v / 2 ^ i) % 2) :: numL v i
def bitZ (c : Int) : Int := if byteZ c = 49 then 1 else 0
/-- So many bits of a text, from a place on, as a number. -/
def b8 (l : List Int) (a : Nat) : Nat → Int
  | 0 => 0
  | k + 1 => 2 * b8 l a k + bitZ (l.getD (a + k) 0)
def outL (l : List Int) : Nat → List Int
  | 0 => []
  | q + 1 => outL l q ++ [b8 l (8 * q) 8]
/-- Bits as bytes, with noughts behind. -/
def bytesL (l : List Int) : List Int := outL l ((l.length + 7) / 8)
/-- A text of bits as a number. -/
def valL (l : List Int) : Int := b8 l 0 l.length
/-- The bits of bytes as a text. -/
def textL (l : List Int) : Nat → List Int
  | 0 => []
  | i + 1 => textL l i ++ [48 + (byteZ (l.getD (i / 8) 0) / 2 ^ (7 - i % 8)) % 2]
noncomputable section
/-- The loop of Number: t0 what is left of the number, t5 the text, t6 how many. -/
def numH (v n : Int) : LH := ([0, 1, 5, 6], fun _ H => [⟨fun g => 0 ≤ g.i ∧ (g.i ≤ n ∨ g.i = 0) ∧ g.m = v / 2 ^ g.i.toNat ∧ g.s = numL v g.i.toNat, fun g => (n - g.i).toNat, fun g => [.X (.si .u64 g.m), .X (.si .i64 n), .X (.bs false g.s), .X (.si .i64 g.i)], fun _ => H⟩])
/-- The loops of Bytes: t0 the text, t3 what is out, t4 where, t5 the byte, t6 how many bits. -/
def bytH (l : List Int) : LH := ([0, 3, 4], fun _ H => [⟨fun g => 0 ≤ g.j ∧ g.i = 8 * g.j ∧ g.i < l.length + 8 ∧ g.s = outL l g.j.toNat, fun g => (l.length + 8 - g.i).toNat, fun g => [.X (.bs false l), .X (.bs false g.s), .X (.si .i64 g.i)], fun _ => H⟩])
def bytH2 (l : List Int) : LH := ([0, 3, 4, 5, 6], fun vs H => match vs with
  | [x, y, .X (.si _ a), _, _] => [⟨fun g => 0 ≤ g.i ∧ g.i ≤ 8 ∧ g.m = b8 l a.toNat g.i.toNat, fun g => (8 - g.i).toNat, fun g => [x, y, .X (.si .i64 a), .X (.si .u8 g.m), .X (.si .i64 g.i)], fun _ => H⟩]
  | _ => [])
/-- The loop of Value: t0 the text, t3 the number, t4 where. -/
def valH (l : List Int) : LH := ([0, 3, 4], fun _ H => [⟨fun g => 0 ≤ g.i ∧ g.i ≤ l.length ∧ g.m = b8 l 0 g.i.toNat, fun g => (l.length - g.i).toNat, fun g => [.X (.bs false l), .X (.si .u64 g.m), .X (.si .i64 g.i)], fun _ => H⟩])
/-- The loop of Text: t0 the bytes, t1 how many, t5 the text, t6 where. -/
def texH (l : List Int) (n : Int) : LH := ([0, 1, 5, 6], fun _ H => [⟨fun g => 0 ≤ g.i ∧ (g.i ≤ n ∨ g.i = 0) ∧ g.s = textL l g.i.toNat, fun g => (n - g.i).toNat, fun g => [.X (.bs false l), .X (.si .i64 n), .X (.bs false g.s), .X (.si .i64 g.i)], fun _ => H⟩])
def hint2 (f b : Nat) (l : LH) (b' : Nat) (l' : LH) : Nat → List Nat → Option LH := fun g ids => match Nat.beq f g with
  | true => match ids with
    | c :: _ => match Nat.beq b c with
      | true => some l
      | false => match Nat.beq b' c with
        | true => some l'
        | false => none
    | [] => none
  | false => none
def hint1 (f b : Nat) (l : LH) : Nat → List Nat → Option LH := fun g ids => match Nat.beq f g with
  | true => match ids with
    | c :: _ => match Nat.beq b c with
      | true => some l
      | false => none
    | [] => none
  | false => none
def fu (h : Nat → List Nat → Option LH) : Fu := ⟨1000, h, StW Tryz.prog⟩
theorem fu_ok (h : Nat → List Nat → Option LH) : WOk Tryz.prog (fu h) := fun _ _ _ _ _ h => h
def nohk : Nat → Option (FD R) := fun _ => none
theorem nohk_ok : HookOk Tryz.prog nohk := fun _ _ h => by cases h
end
end Go.Proofs.YtemmcnbfajlljaaGreatDoor
