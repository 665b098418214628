/- Ry: code made into functions that the kernel reduces well; on a heap of numbered blocks: whatever block numbers, whatever capacities. Nothing of a program stands here. -/
import Derived.Test.YtnmdbemccdhdmaaGreatDoorDraw
namespace Go.TP
open Go

/-- A key: a path in a tree. -/
inductive Pth where
  | z
  | a (p : Pth)
  | b (p : Pth)
inductive PT (α : Type) where
  | nil
  | node (v : Option α) (l r : PT α)
/-- What is known of a slice's capacity: all; or what its block has, without so many. -/
inductive Cp where
  | kn (n : Nat)
  | un (d : Nat)
inductive AV' (X : Type) where
  | I (k : IntKind) (n : Int)
  | B (b : Bool)
  | P (b : Pth) (o : Nat)
  | S (b : Pth) (o len : Nat) (cap : Cp)
  | X (x : X)
inductive XV where
  | undef
  | flt (k : FloatKind) (b : Nat)
  | str (s : List UInt8)
  | nilp
  | nils
  | slz
  | nilf
  | fn (f : Nat) (first cap : List (AV' XV))
  | yld (l : Pth)
  | nilm
  | ifc (t : Nat) (v : AV' XV)
  | nili
  | agg (l : List (AV' XV))
  | tup (l : List (AV' XV))
  /-- A number of which only this is known: how it lies to some others. -/
  | sym (p : Pth) (fs : List (Nat × Int × Bool))
abbrev AV := AV' XV
/-- Eight things. -/
structure O8 (β : Type) where
  a : β
  b : β
  c : β
  d : β
  e : β
  f : β
  g : β
  h : β
/-- A function's slots: 512 at most. -/
abbrev EV := O8 (O8 (O8 (Option AV)))
/-- A block that is just so long; one that was grown by append (its elements' size); one that is read alone. -/
inductive Md where
  | shut
  | op (sz : Nat)
  | ro
inductive AB where
  /-- A block whose cells begin so; m: how often it was turned. -/
  | cells (T : Nat) (m : Md) (st : Nat) (cs : List AV)
  /-- A range over a function: does it go on; how it is left. -/
  | loop (on : Bool) (jump : Option Nat)
structure AH where
  next : Pth
  blocks : PT AB

noncomputable section
namespace Ry
section
variable {R : Type} {α : Type}

def Pth.succ (p : Pth) : Pth := Pth.rec (.a .z) (fun p _ => .b p) (fun _ ih => .a ih) p
/-- A path's number. -/
def num (p : Pth) : Nat := Pth.rec 0 (fun _ n => Nat.add (Nat.mul 2 n) 1) (fun _ n => Nat.add (Nat.mul 2 n) 2) p
def pthF : Nat → Nat → Pth
  | 0, _ => .z
  | f + 1, n => match n with
    | 0 => .z
    | m + 1 => match Nat.mod m 2 with
      | 0 => .a (pthF f (Nat.div m 2))
      | _ + 1 => .b (pthF f (Nat.div m 2))
def Pth.beq (p : Pth) : Pth → Bool := Pth.rec (motive := fun _ => Pth → Bool)
  (fun q => Pth.rec true (fun _ _ => false) (fun _ _ => false) q)
  (fun _ ih q => Pth.rec false (fun q _ => ih q) (fun _ _ => false) q)
  (fun _ ih q => Pth.rec false (fun _ _ => false) (fun q _ => ih q) q) p

def getK (t : PT α) : Pth → (α → Option R) → Option R :=
  PT.rec (motive := fun _ => Pth → (α → Option R) → Option R)
    (fun _ _ => none)
    (fun v _ _ gl gr p k => Pth.rec (Option.rec none k v) (fun p _ => gl p k) (fun p _ => gr p k) p) t
def setK (v : Option α) (p : Pth) : PT α → (PT α → Option R) → Option R :=
  Pth.rec (motive := fun _ => PT α → (PT α → Option R) → Option R)
   (fun t k => PT.rec (k (.node v .nil .nil)) (fun _ l r _ _ => k (.node v l r)) t)
   (fun _ ih t k => PT.rec (ih .nil fun l => k (.node none l .nil)) (fun u l r _ _ => ih l fun l => k (.node u l r)) t)
   (fun _ ih t k => PT.rec (ih .nil fun r => k (.node none .nil r)) (fun u l r _ _ => ih r fun r => k (.node u l r)) t) p

def natK (n : Nat) (k : Nat → Option R) : Option R := Nat.rec (k 0) (fun m _ => k (Nat.succ m)) n
def intK (n : Int) (k : Int → Option R) : Option R := Int.rec (fun m => natK m fun m => k (.ofNat m)) (fun m => natK m fun m => k (.negSucc m)) n
def boolK (b : Bool) (k : Bool → Option R) : Option R := Bool.rec (k false) (k true) b
def ifK (b : Bool) (x y : Option R) : Option R := Bool.rec y x b

/-! Slots. -/
abbrev Up (β R : Type) := β → (β → Option R) → Option R
def gsel {β : Type} : Nat → O8 β → β
  | 0 => O8.a
  | 1 => O8.b
  | 2 => O8.c
  | 3 => O8.d
  | 4 => O8.e
  | 5 => O8.f
  | 6 => O8.g
  | _ => O8.h
def up0 {β : Type} (F : Up β R) : Up (O8 β) R := fun t k => O8.rec (fun a b c d e f g h => F a fun a => k ⟨a, b, c, d, e, f, g, h⟩) t
def up1 {β : Type} (F : Up β R) : Up (O8 β) R := fun t k => O8.rec (fun a b c d e f g h => F b fun b => k ⟨a, b, c, d, e, f, g, h⟩) t
def up2 {β : Type} (F : Up β R) : Up (O8 β) R := fun t k => O8.rec (fun a b c d e f g h => F c fun c => k ⟨a, b, c, d, e, f, g, h⟩) t
def up3 {β : Type} (F : Up β R) : Up (O8 β) R := fun t k => O8.rec (fun a b c d e f g h => F d fun d => k ⟨a, b, c, d, e, f, g, h⟩) t
def up4 {β : Type} (F : Up β R) : Up (O8 β) R := fun t k => O8.rec (fun a b c d e f g h => F e fun e => k ⟨a, b, c, d, e, f, g, h⟩) t
def up5 {β : Type} (F : Up β R) : Up (O8 β) R := fun t k => O8.rec (fun a b c d e f g h => F f fun f => k ⟨a, b, c, d, e, f, g, h⟩) t
def up6 {β : Type} (F : Up β R) : Up (O8 β) R := fun t k => O8.rec (fun a b c d e f g h => F g fun g => k ⟨a, b, c, d, e, f, g, h⟩) t
def up7 {β : Type} (F : Up β R) : Up (O8 β) R := fun t k => O8.rec (fun a b c d e f g h => F h fun h => k ⟨a, b, c, d, e, f, g, h⟩) t
def usel {β : Type} : Nat → Up β R → Up (O8 β) R
  | 0 => up0
  | 1 => up1
  | 2 => up2
  | 3 => up3
  | 4 => up4
  | 5 => up5
  | 6 => up6
  | _ => up7
def selG {β γ : Type} (n : Nat) (k : (O8 β → β) → γ) : γ := match n with
  | 0 => k O8.a
  | 1 => k O8.b
  | 2 => k O8.c
  | 3 => k O8.d
  | 4 => k O8.e
  | 5 => k O8.f
  | 6 => k O8.g
  | _ => k O8.h
def selU {β γ : Type} (n : Nat) (k : (Up β R → Up (O8 β) R) → γ) : γ := match n with
  | 0 => k up0
  | 1 => k up1
  | 2 => k up2
  | 3 => k up3
  | 4 => k up4
  | 5 => k up5
  | 6 => k up6
  | _ => k up7
/-- A slot: its number; how it is set. -/
structure Slot (R : Type) where
  p : Nat
  S : Option AV → EV → (EV → Option R) → Option R
/-- How a slot is read. -/
def slG (n : Nat) (k : (EV → Option AV) → Option α) : Option α := ifK (Nat.blt n 512) (selG (Nat.div n 64) fun a => selG (Nat.mod (Nat.div n 8) 8) fun b => selG (Nat.mod n 8) fun c => k fun e => c (b (a e))) none
def slS (n : Nat) (k : Slot R → Option α) : Option α := ifK (Nat.blt n 512) (selU (R := R) (Nat.div n 64) fun a => selU (R := R) (Nat.mod (Nat.div n 8) 8) fun b => selU (R := R) (Nat.mod n 8) fun c => k ⟨n, fun v => a (b (c fun _ k => k v))⟩) none
def e1 : O8 (Option AV) := ⟨none, none, none, none, none, none, none, none⟩
def e2 : O8 (O8 (Option AV)) := ⟨e1, e1, e1, e1, e1, e1, e1, e1⟩
def e3 : EV := ⟨e2, e2, e2, e2, e2, e2, e2, e2⟩
abbrev Cont (R : Type) := EV → AH → Option R
abbrev OD (R : Type) := EV → (AV → Option R) → Option R
def oT (G : EV → Option AV) : OD R := fun e k => Option.rec none k (G e)
def oC (v : AV) : OD R := fun _ k => k v
def nilO : EV → (List AV → Option R) → Option R := fun _ k => k []
def consO (x : OD R) (l : EV → (List AV → Option R) → Option R) : EV → (List AV → Option R) → Option R := fun e k => x e fun v => l e fun vs => k (v :: vs)

/-! The heap. -/
def blk (H : AH) (b : Pth) (k : AB → Option R) : Option R := AH.rec (fun _ t => getK t b k) H
def cellsB (B : AB) (k : Nat → Md → Nat → List AV → Option R) : Option R := AB.rec k (fun _ _ => none) B
/-- The block may be turned. -/
def open_ (m : Md) (x : Option R) : Option R := Md.rec x (fun _ => x) none m
def new (H : AH) (B : AB) (k : Pth → AH → Option R) : Option R := AH.rec (fun n t => setK (some B) n t fun t => k n ⟨Pth.succ n, t⟩) H
def putB (H : AH) (b : Pth) (B : AB) (k : AH → Option R) : Option R := AH.rec (fun n t => setK (some B) b t fun t => k ⟨n, t⟩) H
def killB (H : AH) (b : Pth) (k : AH → Option R) : Option R := AH.rec (fun n t => setK none b t fun t => k ⟨n, t⟩) H
def nth (l : List AV) : Nat → (AV → Option R) → Option R := List.rec (motive := fun _ => Nat → (AV → Option R) → Option R) (fun _ _ => none) (fun v _ ih n k => Nat.rec (k v) (fun m _ => ih m k) n) l
def dropK (l : List AV) : Nat → (List AV → Option R) → Option R := List.rec (motive := fun _ => Nat → (List AV → Option R) → Option R) (fun n k => Nat.rec (k []) (fun _ _ => none) n) (fun v l ih n k => Nat.rec (k (v :: l)) (fun m _ => ih m k) n) l
def takeK (l : List AV) : Nat → (List AV → Option R) → Option R := List.rec (motive := fun _ => Nat → (List AV → Option R) → Option R) (fun n k => Nat.rec (k []) (fun _ _ => none) n) (fun v _ ih n k => Nat.rec (k []) (fun m _ => ih m fun l => k (v :: l)) n) l
/-- us over the first cells of l. -/
def over0 (us : List AV) : List AV → (List AV → Option R) → Option R := List.rec (motive := fun _ => List AV → (List AV → Option R) → Option R) (fun l k => k l) (fun u _ ih l k => List.rec none (fun _ l _ => ih l fun l => k (u :: l)) l) us
/-- us over the cells of l from o on. -/
def overK (us : List AV) (l : List AV) : Nat → (List AV → Option R) → Option R := List.rec (motive := fun _ => Nat → (List AV → Option R) → Option R) (fun n k => Nat.rec (over0 us [] k) (fun _ _ => none) n) (fun v l ih n k => Nat.rec (over0 us (v :: l) k) (fun m _ => ih m fun l => k (v :: l)) n) l
def appK (l : List AV) (m : List AV) : (List AV → Option R) → Option R := List.rec (motive := fun _ => (List AV → Option R) → Option R) (fun k => k m) (fun v _ ih k => ih fun r => k (v :: r)) l
def repK (z : List AV) (n : Nat) : (List AV → Option R) → Option R := Nat.rec (motive := fun _ => (List AV → Option R) → Option R) (fun k => k []) (fun _ ih k => ih fun r => appK z r k) n
def cellsOf : AV → List AV
  | .X (.agg l) => l
  | v => [v]

/-- Values of one cell each. -/
def one1 (v : AV) : Bool := match v with
  | .X (.agg _) => false
  | .X (.tup _) => false
  | .X .undef => false
  | _ => true
def ones (l : List AV) : Bool := List.rec true (fun v _ ih => Bool.rec false ih (one1 v)) l

/-! Matching. -/
def asP (v : AV) (k : Pth → Nat → Option R) : Option R := AV'.rec (fun _ _ => none) (fun _ => none) k (fun _ _ _ _ => none) (fun _ => none) v
def asB (v : AV) (k : Bool → Option R) : Option R := AV'.rec (fun _ _ => none) k (fun _ _ => none) (fun _ _ _ _ => none) (fun _ => none) v
def asI (v : AV) (k : IntKind → Int → Option R) : Option R := AV'.rec k (fun _ => none) (fun _ _ => none) (fun _ _ _ _ => none) (fun _ => none) v
def asX (v : AV) (k : XV → Option R) : Option R := AV'.rec (fun _ _ => none) (fun _ => none) (fun _ _ => none) (fun _ _ _ _ => none) k v
/-- An index. -/
def asN (v : AV) (k : Nat → Option R) : Option R := asI v fun _ n => Int.rec k (fun _ => none) n

/-! Numbers. -/
def lim : IntKind → Nat
  | .i8 => 128
  | .i16 => 32768
  | .i32 => 2147483648
  | .i64 => 9223372036854775808
  | .u8 => 256
  | .u16 => 65536
  | .u32 => 4294967296
  | .u64 => 18446744073709551616
def wrapK (k : IntKind) (z : Int) (κ : AV → Option R) : Option R :=
  Int.rec (fun m => natK m fun m => ifK (Nat.blt m (lim k)) (κ (.I k (.ofNat m))) (intK (k.wrap (.ofNat m)) fun r => κ (.I k r)))
    (fun m => intK (k.wrap (.negSucc m)) fun r => κ (.I k r)) z
def out (k : IntKind) (z : Int) (κ : AV → Option R) : Option R := intK z fun r => κ (.I k r)
def outB (b : Bool) (κ : AV → Option R) : Option R := Bool.rec (κ (.B false)) (κ (.B true)) b
def strEq (a : List UInt8) : List UInt8 → Bool := List.rec (motive := fun _ => List UInt8 → Bool) (fun b => List.rec true (fun _ _ _ => false) b) (fun u _ ih b => List.rec false (fun v b _ => Bool.rec false (ih b) (Nat.beq u.toNat v.toNat)) b) a
abbrev Bin (R : Type) := AV → AV → (AV → Option R) → Option R
def factK (o : Nat) (c : Int) : List (Nat × Int × Bool) → (Bool → Option R) → Option R
  | [], _ => none
  | f :: l, k => ifK (Nat.beq o f.1 && decide (c = f.2.1)) (boolK f.2.2 k) (factK o c l k)
/-- A number of which only some is known, and another one. -/
def symB (o : Nat) (g : Bin R) : Bin R := fun x y k => match x, y with
  | .X (.sym _ fs), .I .i64 c => factK o c fs fun r => outB r k
  | _, _ => g x y k
def kidx (k : IntKind) : Nat := IntKind.rec 0 1 2 3 4 5 6 7 k
def kEq (a b : IntKind) : Bool := Nat.beq (kidx a) (kidx b)
/-- Two whole numbers of one kind, or what else there is. -/
def two (f : IntKind → Int → Int → (AV → Option R) → Option R) (g : Bin R) : Bin R := fun x y k => AV'.rec (fun ik m => AV'.rec (fun jk n => ifK (kEq ik jk) (f ik m n k) none) (fun _ => none) (fun _ _ => none) (fun _ _ _ _ => none) (fun _ => none) y) (fun _ => g x y k) (fun _ _ => g x y k) (fun _ _ _ _ => g x y k) (fun _ => g x y k) x
/-- Two whole numbers, or what else there is. -/
def twoS (f : IntKind → Int → Int → (AV → Option R) → Option R) (g : Bin R) : Bin R := fun x y k => AV'.rec (fun ik m => AV'.rec (fun _ n => f ik m n k) (fun _ => none) (fun _ _ => none) (fun _ _ _ _ => none) (fun _ => none) y) (fun _ => g x y k) (fun _ _ => g x y k) (fun _ _ _ _ => g x y k) (fun _ => g x y k) x
def none2 : Bin R := fun _ _ _ => none
def strs (f : List UInt8 → List UInt8 → (AV → Option R) → Option R) : Bin R := fun x y k => match x, y with
  | .X (.str a), .X (.str b) => f a b k
  | _, _ => none
def eqBool (f : Bool → Bool) : Bin R := fun x y k => asB x fun a => asB y fun b => outB (f (a == b)) k
/-- Is it nil? (a pointer) -/
def nilPtr (f : Bool → Bool) : Bin R := fun x y k => match x, y with
  | .X .nilp, .X .nilp => outB (f true) k
  | .P _ _, .X .nilp => outB (f false) k
  | _, _ => none
/-- Is it nil? (an interface value) -/
def nilIfc (f : Bool → Bool) : Bin R := fun x _ k => match x with
  | .X .nili => outB (f true) k
  | .X (.ifc _ _) => outB (f false) k
  | _ => none
/-- Is it nil? (a slice) -/
def nilSl (f : Bool → Bool) : Bin R := fun x y k => match x, y with
  | .X .nils, .X .nils => outB (f true) k
  | .S _ _ _ _, .X .nils => outB (f false) k
  | _, _ => none
/-! Structs of numbers. -/
def eqCell (x y : AV) (k : Bool → Option R) : Option R := match x, y with
  | .I a i, .I b j => ifK (kEq a b) (boolK (decide (i = j)) k) none
  | .X (.sym p _), .X (.sym q _) => ifK (Pth.beq p q) (k true) none
  | _, _ => none
def eqOff (l m : List AV) : List Nat → Bool → (Bool → Option R) → Option R
  | [], b, k => k b
  | o :: os, b, k => match l[o]?, m[o]? with
    | some x, some y => eqCell x y fun c => boolK (b && c) fun b => eqOff l m os b k
    | _, _ => none
def aggEq (f : Bool → Bool) (offs : List Nat) : Bin R := fun x y k => match x, y with
  | .X (.agg l), .X (.agg m) => eqOff l m offs true fun b => outB (f b) k
  | _, _ => none
def shAmt (k : IntKind) (n : Int) (κ : Nat → Option R) : Option R := Int.rec (fun n => ifK (Nat.ble n k.bits) (κ n) (κ k.bits)) (fun _ => none) n
def binF : BinOp → Option (Bin R)
  | .add => some (two (fun k m n κ => wrapK k (Int.add m n) κ) (strs fun a b k => if Nat.ble (a.length + b.length) 9223372036854775807 then k (.X (.str (a ++ b))) else none))
  | .sub => some (two (fun k m n κ => wrapK k (Int.sub m n) κ) none2)
  | .mul => some (two (fun k m n κ => wrapK k (Int.mul m n) κ) none2)
  | .quo => some (two (fun k m n κ => bif decide (n = 0) then none else wrapK k (m.tdiv n) κ) none2)
  | .rem => some (two (fun k m n κ => bif decide (n = 0) then none else out k (m.tmod n) κ) none2)
  | .and => some (two (fun k m n κ => out k (bitOp .and k m n) κ) none2)
  | .or => some (two (fun k m n κ => out k (bitOp .or k m n) κ) none2)
  | .xor => some (two (fun k m n κ => out k (bitOp .xor k m n) κ) none2)
  | .andNot => some (two (fun k m n κ => out k (bitOp .andNot k m n) κ) none2)
  | .shl => some (twoS (fun k m n κ => shAmt k n fun s => wrapK k (Int.mul m (Int.ofNat (Nat.pow 2 s))) κ) none2)
  | .shr => some (twoS (fun k m n κ => shAmt k n fun s => out k (Int.fdiv m (Int.ofNat (Nat.pow 2 s))) κ) none2)
  | .lss => some (two (fun _ m n κ => outB (decide (m < n)) κ) (symB 0 none2))
  | .leq => some (two (fun _ m n κ => outB (decide (m ≤ n)) κ) (symB 1 none2))
  | .gtr => some (two (fun _ m n κ => outB (decide (n < m)) κ) (symB 2 none2))
  | .geq => some (two (fun _ m n κ => outB (decide (n ≤ m)) κ) (symB 3 none2))
  | .eql => some (two (fun _ m n κ => outB (decide (m = n)) κ) (symB 4 (strs fun a b k => outB (strEq a b) k)))
  | .neq => some (two (fun _ m n κ => outB (!decide (m = n)) κ) (symB 5 (strs fun a b k => outB (!strEq a b) k)))
def unF : UnOp → Option (AV → (AV → Option R) → Option R)
  | .not => some fun v k => asB v fun b => Bool.rec (k (.B true)) (k (.B false)) b
  | .neg => some fun v κ => asI v fun k m => wrapK k (Int.neg m) κ
  | .xor => some fun v κ => asI v fun k m => out k (bitOp .xor k (if k.signed then -1 else k.max) m) κ
  | _ => none
def lenSl (x : AV) (k : Nat → Option R) : Option R := match x with
  | .S _ _ n _ => k n
  | .X .nils => k 0
  | .X .slz => k 0
  | _ => none
def lenStr (x : AV) (k : Nat → Option R) : Option R := match x with
  | .X (.str s) => natK s.length k
  | _ => none
/-- The cells that a slice shows. -/
def slCells (H : AH) (sz : Nat) (x : AV) (k : List AV → Option R) : Option R := match x with
  | .S b o n _ => Nat.rec (k []) (fun n _ => blk H b fun B => cellsB B fun _ _ _ cs => dropK cs o fun l => takeK l (Nat.mul (Nat.succ n) sz) k) n
  | .X .nils => k []
  | .X .slz => k []
  | _ => none
def bytesOf : List AV → Option (List UInt8)
  | [] => some []
  | .I .u8 n :: l => match bytesOf l with
    | some r => some (UInt8.ofNat n.toNat :: r)
    | none => none
  | _ => none

/-! Instructions: each hands on to what comes behind it. -/
abbrev FD (R : Type) := List AV → AH → (AV → AH → Option R) → Option R
inductive Tg where
  | fn (f : Nat)
  | yl (l : Pth)
/-- What calls: with these new yields. -/
abbrev Cx (R : Type) := List (Pth × FD R) → Tg → FD R
abbrev Ins (R : Type) := Cx R → Cont R → Cont R
/-- The value goes to slot d. -/
def put (d : Option (Slot R)) (v : AV) (k : Cont R) : Cont R := fun e H => Option.rec (k e H) (fun p => Slot.rec (fun _ S => S (some v) e fun e => k e H) p) d
def iMv (d : Option (Slot R)) (x : OD R) : Ins R := fun _ k e H => x e fun v => put d v k e H
def iPick (d : Option (Slot R)) (c x y : OD R) : Ins R := fun _ k e H => c e fun c => asB c fun c => Bool.rec (y e fun v => put d v k e H) (x e fun v => put d v k e H) c
def iBin (d : Option (Slot R)) (f : Bin R) (x y : OD R) : Ins R := fun _ k e H => x e fun a => y e fun b => f a b fun v => put d v k e H
def iUn (d : Option (Slot R)) (f : AV → (AV → Option R) → Option R) (x : OD R) : Ins R := fun _ k e H => x e fun a => f a fun v => put d v k e H
def iFa (d : Option (Slot R)) (off : Nat) (x : OD R) : Ins R := fun _ k e H => x e fun v => asP v fun b o => natK (Nat.add o off) fun o => put d (.P b o) k e H
/-- An element of an array behind a pointer. -/
def iIp (d : Option (Slot R)) (n sz : Nat) (x i : OD R) : Ins R := fun _ k e H => x e fun v => asP v fun b o => i e fun i => asN i fun i => ifK (Nat.blt i n) (natK (Nat.add o (Nat.mul i sz)) fun o => put d (.P b o) k e H) none
def iIs (d : Option (Slot R)) (sz : Nat) (x i : OD R) : Ins R := fun _ k e H => x e fun v => i e fun i => asN i fun i => AV'.rec (fun _ _ => none) (fun _ => none) (fun _ _ => none)
  (fun b o n _ => ifK (Nat.blt i n) (natK (Nat.add o (Nat.mul i sz)) fun o => put d (.P b o) k e H) none) (fun _ => none) v
def iIx (d : Option (Slot R)) (x i : OD R) : Ins R := fun _ k e H => x e fun v => i e fun i => asN i fun i => match v with
  | .X (.str s) => Option.rec none (fun u => natK (UInt8.toNat u) fun n => put d (.I .u8 (.ofNat n)) k e H) s[i]?
  | _ => none
def iEx (d : Option (Slot R)) (i : Nat) (x : OD R) : Ins R := fun _ k e H => x e fun v => match v with
  | .X (.tup l) => nth l i fun v => put d v k e H
  | _ => none
def iFd (d : Option (Slot R)) (off : Nat) (x : OD R) : Ins R := fun _ k e H => x e fun v => match v with
  | .X (.agg l) => nth l off fun v => put d v k e H
  | _ => none
def iFs (d : Option (Slot R)) (off n : Nat) (x : OD R) : Ins R := fun _ k e H => x e fun v => match v with
  | .X (.agg l) => dropK l off fun l => takeK l n fun l => put d (.X (.agg l)) k e H
  | _ => none
def iLd (d : Option (Slot R)) (x : OD R) : Ins R := fun _ k e H => x e fun v => asP v fun b o => blk H b fun B => cellsB B fun _ _ _ cs => nth cs o fun v => put d v k e H
def iLs (d : Option (Slot R)) (n : Nat) (x : OD R) : Ins R := fun _ k e H => x e fun v => asP v fun b o => blk H b fun B => cellsB B fun _ _ _ cs => dropK cs o fun l => takeK l n fun l => put d (.X (.agg l)) k e H
def iSt (n : Nat) (x y : OD R) : Ins R := fun _ k e H => x e fun v => asP v fun b o => y e fun u => blk H b fun B => cellsB B fun T m s cs => open_ m (ifK (Nat.beq (cellsOf u).length n && ones (cellsOf u)) (overK (cellsOf u) cs o fun cs => natK (Nat.succ s) fun s => putB H b (.cells T m s cs) fun H => k e H) none)
def iAl (d : Option (Slot R)) (T : Nat) (z : List AV) : Ins R := fun _ k e H => new H (.cells T .shut 0 z) fun b H => put d (.P b 0) k e H
def iBx (d : Option (Slot R)) (T : Nat) (x : OD R) : Ins R := fun _ k e H => x e fun v => new H (.cells T .shut 0 (cellsOf v)) fun b H => put d (.P b 0) k e H
def iNc (d : Option (Slot R)) (x : OD R) : Ins R := fun _ k e H => x e fun v => match v with
  | .P _ _ => put d v k e H
  | .X (.ifc _ _) => put d v k e H
  | .X (.fn _ _ _) => put d v k e H
  | .X (.yld _) => put d v k e H
  | _ => none
/-- The parts of what is built: where each goes. -/
abbrev Part (R : Type) := Nat × Nat × OD R
def partsK (ps : List (Part R)) : List AV → EV → (List AV → Option R) → Option R := List.rec (motive := fun _ => List AV → EV → (List AV → Option R) → Option R) (fun cs _ k => k cs)
  (fun p _ ih cs e k => p.2.2 e fun v => ifK (Nat.beq (cellsOf v).length p.2.1) (overK (cellsOf v) cs p.1 fun cs => ih cs e k) none) ps
def iBd (d : Option (Slot R)) (z : List AV) (ps : List (Part R)) : Ins R := fun _ k e H => partsK ps z e fun cs => put d (.X (.agg cs)) k e H
def iBs (d : Option (Slot R)) (T n sz : Nat) (z : List AV) (ps : List (Part R)) : Ins R := fun _ k e H => ifK (Nat.ble (n * sz) 16777216) (repK z n fun cs => partsK ps cs e fun cs => new H (.cells T .shut 0 cs) fun b H => put d (.S b 0 n (.kn n)) k e H) none
def iMk (d : Option (Slot R)) (T : Nat) (z : List AV) (l c : OD R) : Ins R := fun _ k e H => l e fun l => asN l fun l => c e fun c => asN c fun c => ifK (Nat.ble l c && Nat.ble c 1048576) (repK z c fun cs => new H (.cells T .shut 0 cs) fun b H => put d (.S b 0 l (.kn c)) k e H) none
def iCv (d : Option (Slot R)) (k' : IntKind) (x : OD R) : Ins R := fun _ k e H => x e fun v => asI v fun _ n => wrapK k' n fun v => put d v k e H
def iBt (d : Option (Slot R)) (x : OD R) : Ins R := fun _ k e H => x e fun v => slCells H 1 v fun cs => Option.rec none (fun s => put d (.X (.str s)) k e H) (bytesOf cs)
def iIf (d : Option (Slot R)) (t : Nat) (x : OD R) : Ins R := fun _ k e H => x e fun v => put d (.X (.ifc t v)) k e H
def iFn (d : Option (Slot R)) (f : Nat) (xs ys : EV → (List AV → Option R) → Option R) : Ins R := fun _ k e H => xs e fun l => ys e fun m => put d (.X (.fn f l m)) k e H
def iTa (d : Option (Slot R)) (t : Nat) (ok : Bool) (z : AV) (x : OD R) : Ins R := fun _ k e H => x e fun v => match v, ok with
  | .X (.ifc u w), true => ifK (Nat.beq u t) (put d (.X (.tup [w, .B true])) k e H) (put d (.X (.tup [z, .B false])) k e H)
  | .X (.ifc u w), false => ifK (Nat.beq u t) (put d w k e H) none
  | .X .nili, true => put d (.X (.tup [z, .B false])) k e H
  | _, _ => none
def bds (lo hi : Option (OD R)) (e : EV) (go : Nat → Option Nat → Option R) : Option R :=
  Option.rec (Option.rec (go 0 none) (fun hi => hi e fun h => asN h fun h => go 0 (some h)) hi)
    (fun lo => lo e fun l => asN l fun l => Option.rec (go l none) (fun hi => hi e fun h => asN h fun h => go l (some h)) hi) lo
def hiOf (h : Option Nat) (n : Nat) : Nat := Option.rec n (fun h => h) h
/-- A part of a slice. -/
def slPart (sz : Nat) (v : AV) (l : Nat) (h : Option Nat) (k : AV → Option R) : Option R := match v with
  | .S b o n cp => natK (hiOf h n) fun h => ifK (Nat.ble l h) (natK (Nat.sub h l) fun m => Cp.rec
      (fun c => ifK (Nat.ble h c) (natK (Nat.sub c l) fun c' => Nat.rec (k (.S b o m (.kn 0))) (fun c' _ => natK (Nat.add o (Nat.mul l sz)) fun o' => k (.S b o' m (.kn (Nat.succ c')))) c') none)
      (fun q => ifK (Nat.ble h n) (Nat.rec (k (.S b o m (.un q))) (fun l' _ => Nat.rec (k (.X .slz)) (fun m' _ => natK (Nat.add o (Nat.mul (Nat.succ l') sz)) fun o' => natK (Nat.add q (Nat.succ l')) fun q' => k (.S b o' (Nat.succ m') (.un q'))) m) l) none) cp) none
  | .X .nils => natK (hiOf h 0) fun h => ifK (Nat.beq l 0 && Nat.beq h 0) (k (.X .nils)) none
  | _ => none
def iSl (d : Option (Slot R)) (sz : Nat) (x : OD R) (lo hi : Option (OD R)) : Ins R := fun _ k e H => x e fun v => bds lo hi e fun l h => slPart sz v l h fun v => put d v k e H
def iSs (d : Option (Slot R)) (x : OD R) (lo hi : Option (OD R)) : Ins R := fun _ k e H => x e fun v => bds lo hi e fun l h => match v with
  | .X (.str s) => natK (hiOf h s.length) fun h => ifK (Nat.ble l h && Nat.ble h s.length) (put d (.X (.str ((s.drop l).take (h - l)))) k e H) none
  | _ => none
def iLen (d : Option (Slot R)) (x : OD R) : Ins R := fun _ k e H => x e fun v => lenSl v fun n => put d (.I .i64 (.ofNat n)) k e H
def iLeS (d : Option (Slot R)) (x : OD R) : Ins R := fun _ k e H => x e fun v => lenStr v fun n => put d (.I .i64 (.ofNat n)) k e H
def iCap (d : Option (Slot R)) (x : OD R) : Ins R := fun _ k e H => x e fun v => match v with
  | .X .nils => put d (.I .i64 0) k e H
  | .S _ _ _ (.kn n) => put d (.I .i64 (.ofNat n)) k e H
  | _ => none
def appNew (d : Option (Slot R)) (T sz : Nat) (cs : List AV) (q : Nat) : Cont R → Cont R := fun k e H => new H (.cells T (.op sz) 0 cs) fun b H => put d (.S b 0 q (.un 0)) k e H
/-- onto the slice x the cells cs, which are m elements -/
def appAt (d : Option (Slot R)) (T sz : Nat) (x : AV) (cs : List AV) (m : Nat) : Cont R → Cont R := fun k e H => match x, m with
  | .X .nils, 0 => put d (.X .nils) k e H
  | .X .nils, m + 1 => ifK (Nat.ble (m + 1) 1073741824) (appNew d T sz cs (m + 1) k e H) none
  | .S b o n c, 0 => put d (.S b o n c) k e H
  | .S b o n (.kn c), m + 1 => natK (n + (m + 1)) fun q => ifK (Nat.ble q 1073741824) (ifK (Nat.ble q c)
      (blk H b fun B => cellsB B fun T' md s ds => Md.rec (overK cs ds (o + n * sz) fun ds => natK (Nat.succ s) fun s => putB H b (.cells T' .shut s ds) fun H => put d (.S b o q (.kn c)) k e H) (fun _ => none) none md)
      (slCells H sz (.S b o n (.kn c)) fun old => appK old cs fun cs => appNew d T sz cs q k e H)) none
  | .S b o n (.un u), m + 1 => blk H b fun B => cellsB B fun T' md _ ds => Md.rec none (fun z => natK (n + (m + 1)) fun q => ifK (Nat.ble q 1073741824 && (Nat.beq o 0 && (Nat.beq u 0 && (Nat.beq z sz && Nat.beq T' T))))
      (takeK ds (Nat.mul n sz) fun old => killB H b fun H => appK old cs fun cs => appNew d T sz cs q k e H) none) none md
  | _, _ => none
def iApp (d : Option (Slot R)) (T sz : Nat) (x y : OD R) : Ins R := fun _ k e H => x e fun x => y e fun y => slCells H sz y fun cs => lenSl y fun m => ifK (ones cs) (appAt d T sz x cs m k e H) none
def iApm (d : Option (Slot R)) (T sz : Nat) (z : List AV) (x y : OD R) : Ins R := fun _ k e H => x e fun x => y e fun y => asN y fun m => ifK (Nat.ble m 1073741824 && ones z) (repK z m fun cs => appAt d T sz x cs m k e H) none
def iClr (z : List AV) (x : OD R) : Ins R := fun _ k e H => x e fun v => match v with
  | .X .nils => k e H
  | .S _ _ 0 _ => k e H
  | .S b o n _ => blk H b fun B => cellsB B fun T m s ds => open_ m (repK z n fun cs => overK cs ds o fun ds => natK (Nat.succ s) fun s => putB H b (.cells T m s ds) fun H => k e H)
  | _ => none
def iMx (d : Option (Slot R)) (x y : OD R) : Ins R := fun _ k e H => x e fun v => asI v fun ik m => y e fun w => asI w fun _ n => out ik (max m n) fun v => put d v k e H
def iMn (d : Option (Slot R)) (x y : OD R) : Ins R := fun _ k e H => x e fun v => asI v fun ik m => y e fun w => asI w fun _ n => out ik (min m n) fun v => put d v k e H
def iCall (d : Option (Slot R)) (f : Nat) (xs : EV → (List AV → Option R) → Option R) : Ins R := fun cx k e H => xs e fun vs => cx [] (.fn f) vs H fun v H => put d v k e H
def iCv' (d : Option (Slot R)) (x : OD R) (xs : EV → (List AV → Option R) → Option R) : Ins R := fun cx k e H => x e fun f => xs e fun vs => match f with
  | .X (.fn f first cap) => cx [] (.fn f) (first ++ vs ++ cap) H fun v H => put d v k e H
  | .X (.yld l) => cx [] (.yl l) vs H fun v H => put d v k e H
  | _ => none
def iInv (d : Option (Slot R)) (meth : Nat → Option Nat) (x : OD R) (xs : EV → (List AV → Option R) → Option R) : Ins R := fun cx k e H => x e fun v => xs e fun vs => match v with
  | .X (.ifc t v) => match meth t with
    | some f => cx [] (.fn f) (v :: vs) H fun v H => put d v k e H
    | none => none
  | _ => none
/-- A guarded operation. -/
def iG (g : EV → Option AV) (w : Bool) (d : Option (Slot R)) (i : Ins R) : Ins R := fun cx k e H => oT g e fun v => match v with
  | .B b => ifK (b == w) (i cx k e H) (put d (.X .undef) k e H)
  | .X .undef => put d (.X .undef) k e H
  | _ => none

/-- What isn't done. -/
def iFail : Ins R := fun _ _ _ _ => none

/-! Types. -/
def fieldB (P : Program) (s i : Nat) : Option (Nat × Bool × Nat) := match P.underlying s with
  | some (.struct fs) => match fs[i]? with
    | some f => match P.info? f.type, P.underlying f.type with
      | some inf, some (.struct _) => bif Nat.beq inf.size 0 then none else some (f.offset, true, inf.size)
      | some inf, some (.array _ _) => bif Nat.beq inf.size 0 then none else some (f.offset, true, inf.size)
      | some inf, some _ => bif Nat.beq inf.size 1 then some (f.offset, false, 1) else none
      | _, _ => none
    | none => none
  | _ => none
/-- Is it a struct or an array; its size. -/
def shapeB (P : Program) (t : Nat) : Option (Bool × Nat) := match P.info? t, P.underlying t with
  | some inf, some (.struct _) => some (true, inf.size)
  | some inf, some (.array _ _) => some (true, inf.size)
  | some inf, some _ => bif Nat.beq inf.size 1 then some (false, 1) else none
  | _, _ => none
mutual
def ofV : Value → Option AV
  | .bool b => some (.B b)
  | .int k n => some (.I k n)
  | .float k b => some (.X (.flt k b))
  | .string s => some (.X (.str s.data.toList))
  | .pointer none => some (.X .nilp)
  | .slice none 0 0 => some (.X .nils)
  | .map none => some (.X .nilm)
  | .nilFunc => some (.X .nilf)
  | .nilIface => some (.X .nili)
  | .agg cs => match ofVs cs.toList with | some l => some (.X (.agg l)) | none => none
  | .iface t v => match ofV v with | some v => some (.X (.ifc t v)) | none => none
  | _ => none
def ofVs : List Value → Option (List AV)
  | [] => some []
  | v :: l => match ofV v with
    | none => none
    | some a => match ofVs l with
      | none => none
      | some l => some (a :: l)
end
def zeroB (P : Program) (t : Nat) : Option AV := match P.info? t with
  | some inf => match inf.zero with
    | some z => ofV z
    | none => none
  | none => none
def elemB (P : Program) (t : Nat) : Option (Nat × Nat) := match P.underlying t with
  | some (.slice e) => match P.info? e with
    | some inf => natK inf.size fun s => some (e, s)
    | none => none
  | _ => none
def arrB (P : Program) (t : Nat) : Option (Nat × Nat × Nat) := match P.underlying t with
  | some (.array n e) => match P.info? e with
    | some inf => natK inf.size fun s => some (n, e, s)
    | none => none
  | _ => none
def kindB (P : Program) (t : Nat) : Option IntKind := match P.underlying t with
  | some (.int k) => some k
  | _ => none
def methB (P : Program) (t : Nat) (name : String) : Option Nat := match P.info? t with
  | some inf => match inf.methods.find? (·.name == name) with
    | some m => match m.path.toList, m.func with
      | [], some (f, pr) => match P.underlying t, pr with
        | some (.pointer _), true => some f
        | some (.pointer _), false => none
        | some _, false => some f
        | _, _ => none
      | _, _ => none
    | none => none
  | none => none

/-! Code made into instructions. -/
def sl (n : Nat) : Pth := pthF 32 n
def slP (n : Nat) (k : Pth → Option α) : Option α := ifK (Nat.beq (num (sl n)) n) (k (sl n)) none
def opnd (P : Program) : Operand → Option (OD R)
  | .tmp t => slG t fun G => some (oT G)
  | .const v => match ofV v with
    | some a => some (oC a)
    | none => none
  | .global g => ifK (Nat.blt g P.globals.size) (slP g fun p => some (oC (.P p 0))) none
  | .func f => some (oC (.X (.fn f [] [])))
def opnds (P : Program) : List Operand → Option (EV → (List AV → Option R) → Option R)
  | [] => some nilO
  | x :: l => match opnd P x with
    | none => none
    | some x => match opnds P l with
      | none => none
      | some l => some (consO x l)
def parts (P : Program) (place : Nat → Option (Nat × Nat)) : List (Nat × Operand) → Option (List (Part R))
  | [] => some []
  | (i, x) :: l => match place i with
    | none => none
    | some (off, size) => match opnd P x with
      | none => none
      | some x => match parts P place l with
        | none => none
        | some l => some ((off, size, x) :: l)
def o1 (P : Program) (x : Operand) (f : OD R → Option (Ins R)) : Option (Ins R) := match opnd P x with
  | some x => f x
  | none => none
def o2 (P : Program) (x y : Operand) (f : OD R → OD R → Option (Ins R)) : Option (Ins R) := o1 P x fun x => o1 P y fun y => f x y
def oM (P : Program) : Option Operand → (Option (OD R) → Option (Ins R)) → Option (Ins R)
  | none, f => f none
  | some x, f => o1 P x fun x => f (some x)
/-- An element of so few bytes. -/
def smallB (P : Program) (T : Nat) : Bool := match P.info? T with
  | some inf => Nat.ble inf.bytes 1024
  | none => false
def compB (P : Program) (d : Option (Slot R)) (b : Builtin) (args : List Operand) (ts : List TypeId) : Option (Ins R) := match b, args with
  | .len, [x] => match ts with
    | [t] => match P.underlying t with
      | some (.slice _) => o1 P x fun x => some (iLen d x)
      | some .string => o1 P x fun x => some (iLeS d x)
      | _ => none
    | _ => none
  | .cap, [x] => match ts with
    | [t] => match P.underlying t with
      | some (.slice _) => o1 P x fun x => some (iCap d x)
      | _ => none
    | _ => none
  | .max, [x, y] => o2 P x y fun x y => some (iMx d x y)
  | .min, [x, y] => o2 P x y fun x y => some (iMn d x y)
  | .append, [x, y] => match ts with
    | [t, u] => match elemB P t with
      | some (T, sz) => match P.underlying u with
        | some (.int _) => match zeroB P T with
          | some z => match Nat.beq (cellsOf z).length sz && smallB P T && Nat.ble 1 sz with
            | true => o2 P x y fun x y => some (iApm d T sz (cellsOf z) x y)
            | false => none
          | none => none
        | some (.slice _) => match zeroB P T with
          | some z => match Nat.beq (cellsOf z).length sz && smallB P T && Nat.ble 1 sz with
            | true => o2 P x y fun x y => some (iApp d T sz x y)
            | false => none
          | none => none
        | _ => none
      | none => none
    | _ => none
  | _, _ => none
def isNilI : Operand → Bool
  | .const .nilIface => true
  | _ => false
/-- A struct of numbers: where they lie. -/
def eqOffs (P : Program) (t : Nat) : Option (List Nat) := match P.underlying t with
  | some (.struct fs) => match (fs.toList.all fun f => (f.name != "_") && (match P.underlying f.type with | some (.int _) => true | _ => false)) && !P.stoodInHeld t with
    | true => some (fs.toList.map (·.offset))
    | false => none
  | _ => none
def eqT (P : Program) (t : Nat) (y : Operand) (f : Bool → Bool) (g : Option (Bin R)) : Option (Bin R) := match P.underlying t with
  | some (.int _) => g
  | some .string => g
  | some .bool => some (eqBool f)
  | some (.pointer _) => some (nilPtr f)
  | some (.interface _) => match isNilI y with
    | true => some (nilIfc f)
    | false => none
  | some (.slice _) => some (nilSl f)
  | some (.struct _) => match eqOffs P t with
    | some l => some (aggEq f l)
    | none => none
  | _ => none
def binT (P : Program) (op : BinOp) (t : Nat) (y : Operand) : Option (Bin R) := match op with
  | .eql => eqT P t y (fun b => b) (binF .eql)
  | .neq => eqT P t y (fun b => !b) (binF .neq)
  | op => binF op
def compO (P : Program) (d : Option (Slot R)) (op : Op) : Option (Ins R) := match op with
  | .move x => o1 P x fun x => some (iMv d x)
  | .assign x => o1 P x fun x => some (iMv d x)
  | .pick c a b => o1 P c fun c => o2 P a b fun a b => some (iPick d c a b)
  | .alloc T => match zeroB P T with
    | some z => some (iAl d T (cellsOf z))
    | none => none
  | .box T x => o1 P x fun x => some (iBx d T x)
  | .build t ps => match zeroB P t with
    | some z => match P.underlying t with
      | some (.struct fs) => match fs.toList.all fun f => (P.info? f.type).isSome with
        | false => none
        | true => match parts P (fun i => match fs[i]? with
          | some f => match P.info? f.type with
            | some inf => natK f.offset fun o => natK inf.size fun s => some (o, s)
            | none => none
          | none => none) ps.toList with
          | some l => some (iBd d (cellsOf z) l)
          | none => none
      | some (.array _ el) => match P.info? el with
        | some inf => match parts P (fun i => natK (i * inf.size) fun o => natK inf.size fun s => some (o, s)) ps.toList with
          | some l => some (iBd d (cellsOf z) l)
          | none => none
        | none => none
      | _ => none
    | none => none
  | .buildSlice t n ps => match elemB P t with
    | some (T, sz) => match zeroB P T with
      | some z => match Nat.beq (cellsOf z).length sz with
        | true => match parts P (fun i => natK (i * sz) fun o => some (o, sz)) ps.toList with
          | some l => some (iBs d T n sz (cellsOf z) l)
          | none => none
        | false => none
      | none => none
    | none => none
  | .makeSlice t l c => match elemB P t with
    | some (T, sz) => match zeroB P T with
      | some z => match Nat.beq (cellsOf z).length sz && smallB P T with
        | true => o2 P l c fun l c => some (iMk d T (cellsOf z) l c)
        | false => none
      | none => none
    | none => none
  | .load t a => match shapeB P t with
    | some (true, n) => o1 P a fun a => natK n fun n => some (iLs d n a)
    | some (false, _) => o1 P a fun a => some (iLd d a)
    | none => none
  | .store t a x => match d with
    | none => match shapeB P t with
      | some (_, n) => o2 P a x fun a x => natK n fun n => some (iSt n a x)
      | none => none
    | some _ => none
  | .nilCheck x => o1 P x fun x => some (iNc d x)
  | .binOp op t x y _ => match binT P op t y with
    | some f => o2 P x y fun x y => some (iBin d f x y)
    | none => none
  | .unOp op _ x => match unF op with
    | some f => o1 P x fun x => some (iUn d f x)
    | none => none
  | .convert s t x => match P.underlying s, P.underlying t with
    | some (.int _), some (.int k) => o1 P x fun x => some (iCv d k x)
    | some (.slice e), some .string => match kindB P e with
      | some .u8 => o1 P x fun x => some (iBt d x)
      | _ => none
    | _, _ => none
  | .makeInterface t x => match concB P t with
    | true => o1 P x fun x => some (iIf d t x)
    | false => none
  | .makeFunc (.func f) first cap => match opnds P first.toList with
    | some xs => match opnds P cap.toList with
      | some ys => some (iFn d f xs ys)
      | none => none
    | none => none
  | .slice t x lo hi none => match P.underlying t with
    | _ => match elemB P t with
      | some (_, sz) => o1 P x fun x => oM P lo fun lo => oM P hi fun hi => some (iSl d sz x lo hi)
      | none => none
  | .fieldAddr s x i => match fieldB P s i with
    | some (off, _, _) => o1 P x fun x => natK off fun off => some (iFa d off x)
    | none => none
  | .field s x i => match fieldB P s i with
    | some (off, true, n) => o1 P x fun x => natK off fun off => natK n fun n => some (iFs d off n x)
    | some (off, false, _) => o1 P x fun x => natK off fun off => some (iFd d off x)
    | none => none
  | .indexAddr t x i => match P.underlying t with
    | some (.slice _) => match elemB P t with
      | some (_, sz) => o2 P x i fun x i => some (iIs d sz x i)
      | none => none
    | _ => match arrB P t with
      | some (n, _, sz) => o2 P x i fun x i => some (iIp d n sz x i)
      | none => none
  | .index t x i => match P.underlying t with
    | some .string => o2 P x i fun x i => some (iIx d x i)
    | _ => none
  | .extract x i => o1 P x fun x => some (iEx d i x)
  | .typeAssert x _ t ok => match P.underlying t with
    | some (.interface _) => none
    | some _ => match zeroB P t with
      | some z => o1 P x fun x => some (iTa d t ok z x)
      | none => none
    | none => none
  | .call c => match c.callee with
    | .builtin b => compB P d b c.args.toList c.argTypes.toList
    | .value (.func f) => match opnds P c.args.toList with
      | some xs => some (iCall d f xs)
      | none => none
    | .value x => match opnds P c.args.toList with
      | some xs => o1 P x fun x => some (iCv' d x xs)
      | none => none
    | .invoke x name => match opnds P c.args.toList with
      | some xs => o1 P x fun x => some (iInv d (fun t => methB P t name) x xs)
      | none => none
  | _ => some iFail
def dstK (d : Option Tmp) (k : Option (Slot R) → Option α) : Option α := match d with
  | none => k none
  | some t => slS t fun p => k (some p)
def comp1 (P : Program) (all : List Oper) (o : Oper) : Option (Ins R) := dstK o.dst fun d => match compO P d o.op with
  | none => some iFail
  | some i => match o.guard with
    | none => some i
    | some (j, w) => match (all[j]?).bind (·.dst) with
      | none => none
      | some t => slG t fun p => some (iG p w d i)
def iNop : Ins R := fun _ k => k
def iThen (i j : Ins R) : Ins R := fun cx k => i cx (j cx k)
def compL (P : Program) (all : List Oper) : List Oper → Option (Ins R)
  | [] => some iNop
  | o :: l => match comp1 P all o with
    | none => none
    | some i => match compL P all l with
      | none => none
      | some j => some (iThen i j)

/-! Regions that draw their order. -/
inductive Stp where
  | take (i : Nat)
  | eff (i : Nat)
  | pre (i : Nat)
  | new (i : Nat)
/-- What is read of memory: whose address it is. -/
def reads : Op → Option Operand
  | .load _ x => some x
  | .convert _ _ x => some x
  | _ => none
def isNew : Op → Bool
  | .alloc _ => true
  | .buildSlice _ _ _ => true
  | _ => false
def rdyB (ops : Array Oper) (listed : Array Bool) (l : List Nat) : Bool := Region.ready .any ops listed == l
def dataAt (ops : Array Oper) (i : Nat) : Bool := match ops[i]? with | some o => isData o.op && o.dst.isSome | none => false
def effAt (ops : Array Oper) (i : Nat) : Bool := match ops[i]? with | some o => !isData o.op | none => false
def newAt (ops : Array Oper) (i : Nat) : Bool := match ops[i]? with | some o => isNew o.op && o.guard.isNone && o.dst.isSome | none => false
/-- Operation i writes neither p's slot nor what p reads. -/
def apartB (ops : Array Oper) (i p : Nat) : Bool := match ops[i]?, ops[p]? with
  | some a, some b => match a.dst with
    | none => true
    | some x => (match b.dst with | some y => !Nat.beq x y | none => true) && b.op.operands.toList.all fun z => match z with | .tmp t => !Nat.beq x t | _ => true
  | _, _ => false
def chkPlan (ops : Array Oper) : Array Bool → Option Nat → List Stp → Bool
  | listed, pend, [] => pend.isNone && over ops listed
  | listed, pend, .take i :: l => dataAt ops i && tk ops listed i && (match pend with | none => true | some p => tk ops (listed.setIfInBounds p true) i && apartB ops i p) && chkPlan ops (listed.setIfInBounds i true) pend l
  | listed, none, .eff i :: l => effAt ops i && rdyB ops listed [i] && chkPlan ops (listed.setIfInBounds i true) none l
  | listed, some p, .eff i :: l => effAt ops i && (rdyB ops listed [i, p] || rdyB ops listed [p, i]) && rdyB ops (listed.setIfInBounds p true) [i] && apartB ops i p && chkPlan ops (listed.setIfInBounds i true) (some p) l
  | listed, none, .pre p :: l => newAt ops p && chkPlan ops listed (some p) l
  | _, some _, .pre _ :: _ => false
  | listed, some p, .new q :: l => p == q && rdyB ops listed [p] && chkPlan ops (listed.setIfInBounds p true) none l
  | _, none, .new _ :: _ => false
/-! Plans, on bits. -/
/-- An operation: what must come ahead of it, where its value goes, what it looks at, what it is (1 only reads, 2 makes a block, 0 does something else). -/
structure OpI where
  dep : Nat
  dst : Option Nat
  look : Nat
  kind : Nat
def natB {β : Type} (n : Nat) (k : Nat → β) : β := match n with
  | 0 => k 0
  | m + 1 => k (Nat.succ m)
def tb (m i : Nat) : Bool := Nat.beq (Nat.mod (Nat.shiftRight m i) 2) 1
def depN : List Edge → Nat
  | [] => 0
  | e :: l => match Region.binds .any e with
    | true => Nat.lor (Nat.shiftLeft 1 e.on) (depN l)
    | false => depN l
def lookN : List Nat → Nat
  | [] => 0
  | t :: l => Nat.lor (Nat.shiftLeft 1 t) (lookN l)
def kindN (o : Oper) : Nat := match isData o.op with
  | true => match o.dst.isSome with | true => 1 | false => 3
  | false => match isNew o.op && o.guard.isNone && o.dst.isSome with | true => 2 | false => 0
def infL (ops : Array Oper) : List Oper → List OpI
  | [] => []
  | o :: l => ⟨depN o.after.toList, o.dst, lookN (o.looksAt ops), kindN o⟩ :: infL ops l
def forceI {β : Type} : List OpI → (List OpI → β) → β
  | [], k => k []
  | x :: l, k => natB x.dep fun d => natB x.look fun m => natB x.kind fun q => forceI l fun l' => k (⟨d, x.dst, m, q⟩ :: l')
def pairB (j : Nat) (x : OpI) : Nat → List OpI → Bool
  | _, [] => true
  | i, y :: l => (Nat.beq i j || match y.dst with
    | none => true
    | some t => (match x.dst with | some u => !Nat.beq t u | none => true) && !(tb x.look t) || tb x.dep i || tb y.dep j) && pairB j x (Nat.succ i) l
/-- Who writes where another one writes or looks stands in an order with it. -/
def pairsB (all : List OpI) : Nat → List OpI → Bool
  | _, [] => true
  | j, x :: l => pairB j x 0 all && pairsB all (Nat.succ j) l
def rdy1 (L i : Nat) (x : OpI) : Bool := !(tb L i) && Nat.beq (Nat.land x.dep L) x.dep
/-- All that may come now are so. -/
def onlyB (L : Nat) (ok : Nat → Bool) : Nat → List OpI → Bool
  | _, [] => true
  | j, x :: l => (!(rdy1 L j x) || ok j) && onlyB L ok (Nat.succ j) l
def apM (x y : OpI) : Bool := match x.dst with
  | none => true
  | some t => (match y.dst with | some u => !Nat.beq t u | none => true) && !(tb y.look t)
def chkM (I : List OpI) : Nat → Option Nat → List Stp → Bool
  | L, pend, [] => pend.isNone && onlyB L (fun _ => false) 0 I
  | L, pend, .take i :: l => (match I[i]? with
      | some x => Nat.beq x.kind 1 && rdy1 L i x && (match pend with
        | none => true
        | some p => match I[p]? with
          | some y => apM x y
          | none => false)
      | none => false) && natB (Nat.lor L (Nat.shiftLeft 1 i)) fun L => chkM I L pend l
  | L, none, .eff i :: l => (match I[i]? with
      | some x => (Nat.beq x.kind 0 || Nat.beq x.kind 2) && rdy1 L i x && onlyB L (fun j => Nat.beq j i) 0 I
      | none => false) && natB (Nat.lor L (Nat.shiftLeft 1 i)) fun L => chkM I L none l
  | L, some p, .eff i :: l => (match I[i]?, I[p]? with
      | some x, some y => (Nat.beq x.kind 0 || Nat.beq x.kind 2) && rdy1 L i x && rdy1 L p y && !Nat.beq i p && onlyB L (fun j => Nat.beq j i || Nat.beq j p) 0 I && apM x y && onlyB (Nat.lor L (Nat.shiftLeft 1 p)) (fun j => Nat.beq j i) 0 I
      | _, _ => false) && natB (Nat.lor L (Nat.shiftLeft 1 i)) fun L => chkM I L (some p) l
  | L, none, .pre p :: l => (match I[p]? with
      | some y => Nat.beq y.kind 2
      | none => false) && chkM I L (some p) l
  | _, some _, .pre _ :: _ => false
  | L, some p, .new q :: l => Nat.beq p q && (match I[p]? with
      | some y => rdy1 L p y && onlyB L (fun j => Nat.beq j p) 0 I
      | none => false) && natB (Nat.lor L (Nat.shiftLeft 1 p)) fun L => chkM I L none l
  | _, none, .new _ :: _ => false
def rdL (L : Nat) : Nat → List OpI → List (Nat × Nat)
  | _, [] => []
  | j, x :: l => match rdy1 L j x with
    | true => (j, x.kind) :: rdL L (Nat.succ j) l
    | false => rdL L (Nat.succ j) l
def fstD : List (Nat × Nat) → Option Nat
  | [] => none
  | (j, q) :: l => match Nat.beq q 1 || Nat.beq q 3 with
    | true => some j
    | false => fstD l
def others (pend : Option Nat) : List (Nat × Nat) → List (Nat × Nat)
  | [] => []
  | (j, q) :: l => match (match pend with | some p => Nat.beq j p | none => false) with
    | true => others pend l
    | false => (j, q) :: others pend l
def plan (I : List OpI) : Nat → Nat → Option Nat → List Stp
  | 0, _, _ => []
  | f + 1, L, pend => match rdL L 0 I with
    | r => match fstD r with
      | some i => .take i :: natB (Nat.lor L (Nat.shiftLeft 1 i)) fun L => plan I f L pend
      | none => match others pend r, pend with
        | [], some p => .new p :: natB (Nat.lor L (Nat.shiftLeft 1 p)) fun L => plan I f L none
        | [(i, _)], _ => .eff i :: natB (Nat.lor L (Nat.shiftLeft 1 i)) fun L => plan I f L pend
        | [(i, _), (j, q)], none => match Nat.beq q 2 with
          | true => .pre j :: .eff i :: natB (Nat.lor L (Nat.shiftLeft 1 i)) fun L => plan I f L (some j)
          | false => .pre i :: .eff j :: natB (Nat.lor L (Nat.shiftLeft 1 j)) fun L => plan I f L (some i)
        | _, _ => []
/-- What has been read: by which operation, which block, and how often it had been turned. -/
abbrev Lg := List (Nat × Pth × Nat)
/-- What comes behind: what has been read, the cells of a block to come. -/
abbrev DC (R : Type) := Lg → List AV → Cont R
abbrev DI (R : Type) := Cx R → DC R → DC R
def dData (i : Ins R) : DI R := fun cx k lg pc => i cx (k lg pc)
def logK (i : Nat) (H : AH) (v : AV) (lg : Lg) (k : Lg → Option R) : Option R := match v with
  | .P b _ => blk H b fun B => cellsB B fun _ _ st _ => k ((i, b, st) :: lg)
  | .S b _ _ _ => blk H b fun B => cellsB B fun _ _ st _ => k ((i, b, st) :: lg)
  | _ => k lg
def dRead (n : Nat) (x : OD R) (i : Ins R) : DI R := fun cx k lg pc e H => x e fun v => logK n H v lg fun lg => i cx (k lg pc) e H
/-- A read that is guarded. -/
def dReadG (n : Nat) (g : EV → Option AV) (w : Bool) (d : Option (Slot R)) (x : OD R) (i : Ins R) : DI R := fun cx k lg pc e H => oT g e fun v => match v with
  | .B b => ifK (b == w) (dRead n x i cx k lg pc e H) (put d (.X .undef) (k lg pc) e H)
  | .X .undef => put d (.X .undef) (k lg pc) e H
  | _ => none
/-- What may still be to come, and had to read what was there, is still there. -/
def chkLg (mask : Nat) (H : AH) (lg : Lg) : (Lg → Option R) → Option R := List.rec (motive := fun _ => (Lg → Option R) → Option R) (fun k => k [])
  (fun p _ ih k => Bool.rec (blk H p.2.1 fun B => cellsB B fun _ _ st _ => ifK (Nat.beq p.2.2 st) (ih fun lg => k (p :: lg)) none) (ih k) (Nat.testBit mask p.1)) lg
def dEff (mask : Nat) (i : Ins R) : DI R := fun cx k lg pc e H => i cx (fun e H => chkLg mask H lg fun lg => k lg pc e H) e H
def dPre (d : Slot R) (cells : EV → (List AV → Option R) → Option R) : DI R := fun _ k lg _ e H => cells e fun cs => d.S none e fun e => k lg cs e H
def dNew (d : Slot R) (T : Nat) (mk : Pth → AV) : DI R := fun _ k lg pc e H => new H (.cells T .shut 0 pc) fun b H => put (some d) (mk b) (k lg pc) e H
def dNop : DI R := fun _ k => k
def dThen (i j : DI R) : DI R := fun cx k => i cx (j cx k)
/-- What a new block is, and its cells. -/
def newCells (P : Program) : Op → Option (Nat × (Pth → AV) × (EV → (List AV → Option R) → Option R))
  | .alloc T => match zeroB P T with
    | some z => some (T, fun b => .P b 0, fun _ k => k (cellsOf z))
    | none => none
  | .buildSlice t n ps => match elemB P t with
    | some (T, sz) => match zeroB P T with
      | some z => match Nat.beq (cellsOf z).length sz && Nat.ble (n * sz) 16777216 with
        | true => match parts P (fun i => natK (i * sz) fun o => some (o, sz)) ps.toList with
          | some l => some (T, fun b => .S b 0 n (.kn n), fun e k => repK (cellsOf z) n fun cs => partsK l cs e k)
          | none => none
        | false => none
      | none => none
    | none => none
  | _ => none
def maskOf (ms : List (Nat × Nat)) : List Edge → Nat
  | [] => 0
  | e :: l => match Region.binds .any e with
    | true => Nat.lor (Nat.lor (Nat.shiftLeft 1 e.on) (find e.on ms)) (maskOf ms l)
    | false => maskOf ms l
  where find (i : Nat) : List (Nat × Nat) → Nat
  | [] => 0
  | (j, m) :: l => match Nat.beq j i with
    | true => m
    | false => find i l
def maskAt (ops : Array Oper) (ms : List (Nat × Nat)) (i : Nat) : Nat := match ops[i]? with
  | some o => maskOf ms o.after.toList
  | none => 0
def compS (P : Program) (ops : Array Oper) (ms : List (Nat × Nat)) : Stp → Option (DI R)
  | .take i => match ops[i]? with
    | none => none
    | some o => match comp1 P ops.toList o with
      | none => none
      | some c => match reads o.op with
        | none => some (dData c)
        | some x => match opnd P x with
          | none => some (dData iFail)
          | some x => match o.guard with
            | none => some (dRead i x c)
            | some (j, w) => match (ops.toList[j]?).bind (·.dst) with
              | none => none
              | some t => slG t fun p => dstK o.dst fun d => match compO P d o.op with
                | none => some (dData iFail)
                | some c => some (dReadG i p w d x c)
  | .eff i => match ops[i]? with
    | none => none
    | some o => match comp1 P ops.toList o with
      | none => none
      | some c => natK (maskAt ops ms i) fun m => some (dEff m c)
  | .pre i => match ops[i]? with
    | none => none
    | some o => dstK o.dst fun d => match d with
      | none => none
      | some d => match newCells P o.op with
        | some (_, _, cells) => some (dPre d cells)
        | none => some (dData iFail)
  | .new i => match ops[i]? with
    | none => none
    | some o => dstK o.dst fun d => match d with
      | none => none
      | some d => match newCells (R := R) P o.op with
        | some (T, mk, _) => some (dNew d T mk)
        | none => some (dData iFail)
def msOf (ops : Array Oper) (ms : List (Nat × Nat)) : Stp → List (Nat × Nat)
  | .pre _ => ms
  | .take i => (i, maskAt ops ms i) :: ms
  | .eff i => (i, maskAt ops ms i) :: ms
  | .new i => (i, maskAt ops ms i) :: ms
def compD (P : Program) (ops : Array Oper) (ms : List (Nat × Nat)) : List Stp → Option (DI R)
  | [] => some dNop
  | s :: l => match compS P ops ms s with
    | none => none
    | some i => match compD P ops (msOf ops ms s) l with
      | none => none
      | some j => some (dThen i j)

/-- Code: what stands behind its exits (by their blocks' numbers), behind a return, behind its end. -/
abbrev CD (R : Type) := Cx R → Cont R → List (Cont R) → Cont R → Cont R
def cSkip : CD R := fun _ _ _ k => k
def cSeq (x y : CD R) : CD R := fun cx r xs k => x cx r xs (y cx r xs k)
def cIns (i : Ins R) : CD R := fun cx _ _ k => i cx k
def cCond (c : OD R) (x y : CD R) : CD R := fun cx r xs k e H => c e fun v => asB v fun b => Bool.rec (y cx r xs k e H) (x cx r xs k e H) b
def cBlock (x : CD R) : CD R := fun cx r xs k => x cx r (k :: xs) k
def cLoop (fuel : Nat) (x : CD R) : CD R := fun cx r xs _ => Nat.rec (fun _ _ => none) (fun _ ih => x cx r xs ih) fuel
def cExit (n : Nat) : CD R := fun _ _ xs _ e H => Option.rec none (fun k => k e H) xs[n]?
def cRet : CD R := fun _ r _ _ => r
def loopB (B : AB) (k : Bool → Option Nat → Option R) : Option R := AB.rec (fun _ _ _ _ => none) k B
/-- A jump out of a round. -/
def leave (l : Pth) (k : AV → AH → Option R) (j : Nat) : Cont R := fun _ H => blk H l fun B => loopB B fun _ _ => putB H l (.loop false (some j)) fun H => k (.B false) H
def leaves (l : Pth) (k : AV → AH → Option R) : Nat → Nat → List (Cont R)
  | 0, _ => []
  | m + 1, j => leave l k j :: leaves l k m (j + 1)
def argsAt (ts : List (Slot R)) : List AV → EV → (EV → Option R) → Option R := List.rec (motive := fun _ => List AV → EV → (EV → Option R) → Option R)
  (fun vs e k => List.rec (motive := fun _ => Option R) (k e) (fun _ _ _ => none) vs) (fun t _ ih vs e k => List.rec (motive := fun _ => Option R) none (fun v vs _ => t.S (some v) e fun e => ih vs e k) vs) ts
/-- One round of a range over a function: m exits lie outside. -/
def round (cx : Cx R) (l : Pth) (ps : List (Slot R)) (a b : CD R) (m : Nat) (e0 : EV) : FD R := fun vs H k => blk H l fun B => loopB B fun on _ => ifK on
  (argsAt ps vs e0 fun e => a cx (fun _ _ => none) [] (fun e H => blk H l fun B => loopB B fun on _ => ifK on (putB H l (.loop false none) fun H => b cx (leave l k 0) (leaves l k m 1) (fun _ H => blk H l fun B => loopB B fun _ _ => putB H l (.loop true none) fun H => k (.B true) H) e H) none) e H) none
def cRange (ps : List (Slot R)) (a b : CD R) (m : Nat) (x : OD R) : CD R := fun cx r xs k e H => x e fun f => match f with
  | .X (.fn f first cap) => new H (.loop true none) fun l H => cx [(l, round cx l ps a b m e)] (.fn f) (first ++ [.X (.yld l)] ++ cap) H fun _ H => blk H l fun B => loopB B fun on j =>
      killB H l fun H => Option.rec (ifK on (k e H) none) (fun j => Nat.rec (r e H) (fun j _ => Option.rec none (fun k => k e H) xs[j]?) j) j
  | _ => none
def idx (id : Nat) : List Nat → Nat → Option Nat
  | [], _ => none
  | i :: l, n => bif Nat.beq i id then some n else idx id l (n + 1)
def slPs : List Nat → Option (List (Slot R))
  | [] => some []
  | t :: l => slS t fun p => match slPs l with
    | none => none
    | some l => some (p :: l)
def countS : List Stp → Nat
  | [] => 0
  | .pre _ :: l => countS l
  | _ :: l => countS l + 1
/-- No range over a function stands in it. -/
def noR : Code → Bool
  | .seq x y => noR x && noR y
  | .cond _ x y => noR x && noR y
  | .block _ b => noR b
  | .loop b => noR b
  | .scope b => noR b
  | .rangeFunc _ _ _ _ => false
  | _ => true
def compC (P : Program) (fn fuel : Nat) : List Nat → Code → Option (CD R)
  | _, .skip => some cSkip
  | ids, .seq x y => match compC P fn fuel ids x with
    | none => none
    | some x => match compC P fn fuel ids y with
      | none => none
      | some y => some (cSeq x y)
  | _, .region _ ops false => match okL fn ops.toList with
    | false => some (cIns iFail)
    | true => match compL P ops.toList ops.toList with
      | none => none
      | some i => some (cIns i)
  | _, .region _ ops true => forceI (infL ops ops.toList) fun I => match plan I (2 * I.length) 0 none with
    | pl => match pairsB I 0 I && chkM I 0 none pl && Nat.beq (countS pl) ops.size && okL fn ops.toList with
      | false => some (cIns iFail)
      | true => match compD P ops [] pl with
        | none => none
        | some i => some (cIns fun cx k => i cx (fun _ _ => k) [] [])
  | ids, .cond c x y => match opnd P c with
    | none => none
    | some c => match compC P fn fuel ids x with
      | none => none
      | some x => match compC P fn fuel ids y with
        | none => none
        | some y => some (cCond c x y)
  | ids, .block id b => match compC P fn fuel (id :: ids) b with
    | none => none
    | some x => some (cBlock x)
  | ids, .loop b => match compC P fn fuel ids b with
    | none => none
    | some x => some (cLoop fuel x)
  | ids, .exit id => match idx id ids 0 with
    | none => none
    | some n => natK n fun n => some (cExit n)
  | _, .ret => some cRet
  | ids, .rangeFunc x ps c d => match opnd P x with
    | none => none
    | some x => match compC P fn fuel [] c with
      | none => none
      | some a => match compC P fn fuel ids d with
        | none => none
        | some b => match slPs ps.toList with
          | none => none
          | some qs => ifK (noR c && noR d && ps.toList.all fun t => Nat.blt t fn) (some (cRange qs a b ids.length x)) none
  | _, _ => none
def outO (P : Program) : List ResultVar → Option (EV → AH → (List AV → Option R) → Option R)
  | [] => some fun _ _ k => k []
  | .tmp t :: l => match outO P l with
    | none => none
    | some g => slG t fun p => some fun e H k => oT p e fun v => g e H fun vs => k (v :: vs)
  | .cell t ty :: l => match outO P l with
    | none => none
    | some g => match shapeB P ty with
      | some (true, n) => slG t fun p => some fun e H k => oT p e fun v => asP v fun b o => blk H b fun B => cellsB B fun _ _ _ cs => dropK cs o fun cs => takeK cs n fun cs => g e H fun vs => k (.X (.agg cs) :: vs)
      | some (false, _) => slG t fun p => some fun e H k => oT p e fun v => asP v fun b o => blk H b fun B => cellsB B fun _ _ _ cs => nth cs o fun v => g e H fun vs => k (v :: vs)
      | none => none
/-- The first slots, as far as there are arguments. -/
def args0 (ts : List (Slot R)) : List AV → EV → (EV → Option R) → Option R := List.rec (motive := fun _ => List AV → EV → (EV → Option R) → Option R)
  (fun vs e k => List.rec (motive := fun _ => Option R) (k e) (fun _ _ _ => none) vs) (fun t _ ih vs e k => List.rec (motive := fun _ => Option R) (k e) (fun v vs _ => t.S (some v) e fun e => ih vs e k) vs) ts
def shutA : List AV → AV
  | [v] => v
  | l => .X (.tup l)
def compF (P : Program) (fuel : Nat) (f : Nat) : Option (Cx R → FD R) := match P.funcs[f]? with
  | none => none
  | some fn => match (match fn.name == "runtime.NumGoroutine" with | true => none | false => fn.body) with
    | none => none
    | some c => match compC P fn.ntmps fuel [] c with
      | none => none
      | some c => match outO P fn.results.toList with
        | none => none
        | some g => match slPs (List.range (fn.params.size + fn.nfree)) with
          | none => none
          | some ts => some fun cx args H k => ifK (Nat.ble args.length fn.ntmps) (args0 ts args e3 fun e => c cx (fun e H => g e H fun vs => k (shutA vs) H) [] (fun e H => g e H fun vs => k (shutA vs) H) e H) none
def find (Y : List (Pth × FD R)) (l : Pth) : FD R := List.rec (fun _ _ _ => none) (fun p _ ih => Bool.rec ih p.2 (Pth.beq p.1 l)) Y
def call (P : Program) (hook : Nat → Option (FD R)) (fuel : Nat) (depth : Nat) : List (Pth × FD R) → Cx R := Nat.rec (motive := fun _ => List (Pth × FD R) → Cx R) (fun _ _ _ _ _ _ => none)
  (fun _ cal Y ext tg args H k => Tg.rec (fun f => Option.rec (Option.rec none (fun g => g (cal (ext ++ Y)) args H k) (compF P fuel f)) (fun g => g args H k) (hook f)) (fun l => find (ext ++ Y) l args H k) tg) depth
end
end Ry
end
end Go.TP
