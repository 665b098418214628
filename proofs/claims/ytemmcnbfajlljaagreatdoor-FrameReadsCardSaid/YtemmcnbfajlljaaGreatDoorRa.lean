/- The evaluator: code made into functions that the kernel reduces; its values, heaps and operations are sound. -/
import Derived.Test.YtemmcnbfajlljaaGreatDoorEa
import Derived.Lib.SliceRun
import Derived.WalkSpells
import Derived.Laws.BytesString
import Derived.Laws.Slices
/-! Ry. -/
namespace Go.TP
open Go

/-- A key: a path in a tree. -/
inductive Pth where
  | z
  | a (p : Pth)
  | b (p : Pth)
inductive PT (α : Type) where
  | nil
  | node (v : Option α) (l r : PT α)
/-- What is known of a slice's capacity: all; or what its block has, without so many. -/
inductive Cp where
  | kn (n : Nat)
  | un (d : Nat)
inductive AV' (X : Type) where
  | I (k : IntKind) (n : Int)
  | B (b : Bool)
  | P (b : Pth) (o : Nat)
  | S (b : Pth) (o len : Nat) (cap : Cp)
  | X (x : X)
inductive XV where
  | undef
  | flt (k : FloatKind) (b : Nat)
  | str (s : List UInt8)
  | nilp
  | nils
  | slz
  | nilf
  | fn (f : Nat) (first cap : List (AV' XV))
  | yld (l : Pth)
  | nilm
  | ifc (t : Nat) (v : AV' XV)
  | nili
  | agg (l : List (AV' XV))
  | tup (l : List (AV' XV))
  /-- A number of which only this is known: how it lies to some others. -/
  | sym (p : Pth) (fs : List (Nat × Int × Bool))
  /-- A number that is not looked at. -/
  | si (k : IntKind) (n : Int)
  /-- A string of bytes that are not looked at; is its length known? -/
  | bs (kn : Bool) (l : List Int)
  /-- A part of a block that begins somewhere, and is so long; what its capacity lacks of the block's. -/
  | ss (b : Pth) (o n : Int) (cq : Option Nat)
  /-- A place in a block. -/
  | sp (b : Pth) (o : Int)
abbrev AV := AV' XV
/-- Eight things. -/
structure O8 (β : Type) where
  a : β
  b : β
  c : β
  d : β
  e : β
  f : β
  g : β
  h : β
/-- A function's slots: 512 at most. -/
abbrev EV := O8 (O8 (O8 (Option AV)))
/-- A block that is just so long; one that was grown by append (its elements' size); one that is read alone. -/
inductive Md where
  | shut
  | op (sz : Nat)
  | ro
inductive AB where
  /-- A block whose cells begin so; m: how often it was turned. -/
  | cells (T : Nat) (m : Md) (st : Nat) (cs : List AV)
  /-- A range over a function: does it go on; how it is left. -/
  | loop (on : Bool) (jump : Option Nat)
structure AH where
  next : Pth
  blocks : PT AB

noncomputable section
namespace Ry
section
variable {R : Type} {α : Type}

def Pth.succ (p : Pth) : Pth := Pth.rec (.a .z) (fun p _ => .b p) (fun _ ih => .a ih) p
/-- A path's number. -/
def num (p : Pth) : Nat := Pth.rec 0 (fun _ n => Nat.add (Nat.mul 2 n) 1) (fun _ n => Nat.add (Nat.mul 2 n) 2) p
def pthF : Nat → Nat → Pth
  | 0, _ => .z
  | f + 1, n => match n with
    | 0 => .z
    | m + 1 => match Nat.mod m 2 with
      | 0 => .a (pthF f (Nat.div m 2))
      | _ + 1 => .b (pthF f (Nat.div m 2))
def Pth.beq (p : Pth) : Pth → Bool := Pth.rec (motive := fun _ => Pth → Bool)
  (fun q => Pth.rec true (fun _ _ => false) (fun _ _ => false) q)
  (fun _ ih q => Pth.rec false (fun q _ => ih q) (fun _ _ => false) q)
  (fun _ ih q => Pth.rec false (fun _ _ => false) (fun q _ => ih q) q) p

def getK (t : PT α) : Pth → (α → Option R) → Option R :=
  PT.rec (motive := fun _ => Pth → (α → Option R) → Option R)
    (fun _ _ => none)
    (fun v _ _ gl gr p k => Pth.rec (Option.rec none k v) (fun p _ => gl p k) (fun p _ => gr p k) p) t
def setK (v : Option α) (p : Pth) : PT α → (PT α → Option R) → Option R :=
  Pth.rec (motive := fun _ => PT α → (PT α → Option R) → Option R)
   (fun t k => PT.rec (k (.node v .nil .nil)) (fun _ l r _ _ => k (.node v l r)) t)
   (fun _ ih t k => PT.rec (ih .nil fun l => k (.node none l .nil)) (fun u l r _ _ => ih l fun l => k (.node u l r)) t)
   (fun _ ih t k => PT.rec (ih .nil fun r => k (.node none .nil r)) (fun u l r _ _ => ih r fun r => k (.node u l r)) t) p

def natK (n : Nat) (k : Nat → Option R) : Option R := Nat.rec (k 0) (fun m _ => k (Nat.succ m)) n
def intK (n : Int) (k : Int → Option R) : Option R := Int.rec (fun m => natK m fun m => k (.ofNat m)) (fun m => natK m fun m => k (.negSucc m)) n
def boolK (b : Bool) (k : Bool → Option R) : Option R := Bool.rec (k false) (k true) b
def ifK (b : Bool) (x y : Option R) : Option R := Bool.rec y x b

/-! Slots. -/
abbrev Up (β R : Type) := β → (β → Option R) → Option R
def gsel {β : Type} : Nat → O8 β → β
  | 0 => O8.a
  | 1 => O8.b
  | 2 => O8.c
  | 3 => O8.d
  | 4 => O8.e
  | 5 => O8.f
  | 6 => O8.g
  | _ => O8.h
def up0 {β : Type} (F : Up β R) : Up (O8 β) R := fun t k => O8.rec (fun a b c d e f g h => F a fun a => k ⟨a, b, c, d, e, f, g, h⟩) t
def up1 {β : Type} (F : Up β R) : Up (O8 β) R := fun t k => O8.rec (fun a b c d e f g h => F b fun b => k ⟨a, b, c, d, e, f, g, h⟩) t
def up2 {β : Type} (F : Up β R) : Up (O8 β) R := fun t k => O8.rec (fun a b c d e f g h => F c fun c => k ⟨a, b, c, d, e, f, g, h⟩) t
def up3 {β : Type} (F : Up β R) : Up (O8 β) R := fun t k => O8.rec (fun a b c d e f g h => F d fun d => k ⟨a, b, c, d, e, f, g, h⟩) t
def up4 {β : Type} (F : Up β R) : Up (O8 β) R := fun t k => O8.rec (fun a b c d e f g h => F e fun e => k ⟨a, b, c, d, e, f, g, h⟩) t
def up5 {β : Type} (F : Up β R) : Up (O8 β) R := fun t k => O8.rec (fun a b c d e f g h => F f fun f => k ⟨a, b, c, d, e, f, g, h⟩) t
def up6 {β : Type} (F : Up β R) : Up (O8 β) R := fun t k => O8.rec (fun a b c d e f g h => F g fun g => k ⟨a, b, c, d, e, f, g, h⟩) t
def up7 {β : Type} (F : Up β R) : Up (O8 β) R := fun t k => O8.rec (fun a b c d e f g h => F h fun h => k ⟨a, b, c, d, e, f, g, h⟩) t
def usel {β : Type} : Nat → Up β R → Up (O8 β) R
  | 0 => up0
  | 1 => up1
  | 2 => up2
  | 3 => up3
  | 4 => up4
  | 5 => up5
  | 6 => up6
  | _ => up7
def selG {β γ : Type} (n : Nat) (k : (O8 β → β) → γ) : γ := match n with
  | 0 => k O8.a
  | 1 => k O8.b
  | 2 => k O8.c
  | 3 => k O8.d
  | 4 => k O8.e
  | 5 => k O8.f
  | 6 => k O8.g
  | _ => k O8.h
def selU {β γ : Type} (n : Nat) (k : (Up β R → Up (O8 β) R) → γ) : γ := match n with
  | 0 => k up0
  | 1 => k up1
  | 2 => k up2
  | 3 => k up3
  | 4 => k up4
  | 5 => k up5
  | 6 => k up6
  | _ => k up7
/-- A slot: its number; how it is set. -/
structure Slot (R : Type) where
  p : Nat
  S : Option AV → EV → (EV → Option R) → Option R
/-- How a slot is read. -/
def slG (n : Nat) (k : (EV → Option AV) → Option α) : Option α := ifK (Nat.blt n 512) (selG (Nat.div n 64) fun a => selG (Nat.mod (Nat.div n 8) 8) fun b => selG (Nat.mod n 8) fun c => k fun e => c (b (a e))) none
def slS (n : Nat) (k : Slot R → Option α) : Option α := ifK (Nat.blt n 512) (selU (R := R) (Nat.div n 64) fun a => selU (R := R) (Nat.mod (Nat.div n 8) 8) fun b => selU (R := R) (Nat.mod n 8) fun c => k ⟨n, fun v => a (b (c fun _ k => k v))⟩) none
def e1 : O8 (Option AV) := ⟨none, none, none, none, none, none, none, none⟩
def e2 : O8 (O8 (Option AV)) := ⟨e1, e1, e1, e1, e1, e1, e1, e1⟩
def e3 : EV := ⟨e2, e2, e2, e2, e2, e2, e2, e2⟩
abbrev Cont (R : Type) := EV → AH → Option R
abbrev OD (R : Type) := EV → (AV → Option R) → Option R
def oT (G : EV → Option AV) : OD R := fun e k => Option.rec none k (G e)
def oC (v : AV) : OD R := fun _ k => k v
def nilO : EV → (List AV → Option R) → Option R := fun _ k => k []
def consO (x : OD R) (l : EV → (List AV → Option R) → Option R) : EV → (List AV → Option R) → Option R := fun e k => x e fun v => l e fun vs => k (v :: vs)

/-! The heap. -/
def blk (H : AH) (b : Pth) (k : AB → Option R) : Option R := AH.rec (fun _ t => getK t b k) H
def cellsB (B : AB) (k : Nat → Md → Nat → List AV → Option R) : Option R := AB.rec k (fun _ _ => none) B
/-- Where a block's cells begin: of one that is read alone, there. -/
def baseN (m : Md) (T : Nat) : Nat := Md.rec 0 (fun _ => 0) T m
def relO (m : Md) (T : Nat) (o : Int) : Int := Md.rec o (fun _ => o) (o - (T : Int)) m
/-- The cells of a block that is known from its begin. -/
def cells0 (B : AB) (k : Nat → Md → Nat → List AV → Option R) : Option R := cellsB B fun T m s cs => ifK (Nat.beq (baseN m T) 0) (k T m s cs) none
/-- The block may be turned. -/
def open_ (m : Md) (x : Option R) : Option R := Md.rec x (fun _ => x) none m
def new (H : AH) (B : AB) (k : Pth → AH → Option R) : Option R := AH.rec (fun n t => setK (some B) n t fun t => k n ⟨Pth.succ n, t⟩) H
def putB (H : AH) (b : Pth) (B : AB) (k : AH → Option R) : Option R := AH.rec (fun n t => setK (some B) b t fun t => k ⟨n, t⟩) H
def killB (H : AH) (b : Pth) (k : AH → Option R) : Option R := AH.rec (fun n t => setK none b t fun t => k ⟨n, t⟩) H
def nth (l : List AV) : Nat → (AV → Option R) → Option R := List.rec (motive := fun _ => Nat → (AV → Option R) → Option R) (fun _ _ => none) (fun v _ ih n k => Nat.rec (k v) (fun m _ => ih m k) n) l
def dropK (l : List AV) : Nat → (List AV → Option R) → Option R := List.rec (motive := fun _ => Nat → (List AV → Option R) → Option R) (fun n k => Nat.rec (k []) (fun _ _ => none) n) (fun v l ih n k => Nat.rec (k (v :: l)) (fun m _ => ih m k) n) l
def takeK (l : List AV) : Nat → (List AV → Option R) → Option R := List.rec (motive := fun _ => Nat → (List AV → Option R) → Option R) (fun n k => Nat.rec (k []) (fun _ _ => none) n) (fun v _ ih n k => Nat.rec (k []) (fun m _ => ih m fun l => k (v :: l)) n) l
/-- us over the first cells of l. -/
def over0 (us : List AV) : List AV → (List AV → Option R) → Option R := List.rec (motive := fun _ => List AV → (List AV → Option R) → Option R) (fun l k => k l) (fun u _ ih l k => List.rec none (fun _ l _ => ih l fun l => k (u :: l)) l) us
/-- us over the cells of l from o on. -/
def overK (us : List AV) (l : List AV) : Nat → (List AV → Option R) → Option R := List.rec (motive := fun _ => Nat → (List AV → Option R) → Option R) (fun n k => Nat.rec (over0 us [] k) (fun _ _ => none) n) (fun v l ih n k => Nat.rec (over0 us (v :: l) k) (fun m _ => ih m fun l => k (v :: l)) n) l
def appK (l : List AV) (m : List AV) : (List AV → Option R) → Option R := List.rec (motive := fun _ => (List AV → Option R) → Option R) (fun k => k m) (fun v _ ih k => ih fun r => k (v :: r)) l
def repK (z : List AV) (n : Nat) : (List AV → Option R) → Option R := Nat.rec (motive := fun _ => (List AV → Option R) → Option R) (fun k => k []) (fun _ ih k => ih fun r => appK z r k) n
def cellsOf : AV → List AV
  | .X (.agg l) => l
  | v => [v]

/-- Values of one cell each. -/
def one1 (v : AV) : Bool := match v with
  | .X (.agg _) => false
  | .X (.tup _) => false
  | .X .undef => false
  | _ => true
def ones (l : List AV) : Bool := List.rec true (fun v _ ih => Bool.rec false ih (one1 v)) l

/-! Matching. -/
def asP (v : AV) (k : Pth → Nat → Option R) : Option R := AV'.rec (fun _ _ => none) (fun _ => none) k (fun _ _ _ _ => none) (fun _ => none) v
def asB (v : AV) (k : Bool → Option R) : Option R := AV'.rec (fun _ _ => none) k (fun _ _ => none) (fun _ _ _ _ => none) (fun _ => none) v
def asI (v : AV) (k : IntKind → Int → Option R) : Option R := AV'.rec k (fun _ => none) (fun _ _ => none) (fun _ _ _ _ => none) (fun _ => none) v
def asX (v : AV) (k : XV → Option R) : Option R := AV'.rec (fun _ _ => none) (fun _ => none) (fun _ _ => none) (fun _ _ _ _ => none) k v

end
section
variable {α : Type}
/-- What is left of a loop's state, by name. -/
structure Gh where
  i : Int
  j : Int
  m : Int
  n : Int
  s : List Int
  t : List Int
  u : List Int
  ll : List (List Int)
/-- What is left to show: that something is so; both ways of a question; something, and what comes behind; a loop (that it is come to rightly; which states there may be; a round). -/
inductive R where
  | stuck
  | leaf (p : Prop)
  | fork (p : Prop) (x y : R)
  | need (p : Prop) (x : R)
  | loop (p : Prop) (inv : Gh → Prop) (body : Gh → R)
  | also (x y : R)
def ofO (x : Option R) : R := Option.rec .stuck (fun t => t) x
def holds : R → Prop
  | .stuck => False
  | .leaf p => p
  | .fork p x y => (p → holds x) ∧ (¬ p → holds y)
  | .need p x => p ∧ holds x
  | .loop p i b => p ∧ ∀ g, i g → holds (b g)
  | .also x y => holds x ∧ holds y
abbrev tt : R := .leaf True
/-- What is left to show is so. -/
@[reducible] def Tr (x : Option R) (_ : R) : Prop := match x with
  | some p => holds p
  | none => False
theorem ofO_tr {x : Option R} {r : R} : holds (ofO x) = Tr x r := by cases x <;> rfl
/-- A number that is told, or one that is not looked at. -/
def asI2 (v : AV) (f g : IntKind → Int → Option R) : Option R := AV'.rec f (fun _ => none) (fun _ _ => none) (fun _ _ _ _ => none) (fun x => match x with
  | .si k n => g k n
  | _ => none) v
/-- Both ways are shown. -/
def fork (p : Prop) (x y : Option R) : Option R := some (.fork p (ofO x) (ofO y))
/-- Which one of the first n numbers is it? -/
def pickK (m : Int) (n : Nat) (k : Nat → Option R) : Option R := Nat.rec none (fun j ih => fork (m = Int.ofNat j) (k j) ih) n
/-- An index; one that is not looked at is below 128. -/
def asN (v : AV) (k : Nat → Option R) : Option R := asI2 v (fun _ n => Int.rec k (fun _ => none) n) (fun _ n => pickK n 128 k)
/-- A number, whether it is told or not. -/
def asZ (v : AV) (k : Int → Option R) : Option R := asI2 v (fun _ n => k n) (fun _ n => k n)
/-- An address: told, or not. -/
def asA (v : AV) (f : Pth → Nat → Option R) (g : Pth → Int → Option R) : Option R := AV'.rec (fun _ _ => none) (fun _ => none) f (fun _ _ _ _ => none) (fun x => match x with
  | .sp b o => g b o
  | _ => none) v
/-- Something is to be shown. -/
def need (p : Prop) (x : Option R) : Option R := some (.need p (ofO x))
/-! What stands at a place that is not told. -/
inductive Shp where
  | int (k : IntKind)
  | str
def byteZ (n : Int) : Int := ((n.toNat % 256 : Nat) : Int)
def intsZ (s : List UInt8) : List Int := s.map fun u => (u.toNat : Int)
def isI (k : IntKind) (v : AV) : Prop := ∃ n, v = .I k n ∨ v = .X (.si k n)
def isT (v : AV) : Prop := (∃ s, v = .X (.str s)) ∨ ∃ kn l, v = .X (.bs kn l)
def intOf (v : AV) : Int := match v with
  | .I _ n => n
  | .X (.si _ n) => n
  | _ => 0
def txtOf (v : AV) : List Int := match v with
  | .X (.str s) => intsZ s
  | .X (.bs _ l) => l
  | _ => []
def isAt (s : Shp) (cs : List AV) (o : Int) : Prop := 0 ≤ o ∧ match s with
  | .int k => ∃ v, cs[o.toNat]? = some v ∧ isI k v
  | .str => ∃ v, cs[o.toNat]? = some v ∧ isT v
def intAt (cs : List AV) (o : Int) : Int := match cs[o.toNat]? with
  | some v => intOf v
  | none => 0
def txtAt (cs : List AV) (o : Int) : List Int := match cs[o.toNat]? with
  | some v => txtOf v
  | none => []
def valAt (s : Shp) (cs : List AV) (o : Int) : AV := match s with
  | .int k => .X (.si k (intAt cs o))
  | .str => .X (.bs false (txtAt cs o))
def areAt (cs : List AV) : List Shp → Int → Prop
  | [], _ => True
  | s :: l, o => isAt s cs o ∧ areAt cs l (o + 1)
def valsAt (cs : List AV) : List Shp → Int → List AV
  | [], _ => []
  | s :: l, o => valAt s cs o :: valsAt cs l (o + 1)
def areI (k : IntKind) (cs : List AV) : Prop := ∀ v ∈ cs, isI k v
/-- So many cells from a place on. -/
def partA (cs : List AV) (o n : Int) : List AV := (cs.drop o.toNat).take n.toNat
/-! Numbers. -/
def lim : IntKind → Nat
  | .i8 => 128
  | .i16 => 32768
  | .i32 => 2147483648
  | .i64 => 9223372036854775808
  | .u8 => 256
  | .u16 => 65536
  | .u32 => 4294967296
  | .u64 => 18446744073709551616
def wrapK (k : IntKind) (z : Int) (κ : AV → Option R) : Option R :=
  Int.rec (fun m => natK m fun m => ifK (Nat.blt m (lim k)) (κ (.I k (.ofNat m))) (intK (k.wrap (.ofNat m)) fun r => κ (.I k r)))
    (fun m => intK (k.wrap (.negSucc m)) fun r => κ (.I k r)) z
def out (k : IntKind) (z : Int) (κ : AV → Option R) : Option R := intK z fun r => κ (.I k r)
def outB (b : Bool) (κ : AV → Option R) : Option R := Bool.rec (κ (.B false)) (κ (.B true)) b
def strEq (a : List UInt8) : List UInt8 → Bool := List.rec (motive := fun _ => List UInt8 → Bool) (fun b => List.rec true (fun _ _ _ => false) b) (fun u _ ih b => List.rec false (fun v b _ => Bool.rec false (ih b) (Nat.beq u.toNat v.toNat)) b) a
abbrev Bin (R : Type) := AV → AV → (AV → Option R) → Option R
def factK (o : Nat) (c : Int) : List (Nat × Int × Bool) → (Bool → Option R) → Option R
  | [], _ => none
  | f :: l, k => ifK (Nat.beq o f.1 && decide (c = f.2.1)) (boolK f.2.2 k) (factK o c l k)
/-- A number of which only some is known, and another one. -/
def symB (o : Nat) (g : Bin R) : Bin R := fun x y k => match x, y with
  | .X (.sym _ fs), .I .i64 c => factK o c fs fun r => outB r k
  | _, _ => g x y k
def kidx (k : IntKind) : Nat := IntKind.rec 0 1 2 3 4 5 6 7 k
def kEq (a b : IntKind) : Bool := Nat.beq (kidx a) (kidx b)
/-- Two whole numbers of one kind, or what else there is. -/
def two (f : IntKind → Int → Int → (AV → Option R) → Option R) (g : Bin R) : Bin R := fun x y k => AV'.rec (fun ik m => AV'.rec (fun jk n => ifK (kEq ik jk) (f ik m n k) none) (fun _ => none) (fun _ _ => none) (fun _ _ _ _ => none) (fun _ => g x y k) y) (fun _ => g x y k) (fun _ _ => g x y k) (fun _ _ _ _ => g x y k) (fun _ => g x y k) x
/-- Two whole numbers, or what else there is. -/
def twoS (f : IntKind → Int → Int → (AV → Option R) → Option R) (g : Bin R) : Bin R := fun x y k => AV'.rec (fun ik m => AV'.rec (fun _ n => f ik m n k) (fun _ => none) (fun _ _ => none) (fun _ _ _ _ => none) (fun _ => g x y k) y) (fun _ => g x y k) (fun _ _ => g x y k) (fun _ _ _ _ => g x y k) (fun _ => g x y k) x
/-- Two numbers, of which one at least is not looked at. -/
def symI (f : IntKind → Int → Int → (AV → Option R) → Option R) (g : Bin R) : Bin R := fun x y k => match x, y with
  | .X (.si ik m), .X (.si jk n) => ifK (kEq ik jk) (f ik m n k) none
  | .X (.si ik m), .I jk n => ifK (kEq ik jk) (f ik m n k) none
  | .I ik m, .X (.si jk n) => ifK (kEq ik jk) (f ik m n k) none
  | _, _ => g x y k
/-- The second one of any kind: not looked at, or told. -/
def symS (f h : IntKind → Int → Int → (AV → Option R) → Option R) : Bin R := fun x y k => match x, y with
  | .X (.si ik m), .X (.si _ n) => f ik m n k
  | .X (.si ik m), .I _ n => h ik m n k
  | .I ik m, .X (.si _ n) => f ik m n k
  | _, _ => none
def none2 : Bin R := fun _ _ _ => none
def strs (f : List UInt8 → List UInt8 → (AV → Option R) → Option R) : Bin R := fun x y k => match x, y with
  | .X (.str a), .X (.str b) => f a b k
  | _, _ => none
def eqBool (f : Bool → Bool) : Bin R := fun x y k => asB x fun a => asB y fun b => outB (f (a == b)) k
/-- Is it nil? (a pointer) -/
def nilPtr (f : Bool → Bool) : Bin R := fun x y k => match x, y with
  | .X .nilp, .X .nilp => outB (f true) k
  | .P _ _, .X .nilp => outB (f false) k
  | .X (.sp _ _), .X .nilp => outB (f false) k
  | _, _ => none
/-- Is it nil? (an interface value) -/
def nilIfc (f : Bool → Bool) : Bin R := fun x _ k => match x with
  | .X .nili => outB (f true) k
  | .X (.ifc _ _) => outB (f false) k
  | _ => none
/-- Is it nil? (a slice) -/
def nilSl (f : Bool → Bool) : Bin R := fun x y k => match x, y with
  | .X .nils, .X .nils => outB (f true) k
  | .S _ _ _ _, .X .nils => outB (f false) k
  | .X (.ss _ _ _ _), .X .nils => outB (f false) k
  | _, _ => none
/-! Structs of numbers. -/
def eqCell (x y : AV) (k : Bool → Option R) : Option R := match x, y with
  | .I a i, .I b j => ifK (kEq a b) (boolK (decide (i = j)) k) none
  | .X (.sym p _), .X (.sym q _) => ifK (Pth.beq p q) (k true) none
  | _, _ => none
def eqOff (l m : List AV) : List Nat → Bool → (Bool → Option R) → Option R
  | [], b, k => k b
  | o :: os, b, k => match l[o]?, m[o]? with
    | some x, some y => eqCell x y fun c => boolK (b && c) fun b => eqOff l m os b k
    | _, _ => none
def aggEq (f : Bool → Bool) (offs : List Nat) : Bin R := fun x y k => match x, y with
  | .X (.agg l), .X (.agg m) => eqOff l m offs true fun b => outB (f b) k
  | _, _ => none
def shAmt (k : IntKind) (n : Int) (κ : Nat → Option R) : Option R := Int.rec (fun n => ifK (Nat.ble n k.bits) (κ n) (κ k.bits)) (fun _ => none) n
def bytesZ (l : List Int) : List UInt8 := l.map fun n => UInt8.ofNat n.toNat
/-- Two strings, of which one at least is not looked at: are they one? -/
def bsE (f : Bool → Bool) (g : Bin R) : Bin R := fun x y k => match x, y with
  | .X (.bs _ a), .X (.bs _ b) => fork (bytesZ a = bytesZ b) (outB (f true) k) (outB (f false) k)
  | .X (.bs _ a), .X (.str b) => fork (bytesZ a = b) (outB (f true) k) (outB (f false) k)
  | .X (.str a), .X (.bs _ b) => fork (a = bytesZ b) (outB (f true) k) (outB (f false) k)
  | _, _ => g x y k
/-- One string behind another. -/
def catK (kn : Bool) (a b : List Int) (k : AV → Option R) : Option R := Bool.rec (need (a.length + b.length ≤ 9223372036854775807) (k (.X (.bs false (a ++ b))))) (ifK (Nat.ble (a.length + b.length) 9223372036854775807) (k (.X (.bs true (a ++ b)))) none) kn
def catB (g : Bin R) : Bin R := fun x y k => match x, y with
  | .X (.bs c a), .X (.bs d b) => catK (c && d) a b k
  | .X (.bs c a), .X (.str b) => catK c a (intsZ b) k
  | .X (.str a), .X (.bs d b) => catK d (intsZ a) b k
  | _, _ => g x y k
def outS (k : IntKind) (n : Int) (κ : AV → Option R) : Option R := κ (.X (.si k n))
def forkB (p : Prop) (κ : AV → Option R) : Option R := fork p (κ (.B true)) (κ (.B false))
def binF : BinOp → Option (Bin R)
  | .add => some (two (fun k m n κ => wrapK k (Int.add m n) κ) (symI (fun k m n κ => outS k (k.wrap (m + n)) κ) (catB (strs fun a b k => if Nat.ble (a.length + b.length) 9223372036854775807 then k (.X (.str (a ++ b))) else none))))
  | .sub => some (two (fun k m n κ => wrapK k (Int.sub m n) κ) (symI (fun k m n κ => outS k (k.wrap (m - n)) κ) none2))
  | .mul => some (two (fun k m n κ => wrapK k (Int.mul m n) κ) (symI (fun k m n κ => outS k (k.wrap (m * n)) κ) none2))
  | .quo => some (two (fun k m n κ => bif decide (n = 0) then none else wrapK k (m.tdiv n) κ) (symI (fun k m n κ => need (n ≠ 0) (outS k (k.wrap (m.tdiv n)) κ)) none2))
  | .rem => some (two (fun k m n κ => bif decide (n = 0) then none else out k (m.tmod n) κ) (symI (fun k m n κ => need (n ≠ 0) (outS k (m.tmod n) κ)) none2))
  | .and => some (two (fun k m n κ => out k (bitOp .and k m n) κ) (symI (fun k m n κ => outS k (bitOp .and k m n) κ) none2))
  | .or => some (two (fun k m n κ => out k (bitOp .or k m n) κ) (symI (fun k m n κ => outS k (bitOp .or k m n) κ) none2))
  | .xor => some (two (fun k m n κ => out k (bitOp .xor k m n) κ) (symI (fun k m n κ => outS k (bitOp .xor k m n) κ) none2))
  | .andNot => some (two (fun k m n κ => out k (bitOp .andNot k m n) κ) (symI (fun k m n κ => outS k (bitOp .andNot k m n) κ) none2))
  | .shl => some (twoS (fun k m n κ => shAmt k n fun s => wrapK k (Int.mul m (Int.ofNat (Nat.pow 2 s))) κ) (symS (fun k m n κ => need (0 ≤ n) (outS k (k.wrap (m * (2 ^ (min n.toNat k.bits) : Nat))) κ)) (fun k m n κ => shAmt k n fun s => outS k (k.wrap (m * (2 ^ s : Nat))) κ)))
  | .shr => some (twoS (fun k m n κ => shAmt k n fun s => out k (Int.fdiv m (Int.ofNat (Nat.pow 2 s))) κ) (symS (fun k m n κ => need (0 ≤ n) (outS k (m.fdiv (2 ^ (min n.toNat k.bits) : Nat)) κ)) (fun k m n κ => shAmt k n fun s => outS k (m.fdiv (2 ^ s : Nat)) κ)))
  | .lss => some (two (fun _ m n κ => outB (decide (m < n)) κ) (symI (fun _ m n κ => forkB (m < n) κ) (symB 0 none2)))
  | .leq => some (two (fun _ m n κ => outB (decide (m ≤ n)) κ) (symI (fun _ m n κ => forkB (m ≤ n) κ) (symB 1 none2)))
  | .gtr => some (two (fun _ m n κ => outB (decide (n < m)) κ) (symI (fun _ m n κ => forkB (n < m) κ) (symB 2 none2)))
  | .geq => some (two (fun _ m n κ => outB (decide (n ≤ m)) κ) (symI (fun _ m n κ => forkB (n ≤ m) κ) (symB 3 none2)))
  | .eql => some (two (fun _ m n κ => outB (decide (m = n)) κ) (symI (fun _ m n κ => forkB (m = n) κ) (symB 4 (bsE (fun b => b) (strs fun a b k => outB (strEq a b) k)))))
  | .neq => some (two (fun _ m n κ => outB (!decide (m = n)) κ) (symI (fun _ m n κ => forkB (m ≠ n) κ) (symB 5 (bsE (fun b => !b) (strs fun a b k => outB (!strEq a b) k)))))
def unF : UnOp → Option (AV → (AV → Option R) → Option R)
  | .not => some fun v k => asB v fun b => Bool.rec (k (.B true)) (k (.B false)) b
  | .neg => some fun v κ => asI2 v (fun k m => wrapK k (Int.neg m) κ) (fun k m => outS k (k.wrap (0 - m)) κ)
  | .xor => some fun v κ => asI2 v (fun k m => out k (bitOp .xor k (if k.signed then -1 else k.max) m) κ) (fun k m => outS k (bitOp .xor k (if k.signed then -1 else k.max) m) κ)
  | _ => none
def lenSl (x : AV) (k : Nat → Option R) : Option R := match x with
  | .S _ _ n _ => k n
  | .X .nils => k 0
  | .X .slz => k 0
  | _ => none
def lenStr (x : AV) (k : Nat → Option R) : Option R := match x with
  | .X (.str s) => natK s.length k
  | .X (.bs true s) => natK s.length k
  | _ => none
/-- The cells that a slice shows. -/
def slCells (H : AH) (sz : Nat) (x : AV) (k : List AV → Option R) : Option R := match x with
  | .S b o n _ => Nat.rec (k []) (fun n _ => blk H b fun B => cells0 B fun _ _ _ cs => dropK cs o fun l => takeK l (Nat.mul (Nat.succ n) sz) k) n
  | .X .nils => k []
  | .X .slz => k []
  | _ => none
def bytesOf : List AV → Option (List UInt8)
  | [] => some []
  | .I .u8 n :: l => match bytesOf l with
    | some r => some (UInt8.ofNat n.toNat :: r)
    | none => none
  | _ => none
def intsOf : List AV → Option (List Int)
  | [] => some []
  | .I .u8 n :: l => match intsOf l with
    | some r => some (n :: r)
    | none => none
  | .X (.si .u8 n) :: l => match intsOf l with
    | some r => some (n :: r)
    | none => none
  | _ => none

/-! Instructions: each hands on to what comes behind it. -/
abbrev FD (R : Type) := List AV → AH → (AV → AH → Option R) → Option R
inductive Tg where
  | fn (f : Nat)
  | yl (l : Pth)
/-- What calls: with these new yields. -/
abbrev Cx (R : Type) := List (Pth × FD R) → Tg → FD R
abbrev Ins (R : Type) := Cx R → Cont R → Cont R
/-- The value goes to slot d. -/
def put (d : Option (Slot R)) (v : AV) (k : Cont R) : Cont R := fun e H => Option.rec (k e H) (fun p => Slot.rec (fun _ S => S (some v) e fun e => k e H) p) d
def iMv (d : Option (Slot R)) (x : OD R) : Ins R := fun _ k e H => x e fun v => put d v k e H
def iPick (d : Option (Slot R)) (c x y : OD R) : Ins R := fun _ k e H => c e fun c => asB c fun c => Bool.rec (y e fun v => put d v k e H) (x e fun v => put d v k e H) c
def iBin (d : Option (Slot R)) (f : Bin R) (x y : OD R) : Ins R := fun _ k e H => x e fun a => y e fun b => f a b fun v => put d v k e H
def iUn (d : Option (Slot R)) (f : AV → (AV → Option R) → Option R) (x : OD R) : Ins R := fun _ k e H => x e fun a => f a fun v => put d v k e H
def iFa (d : Option (Slot R)) (off : Nat) (x : OD R) : Ins R := fun _ k e H => x e fun v => asA v (fun b o => natK (Nat.add o off) fun o => put d (.P b o) k e H) fun b o => put d (.X (.sp b (o + (off : Int)))) k e H
/-- An element of an array behind a pointer. -/
def iIp (d : Option (Slot R)) (n sz : Nat) (x i : OD R) : Ins R := fun _ k e H => x e fun v => asP v fun b o => i e fun i => asN i fun i => ifK (Nat.blt i n) (natK (Nat.add o (Nat.mul i sz)) fun o => put d (.P b o) k e H) none
def iIs (d : Option (Slot R)) (sz : Nat) (x i : OD R) : Ins R := fun _ k e H => x e fun v => i e fun i => AV'.rec (fun _ _ => none) (fun _ => none) (fun _ _ => none)
  (fun b o n _ => asN i fun i => ifK (Nat.blt i n) (natK (Nat.add o (Nat.mul i sz)) fun o => put d (.P b o) k e H) none)
  (fun xv => match xv with
    | .ss b o n _ => asZ i fun i => need (0 ≤ i ∧ i < n) (put d (.X (.sp b (o + i * (sz : Int)))) k e H)
    | _ => none) v
/-- A byte of a string. -/
def ixB (kn : Bool) (l : List Int) (i : AV) (k : Int → Option R) : Option R := match kn, i with
  | true, .I _ (.ofNat i) => Option.rec none (fun n => k (byteZ n)) l[i]?
  | _, i => asZ i fun i => need (0 ≤ i ∧ i < l.length) (k (byteZ (l.getD i.toNat 0)))
def iIx (d : Option (Slot R)) (x i : OD R) : Ins R := fun _ k e H => x e fun v => i e fun i => match v with
  | .X (.str s) => match i with
    | .X (.si _ n) => need (0 ≤ n ∧ n < (intsZ s).length) (put d (.X (.si .u8 (byteZ ((intsZ s).getD n.toNat 0)))) k e H)
    | i => asN i fun i => Option.rec none (fun u => natK (UInt8.toNat u) fun n => put d (.I .u8 (.ofNat n)) k e H) s[i]?
  | .X (.bs kn l) => ixB kn l i fun z => put d (.X (.si .u8 z)) k e H
  | _ => none
def iEx (d : Option (Slot R)) (i : Nat) (x : OD R) : Ins R := fun _ k e H => x e fun v => match v with
  | .X (.tup l) => nth l i fun v => put d v k e H
  | _ => none
def iFd (d : Option (Slot R)) (off : Nat) (x : OD R) : Ins R := fun _ k e H => x e fun v => match v with
  | .X (.agg l) => nth l off fun v => put d v k e H
  | _ => none
def iFs (d : Option (Slot R)) (off n : Nat) (x : OD R) : Ins R := fun _ k e H => x e fun v => match v with
  | .X (.agg l) => dropK l off fun l => takeK l n fun l => put d (.X (.agg l)) k e H
  | _ => none
def iLd (d : Option (Slot R)) (sh : Option Shp) (x : OD R) : Ins R := fun _ k e H => x e fun v => asA v (fun b o => blk H b fun B => cells0 B fun _ _ _ cs => nth cs o fun v => put d v k e H) fun b o => match sh with
  | some s => blk H b fun B => cellsB B fun T m _ cs => need (isAt s cs (relO m T o)) (put d (valAt s cs (relO m T o)) k e H)
  | none => none
def iLs (d : Option (Slot R)) (n : Nat) (sh : Option (List Shp)) (x : OD R) : Ins R := fun _ k e H => x e fun v => asA v (fun b o => blk H b fun B => cells0 B fun _ _ _ cs => dropK cs o fun l => takeK l n fun l => put d (.X (.agg l)) k e H) fun b o => match sh with
  | some l => ifK (Nat.beq l.length n) (blk H b fun B => cellsB B fun T m _ cs => need (0 ≤ relO m T o ∧ areAt cs l (relO m T o)) (put d (.X (.agg (valsAt cs l (relO m T o)))) k e H)) none
  | none => none
def iSt (n : Nat) (x y : OD R) : Ins R := fun _ k e H => x e fun v => asP v fun b o => y e fun u => blk H b fun B => cellsB B fun T m s cs => open_ m (ifK (Nat.beq (cellsOf u).length n && ones (cellsOf u)) (overK (cellsOf u) cs o fun cs => natK (Nat.succ s) fun s => putB H b (.cells T m s cs) fun H => k e H) none)
def iAl (d : Option (Slot R)) (T : Nat) (z : List AV) : Ins R := fun _ k e H => new H (.cells T .shut 0 z) fun b H => put d (.P b 0) k e H
def iBx (d : Option (Slot R)) (T : Nat) (x : OD R) : Ins R := fun _ k e H => x e fun v => new H (.cells T .shut 0 (cellsOf v)) fun b H => put d (.P b 0) k e H
def iNc (d : Option (Slot R)) (x : OD R) : Ins R := fun _ k e H => x e fun v => match v with
  | .P _ _ => put d v k e H
  | .X (.ifc _ _) => put d v k e H
  | .X (.fn _ _ _) => put d v k e H
  | .X (.yld _) => put d v k e H
  | .X (.sp _ _) => put d v k e H
  | _ => none
/-- The parts of what is built: where each goes. -/
abbrev Part (R : Type) := Nat × Nat × OD R
def partsK (ps : List (Part R)) : List AV → EV → (List AV → Option R) → Option R := List.rec (motive := fun _ => List AV → EV → (List AV → Option R) → Option R) (fun cs _ k => k cs)
  (fun p _ ih cs e k => p.2.2 e fun v => ifK (Nat.beq (cellsOf v).length p.2.1) (overK (cellsOf v) cs p.1 fun cs => ih cs e k) none) ps
def iBd (d : Option (Slot R)) (z : List AV) (ps : List (Part R)) : Ins R := fun _ k e H => partsK ps z e fun cs => put d (.X (.agg cs)) k e H
def iBs (d : Option (Slot R)) (T n sz : Nat) (z : List AV) (ps : List (Part R)) : Ins R := fun _ k e H => ifK (Nat.ble (n * sz) 16777216) (repK z n fun cs => partsK ps cs e fun cs => new H (.cells T .shut 0 cs) fun b H => put d (.S b 0 n (.kn n)) k e H) none
def iMk (d : Option (Slot R)) (T : Nat) (z : List AV) (l c : OD R) : Ins R := fun _ k e H => l e fun l => asN l fun l => c e fun c => asN c fun c => ifK (Nat.ble l c && Nat.ble c 1048576) (repK z c fun cs => new H (.cells T .shut 0 cs) fun b H => put d (.S b 0 l (.kn c)) k e H) none
def iCv (d : Option (Slot R)) (k' : IntKind) (x : OD R) : Ins R := fun _ k e H => x e fun v => asI2 v (fun _ n => wrapK k' n fun v => put d v k e H) (fun _ n => outS k' (k'.wrap n) fun v => put d v k e H)
def iBt (d : Option (Slot R)) (x : OD R) : Ins R := fun _ k e H => x e fun v => match v with
  | .X (.ss b o n _) => blk H b fun B => cellsB B fun T m _ cs => need (0 ≤ relO m T o ∧ 0 ≤ n ∧ relO m T o + n ≤ cs.length ∧ areI .u8 (partA cs (relO m T o) n)) (put d (.X (.bs false ((partA cs (relO m T o) n).map intOf))) k e H)
  | v => slCells H 1 v fun cs => Option.rec (Option.rec none (fun s => put d (.X (.bs true s)) k e H) (intsOf cs)) (fun s => put d (.X (.str s)) k e H) (bytesOf cs)
def iIf (d : Option (Slot R)) (t : Nat) (x : OD R) : Ins R := fun _ k e H => x e fun v => put d (.X (.ifc t v)) k e H
def iFn (d : Option (Slot R)) (f : Nat) (xs ys : EV → (List AV → Option R) → Option R) : Ins R := fun _ k e H => xs e fun l => ys e fun m => put d (.X (.fn f l m)) k e H
def iTa (d : Option (Slot R)) (t : Nat) (ok : Bool) (z : AV) (x : OD R) : Ins R := fun _ k e H => x e fun v => match v, ok with
  | .X (.ifc u w), true => ifK (Nat.beq u t) (put d (.X (.tup [w, .B true])) k e H) (put d (.X (.tup [z, .B false])) k e H)
  | .X (.ifc u w), false => ifK (Nat.beq u t) (put d w k e H) none
  | .X .nili, true => put d (.X (.tup [z, .B false])) k e H
  | _, _ => none
def bds (lo hi : Option (OD R)) (e : EV) (go : Nat → Option Nat → Option R) : Option R :=
  Option.rec (Option.rec (go 0 none) (fun hi => hi e fun h => asN h fun h => go 0 (some h)) hi)
    (fun lo => lo e fun l => asN l fun l => Option.rec (go l none) (fun hi => hi e fun h => asN h fun h => go l (some h)) hi) lo
def hiOf (h : Option Nat) (n : Nat) : Nat := Option.rec n (fun h => h) h
/-- A part of a slice. -/
def slPart (sz : Nat) (v : AV) (l : Nat) (h : Option Nat) (k : AV → Option R) : Option R := match v with
  | .S b o n cp => natK (hiOf h n) fun h => ifK (Nat.ble l h) (natK (Nat.sub h l) fun m => Cp.rec
      (fun c => ifK (Nat.ble h c) (natK (Nat.sub c l) fun c' => Nat.rec (k (.S b o m (.kn 0))) (fun c' _ => natK (Nat.add o (Nat.mul l sz)) fun o' => k (.S b o' m (.kn (Nat.succ c')))) c') none)
      (fun q => ifK (Nat.ble h n) (Nat.rec (k (.S b o m (.un q))) (fun l' _ => Nat.rec (k (.X .slz)) (fun m' _ => natK (Nat.add o (Nat.mul (Nat.succ l') sz)) fun o' => natK (Nat.add q (Nat.succ l')) fun q' => k (.S b o' (Nat.succ m') (.un q'))) m) l) none) cp) none
  | .X .nils => natK (hiOf h 0) fun h => ifK (Nat.beq l 0 && Nat.beq h 0) (k (.X .nils)) none
  | _ => none
/-- Bounds that need not be told. -/
def bdZ (x : Option (OD R)) (e : EV) (dflt : AV) (go : AV → Option R) : Option R := Option.rec (go dflt) (fun x => x e go) x
def iSl (d : Option (Slot R)) (sz : Nat) (x : OD R) (lo hi : Option (OD R)) : Ins R := fun _ k e H => x e fun v => match v with
  | .X (.ss b o n _) => bdZ lo e (.I .i64 0) fun l => bdZ hi e (.X (.si .i64 n)) fun h => asZ l fun l => asZ h fun h => need (0 ≤ l ∧ l ≤ h ∧ h ≤ n) (put d (.X (.ss b (o + l * (sz : Int)) (h - l) none)) k e H)
  | v => bds lo hi e fun l h => slPart sz v l h fun v => put d v k e H
/-- A part of a string. -/
def subB (kn : Bool) (s : List Int) (l h : AV) (k : AV → Option R) : Option R := match kn, l, h with
  | true, .I _ (.ofNat l), .I _ (.ofNat h) => ifK (Nat.ble l h && Nat.ble h s.length) (k (.X (.bs true ((s.drop l).take (h - l))))) none
  | _, l, h => asZ l fun l => asZ h fun h => need (0 ≤ l ∧ l ≤ h ∧ h ≤ s.length) (k (.X (.bs false ((s.drop l.toNat).take (h - l).toNat))))
def iSs (d : Option (Slot R)) (x : OD R) (lo hi : Option (OD R)) : Ins R := fun _ k e H => x e fun v => match v with
  | .X (.str s) => bds lo hi e fun l h => natK (hiOf h s.length) fun h => ifK (Nat.ble l h && Nat.ble h s.length) (put d (.X (.str ((s.drop l).take (h - l)))) k e H) none
  | .X (.bs kn s) => bdZ lo e (.I .i64 0) fun l => bdZ hi e (Bool.rec (.X (.si .i64 (s.length : Int))) (.I .i64 (Int.ofNat s.length)) kn) fun h => subB kn s l h fun v => put d v k e H
  | _ => none
def iLen (d : Option (Slot R)) (x : OD R) : Ins R := fun _ k e H => x e fun v => match v with
  | .X (.ss _ _ n _) => put d (.X (.si .i64 n)) k e H
  | v => lenSl v fun n => put d (.I .i64 (.ofNat n)) k e H
def iLeS (d : Option (Slot R)) (x : OD R) : Ins R := fun _ k e H => x e fun v => match v with
  | .X (.bs false s) => put d (.X (.si .i64 (s.length : Int))) k e H
  | v => lenStr v fun n => put d (.I .i64 (.ofNat n)) k e H
def iCap (d : Option (Slot R)) (x : OD R) : Ins R := fun _ k e H => x e fun v => match v with
  | .X .nils => put d (.I .i64 0) k e H
  | .S _ _ _ (.kn n) => put d (.I .i64 (.ofNat n)) k e H
  | _ => none
def appNew (d : Option (Slot R)) (T sz : Nat) (cs : List AV) (mk : Pth → AV) : Cont R → Cont R := fun k e H => new H (.cells T (.op sz) 0 cs) fun b H => put d (mk b) k e H
/-- A slice that append has made: told, or its length not. -/
def mkS (b : Pth) (q : Nat) : AV := .S b 0 q (.un 0)
def mkZ (b : Pth) (q : Int) : AV := .X (.ss b 0 q (some 0))
/-- onto the slice x the cells cs, which are m elements -/
def appAt (mk : Pth → Nat → AV) (d : Option (Slot R)) (T sz : Nat) (x : AV) (cs : List AV) (m : Nat) : Cont R → Cont R := fun k e H => match x, m with
  | .X .nils, 0 => put d (.X .nils) k e H
  | .X .nils, m + 1 => ifK (Nat.ble (m + 1) 1073741824) (appNew d T sz cs (fun b => mk b (m + 1)) k e H) none
  | .S b o n c, 0 => put d (.S b o n c) k e H
  | .S b o n (.kn c), m + 1 => natK (n + (m + 1)) fun q => ifK (Nat.ble q 1073741824) (ifK (Nat.ble q c)
      (blk H b fun B => cellsB B fun T' md s ds => Md.rec (overK cs ds (o + n * sz) fun ds => natK (Nat.succ s) fun s => putB H b (.cells T' .shut s ds) fun H => put d (.S b o q (.kn c)) k e H) (fun _ => none) none md)
      (slCells H sz (.S b o n (.kn c)) fun old => appK old cs fun cs => appNew d T sz cs (fun b => mk b q) k e H)) none
  | .S b o n (.un u), m + 1 => blk H b fun B => cellsB B fun T' md _ ds => Md.rec none (fun z => natK (n + (m + 1)) fun q => ifK (Nat.ble q 1073741824 && (Nat.beq o 0 && (Nat.beq u 0 && (Nat.beq z sz && Nat.beq T' T))))
      (takeK ds (Nat.mul n sz) fun old => killB H b fun H => appK old cs fun cs => appNew d T sz cs (fun b => mk b q) k e H) none) none md
  | _, _ => none
/-- The same, where how many there are need not be told. -/
def appS (d : Option (Slot R)) (T sz : Nat) (x : AV) (cs : List AV) (m : Int) : Cont R → Cont R := fun k e H => match x with
  | .X .nils => fork (m ≤ 0) (put d (.X .nils) k e H) (need (m ≤ 1073741824) (appNew d T sz cs (fun b => mkZ b m) k e H))
  | .S b o n (.kn c) => fork (m ≤ 0) (put d (.S b o n (.kn c)) k e H) (need ((c : Int) < n + m ∧ n + m ≤ 1073741824) (slCells H sz (.S b o n (.kn c)) fun old => appNew d T sz (old ++ cs) (fun b => mkZ b (n + m)) k e H))
  | .S b o n (.un u) => fork (m ≤ 0) (put d (.S b o n (.un u)) k e H) (blk H b fun B => cellsB B fun T' md _ ds => Md.rec none (fun z => ifK (Nat.beq o 0 && (Nat.beq u 0 && (Nat.beq z sz && Nat.beq T' T)))
      (need (n + m ≤ 1073741824) (takeK ds (Nat.mul n sz) fun old => killB H b fun H => appNew d T sz (old ++ cs) (fun b => mkZ b (n + m)) k e H)) none) none md)
  | .X (.ss b o n (some u)) => fork (m ≤ 0) (put d (.X (.ss b o n (some u))) k e H) (blk H b fun B => cellsB B fun T' md _ ds => Md.rec none (fun z => ifK (Nat.beq u 0 && (Nat.beq z sz && Nat.beq T' T))
      (need (o = 0 ∧ 0 < n ∧ n + m ≤ 1073741824 ∧ n * sz ≤ ds.length) (killB H b fun H => appNew d T sz (ds.take (n * sz).toNat ++ cs) (fun b => mkZ b (n + m)) k e H)) none) none md)
  | _ => none
def iApp (d : Option (Slot R)) (T sz : Nat) (x y : OD R) : Ins R := fun _ k e H => x e fun x => y e fun y => match y with
  | .X (.ss b o n _) => blk H b fun B => cellsB B fun T' m _ ds => need (0 ≤ relO m T' o ∧ 0 ≤ n ∧ relO m T' o + n * sz ≤ ds.length ∧ ones (partA ds (relO m T' o) (n * sz)) = true) (appS d T sz x (partA ds (relO m T' o) (n * sz)) n k e H)
  | y => slCells H sz y fun cs => lenSl y fun m => ifK (ones cs) (match x with
    | .X (.ss b o n u) => appS d T sz (.X (.ss b o n u)) cs (Int.ofNat m) k e H
    | x => appAt mkS d T sz x cs m k e H) none
def iApm (d : Option (Slot R)) (T sz : Nat) (z : List AV) (x y : OD R) : Ins R := fun _ k e H => x e fun x => y e fun y => asN y fun m => ifK (Nat.ble m 1073741824 && ones z) (repK z m fun cs => appAt mkS d T sz x cs m k e H) none
def iClr (z : List AV) (x : OD R) : Ins R := fun _ k e H => x e fun v => match v with
  | .X .nils => k e H
  | .S _ _ 0 _ => k e H
  | .S b o n _ => blk H b fun B => cellsB B fun T m s ds => open_ m (repK z n fun cs => overK cs ds o fun ds => natK (Nat.succ s) fun s => putB H b (.cells T m s ds) fun H => k e H)
  | _ => none
def iMx (d : Option (Slot R)) (x y : OD R) : Ins R := fun _ k e H => x e fun v => asI2 v (fun ik m => y e fun w => asI2 w (fun _ n => out ik (max m n) fun v => put d v k e H) (fun _ n => outS ik (max m n) fun v => put d v k e H)) (fun ik m => y e fun w => asI2 w (fun _ n => outS ik (max m n) fun v => put d v k e H) (fun _ n => outS ik (max m n) fun v => put d v k e H))
def iMn (d : Option (Slot R)) (x y : OD R) : Ins R := fun _ k e H => x e fun v => asI2 v (fun ik m => y e fun w => asI2 w (fun _ n => out ik (min m n) fun v => put d v k e H) (fun _ n => outS ik (min m n) fun v => put d v k e H)) (fun ik m => y e fun w => asI2 w (fun _ n => outS ik (min m n) fun v => put d v k e H) (fun _ n => outS ik (min m n) fun v => put d v k e H))
def iCall (d : Option (Slot R)) (f : Nat) (xs : EV → (List AV → Option R) → Option R) : Ins R := fun cx k e H => xs e fun vs => cx [] (.fn f) vs H fun v H => put d v k e H
def iCv' (d : Option (Slot R)) (x : OD R) (xs : EV → (List AV → Option R) → Option R) : Ins R := fun cx k e H => x e fun f => xs e fun vs => match f with
  | .X (.fn f first cap) => cx [] (.fn f) (first ++ vs ++ cap) H fun v H => put d v k e H
  | .X (.yld l) => cx [] (.yl l) vs H fun v H => put d v k e H
  | _ => none
def iInv (d : Option (Slot R)) (meth : Nat → Option Nat) (x : OD R) (xs : EV → (List AV → Option R) → Option R) : Ins R := fun cx k e H => x e fun v => xs e fun vs => match v with
  | .X (.ifc t v) => match meth t with
    | some f => cx [] (.fn f) (v :: vs) H fun v H => put d v k e H
    | none => none
  | _ => none
/-- A guarded operation. -/
def iG (g : EV → Option AV) (w : Bool) (d : Option (Slot R)) (i : Ins R) : Ins R := fun cx k e H => oT g e fun v => match v with
  | .B b => ifK (b == w) (i cx k e H) (put d (.X .undef) k e H)
  | .X .undef => put d (.X .undef) k e H
  | _ => none

/-- What isn't done. -/
def iFail : Ins R := fun _ _ _ _ => none

/-! Types. -/
def fieldB (P : Program) (s i : Nat) : Option (Nat × Bool × Nat) := match P.underlying s with
  | some (.struct fs) => match fs[i]? with
    | some f => match P.info? f.type, P.underlying f.type with
      | some inf, some (.struct _) => bif Nat.beq inf.size 0 then none else some (f.offset, true, inf.size)
      | some inf, some (.array _ _) => bif Nat.beq inf.size 0 then none else some (f.offset, true, inf.size)
      | some inf, some _ => bif Nat.beq inf.size 1 then some (f.offset, false, 1) else none
      | _, _ => none
    | none => none
  | _ => none
/-- Is it a struct or an array; its size. -/
def shapeB (P : Program) (t : Nat) : Option (Bool × Nat) := match P.info? t, P.underlying t with
  | some inf, some (.struct _) => some (true, inf.size)
  | some inf, some (.array _ _) => some (true, inf.size)
  | some inf, some _ => bif Nat.beq inf.size 1 then some (false, 1) else none
  | _, _ => none
mutual
def ofV : Value → Option AV
  | .bool b => some (.B b)
  | .int k n => some (.I k n)
  | .float k b => some (.X (.flt k b))
  | .string s => some (.X (.str s.data.toList))
  | .pointer none => some (.X .nilp)
  | .slice none 0 0 => some (.X .nils)
  | .map none => some (.X .nilm)
  | .nilFunc => some (.X .nilf)
  | .nilIface => some (.X .nili)
  | .agg cs => match ofVs cs.toList with | some l => some (.X (.agg l)) | none => none
  | .iface t v => match ofV v with | some v => some (.X (.ifc t v)) | none => none
  | _ => none
def ofVs : List Value → Option (List AV)
  | [] => some []
  | v :: l => match ofV v with
    | none => none
    | some a => match ofVs l with
      | none => none
      | some l => some (a :: l)
end
/-- What stands in a cell of the type. -/
def shpB (P : Program) (t : Nat) : Option Shp := match P.underlying t with
  | some (.int k) => some (.int k)
  | some .string => some .str
  | _ => none
def shpL (P : Program) : List Field → Option (List Shp)
  | [] => some []
  | f :: l => match shpB P f.type with
    | some s => match shpL P l with
      | some r => some (s :: r)
      | none => none
    | none => none
def shpsB (P : Program) (t : Nat) : Option (List Shp) := match P.underlying t with
  | some (.struct fs) => shpL P fs.toList
  | _ => none
def zeroB (P : Program) (t : Nat) : Option AV := match P.info? t with
  | some inf => match inf.zero with
    | some z => ofV z
    | none => none
  | none => none
def elemB (P : Program) (t : Nat) : Option (Nat × Nat) := match P.underlying t with
  | some (.slice e) => match P.info? e with
    | some inf => natK inf.size fun s => some (e, s)
    | none => none
  | _ => none
def arrB (P : Program) (t : Nat) : Option (Nat × Nat × Nat) := match P.underlying t with
  | some (.array n e) => match P.info? e with
    | some inf => natK inf.size fun s => some (n, e, s)
    | none => none
  | _ => none
def kindB (P : Program) (t : Nat) : Option IntKind := match P.underlying t with
  | some (.int k) => some k
  | _ => none
def methB (P : Program) (t : Nat) (name : String) : Option Nat := match P.info? t with
  | some inf => match inf.methods.find? (·.name == name) with
    | some m => match m.path.toList, m.func with
      | [], some (f, pr) => match P.underlying t, pr with
        | some (.pointer _), true => some f
        | some (.pointer _), false => none
        | some _, false => some f
        | _, _ => none
      | _, _ => none
    | none => none
  | none => none

/-! Code made into instructions. -/
def sl (n : Nat) : Pth := pthF 32 n
def slP (n : Nat) (k : Pth → Option α) : Option α := ifK (Nat.beq (num (sl n)) n) (k (sl n)) none
def opnd (P : Program) : Operand → Option (OD R)
  | .tmp t => slG t fun G => some (oT G)
  | .const v => match ofV v with
    | some a => some (oC a)
    | none => none
  | .global g => ifK (Nat.blt g P.globals.size) (slP g fun p => some (oC (.P p 0))) none
  | .func f => some (oC (.X (.fn f [] [])))
def opnds (P : Program) : List Operand → Option (EV → (List AV → Option R) → Option R)
  | [] => some nilO
  | x :: l => match opnd P x with
    | none => none
    | some x => match opnds P l with
      | none => none
      | some l => some (consO x l)
def parts (P : Program) (place : Nat → Option (Nat × Nat)) : List (Nat × Operand) → Option (List (Part R))
  | [] => some []
  | (i, x) :: l => match place i with
    | none => none
    | some (off, size) => match opnd P x with
      | none => none
      | some x => match parts P place l with
        | none => none
        | some l => some ((off, size, x) :: l)
def o1 (P : Program) (x : Operand) (f : OD R → Option (Ins R)) : Option (Ins R) := match opnd P x with
  | some x => f x
  | none => none
def o2 (P : Program) (x y : Operand) (f : OD R → OD R → Option (Ins R)) : Option (Ins R) := o1 P x fun x => o1 P y fun y => f x y
def oM (P : Program) : Option Operand → (Option (OD R) → Option (Ins R)) → Option (Ins R)
  | none, f => f none
  | some x, f => o1 P x fun x => f (some x)
/-- An element of so few bytes. -/
def smallB (P : Program) (T : Nat) : Bool := match P.info? T with
  | some inf => Nat.ble inf.bytes 1024
  | none => false
def compB (P : Program) (d : Option (Slot R)) (b : Builtin) (args : List Operand) (ts : List TypeId) : Option (Ins R) := match b, args with
  | .len, [x] => match ts with
    | [t] => match P.underlying t with
      | some (.slice _) => o1 P x fun x => some (iLen d x)
      | some .string => o1 P x fun x => some (iLeS d x)
      | _ => none
    | _ => none
  | .cap, [x] => match ts with
    | [t] => match P.underlying t with
      | some (.slice _) => o1 P x fun x => some (iCap d x)
      | _ => none
    | _ => none
  | .max, [x, y] => o2 P x y fun x y => some (iMx d x y)
  | .min, [x, y] => o2 P x y fun x y => some (iMn d x y)
  | .append, [x, y] => match ts with
    | [t, u] => match elemB P t with
      | some (T, sz) => match P.underlying u with
        | some (.int _) => match zeroB P T with
          | some z => match Nat.beq (cellsOf z).length sz && smallB P T && Nat.ble 1 sz with
            | true => o2 P x y fun x y => some (iApm d T sz (cellsOf z) x y)
            | false => none
          | none => none
        | some (.slice _) => match zeroB P T with
          | some z => match Nat.beq (cellsOf z).length sz && smallB P T && Nat.ble 1 sz with
            | true => o2 P x y fun x y => some (iApp d T sz x y)
            | false => none
          | none => none
        | _ => none
      | none => none
    | _ => none
  | _, _ => none
def isNilI : Operand → Bool
  | .const .nilIface => true
  | _ => false
/-- A struct of numbers: where they lie. -/
def eqOffs (P : Program) (t : Nat) : Option (List Nat) := match P.underlying t with
  | some (.struct fs) => match (fs.toList.all fun f => (f.name != "_") && (match P.underlying f.type with | some (.int _) => true | _ => false)) && !P.stoodInHeld t with
    | true => some (fs.toList.map (·.offset))
    | false => none
  | _ => none
def eqT (P : Program) (t : Nat) (y : Operand) (f : Bool → Bool) (g : Option (Bin R)) : Option (Bin R) := match P.underlying t with
  | some (.int _) => g
  | some .string => g
  | some .bool => some (eqBool f)
  | some (.pointer _) => some (nilPtr f)
  | some (.interface _) => match isNilI y with
    | true => some (nilIfc f)
    | false => none
  | some (.slice _) => some (nilSl f)
  | some (.struct _) => match eqOffs P t with
    | some l => some (aggEq f l)
    | none => none
  | _ => none
def binT (P : Program) (op : BinOp) (t : Nat) (y : Operand) : Option (Bin R) := match op with
  | .eql => eqT P t y (fun b => b) (binF .eql)
  | .neq => eqT P t y (fun b => !b) (binF .neq)
  | op => binF op
def compO (P : Program) (d : Option (Slot R)) (op : Op) : Option (Ins R) := match op with
  | .move x => o1 P x fun x => some (iMv d x)
  | .assign x => o1 P x fun x => some (iMv d x)
  | .pick c a b => o1 P c fun c => o2 P a b fun a b => some (iPick d c a b)
  | .alloc T => match zeroB P T with
    | some z => some (iAl d T (cellsOf z))
    | none => none
  | .box T x => o1 P x fun x => some (iBx d T x)
  | .build t ps => match zeroB P t with
    | some z => match P.underlying t with
      | some (.struct fs) => match fs.toList.all fun f => (P.info? f.type).isSome with
        | false => none
        | true => match parts P (fun i => match fs[i]? with
          | some f => match P.info? f.type with
            | some inf => natK f.offset fun o => natK inf.size fun s => some (o, s)
            | none => none
          | none => none) ps.toList with
          | some l => some (iBd d (cellsOf z) l)
          | none => none
      | some (.array _ el) => match P.info? el with
        | some inf => match parts P (fun i => natK (i * inf.size) fun o => natK inf.size fun s => some (o, s)) ps.toList with
          | some l => some (iBd d (cellsOf z) l)
          | none => none
        | none => none
      | _ => none
    | none => none
  | .buildSlice t n ps => match elemB P t with
    | some (T, sz) => match zeroB P T with
      | some z => match Nat.beq (cellsOf z).length sz with
        | true => match parts P (fun i => natK (i * sz) fun o => some (o, sz)) ps.toList with
          | some l => some (iBs d T n sz (cellsOf z) l)
          | none => none
        | false => none
      | none => none
    | none => none
  | .makeSlice t l c => match elemB P t with
    | some (T, sz) => match zeroB P T with
      | some z => match Nat.beq (cellsOf z).length sz && smallB P T with
        | true => o2 P l c fun l c => some (iMk d T (cellsOf z) l c)
        | false => none
      | none => none
    | none => none
  | .load t a => match shapeB P t with
    | some (true, n) => o1 P a fun a => natK n fun n => some (iLs d n (shpsB P t) a)
    | some (false, _) => o1 P a fun a => some (iLd d (shpB P t) a)
    | none => none
  | .store t a x => match d with
    | none => match shapeB P t with
      | some (_, n) => o2 P a x fun a x => natK n fun n => some (iSt n a x)
      | none => none
    | some _ => none
  | .nilCheck x => o1 P x fun x => some (iNc d x)
  | .binOp op t x y _ => match binT P op t y with
    | some f => o2 P x y fun x y => some (iBin d f x y)
    | none => none
  | .unOp op _ x => match unF op with
    | some f => o1 P x fun x => some (iUn d f x)
    | none => none
  | .convert s t x => match P.underlying s, P.underlying t with
    | some (.int _), some (.int k) => o1 P x fun x => some (iCv d k x)
    | some (.slice e), some .string => match kindB P e with
      | some .u8 => o1 P x fun x => some (iBt d x)
      | _ => none
    | _, _ => none
  | .makeInterface t x => match concB P t with
    | true => o1 P x fun x => some (iIf d t x)
    | false => none
  | .makeFunc (.func f) first cap => match opnds P first.toList with
    | some xs => match opnds P cap.toList with
      | some ys => some (iFn d f xs ys)
      | none => none
    | none => none
  | .slice t x lo hi none => match P.underlying t with
    | some .string => o1 P x fun x => oM P lo fun lo => oM P hi fun hi => some (iSs d x lo hi)
    | _ => match elemB P t with
      | some (_, sz) => o1 P x fun x => oM P lo fun lo => oM P hi fun hi => some (iSl d sz x lo hi)
      | none => none
  | .fieldAddr s x i => match fieldB P s i with
    | some (off, _, _) => o1 P x fun x => natK off fun off => some (iFa d off x)
    | none => none
  | .field s x i => match fieldB P s i with
    | some (off, true, n) => o1 P x fun x => natK off fun off => natK n fun n => some (iFs d off n x)
    | some (off, false, _) => o1 P x fun x => natK off fun off => some (iFd d off x)
    | none => none
  | .indexAddr t x i => match P.underlying t with
    | some (.slice _) => match elemB P t with
      | some (_, sz) => o2 P x i fun x i => some (iIs d sz x i)
      | none => none
    | _ => match arrB P t with
      | some (n, _, sz) => o2 P x i fun x i => some (iIp d n sz x i)
      | none => none
  | .index t x i => match P.underlying t with
    | some .string => o2 P x i fun x i => some (iIx d x i)
    | _ => none
  | .extract x i => o1 P x fun x => some (iEx d i x)
  | .typeAssert x _ t ok => match P.underlying t with
    | some (.interface _) => none
    | some _ => match zeroB P t with
      | some z => o1 P x fun x => some (iTa d t ok z x)
      | none => none
    | none => none
  | .call c => match c.callee with
    | .builtin b => compB P d b c.args.toList c.argTypes.toList
    | .value (.func f) => match opnds P c.args.toList with
      | some xs => some (iCall d f xs)
      | none => none
    | .value x => match opnds P c.args.toList with
      | some xs => o1 P x fun x => some (iCv' d x xs)
      | none => none
    | .invoke x name => match opnds P c.args.toList with
      | some xs => o1 P x fun x => some (iInv d (fun t => methB P t name) x xs)
      | none => none
  | _ => some iFail
def dstK (d : Option Tmp) (k : Option (Slot R) → Option α) : Option α := match d with
  | none => k none
  | some t => slS t fun p => k (some p)
def comp1 (P : Program) (all : List Oper) (o : Oper) : Option (Ins R) := dstK o.dst fun d => match compO P d o.op with
  | none => some iFail
  | some i => match o.guard with
    | none => some i
    | some (j, w) => match (all[j]?).bind (·.dst) with
      | none => none
      | some t => slG t fun p => some (iG p w d i)
def iNop : Ins R := fun _ k => k
def iThen (i j : Ins R) : Ins R := fun cx k => i cx (j cx k)
def compL (P : Program) (all : List Oper) : List Oper → Option (Ins R)
  | [] => some iNop
  | o :: l => match comp1 P all o with
    | none => none
    | some i => match compL P all l with
      | none => none
      | some j => some (iThen i j)

/-! Regions that draw their order. -/
inductive Stp where
  | take (i : Nat)
  | eff (i : Nat)
  | pre (i : Nat)
  | new (i : Nat)
/-- What is read of memory: whose address it is. -/
def reads : Op → Option Operand
  | .load _ x => some x
  | .convert _ _ x => some x
  | _ => none
def isNew : Op → Bool
  | .alloc _ => true
  | .buildSlice _ _ _ => true
  | _ => false
def rdyB (ops : Array Oper) (listed : Array Bool) (l : List Nat) : Bool := Region.ready .any ops listed == l
def dataAt (ops : Array Oper) (i : Nat) : Bool := match ops[i]? with | some o => isData o.op && o.dst.isSome | none => false
def effAt (ops : Array Oper) (i : Nat) : Bool := match ops[i]? with | some o => !isData o.op | none => false
def newAt (ops : Array Oper) (i : Nat) : Bool := match ops[i]? with | some o => isNew o.op && o.guard.isNone && o.dst.isSome | none => false
/-- Operation i writes neither p's slot nor what p reads. -/
def apartB (ops : Array Oper) (i p : Nat) : Bool := match ops[i]?, ops[p]? with
  | some a, some b => match a.dst with
    | none => true
    | some x => (match b.dst with | some y => !Nat.beq x y | none => true) && b.op.operands.toList.all fun z => match z with | .tmp t => !Nat.beq x t | _ => true
  | _, _ => false
def chkPlan (ops : Array Oper) : Array Bool → Option Nat → List Stp → Bool
  | listed, pend, [] => pend.isNone && over ops listed
  | listed, pend, .take i :: l => dataAt ops i && tk ops listed i && (match pend with | none => true | some p => tk ops (listed.setIfInBounds p true) i && apartB ops i p) && chkPlan ops (listed.setIfInBounds i true) pend l
  | listed, none, .eff i :: l => effAt ops i && rdyB ops listed [i] && chkPlan ops (listed.setIfInBounds i true) none l
  | listed, some p, .eff i :: l => effAt ops i && (rdyB ops listed [i, p] || rdyB ops listed [p, i]) && rdyB ops (listed.setIfInBounds p true) [i] && apartB ops i p && chkPlan ops (listed.setIfInBounds i true) (some p) l
  | listed, none, .pre p :: l => newAt ops p && chkPlan ops listed (some p) l
  | _, some _, .pre _ :: _ => false
  | listed, some p, .new q :: l => p == q && rdyB ops listed [p] && chkPlan ops (listed.setIfInBounds p true) none l
  | _, none, .new _ :: _ => false
/-! Plans, on bits. -/
/-- An operation: what must come ahead of it, where its value goes, what it looks at, what it is (1 only reads, 2 makes a block, 0 does something else). -/
structure OpI where
  dep : Nat
  dst : Option Nat
  look : Nat
  kind : Nat
def natB {β : Type} (n : Nat) (k : Nat → β) : β := match n with
  | 0 => k 0
  | m + 1 => k (Nat.succ m)
def tb (m i : Nat) : Bool := Nat.beq (Nat.mod (Nat.shiftRight m i) 2) 1
def depN : List Edge → Nat
  | [] => 0
  | e :: l => match Region.binds .any e with
    | true => Nat.lor (Nat.shiftLeft 1 e.on) (depN l)
    | false => depN l
def lookN : List Nat → Nat
  | [] => 0
  | t :: l => Nat.lor (Nat.shiftLeft 1 t) (lookN l)
def kindN (o : Oper) : Nat := match isData o.op with
  | true => match o.dst.isSome with | true => 1 | false => 3
  | false => match isNew o.op && o.guard.isNone && o.dst.isSome with | true => 2 | false => 0
def infL (ops : Array Oper) : List Oper → List OpI
  | [] => []
  | o :: l => ⟨depN o.after.toList, o.dst, lookN (o.looksAt ops), kindN o⟩ :: infL ops l
def forceI {β : Type} : List OpI → (List OpI → β) → β
  | [], k => k []
  | x :: l, k => natB x.dep fun d => natB x.look fun m => natB x.kind fun q => forceI l fun l' => k (⟨d, x.dst, m, q⟩ :: l')
def pairB (j : Nat) (x : OpI) : Nat → List OpI → Bool
  | _, [] => true
  | i, y :: l => (Nat.beq i j || match y.dst with
    | none => true
    | some t => (match x.dst with | some u => !Nat.beq t u | none => true) && !(tb x.look t) || tb x.dep i || tb y.dep j) && pairB j x (Nat.succ i) l
/-- Who writes where another one writes or looks stands in an order with it. -/
def pairsB (all : List OpI) : Nat → List OpI → Bool
  | _, [] => true
  | j, x :: l => pairB j x 0 all && pairsB all (Nat.succ j) l
def rdy1 (L i : Nat) (x : OpI) : Bool := !(tb L i) && Nat.beq (Nat.land x.dep L) x.dep
/-- All that may come now are so. -/
def onlyB (L : Nat) (ok : Nat → Bool) : Nat → List OpI → Bool
  | _, [] => true
  | j, x :: l => (!(rdy1 L j x) || ok j) && onlyB L ok (Nat.succ j) l
def apM (x y : OpI) : Bool := match x.dst with
  | none => true
  | some t => (match y.dst with | some u => !Nat.beq t u | none => true) && !(tb y.look t)
def chkM (I : List OpI) : Nat → Option Nat → List Stp → Bool
  | L, pend, [] => pend.isNone && onlyB L (fun _ => false) 0 I
  | L, pend, .take i :: l => (match I[i]? with
      | some x => Nat.beq x.kind 1 && rdy1 L i x && (match pend with
        | none => true
        | some p => match I[p]? with
          | some y => apM x y
          | none => false)
      | none => false) && natB (Nat.lor L (Nat.shiftLeft 1 i)) fun L => chkM I L pend l
  | L, none, .eff i :: l => (match I[i]? with
      | some x => (Nat.beq x.kind 0 || Nat.beq x.kind 2) && rdy1 L i x && onlyB L (fun j => Nat.beq j i) 0 I
      | none => false) && natB (Nat.lor L (Nat.shiftLeft 1 i)) fun L => chkM I L none l
  | L, some p, .eff i :: l => (match I[i]?, I[p]? with
      | some x, some y => (Nat.beq x.kind 0 || Nat.beq x.kind 2) && rdy1 L i x && rdy1 L p y && !Nat.beq i p && onlyB L (fun j => Nat.beq j i || Nat.beq j p) 0 I && apM x y && onlyB (Nat.lor L (Nat.shiftLeft 1 p)) (fun j => Nat.beq j i) 0 I
      | _, _ => false) && natB (Nat.lor L (Nat.shiftLeft 1 i)) fun L => chkM I L (some p) l
  | L, none, .pre p :: l => (match I[p]? with
      | some y => Nat.beq y.kind 2
      | none => false) && chkM I L (some p) l
  | _, some _, .pre _ :: _ => false
  | L, some p, .new q :: l => Nat.beq p q && (match I[p]? with
      | some y => rdy1 L p y && onlyB L (fun j => Nat.beq j p) 0 I
      | none => false) && natB (Nat.lor L (Nat.shiftLeft 1 p)) fun L => chkM I L none l
  | _, none, .new _ :: _ => false
def rdL (L : Nat) : Nat → List OpI → List (Nat × Nat)
  | _, [] => []
  | j, x :: l => match rdy1 L j x with
    | true => (j, x.kind) :: rdL L (Nat.succ j) l
    | false => rdL L (Nat.succ j) l
def fstD : List (Nat × Nat) → Option Nat
  | [] => none
  | (j, q) :: l => match Nat.beq q 1 || Nat.beq q 3 with
    | true => some j
    | false => fstD l
def others (pend : Option Nat) : List (Nat × Nat) → List (Nat × Nat)
  | [] => []
  | (j, q) :: l => match (match pend with | some p => Nat.beq j p | none => false) with
    | true => others pend l
    | false => (j, q) :: others pend l
def plan (I : List OpI) : Nat → Nat → Option Nat → List Stp
  | 0, _, _ => []
  | f + 1, L, pend => match rdL L 0 I with
    | r => match fstD r with
      | some i => .take i :: natB (Nat.lor L (Nat.shiftLeft 1 i)) fun L => plan I f L pend
      | none => match others pend r, pend with
        | [], some p => .new p :: natB (Nat.lor L (Nat.shiftLeft 1 p)) fun L => plan I f L none
        | [(i, _)], _ => .eff i :: natB (Nat.lor L (Nat.shiftLeft 1 i)) fun L => plan I f L pend
        | [(i, _), (j, q)], none => match Nat.beq q 2 with
          | true => .pre j :: .eff i :: natB (Nat.lor L (Nat.shiftLeft 1 i)) fun L => plan I f L (some j)
          | false => .pre i :: .eff j :: natB (Nat.lor L (Nat.shiftLeft 1 j)) fun L => plan I f L (some i)
        | _, _ => []
/-- What has been read: by which operation, which block, and how often it had been turned. -/
abbrev Lg := List (Nat × Pth × Nat)
/-- What comes behind: what has been read, the cells of a block to come. -/
abbrev DC (R : Type) := Lg → List AV → Cont R
abbrev DI (R : Type) := Cx R → DC R → DC R
def dData (i : Ins R) : DI R := fun cx k lg pc => i cx (k lg pc)
def logK (i : Nat) (H : AH) (v : AV) (lg : Lg) (k : Lg → Option R) : Option R := match v with
  | .P b _ => blk H b fun B => cellsB B fun _ _ st _ => k ((i, b, st) :: lg)
  | .S b _ _ _ => blk H b fun B => cellsB B fun _ _ st _ => k ((i, b, st) :: lg)
  | .X (.sp b _) => blk H b fun B => cellsB B fun _ _ st _ => k ((i, b, st) :: lg)
  | .X (.ss b _ _ _) => blk H b fun B => cellsB B fun _ _ st _ => k ((i, b, st) :: lg)
  | _ => k lg
def dRead (n : Nat) (x : OD R) (i : Ins R) : DI R := fun cx k lg pc e H => x e fun v => logK n H v lg fun lg => i cx (k lg pc) e H
/-- A read that is guarded. -/
def dReadG (n : Nat) (g : EV → Option AV) (w : Bool) (d : Option (Slot R)) (x : OD R) (i : Ins R) : DI R := fun cx k lg pc e H => oT g e fun v => match v with
  | .B b => ifK (b == w) (dRead n x i cx k lg pc e H) (put d (.X .undef) (k lg pc) e H)
  | .X .undef => put d (.X .undef) (k lg pc) e H
  | _ => none
/-- What may still be to come, and had to read what was there, is still there. -/
def chkLg (mask : Nat) (H : AH) (lg : Lg) : (Lg → Option R) → Option R := List.rec (motive := fun _ => (Lg → Option R) → Option R) (fun k => k [])
  (fun p _ ih k => Bool.rec (blk H p.2.1 fun B => cellsB B fun _ _ st _ => ifK (Nat.beq p.2.2 st) (ih fun lg => k (p :: lg)) none) (ih k) (Nat.testBit mask p.1)) lg
def dEff (mask : Nat) (i : Ins R) : DI R := fun cx k lg pc e H => i cx (fun e H => chkLg mask H lg fun lg => k lg pc e H) e H
def dPre (d : Slot R) (cells : EV → (List AV → Option R) → Option R) : DI R := fun _ k lg _ e H => cells e fun cs => d.S none e fun e => k lg cs e H
def dNew (d : Slot R) (T : Nat) (mk : Pth → AV) : DI R := fun _ k lg pc e H => new H (.cells T .shut 0 pc) fun b H => put (some d) (mk b) (k lg pc) e H
def dNop : DI R := fun _ k => k
def dThen (i j : DI R) : DI R := fun cx k => i cx (j cx k)
/-- What a new block is, and its cells. -/
def newCells (P : Program) : Op → Option (Nat × (Pth → AV) × (EV → (List AV → Option R) → Option R))
  | .alloc T => match zeroB P T with
    | some z => some (T, fun b => .P b 0, fun _ k => k (cellsOf z))
    | none => none
  | .buildSlice t n ps => match elemB P t with
    | some (T, sz) => match zeroB P T with
      | some z => match Nat.beq (cellsOf z).length sz && Nat.ble (n * sz) 16777216 with
        | true => match parts P (fun i => natK (i * sz) fun o => some (o, sz)) ps.toList with
          | some l => some (T, fun b => .S b 0 n (.kn n), fun e k => repK (cellsOf z) n fun cs => partsK l cs e k)
          | none => none
        | false => none
      | none => none
    | none => none
  | _ => none
def maskOf (ms : List (Nat × Nat)) : List Edge → Nat
  | [] => 0
  | e :: l => match Region.binds .any e with
    | true => Nat.lor (Nat.lor (Nat.shiftLeft 1 e.on) (find e.on ms)) (maskOf ms l)
    | false => maskOf ms l
  where find (i : Nat) : List (Nat × Nat) → Nat
  | [] => 0
  | (j, m) :: l => match Nat.beq j i with
    | true => m
    | false => find i l
def maskAt (ops : Array Oper) (ms : List (Nat × Nat)) (i : Nat) : Nat := match ops[i]? with
  | some o => maskOf ms o.after.toList
  | none => 0
def compS (P : Program) (ops : Array Oper) (ms : List (Nat × Nat)) : Stp → Option (DI R)
  | .take i => match ops[i]? with
    | none => none
    | some o => match comp1 P ops.toList o with
      | none => none
      | some c => match reads o.op with
        | none => some (dData c)
        | some x => match opnd P x with
          | none => some (dData iFail)
          | some x => match o.guard with
            | none => some (dRead i x c)
            | some (j, w) => match (ops.toList[j]?).bind (·.dst) with
              | none => none
              | some t => slG t fun p => dstK o.dst fun d => match compO P d o.op with
                | none => some (dData iFail)
                | some c => some (dReadG i p w d x c)
  | .eff i => match ops[i]? with
    | none => none
    | some o => match comp1 P ops.toList o with
      | none => none
      | some c => natK (maskAt ops ms i) fun m => some (dEff m c)
  | .pre i => match ops[i]? with
    | none => none
    | some o => dstK o.dst fun d => match d with
      | none => none
      | some d => match newCells P o.op with
        | some (_, _, cells) => some (dPre d cells)
        | none => some (dData iFail)
  | .new i => match ops[i]? with
    | none => none
    | some o => dstK o.dst fun d => match d with
      | none => none
      | some d => match newCells P o.op with
        | some (T, mk, _) => some (dNew d T mk)
        | none => some (dData iFail)
def msOf (ops : Array Oper) (ms : List (Nat × Nat)) : Stp → List (Nat × Nat)
  | .pre _ => ms
  | .take i => (i, maskAt ops ms i) :: ms
  | .eff i => (i, maskAt ops ms i) :: ms
  | .new i => (i, maskAt ops ms i) :: ms
def compD (P : Program) (ops : Array Oper) (ms : List (Nat × Nat)) : List Stp → Option (DI R)
  | [] => some dNop
  | s :: l => match compS P ops ms s with
    | none => none
    | some i => match compD P ops (msOf ops ms s) l with
      | none => none
      | some j => some (dThen i j)

/-- Code: what stands behind its exits (by their blocks' numbers), behind a return, behind its end. -/
abbrev CD (R : Type) := Cx R → Cont R → List (Cont R) → Cont R → Cont R
def cSkip : CD R := fun _ _ _ k => k
def cSeq (x y : CD R) : CD R := fun cx r xs k => x cx r xs (y cx r xs k)
def cIns (i : Ins R) : CD R := fun cx _ _ k => i cx k
def cCond (c : OD R) (x y : CD R) : CD R := fun cx r xs k e H => c e fun v => asB v fun b => Bool.rec (y cx r xs k e H) (x cx r xs k e H) b
def cBlock (x : CD R) : CD R := fun cx r xs k => x cx r (k :: xs) k
def cLoop (fuel : Nat) (x : CD R) : CD R := fun cx r xs _ => Nat.rec (fun _ _ => none) (fun _ ih => x cx r xs ih) fuel
def argsAt (ts : List (Slot R)) : List AV → EV → (EV → Option R) → Option R := List.rec (motive := fun _ => List AV → EV → (EV → Option R) → Option R)
  (fun vs e k => List.rec (motive := fun _ => Option R) (k e) (fun _ _ _ => none) vs) (fun t _ ih vs e k => List.rec (motive := fun _ => Option R) none (fun v vs _ => t.S (some v) e fun e => ih vs e k) vs) ts
/-- What may stand at a loop's head: which things there may be, what is left, what the slots and the heap are. -/
structure LHd where
  inv : Gh → Prop
  μ : Gh → Nat
  vals : Gh → List AV
  heap : Gh → AH
/-- The slots that live at a loop's head; what stands there, by what stands there first. -/
abbrev LH := List Nat × (List AV → AH → List LHd)
/-- It is so of one of them. -/
def anyS (P : LHd → Gh → Prop) : List LHd → Prop
  | [] => False
  | s :: l => match l with
    | [] => ∃ g, P s g
    | t :: r => (∃ g, P s g) ∨ anyS P (t :: r)
/-- Each of them is gone through. -/
def allS (f : LHd → Gh → R) (p : Prop) : List LHd → R
  | [] => .leaf p
  | s :: l => match l with
    | [] => .loop p s.inv (f s)
    | t :: r => .also (.loop p s.inv (f s)) (allS f True (t :: r))
/-- How often a loop is gone through that nothing is told of; what is told of those (by function, and the blocks around it); how a state is seen as another one. -/
structure Fu where
  n : Nat
  hint : Nat → List Nat → Option LH
  W : AH → List AV → AH → List AV → AH → Prop
instance (n : Nat) : OfNat Fu n := ⟨⟨n, fun _ _ => none, fun _ _ _ _ _ => False⟩⟩
/-- A loop is come to rightly; a round ends so. -/
def rBeg (W : AH → List AV → AH → List AV → AH → Prop) (F : List AV → AH → List LHd) (vs : List AV) (H : AH) : Prop := anyS (fun s g => s.inv g ∧ W H vs H (s.vals g) (s.heap g)) (F vs H)
def rEnd (W : AH → List AV → AH → List AV → AH → Prop) (F : List AV → AH → List LHd) (vs : List AV) (H : AH) (m : Nat) (vs' : List AV) (H' : AH) : Prop := anyS (fun s' g' => s'.inv g' ∧ s'.μ g' < m ∧ W H vs' H' (s'.vals g') (s'.heap g')) (F vs H)
def cLoopS (W : AH → List AV → AH → List AV → AH → Prop) (os : EV → (List AV → Option R) → Option R) (qs : List (Slot R)) (F : List AV → AH → List LHd) (x : CD R) : CD R := fun cx r xs _ e H => os e fun vs => some
  (allS (fun s g => ofO (argsAt qs (s.vals g) e3 fun e => x cx r xs (fun e' H' => os e' fun vs' => some (.leaf (rEnd W F vs H (s.μ g) vs' H'))) e (s.heap g))) (rBeg W F vs H) (F vs H))
def cExit (n : Nat) : CD R := fun _ _ xs _ e H => Option.rec none (fun k => k e H) xs[n]?
def cRet : CD R := fun _ r _ _ => r
def loopB (B : AB) (k : Bool → Option Nat → Option R) : Option R := AB.rec (fun _ _ _ _ => none) k B
/-- A jump out of a round. -/
def leave (l : Pth) (k : AV → AH → Option R) (j : Nat) : Cont R := fun _ H => blk H l fun B => loopB B fun _ _ => putB H l (.loop false (some j)) fun H => k (.B false) H
def leaves (l : Pth) (k : AV → AH → Option R) : Nat → Nat → List (Cont R)
  | 0, _ => []
  | m + 1, j => leave l k j :: leaves l k m (j + 1)
/-- One round of a range over a function: m exits lie outside. -/
def round (cx : Cx R) (l : Pth) (ps : List (Slot R)) (a b : CD R) (m : Nat) (e0 : EV) : FD R := fun vs H k => blk H l fun B => loopB B fun on _ => ifK on
  (argsAt ps vs e0 fun e => a cx (fun _ _ => none) [] (fun e H => blk H l fun B => loopB B fun on _ => ifK on (putB H l (.loop false none) fun H => b cx (leave l k 0) (leaves l k m 1) (fun _ H => blk H l fun B => loopB B fun _ _ => putB H l (.loop true none) fun H => k (.B true) H) e H) none) e H) none
def cRange (ps : List (Slot R)) (a b : CD R) (m : Nat) (x : OD R) : CD R := fun cx r xs k e H => x e fun f => match f with
  | .X (.fn f first cap) => new H (.loop true none) fun l H => cx [(l, round cx l ps a b m e)] (.fn f) (first ++ [.X (.yld l)] ++ cap) H fun _ H => blk H l fun B => loopB B fun on j =>
      killB H l fun H => Option.rec (ifK on (k e H) none) (fun j => Nat.rec (r e H) (fun j _ => Option.rec none (fun k => k e H) xs[j]?) j) j
  | _ => none
def idx (id : Nat) : List Nat → Nat → Option Nat
  | [], _ => none
  | i :: l, n => bif Nat.beq i id then some n else idx id l (n + 1)
def slPs : List Nat → Option (List (Slot R))
  | [] => some []
  | t :: l => slS t fun p => match slPs l with
    | none => none
    | some l => some (p :: l)
def countS : List Stp → Nat
  | [] => 0
  | .pre _ :: l => countS l
  | _ :: l => countS l + 1
/-- No range over a function stands in it. -/
def noR : Code → Bool
  | .seq x y => noR x && noR y
  | .cond _ x y => noR x && noR y
  | .block _ b => noR b
  | .loop b => noR b
  | .scope b => noR b
  | .rangeFunc _ _ _ _ => false
  | _ => true
def compC (P : Program) (fn f : Nat) (fuel : Fu) : List Nat → Code → Option (CD R)
  | _, .skip => some cSkip
  | ids, .seq x y => match compC P fn f fuel ids x with
    | none => none
    | some x => match compC P fn f fuel ids y with
      | none => none
      | some y => some (cSeq x y)
  | _, .region _ ops false => match okL fn ops.toList with
    | false => some (cIns iFail)
    | true => match compL P ops.toList ops.toList with
      | none => none
      | some i => some (cIns i)
  | _, .region _ ops true => forceI (infL ops ops.toList) fun I => match plan I (2 * I.length) 0 none with
    | pl => match pairsB I 0 I && chkM I 0 none pl && Nat.beq (countS pl) ops.size && okL fn ops.toList with
      | false => some (cIns iFail)
      | true => match compD P ops [] pl with
        | none => none
        | some i => some (cIns fun cx k => i cx (fun _ _ => k) [] [])
  | ids, .cond c x y => match opnd P c with
    | none => none
    | some c => match compC P fn f fuel ids x with
      | none => none
      | some x => match compC P fn f fuel ids y with
        | none => none
        | some y => some (cCond c x y)
  | ids, .block id b => match compC P fn f fuel (id :: ids) b with
    | none => none
    | some x => some (cBlock x)
  | ids, .loop b => match compC P fn f fuel ids b with
    | none => none
    | some x => match fuel.hint f ids with
      | none => some (cLoop fuel.n x)
      | some (live, F) => match opnds P (live.map .tmp) with
        | none => none
        | some os => match slPs live with
          | none => none
          | some qs => some (cLoopS fuel.W os qs F x)
  | ids, .exit id => match idx id ids 0 with
    | none => none
    | some n => natK n fun n => some (cExit n)
  | _, .ret => some cRet
  | ids, .rangeFunc x ps c d => match opnd P x with
    | none => none
    | some x => match compC P fn f fuel [] c with
      | none => none
      | some a => match compC P fn f fuel ids d with
        | none => none
        | some b => match slPs ps.toList with
          | none => none
          | some qs => ifK (noR c && noR d && ps.toList.all fun t => Nat.blt t fn) (some (cRange qs a b ids.length x)) none
  | _, _ => none
def outO (P : Program) : List ResultVar → Option (EV → AH → (List AV → Option R) → Option R)
  | [] => some fun _ _ k => k []
  | .tmp t :: l => match outO P l with
    | none => none
    | some g => slG t fun p => some fun e H k => oT p e fun v => g e H fun vs => k (v :: vs)
  | .cell t ty :: l => match outO P l with
    | none => none
    | some g => match shapeB P ty with
      | some (true, n) => slG t fun p => some fun e H k => oT p e fun v => asP v fun b o => blk H b fun B => cells0 B fun _ _ _ cs => dropK cs o fun cs => takeK cs n fun cs => g e H fun vs => k (.X (.agg cs) :: vs)
      | some (false, _) => slG t fun p => some fun e H k => oT p e fun v => asP v fun b o => blk H b fun B => cells0 B fun _ _ _ cs => nth cs o fun v => g e H fun vs => k (v :: vs)
      | none => none
/-- The first slots, as far as there are arguments. -/
def args0 (ts : List (Slot R)) : List AV → EV → (EV → Option R) → Option R := List.rec (motive := fun _ => List AV → EV → (EV → Option R) → Option R)
  (fun vs e k => List.rec (motive := fun _ => Option R) (k e) (fun _ _ _ => none) vs) (fun t _ ih vs e k => List.rec (motive := fun _ => Option R) (k e) (fun v vs _ => t.S (some v) e fun e => ih vs e k) vs) ts
def shutA : List AV → AV
  | [v] => v
  | l => .X (.tup l)
def compF (P : Program) (fuel : Fu) (f : Nat) : Option (Cx R → FD R) := match P.funcs[f]? with
  | none => none
  | some fn => match (match fn.name == "runtime.NumGoroutine" with | true => none | false => fn.body) with
    | none => none
    | some c => match compC P fn.ntmps f fuel [] c with
      | none => none
      | some c => match outO P fn.results.toList with
        | none => none
        | some g => match slPs (List.range (fn.params.size + fn.nfree)) with
          | none => none
          | some ts => some fun cx args H k => ifK (Nat.ble args.length fn.ntmps) (args0 ts args e3 fun e => c cx (fun e H => g e H fun vs => k (shutA vs) H) [] (fun e H => g e H fun vs => k (shutA vs) H) e H) none
def find (Y : List (Pth × FD R)) (l : Pth) : FD R := List.rec (fun _ _ _ => none) (fun p _ ih => Bool.rec ih p.2 (Pth.beq p.1 l)) Y
def call (P : Program) (hook : Nat → Option (FD R)) (fuel : Fu) (depth : Nat) : List (Pth × FD R) → Cx R := Nat.rec (motive := fun _ => List (Pth × FD R) → Cx R) (fun _ _ _ _ _ _ => none)
  (fun _ cal Y ext tg args H k => Tg.rec (fun f => Option.rec (Option.rec none (fun g => g (cal (ext ++ Y)) args H k) (compF P fuel f)) (fun g => g args H k) (hook f)) (fun l => find (ext ++ Y) l args H k) tg) depth
end
end Ry
end
end Go.TP
/-! Rz1. -/
namespace Go.TP
open Go
namespace Ry
@[simp] theorem tr_none (r : R) : (Tr none r) = False := rfl
theorem Pth.beq_eq : ∀ {p q : Pth}, Pth.beq p q = true → p = q
  | .z, .z, _ => rfl
  | .a p, .a q, h => by rw [Pth.beq_eq (p := p) (q := q) h]
  | .b p, .b q, h => by rw [Pth.beq_eq (p := p) (q := q) h]
  | .z, .a _, h => by cases h
  | .z, .b _, h => by cases h
  | .a _, .z, h => by cases h
  | .b _, .z, h => by cases h
  | .a _, .b _, h => by cases h
  | .b _, .a _, h => by cases h
theorem Pth.beq_self : ∀ (p : Pth), Pth.beq p p = true
  | .z => rfl
  | .a p => Pth.beq_self p
  | .b p => Pth.beq_self p
noncomputable instance : DecidableEq Pth := fun p q => match h : Pth.beq p q with
  | true => isTrue (Pth.beq_eq h)
  | false => isFalse fun hh => by rw [hh, Pth.beq_self] at h; cases h
section
variable {α : Type}

def getT : PT α → Pth → Option α
  | .nil, _ => none
  | .node v l r, p => match p with
    | .z => v
    | .a p => getT l p
    | .b p => getT r p
def setT (v : Option α) : Pth → PT α → PT α
  | .z, t => match t with
    | .nil => .node v .nil .nil
    | .node _ l r => .node v l r
  | .a p, t => match t with
    | .nil => .node none (setT v p .nil) .nil
    | .node u l r => .node u (setT v p l) r
  | .b p, t => match t with
    | .nil => .node none .nil (setT v p .nil)
    | .node u l r => .node u l (setT v p r)
theorem getT_nil (p : Pth) : getT (.nil : PT α) p = none := by cases p <;> rfl
theorem getK_eq (t : PT α) : ∀ (p : Pth) (k : α → Option R), getK t p k = (getT t p).bind k := by
  induction t with
  | nil => intro p k; rw [getT_nil]; rfl
  | node v l r hl hr =>
    intro p k
    cases p with
    | z => cases v <;> rfl
    | a p => exact hl p k
    | b p => exact hr p k
theorem setK_eq (v : Option α) (p : Pth) : ∀ (t : PT α) (k : PT α → Option R), setK v p t k = k (setT v p t) := by
  induction p with
  | z => intro t k; cases t <;> rfl
  | a p ih => intro t k; cases t <;> exact ih _ _
  | b p ih => intro t k; cases t <;> exact ih _ _
theorem getT_setT (v : Option α) : ∀ (p : Pth) (t : PT α) (q : Pth), getT (setT v p t) q = if q = p then v else getT t q := by
  intro p
  induction p with
  | z => intro t q; cases t <;> cases q <;> simp [setT, getT]
  | a p ih => intro t q; cases t <;> cases q <;> simp [setT, getT, ih, getT_nil]
  | b p ih => intro t q; cases t <;> cases q <;> simp [setT, getT, ih, getT_nil]
@[simp] theorem natK_eq (n : Nat) (k : Nat → Option α) : natK n k = k n := by cases n <;> rfl
@[simp] theorem intK_eq (n : Int) (k : Int → Option α) : intK n k = k n := by cases n <;> simp [intK]
@[simp] theorem boolK_eq (b : Bool) (k : Bool → Option α) : boolK b k = k b := by cases b <;> rfl
@[simp] theorem ifK_eq (b : Bool) (x y : Option α) : ifK b x y = if b then x else y := by cases b <;> rfl
theorem bind_some {β : Type} {o : Option α} {k : α → Option β} {r : β} (h : o.bind k = some r) : ∃ v, o = some v ∧ k v = some r := Option.bind_eq_some_iff.1 h
theorem bind_tr {o : Option α} {k : α → Option R} {r : R} (h : Tr (o.bind k) r) : ∃ v, o = some v ∧ Tr (k v) r := by
  cases o with
  | none => exact h.elim
  | some v => exact ⟨v, rfl, h⟩
theorem nth_eq (l : List AV) : ∀ (n : Nat) (k : AV → Option R), nth l n k = (l[n]?).bind k := by
  induction l with
  | nil => intro n k; rfl
  | cons v l ih => intro n k; cases n with
    | zero => rfl
    | succ n => exact ih n k
theorem dropK_eq (l : List AV) : ∀ (n : Nat) (k : List AV → Option R), dropK l n k = if n ≤ l.length then k (l.drop n) else none := by
  induction l with
  | nil => intro n k; cases n with
    | zero => exact (if_pos (Nat.le_refl _)).symm
    | succ n => exact (if_neg (by simp)).symm
  | cons v l ih => intro n k; cases n with
    | zero => exact (if_pos (Nat.zero_le _)).symm
    | succ n => exact (ih n k).trans (by simp)
theorem takeK_eq (l : List AV) : ∀ (n : Nat) (k : List AV → Option R), takeK l n k = if n ≤ l.length then k (l.take n) else none := by
  induction l with
  | nil => intro n k; cases n with
    | zero => exact (if_pos (Nat.le_refl _)).symm
    | succ n => exact (if_neg (by simp)).symm
  | cons v l ih => intro n k; cases n with
    | zero => exact (if_pos (Nat.zero_le _)).symm
    | succ n => exact (ih n (fun l => k (v :: l))).trans (by simp)
theorem over0_eq (us : List AV) : ∀ (l : List AV) (k : List AV → Option R), over0 us l k = if us.length ≤ l.length then k (us ++ l.drop us.length) else none := by
  induction us with
  | nil => intro l k; simp [over0]
  | cons u us ih => intro l k; cases l with
    | nil => simp [over0]
    | cons v l => have := ih l (fun l => k (u :: l)); simp only [over0] at this ⊢; simp [this]
theorem overK_eq (us : List AV) (l : List AV) : ∀ (n : Nat) (k : List AV → Option R), overK us l n k = if n + us.length ≤ l.length then k (l.take n ++ us ++ l.drop (n + us.length)) else none := by
  induction l with
  | nil => intro n k; cases n with
    | zero => exact (over0_eq us [] k).trans (by simp)
    | succ n => exact (if_neg (by simp)).symm
  | cons v l ih => intro n k; cases n with
    | zero => exact (over0_eq us (v :: l) k).trans (by simp)
    | succ n =>
      refine (ih n (fun l => k (v :: l))).trans ?_
      simp only [List.length_cons, List.take_succ_cons, List.cons_append, show n + 1 + us.length = (n + us.length) + 1 by omega, List.drop_succ_cons, Nat.add_le_add_iff_right]
theorem appK_eq (l m : List AV) : ∀ (k : List AV → Option R), appK l m k = k (l ++ m) := by
  induction l with
  | nil => intro k; rfl
  | cons v l ih => intro k; exact ih _
theorem repK_eq (z : List AV) (n : Nat) : ∀ (k : List AV → Option R), repK z n k = k (List.replicate n z).flatten := by
  induction n with
  | zero => intro k; rfl
  | succ n ih => intro k; have := ih (fun r => appK z r k); simp only [repK] at this ⊢; rw [this, appK_eq]; rfl
theorem asP_some {v : AV} {k : Pth → Nat → Option R} {r : R} (h : Tr (asP v k) r) : ∃ b o, v = .P b o ∧ Tr (k b o) r := by
  cases v with
  | P b o => exact ⟨b, o, rfl, h⟩
  | _ => cases h
theorem asB_some {v : AV} {k : Bool → Option R} {r : R} (h : Tr (asB v k) r) : ∃ b, v = .B b ∧ Tr (k b) r := by
  cases v with
  | B b => exact ⟨b, rfl, h⟩
  | _ => cases h
theorem asI_some {v : AV} {k : IntKind → Int → Option R} {r : R} (h : Tr (asI v k) r) : ∃ ik n, v = .I ik n ∧ Tr (k ik n) r := by
  cases v with
  | I ik n => exact ⟨ik, n, rfl, h⟩
  | _ => cases h
theorem asI2_some {v : AV} {f g : IntKind → Int → Option R} {r : R} (h : Tr (asI2 v f g) r) : (∃ ik n, v = .I ik n ∧ Tr (f ik n) r) ∨ ∃ ik n, v = .X (.si ik n) ∧ Tr (g ik n) r := by
  cases v with
  | I b o => exact .inl ⟨b, o, rfl, h⟩
  | X x =>
    cases x with
    | si k n => exact .inr ⟨k, n, rfl, h⟩
    | _ => cases h
  | _ => cases h
theorem pickK_some {m : Int} {k : Nat → Option R} {r : R} : ∀ {n : Nat}, Tr (pickK m n k) r → ∃ j : Nat, m = Int.ofNat j ∧ Tr (k j) r
  | 0, h => h.elim
  | n + 1, h => by
    obtain ⟨h1, h2⟩ := h
    rw [ofO_tr (r := r)] at h1 h2
    by_cases hm : m = Int.ofNat n
    · exact ⟨n, hm, h1 hm⟩
    · exact pickK_some (n := n) (h2 hm)
/-- It stands for that number. -/
def NumV (v : AV) (n : Nat) : Prop := ∃ ik, v = .I ik (.ofNat n) ∨ v = .X (.si ik (.ofNat n))
theorem asN_some {v : AV} {k : Nat → Option R} {r : R} (h : Tr (asN v k) r) : ∃ n, NumV v n ∧ Tr (k n) r := by
  replace h := asI2_some h
  rcases h with ⟨ik, n, rfl, h⟩ | ⟨ik, n, rfl, h⟩
  · cases n with
    | ofNat n => exact ⟨n, ⟨ik, .inl rfl⟩, h⟩
    | negSucc n => cases h
  · replace h := pickK_some h
    obtain ⟨j, rfl, h⟩ := h
    exact ⟨j, ⟨ik, .inr rfl⟩, h⟩
theorem need_some {p : Prop} {x : Option R} {r : R} (h : Tr (need p x) r) : p ∧ Tr x r := ⟨h.1, by have := h.2; rwa [ofO_tr (r := r)] at this⟩
/-- It stands for that number. -/
def ZV (v : AV) (n : Int) : Prop := ∃ ik, v = .I ik n ∨ v = .X (.si ik n)
theorem asZ_some {v : AV} {k : Int → Option R} {r : R} (h : Tr (asZ v k) r) : ∃ n, ZV v n ∧ Tr (k n) r := by
  replace h := asI2_some h
  rcases h with ⟨ik, n, rfl, h⟩ | ⟨ik, n, rfl, h⟩
  · exact ⟨n, ⟨ik, .inl rfl⟩, h⟩
  · exact ⟨n, ⟨ik, .inr rfl⟩, h⟩
theorem asA_some {v : AV} {f : Pth → Nat → Option R} {g : Pth → Int → Option R} {r : R} (h : Tr (asA v f g) r) : (∃ b o, v = .P b o ∧ Tr (f b o) r) ∨ ∃ b o, v = .X (.sp b o) ∧ Tr (g b o) r := by
  cases v with
  | P b o => exact .inl ⟨b, o, rfl, h⟩
  | X x =>
    cases x with
    | sp b o => exact .inr ⟨b, o, rfl, h⟩
    | _ => cases h
  | _ => cases h
theorem wrapK_eq (k : IntKind) (z : Int) (κ : AV → Option R) : wrapK k z κ = κ (.I k (k.wrap z)) := by
  cases z with
  | negSucc m => simp [wrapK]
  | ofNat m =>
    simp only [wrapK, natK_eq, ifK_eq, intK_eq]
    split
    · rename_i h
      have : m < lim k := Nat.le_of_ble_eq_true h
      congr 2
      cases k <;> simp [IntKind.wrap, IntKind.bits, IntKind.signed, lim] at * <;> omega
    · rfl
@[simp] theorem out_eq (k : IntKind) (z : Int) (κ : AV → Option R) : out k z κ = κ (.I k z) := by simp [out]
@[simp] theorem outB_eq (b : Bool) (κ : AV → Option R) : outB b κ = κ (.B b) := by cases b <;> rfl
theorem num_succ (p : Pth) : num (Pth.succ p) = num p + 1 := by
  induction p with
  | z => rfl
  | a p ih => show Nat.add (Nat.mul 2 (num p)) 2 = Nat.add (Nat.mul 2 (num p)) 1 + 1; rfl
  | b p ih => show Nat.add (Nat.mul 2 (num (Pth.succ p))) 1 = Nat.add (Nat.mul 2 (num p)) 2 + 1; rw [ih]; show 2 * (num p + 1) + 1 = 2 * num p + 2 + 1; omega
theorem num_inj : ∀ {p q : Pth}, num p = num q → p = q
  | .z, .z, _ => rfl
  | .z, .a q, h => by have : 0 = 2 * num q + 1 := h; omega
  | .z, .b q, h => by have : 0 = 2 * num q + 2 := h; omega
  | .a p, .z, h => by have : 2 * num p + 1 = 0 := h; omega
  | .b p, .z, h => by have : 2 * num p + 2 = 0 := h; omega
  | .a p, .a q, h => by have : 2 * num p + 1 = 2 * num q + 1 := h; rw [num_inj (p := p) (q := q) (by omega)]
  | .b p, .b q, h => by have : 2 * num p + 2 = 2 * num q + 2 := h; rw [num_inj (p := p) (q := q) (by omega)]
  | .a p, .b q, h => by have : 2 * num p + 1 = 2 * num q + 2 := h; omega
  | .b p, .a q, h => by have : 2 * num p + 2 = 2 * num q + 1 := h; omega
theorem slP_some {n : Nat} {k : Pth → Option α} {r : α} (h : slP n k = some r) : ∃ p, num p = n ∧ k p = some r := by
  unfold slP at h
  rw [ifK_eq] at h
  split at h
  · rename_i hb; exact ⟨_, Nat.eq_of_beq_eq_true hb, h⟩
  · cases h
/-! Slots. -/
def oput {β : Type} (n : Nat) (x : β) (t : O8 β) : O8 β := match n with
  | 0 => { t with a := x }
  | 1 => { t with b := x }
  | 2 => { t with c := x }
  | 3 => { t with d := x }
  | 4 => { t with e := x }
  | 5 => { t with f := x }
  | 6 => { t with g := x }
  | _ => { t with h := x }
theorem selG_eq {β γ : Type} (n : Nat) (k : (O8 β → β) → γ) : selG n k = k (gsel n) := by unfold selG gsel; split <;> rfl
theorem selU_eq {β γ : Type} (n : Nat) (k : (Up β R → Up (O8 β) R) → γ) : selU n k = k (usel n) := by unfold selU usel; split <;> rfl
theorem usel_eq {β : Type} (n : Nat) (F : Up β R) (t : O8 β) (k : O8 β → Option R) : usel n F t k = F (gsel n t) fun b => k (oput n b t) := by
  cases t
  match n with
  | 0 => rfl
  | 1 => rfl
  | 2 => rfl
  | 3 => rfl
  | 4 => rfl
  | 5 => rfl
  | 6 => rfl
  | _ + 7 => rfl
theorem gsel_oput {β : Type} {m n : Nat} (hm : m < 8) (hn : n < 8) (x : β) (t : O8 β) : gsel m (oput n x t) = if m = n then x else gsel m t := by
  have h8 : ∀ k, k < 8 → k = 0 ∨ k = 1 ∨ k = 2 ∨ k = 3 ∨ k = 4 ∨ k = 5 ∨ k = 6 ∨ k = 7 := fun k hk => by omega
  rcases h8 m hm with rfl | rfl | rfl | rfl | rfl | rfl | rfl | rfl <;> rcases h8 n hn with rfl | rfl | rfl | rfl | rfl | rfl | rfl | rfl <;> rfl
def getE (e : EV) (n : Nat) : Option AV := if n < 512 then gsel (n % 8) (gsel (n / 8 % 8) (gsel (n / 64) e)) else none
def setE (v : Option AV) (n : Nat) (e : EV) : EV := if n < 512 then oput (n / 64) (oput (n / 8 % 8) (oput (n % 8) v (gsel (n / 8 % 8) (gsel (n / 64) e))) (gsel (n / 64) e)) e else e
theorem getE_setE (v : Option AV) (p : Nat) (e : EV) (q : Nat) : getE (setE v p e) q = if q = p ∧ p < 512 then v else getE e q := by
  unfold getE setE
  by_cases hp : p < 512
  · by_cases hq : q < 512
    · rw [if_pos hq, if_pos hp, gsel_oput (by omega) (by omega)]
      by_cases h1 : q / 64 = p / 64
      · rw [if_pos h1, gsel_oput (by omega) (by omega)]
        by_cases h2 : q / 8 % 8 = p / 8 % 8
        · rw [if_pos h2, gsel_oput (by omega) (by omega)]
          by_cases h3 : q % 8 = p % 8
          · rw [if_pos h3, if_pos ⟨by omega, hp⟩]
          · rw [if_neg h3, if_neg (by omega), h1, h2]
            simp [hq]
        · rw [if_neg h2, if_neg (fun h => h2 (by rw [h.1])), h1]
          simp [hq]
      · rw [if_neg h1, if_neg (fun h => h1 (by rw [h.1]))]
        simp [hq]
    · rw [if_neg hq, if_neg (by omega), if_neg hq]
  · rw [if_neg hp]
    by_cases hq : q < 512
    · rw [if_pos hq, if_neg (fun h => hp h.2)]
    · rw [if_neg hq, if_neg (fun h => hp h.2)]
theorem getE_other {v : Option AV} {p : Nat} {e : EV} {q : Nat} (h : q ≠ p) : getE (setE v p e) q = getE e q := by rw [getE_setE, if_neg (fun hh => h hh.1)]
theorem getE_del {p : Nat} {e : EV} : getE (setE none p e) p = none := by
  rw [getE_setE]
  split
  · rfl
  · rename_i h
    unfold getE
    rw [if_neg (fun hh => h ⟨rfl, hh⟩)]
theorem getE_e3 (n : Nat) : getE e3 n = none := by
  unfold getE
  split
  · have h1 : ∀ m, gsel m e3 = e2 := fun m => by unfold gsel; split <;> rfl
    have h2 : ∀ m, gsel m e2 = e1 := fun m => by unfold gsel; split <;> rfl
    have h3 : ∀ m, gsel m e1 = none := fun m => by unfold gsel; split <;> rfl
    rw [h1, h2, h3]
  · rfl
def SlotOk (s : Slot R) : Prop := ∀ v e k, s.S v e k = k (setE v s.p e)
theorem slS_some {n : Nat} {k : Slot R → Option α} {r : α} (h : slS n k = some r) : ∃ s : Slot R, s.p = n ∧ SlotOk s ∧ k s = some r := by
  unfold slS at h
  rw [ifK_eq] at h
  split at h
  · rename_i hb
    simp only [selU_eq] at h
    refine ⟨_, rfl, fun v e k => ?_, h⟩
    simp only [usel_eq]
    have hlt : n < 512 := Nat.le_of_ble_eq_true hb
    unfold setE
    rw [if_pos hlt]
    rfl
  · cases h
theorem slG_some {n : Nat} {k : (EV → Option AV) → Option α} {r : α} (h : slG n k = some r) : ∃ G, (∀ e, G e = getE e n) ∧ k G = some r := by
  unfold slG at h
  rw [ifK_eq] at h
  split at h
  · rename_i hb
    simp only [selG_eq] at h
    refine ⟨_, fun e => ?_, h⟩
    have hlt : n < 512 := Nat.le_of_ble_eq_true hb
    unfold getE
    rw [if_pos hlt]
    rfl
  · cases h
theorem oT_eq {G : EV → Option AV} {n : Nat} (hG : ∀ e, G e = getE e n) (e : EV) (k : AV → Option R) : oT G e k = (getE e n).bind k := by
  unfold oT
  rw [hG]
  cases getE e n <;> rfl
def DstOk (p : Option (Slot R)) : Prop := ∀ s, p = some s → SlotOk s
theorem dstK_some {d : Option Tmp} {k : Option (Slot R) → Option α} {r : α} (h : dstK d k = some r) : ∃ p, p.map Slot.p = d ∧ DstOk p ∧ k p = some r := by
  cases d with
  | none => exact ⟨none, rfl, fun _ h => (by cases h), h⟩
  | some t =>
    obtain ⟨s, h1, h2, h3⟩ := slS_some (show slS t (fun p => k (some p)) = some r from h)
    exact ⟨some s, by simp [h1], fun _ h => by cases h; exact h2, h3⟩
end

/-! ### Values -/
/-- Where a block lies; how many elements it has room for; what loop it is. -/
structure Lo where
  g : Nat
  c : Nat
  lp : Loop
  ids : List Nat
  z : Int
abbrev Rn := Pth → Option Lo
def Le (ρ ρ' : Rn) : Prop := ∀ b lo, ρ b = some lo → ρ' b = some lo
/-- How a number lies to another one. -/
def cmpZ : Nat → Int → Int → Bool
  | 0, z, c => decide (z < c)
  | 1, z, c => decide (z ≤ c)
  | 2, z, c => decide (c < z)
  | 3, z, c => decide (c ≤ z)
  | 4, z, c => decide (z = c)
  | _, z, c => !decide (z = c)
def CpR (c : Nat) : Cp → Nat → Prop
  | .kn n, m => m = n
  | .un d, m => m + d = c
mutual
inductive VR (ρ : Rn) : AV → Value → Prop where
  | I {k : IntKind} {n : Int} : VR ρ (.I k n) (.int k n)
  | B {b : Bool} : VR ρ (.B b) (.bool b)
  | P {b : Pth} {o : Nat} {lo : Lo} : ρ b = some lo → VR ρ (.P b o) (.pointer (some ⟨lo.g, o, none⟩))
  | S {b : Pth} {o n m : Nat} {cp : Cp} {lo : Lo} : ρ b = some lo → CpR lo.c cp m → n ≤ m → VR ρ (.S b o n cp) (.slice (some ⟨lo.g, o, none⟩) n m)
  | undef : VR ρ (.X .undef) undef
  | flt {k : FloatKind} {b : Nat} : VR ρ (.X (.flt k b)) (.float k b)
  | str {s : List UInt8} : VR ρ (.X (.str s)) (.string ⟨s.toArray⟩)
  | nilp : VR ρ (.X .nilp) (.pointer none)
  | nils : VR ρ (.X .nils) (.slice none 0 0)
  | slz {g o m : Nat} : VR ρ (.X .slz) (.slice (some ⟨g, o, none⟩) 0 m)
  | nilf : VR ρ (.X .nilf) .nilFunc
  | nilm : VR ρ (.X .nilm) (.map none)
  | nili : VR ρ (.X .nili) .nilIface
  | fn {f : Nat} {first cap : List AV} {fs cs : List Value} : VRs ρ first fs → VRs ρ cap cs → VR ρ (.X (.fn f first cap)) (.func (.func f) fs.toArray cs.toArray)
  | yld {l : Pth} {lo : Lo} : ρ l = some lo → VR ρ (.X (.yld l)) (.func (.yield lo.g) #[] #[])
  | ifc {t : Nat} {v : AV} {u : Value} : VR ρ v u → VR ρ (.X (.ifc t v)) (.iface t u)
  | agg {l : List AV} {us : List Value} : VRs ρ l us → VR ρ (.X (.agg l)) (.agg us.toArray)
  | tup {l : List AV} {us : List Value} : VRs ρ l us → VR ρ (.X (.tup l)) (.tuple us.toArray)
  | sym {p : Pth} {fs : List (Nat × Int × Bool)} {lo : Lo} : ρ p = some lo → (∀ f ∈ fs, cmpZ f.1 lo.z f.2.1 = f.2.2) → VR ρ (.X (.sym p fs)) (.int .i64 lo.z)
  | si {k : IntKind} {n : Int} : VR ρ (.X (.si k n)) (.int k n)
  | bs {kn : Bool} {l : List Int} : VR ρ (.X (.bs kn l)) (.string ⟨(l.map fun n => UInt8.ofNat n.toNat).toArray⟩)
  | ss {b : Pth} {o n : Int} {cq : Option Nat} {lo : Lo} {og m : Nat} : ρ b = some lo → 0 ≤ n → (0 < n → 0 ≤ o ∧ og = o.toNat) → (∀ q, cq = some q → m + q = lo.c) → n.toNat ≤ m → VR ρ (.X (.ss b o n cq)) (.slice (some ⟨lo.g, og, none⟩) n.toNat m)
  | sp {b : Pth} {o : Int} {lo : Lo} : ρ b = some lo → 0 ≤ o → VR ρ (.X (.sp b o)) (.pointer (some ⟨lo.g, o.toNat, none⟩))
inductive VRs (ρ : Rn) : List AV → List Value → Prop where
  | nil : VRs ρ [] []
  | cons {v : AV} {l : List AV} {u : Value} {us : List Value} : VR ρ v u → VRs ρ l us → VRs ρ (v :: l) (u :: us)
end
theorem NumV.val {ρ : Rn} {v : AV} {n : Nat} {u : Value} (h : NumV v n) (hv : VR ρ v u) : ∃ ik, u = .int ik (.ofNat n) := by
  obtain ⟨ik, rfl | rfl⟩ := h <;> cases hv <;> exact ⟨ik, rfl⟩
theorem ZV.val {ρ : Rn} {v : AV} {n : Int} {u : Value} (h : ZV v n) (hv : VR ρ v u) : ∃ ik, u = .int ik n := by
  obtain ⟨ik, rfl | rfl⟩ := h <;> cases hv <;> exact ⟨ik, rfl⟩
theorem Le.refl (ρ : Rn) : Le ρ ρ := fun _ _ h => h
theorem Le.trans {ρ ρ' ρ'' : Rn} (x : Le ρ ρ') (y : Le ρ' ρ'') : Le ρ ρ'' := fun b lo h => y b lo (x b lo h)
mutual
theorem VR.mono {ρ ρ' : Rn} (hl : Le ρ ρ') : ∀ {v : AV} {u : Value}, VR ρ v u → VR ρ' v u
  | _, _, .I => .I
  | _, _, .B => .B
  | _, _, .P h => .P (hl _ _ h)
  | _, _, .S h h1 h2 => .S (hl _ _ h) h1 h2
  | _, _, .undef => .undef
  | _, _, .flt => .flt
  | _, _, .str => .str
  | _, _, .nilp => .nilp
  | _, _, .nils => .nils
  | _, _, .slz => .slz
  | _, _, .nilf => .nilf
  | _, _, .nilm => .nilm
  | _, _, .nili => .nili
  | _, _, .fn h1 h2 => .fn (VRs.mono hl h1) (VRs.mono hl h2)
  | _, _, .yld h => .yld (hl _ _ h)
  | _, _, .ifc h => .ifc (VR.mono hl h)
  | _, _, .agg h => .agg (VRs.mono hl h)
  | _, _, .tup h => .tup (VRs.mono hl h)
  | _, _, .sym h h1 => .sym (hl _ _ h) h1
  | _, _, .si => .si
  | _, _, .bs => .bs
  | _, _, .ss h h1 h2 h3 h4 => .ss (hl _ _ h) h1 h2 h3 h4
  | _, _, .sp h h1 => .sp (hl _ _ h) h1
theorem VRs.mono {ρ ρ' : Rn} (hl : Le ρ ρ') : ∀ {l : List AV} {us : List Value}, VRs ρ l us → VRs ρ' l us
  | _, _, .nil => .nil
  | _, _, .cons h1 h2 => .cons (VR.mono hl h1) (VRs.mono hl h2)
end
section
variable {ρ : Rn}
theorem VRs.len {l : List AV} {us : List Value} (h : VRs ρ l us) : us.length = l.length := by
  induction l generalizing us with
  | nil => cases h; rfl
  | cons v l ih => cases h with
    | cons h1 h2 => simp [ih h2]
theorem VRs.get {l : List AV} {us : List Value} (h : VRs ρ l us) : ∀ {n : Nat} {v : AV}, l[n]? = some v → ∃ u, us[n]? = some u ∧ VR ρ v u := by
  induction l generalizing us with
  | nil => intro n v hv; simp at hv
  | cons w l ih =>
    intro n v hv
    cases h with
    | cons h1 h2 => cases n with
      | zero => simp at hv; subst hv; exact ⟨_, rfl, h1⟩
      | succ n => simp at hv; obtain ⟨u, h3, h4⟩ := ih h2 hv; exact ⟨u, by simpa using h3, h4⟩
theorem VRs.append {l m : List AV} {us vs : List Value} (h : VRs ρ l us) (h' : VRs ρ m vs) : VRs ρ (l ++ m) (us ++ vs) := by
  induction l generalizing us with
  | nil => cases h; exact h'
  | cons w l ih => cases h with
    | cons h1 h2 => exact .cons h1 (ih h2)
theorem VRs.take {l : List AV} {us : List Value} (h : VRs ρ l us) : ∀ (n : Nat), VRs ρ (l.take n) (us.take n) := by
  induction l generalizing us with
  | nil => intro n; cases h; simp; exact .nil
  | cons w l ih => intro n; cases h with
    | cons h1 h2 => cases n with
      | zero => exact .nil
      | succ n => exact .cons h1 (ih h2 n)
theorem VRs.drop {l : List AV} {us : List Value} (h : VRs ρ l us) : ∀ (n : Nat), VRs ρ (l.drop n) (us.drop n) := by
  induction l generalizing us with
  | nil => intro n; cases h; simp; exact .nil
  | cons w l ih => intro n; cases h with
    | cons h1 h2 => cases n with
      | zero => exact .cons h1 h2
      | succ n => exact ih h2 n
theorem VRs.rep {z : List AV} {us : List Value} (h : VRs ρ z us) (n : Nat) : VRs ρ (List.replicate n z).flatten (List.replicate n us).flatten := by
  induction n with
  | zero => exact .nil
  | succ n ih => exact VRs.append h ih
/-- The cells of a value. -/
theorem VR.cells {v : AV} {u : Value} (h : VR ρ v u) : ∃ us, u.cells = us.toArray ∧ VRs ρ (cellsOf v) us := by
  cases h <;> first
    | exact ⟨_, rfl, .cons (by constructor <;> assumption) .nil⟩
    | exact ⟨_, rfl, ‹_›⟩
    | exact ⟨_, rfl, .cons (.fn ‹_› ‹_›) .nil⟩
    | exact ⟨_, rfl, .cons (.ifc ‹_›) .nil⟩
    | exact ⟨_, rfl, .cons (.tup ‹_›) .nil⟩
    | exact ⟨_, rfl, .cons (.sym ‹_› ‹_›) .nil⟩
    | exact ⟨_, rfl, .cons (.ss ‹_› ‹_› ‹_› ‹_› ‹_›) .nil⟩
    | exact ⟨_, rfl, .cons (.sp ‹_› ‹_›) .nil⟩
end
mutual
theorem ofV_VR (ρ : Rn) : ∀ {u : Value} {v : AV}, ofV u = some v → VR ρ v u
  | .bool _, _, h => by cases h; exact .B
  | .int _ _, _, h => by cases h; exact .I
  | .float _ _, _, h => by cases h; exact .flt
  | .string s, _, h => by cases h; exact .str
  | .pointer none, _, h => by cases h; exact .nilp
  | .pointer (some _), _, h => by simp [ofV] at h
  | .slice a n m, _, h => by
    unfold ofV at h
    split at h <;> first | (cases h; done) | skip
    all_goals (rename_i heq; first | (cases heq; cases h; exact .nils) | cases heq | cases h)
  | .map none, _, h => by cases h; exact .nilm
  | .map (some _), _, h => by simp [ofV] at h
  | .nilFunc, _, h => by cases h; exact .nilf
  | .nilIface, _, h => by cases h; exact .nili
  | .agg cs, _, h => by
    unfold ofV at h
    split at h
    · rename_i l hl; cases h
      exact .agg (ofVs_VRs ρ hl)
    · cases h
  | .iface t v, _, h => by
    unfold ofV at h
    split at h
    · rename_i l hl; cases h; exact .ifc (ofV_VR ρ hl)
    · cases h
  | .complex _ _ _, _, h => by simp [ofV] at h
  | .chan _, _, h => by simp [ofV] at h
  | .func _ _ _, _, h => by simp [ofV] at h
  | .tuple _, _, h => by simp [ofV] at h
theorem ofVs_VRs (ρ : Rn) : ∀ {us : List Value} {l : List AV}, ofVs us = some l → VRs ρ l us
  | [], _, h => by cases h; exact .nil
  | u :: us, _, h => by
    unfold ofVs at h
    split at h
    · cases h
    · rename_i a ha
      split at h
      · cases h
      · rename_i l hl; cases h
        exact .cons (ofV_VR ρ ha) (ofVs_VRs ρ hl)
end
end Ry
end Go.TP
/-! Rz2. -/
namespace Go.TP
open Go
namespace Ry

/-- The pending jump of a loop's record. -/
def Jr (ids : List Nat) : Nat → Code → Prop
  | 0, c => c = .ret
  | n + 1, c => ∃ id, idx id ids 0 = some n ∧ c = .exit id
def BR (ρ : Rn) (h : Heap) (lo : Lo) : AB → Prop
  | .cells T .shut _ cs => ∃ us, VRs ρ cs us ∧ h[lo.g]? = some (.cells us.toArray T (0, 0))
  | .cells T (.op sz) _ cs => ∃ us rest, VRs ρ cs us ∧ h[lo.g]? = some (.cells (us ++ rest).toArray T (0, 0)) ∧ (us ++ rest).length = lo.c * sz ∧ lo.c ≤ maxLen
  | .cells T .ro _ cs => lo.g < h.size ∧ ∃ us, VRs ρ cs us ∧ ∀ j u, us[j]? = some u → cel h lo.g (T + j) = some u
  | .loop true none => h[lo.g]? = some (.loop { lo.lp with state := .ready, pending := none })
  | .loop false none => h[lo.g]? = some (.loop { lo.lp with state := .busy, pending := none })
  | .loop false (some j) => ∃ c, Jr lo.ids j c ∧ h[lo.g]? = some (.loop { lo.lp with state := .done, pending := some c })
  | .loop true (some _) => False
theorem BR.mono {ρ ρ' : Rn} {h : Heap} {lo : Lo} (hl : Le ρ ρ') : ∀ {B : AB}, BR ρ h lo B → BR ρ' h lo B
  | .cells _ .shut _ _, ⟨us, h1, h2⟩ => ⟨us, h1.mono hl, h2⟩
  | .cells _ (.op _) _ _, ⟨us, rest, h1, h2⟩ => ⟨us, rest, h1.mono hl, h2⟩
  | .cells _ .ro _ _, ⟨h0, us, h1, h2⟩ => ⟨h0, us, h1.mono hl, h2⟩
  | .loop true none, h => h
  | .loop false none, h => h
  | .loop false (some _), h => h
  | .loop true (some _), h => h
theorem BR.same {ρ : Rn} {h h' : Heap} {lo : Lo} (hs : h'[lo.g]? = h[lo.g]?) : ∀ {B : AB}, BR ρ h lo B → BR ρ h' lo B
  | .cells _ .shut _ _, ⟨us, h1, h2⟩ => ⟨us, h1, hs.trans h2⟩
  | .cells _ (.op _) _ _, ⟨us, rest, h1, h2, h3⟩ => ⟨us, rest, h1, hs.trans h2, h3⟩
  | .cells _ .ro _ _, ⟨h0, us, h1, h2⟩ => ⟨by rw [Array.getElem?_eq_getElem h0] at hs; exact (Array.getElem?_eq_some_iff.1 hs).1, us, h1, fun j u hu => by have := h2 j u hu; unfold cel at this ⊢; rw [hs]; exact this⟩
  | .loop true none, h => hs.trans h
  | .loop false none, h => hs.trans h
  | .loop false (some _), ⟨c, h1, h2⟩ => ⟨c, h1, hs.trans h2⟩
  | .loop true (some _), h => h
theorem BR.lt {ρ : Rn} {h : Heap} {lo : Lo} : ∀ {B : AB}, BR ρ h lo B → lo.g < h.size
  | .cells _ .shut _ _, ⟨_, _, h2⟩ => (Array.getElem?_eq_some_iff.1 h2).1
  | .cells _ (.op _) _ _, ⟨_, _, _, h2, _⟩ => (Array.getElem?_eq_some_iff.1 h2).1
  | .cells _ .ro _ _, ⟨h0, _⟩ => h0
  | .loop true none, h => (Array.getElem?_eq_some_iff.1 h).1
  | .loop false none, h => (Array.getElem?_eq_some_iff.1 h).1
  | .loop false (some _), ⟨_, _, h⟩ => (Array.getElem?_eq_some_iff.1 h).1
  | .loop true (some _), h => h.elim
theorem BR.readB {ρ : Rn} {h : Heap} {lo : Lo} {T : Nat} {m : Md} {s : Nat} {cs : List AV} (hb : BR ρ h lo (.cells T m s cs)) : ∃ us, VRs ρ cs us ∧ ∀ j u, us[j]? = some u → cel h lo.g (baseN m T + j) = some u := by
  cases m with
  | shut => obtain ⟨us, h1, h2⟩ := hb; exact ⟨us, h1, fun j u hu => by simp [baseN, cel, h2, hu]⟩
  | op sz =>
    obtain ⟨us, rest, h1, h2, _⟩ := hb
    refine ⟨us, h1, fun j u hu => ?_⟩
    have hj := (List.getElem?_eq_some_iff.1 hu).1
    simp only [baseN, Nat.zero_add, cel, h2, List.getElem?_toArray]
    rw [List.getElem?_append_left hj]; exact hu
  | ro => exact hb.2
theorem BR.read {ρ : Rn} {h : Heap} {lo : Lo} {T : Nat} {m : Md} {s : Nat} {cs : List AV} (hb : BR ρ h lo (.cells T m s cs)) (h0 : baseN m T = 0) : ∃ us, VRs ρ cs us ∧ ∀ j u, us[j]? = some u → cel h lo.g j = some u := by
  have := hb.readB
  rw [h0] at this
  simpa using this
theorem relO_eq (m : Md) (T : Nat) (o : Int) : relO m T o = o - (baseN m T : Int) := by cases m <;> simp [relO, baseN]
/-- A block that is read alone. -/
def RoB (H : AH) (b : Pth) : Prop := ∃ T s cs, getT H.blocks b = some (.cells T .ro s cs)
structure HR (P : Program) (ρ : Rn) (H : AH) (h : Heap) : Prop where
  blk : ∀ b B, getT H.blocks b = some B → ∃ lo, ρ b = some lo ∧ BR ρ h lo B
  inj : ∀ b b' lo lo', (getT H.blocks b).isSome → (getT H.blocks b').isSome → ρ b = some lo → ρ b' = some lo' → lo.g = lo'.g → b = b' ∨ (RoB H b ∧ RoB H b')
  new : ∀ b, num H.next ≤ num b → ρ b = none ∧ getT H.blocks b = none
  glob : ∀ p, num p ≤ P.globals.size → ∃ lo, ρ p = some lo ∧ lo.g = num p
def Kept (H H' : AH) (b : Pth) : Prop := ∃ T m s cs T' m' cs', getT H.blocks b = some (.cells T m s cs) ∧ getT H'.blocks b = some (.cells T' m' s cs')
structure Nx (ρ : Rn) (H : AH) (h : Heap) (ρ' : Rn) (H' : AH) (h' : Heap) : Prop where
  le : Le ρ ρ'
  size : h.size ≤ h'.size
  fr : ∀ g, g < h.size → (∀ b lo, (getT H.blocks b).isSome → ρ b = some lo → lo.g = g → Kept H H' b ∨ RoB H b) → h'[g]? = h[g]?
  mono : ∀ b lo T m s cs B', ρ b = some lo → getT H.blocks b = some (.cells T m s cs) → getT H'.blocks b = some B' → ∃ T' m' s' cs', B' = .cells T' m' s' cs' ∧ s ≤ s' ∧ (m = .ro ↔ m' = .ro)
  nores : ∀ b lo, ρ b = some lo → (getT H'.blocks b).isSome → (getT H.blocks b).isSome
  newb : ∀ b lo, ρ b = none → ρ' b = some lo → (getT H'.blocks b).isSome → h.size ≤ lo.g ∨ ∃ b0 lo0, (getT H.blocks b0).isSome ∧ ρ b0 = some lo0 ∧ lo0.g = lo.g ∧ ¬ RoB H b0
theorem Nx.refl (ρ : Rn) (H : AH) (h : Heap) : Nx ρ H h ρ H h :=
  ⟨Le.refl _, Nat.le_refl _, fun _ _ _ => rfl, fun _ _ T m s cs B' _ h1 h2 => by rw [h1] at h2; cases h2; exact ⟨T, m, s, cs, rfl, Nat.le_refl _, Iff.rfl⟩, fun _ _ _ h => h, fun _ _ h1 h2 => by rw [h1] at h2; cases h2⟩
section
variable {P : Program} {ρ0 ρ1 ρ2 : Rn} {H0 H1 H2 : AH} {h0 h1 h2 : Heap}
theorem Nx.trans (x : Nx ρ0 H0 h0 ρ1 H1 h1) (y : Nx ρ1 H1 h1 ρ2 H2 h2) (r1 : HR P ρ1 H1 h1) : Nx ρ0 H0 h0 ρ2 H2 h2 := by
  have mid : ∀ b lo, ρ0 b = some lo → Kept H0 H2 b → Kept H0 H1 b ∧ Kept H1 H2 b := by
    rintro b lo hb ⟨T, m, s, cs, T', m', cs', k1, k2⟩
    have hs := y.nores b lo (x.le _ _ hb) (by rw [k2]; rfl)
    obtain ⟨B1, hB1⟩ := Option.isSome_iff_exists.1 hs
    obtain ⟨T1, m1, s1, cs1, rfl, hle, _⟩ := x.mono b lo T m s cs B1 hb k1 hB1
    obtain ⟨T2, m2, s2, cs2, h3, hle2, _⟩ := y.mono b lo T1 m1 s1 cs1 _ (x.le _ _ hb) hB1 k2
    cases h3
    have : s1 = s := by omega
    subst this
    exact ⟨⟨_, _, _, _, _, _, _, k1, hB1⟩, ⟨_, _, _, _, _, _, _, hB1, k2⟩⟩
  refine ⟨x.le.trans y.le, Nat.le_trans x.size y.size, fun g hg hk => ?_, fun b lo T m s cs B' hb h1 h2 => ?_, fun b lo hb h2 => x.nores b lo hb (y.nores b lo (x.le _ _ hb) h2), fun b lo hb hb2 h2 => ?_⟩
  · rw [y.fr g (Nat.lt_of_lt_of_le hg x.size) ?_, x.fr g hg fun b lo hs hb hgb => (hk b lo hs hb hgb).imp (fun hk => (mid b lo hb hk).1) id]
    intro b lo hs hb hgb
    cases hb0 : ρ0 b with
    | some lo0 =>
      have he : lo0 = lo := by have := x.le _ _ hb0; rw [hb] at this; cases this; rfl
      subst he
      rcases hk b lo0 (x.nores b lo0 hb0 hs) hb0 hgb with hk | ⟨T, s, cs, hro⟩
      · exact .inl (mid b lo0 hb0 hk).2
      · obtain ⟨B1, hB1⟩ := Option.isSome_iff_exists.1 hs
        obtain ⟨T1, m1, s1, cs1, rfl, _, hm⟩ := x.mono b lo0 T _ s cs B1 hb0 hro hB1
        have := hm.1 rfl
        subst this
        exact .inr ⟨_, _, _, hB1⟩
    | none =>
      rcases x.newb b lo hb0 hb hs with hh | ⟨b0, lo0, k1, k2, k3, k4⟩
      · omega
      · rcases hk b0 lo0 k1 k2 (k3.trans hgb) with hk | hk
        · obtain ⟨T, m, s, cs, T', m', cs', k5, hk0⟩ := (mid b0 lo0 k2 hk).1
          rcases r1.inj b b0 lo lo0 hs (by rw [hk0]; rfl) hb (x.le _ _ k2) k3.symm with he | ⟨_, T1, s1, cs1, hro⟩
          · rw [he, k2] at hb0
            cases hb0
          · rw [hk0] at hro
            cases hro
            obtain ⟨_, _, _, _, h9, _, hm⟩ := x.mono b0 lo0 T m s cs _ k2 k5 hk0
            cases h9
            have := hm.2 rfl
            subst this
            exact absurd ⟨_, _, _, k5⟩ k4
        · exact absurd hk k4
  · obtain ⟨B1, hb1⟩ := Option.isSome_iff_exists.1 (y.nores b lo (x.le _ _ hb) (by rw [h2]; rfl))
    obtain ⟨T1, m1, s1, cs1, rfl, hle, hm1⟩ := x.mono b lo T m s cs B1 hb h1 hb1
    obtain ⟨T2, m2, s2, cs2, rfl, hle2, hm2⟩ := y.mono b lo T1 m1 s1 cs1 _ (x.le _ _ hb) hb1 h2
    exact ⟨_, _, _, _, rfl, Nat.le_trans hle hle2, hm1.trans hm2⟩
  · cases hb1 : ρ1 b with
    | some lo1 =>
      have he : lo1 = lo := by have := y.le _ _ hb1; rw [hb2] at this; cases this; rfl
      subst he
      exact x.newb b lo1 hb hb1 (y.nores b lo1 hb1 h2)
    | none =>
      rcases y.newb b lo hb1 hb2 h2 with hh | ⟨b1, lo1, k1, k2, k3, k4⟩
      · exact .inl (Nat.le_trans x.size hh)
      · cases hb10 : ρ0 b1 with
        | some lo10 =>
          have he : lo10 = lo1 := by have := x.le _ _ hb10; rw [k2] at this; cases this; rfl
          subst he
          refine .inr ⟨b1, lo10, x.nores b1 lo10 hb10 k1, hb10, k3, fun ⟨T, s, cs, hro⟩ => k4 ?_⟩
          obtain ⟨B1, hB1⟩ := Option.isSome_iff_exists.1 k1
          obtain ⟨T1, m1, s1, cs1, rfl, _, hm⟩ := x.mono b1 lo10 T _ s cs B1 hb10 hro hB1
          have := hm.1 rfl
          subst this
          exact ⟨_, _, _, hB1⟩
        | none =>
          rcases x.newb b1 lo1 hb10 k2 k1 with hh | ⟨b0, lo0, j1, j2, j3, j4⟩
          · exact .inl (by omega)
          · exact .inr ⟨b0, lo0, j1, j2, j3.trans k3, j4⟩
/-- A block that nobody knows stays as it is, and nobody comes to know it. -/
theorem Nx.out {ρ ρ' : Rn} {H H' : AH} {h h' : Heap} (hx : Nx ρ H h ρ' H' h') {g : Nat} (hlt : g < h.size) (hf : ∀ b lo, (getT H.blocks b).isSome → ρ b = some lo → lo.g ≠ g) : h'[g]? = h[g]? ∧ ∀ b lo, (getT H'.blocks b).isSome → ρ' b = some lo → lo.g ≠ g := by
  refine ⟨hx.fr g hlt fun b lo hs hb' hg => absurd hg (hf b lo hs hb'), fun b lo hs hb' hg => ?_⟩
  cases hρ : ρ b with
  | some lo0 =>
    have he : lo0 = lo := by have := hx.le _ _ hρ; rw [hb'] at this; cases this; rfl
    subst he
    exact hf b lo0 (hx.nores b lo0 hρ hs) hρ hg
  | none =>
    rcases hx.newb b lo hρ hb' hs with h1 | ⟨b0, lo0, k1, k2, k3, _⟩
    · omega
    · exact hf b0 lo0 k1 k2 (k3.trans hg)
theorem Nx.away {ρ ρ' : Rn} {H H' : AH} {h h' h'' : Heap} (hx : Nx ρ H h ρ' H' h') (hsz : h'.size ≤ h''.size) (hs : ∀ g, g < h.size → h''[g]? = h'[g]?) : Nx ρ H h ρ' H' h'' :=
  ⟨hx.le, Nat.le_trans hx.size hsz, fun g hg hk => (hs g hg).trans (hx.fr g hg hk), hx.mono, hx.nores, hx.newb⟩
theorem HR.away {ρ : Rn} {H : AH} {h h' : Heap} (hh : HR P ρ H h) (hs : ∀ b lo, (getT H.blocks b).isSome → ρ b = some lo → h'[lo.g]? = h[lo.g]?) : HR P ρ H h' :=
  ⟨fun b B hb => let ⟨lo, h1, h2⟩ := hh.blk b B hb; ⟨lo, h1, h2.same (hs b lo (by rw [hb]; rfl) h1)⟩, hh.inj, hh.new, hh.glob⟩
/-- Blocks that a function lays for the calls that its rounds defer. -/
structure Mk (hb : Heap) (ρ : Rn) (H : AH) (h : Heap) (Ds : List Nat) : Prop where
  nd : Ds.Nodup
  at_ : ∀ D ∈ Ds, h[D]? = some (.deferred (some [])) ∧ hb.size ≤ D
  free : ∀ D ∈ Ds, ∀ b lo, (getT H.blocks b).isSome → ρ b = some lo → lo.g ≠ D
theorem Mk.nil {hb : Heap} {ρ : Rn} {H : AH} {h : Heap} : Mk hb ρ H h [] := ⟨List.nodup_nil, fun _ hD => (by cases hD), fun _ hD => (by cases hD)⟩
theorem Mk.nx {hb : Heap} {ρ ρ' : Rn} {H H' : AH} {h h' : Heap} {Ds : List Nat} (hm : Mk hb ρ H h Ds) (hx : Nx ρ H h ρ' H' h') : Mk hb ρ' H' h' Ds :=
  ⟨hm.nd, fun D hD => ⟨(hx.out (Array.getElem?_eq_some_iff.1 (hm.at_ D hD).1).1 (hm.free D hD)).1.trans (hm.at_ D hD).1, (hm.at_ D hD).2⟩, fun D hD => (hx.out (Array.getElem?_eq_some_iff.1 (hm.at_ D hD).1).1 (hm.free D hD)).2⟩
def mark (D : Nat) : Deferred := { target := .collected D, args := #[] }
/-! Environments, operands. -/
def ER (ρ : Rn) (e : EV) (E : Env) : Prop := ∀ p v, getE e p = some v → ∃ u, VR ρ v u ∧ TP.look E p = some u
theorem ER.mono {ρ ρ' : Rn} {e : EV} {E : Env} (h : ER ρ e E) (hl : Le ρ ρ') : ER ρ' e E := fun p v hp => let ⟨u, h1, h2⟩ := h p v hp; ⟨u, h1.mono hl, h2⟩
theorem ER.put {ρ : Rn} {e : EV} {E : Env} (h : ER ρ e E) (p : Nat) {v : AV} {u : Value} (hv : VR ρ v u) : ER ρ (setE (some v) p e) ((p, u) :: E) := by
  intro q w hq
  rw [look_cons]
  by_cases hqp : q = p
  · subst hqp
    rw [getE_setE] at hq
    split at hq
    · cases hq; exact ⟨u, hv, by simp⟩
    · rename_i hn
      unfold getE at hq
      rw [if_neg (fun hh => hn ⟨rfl, hh⟩)] at hq
      cases hq
  · rw [getE_other hqp] at hq
    rw [if_neg (fun h => hqp h.symm)]
    exact h q w hq
theorem ER.del {ρ : Rn} {e : EV} {E : Env} (h : ER ρ e E) (p : Nat) : ER ρ (setE none p e) E := by
  intro q w hq
  by_cases hqp : q = p
  · subst hqp; rw [getE_del] at hq; cases hq
  · rw [getE_other hqp] at hq
    exact h q w hq
/-- A slot that nothing is known of may hold anything. -/
theorem ER.put' {ρ : Rn} {e : EV} {E : Env} (h : ER ρ e E) (p : Nat) (u : Value) (hp : getE e p = none) : ER ρ e ((p, u) :: E) := by
  intro q w hq
  rw [look_cons, if_neg (fun hh => by rw [← hh] at hq; rw [hp] at hq; cases hq)]
  exact h q w hq
def vOp (e : EV) : Operand → Option AV
  | .tmp t => getE e t
  | .const c => ofV c
  | .global g => some (.P (sl g) 0)
  | .func f => some (.X (.fn f [] []))
structure OpS (P : Program) (x : Operand) (xo : OD R) : Prop where
  eq : ∀ e k, xo e k = (vOp e x).bind k
  ok : ∀ ρ H h e E v, HR P ρ H h → ER ρ e E → vOp e x = some v → ∃ u, VR ρ v u ∧ ev E x = some u
theorem opnd_ok {x : Operand} {xo : OD R} (h : opnd P x = some xo) : OpS P x xo := by
  cases x with
  | tmp t =>
    simp only [opnd] at h
    obtain ⟨G, hG, h⟩ := slG_some h
    cases h
    refine ⟨fun e k => oT_eq hG e k, fun ρ H h e E v hr he hv => ?_⟩
    obtain ⟨u, h1, h2⟩ := he _ _ hv
    exact ⟨u, h1, h2⟩
  | const c =>
    simp only [opnd] at h
    split at h
    · rename_i a ha
      cases h
      refine ⟨fun e k => by simp [oC, vOp, ha], fun ρ H h e E v hr he hv => ⟨c, ofV_VR ρ hv, rfl⟩⟩
    · cases h
  | global g =>
    simp only [opnd, slP, ifK_eq] at h
    split at h
    · rename_i hg
      split at h
      · rename_i hb
        cases h
        have hn := Nat.eq_of_beq_eq_true hb
        refine ⟨fun e k => rfl, fun ρ H h e E v hr he hv => ?_⟩
        cases hv
        obtain ⟨lo, h1, h2⟩ := hr.glob (sl g) (by rw [hn]; exact Nat.le_of_lt (Nat.le_of_ble_eq_true hg))
        exact ⟨_, .P h1, by rw [h2, hn]; rfl⟩
      · cases h
    · cases h
  | func f =>
    cases h
    refine ⟨fun e k => rfl, fun ρ H h e E v hr he hv => ?_⟩
    cases hv
    exact ⟨_, .fn .nil .nil, rfl⟩
def vOps (e : EV) : List Operand → Option (List AV)
  | [] => some []
  | x :: l => (vOp e x).bind fun v => (vOps e l).bind fun vs => some (v :: vs)
structure OpsS (P : Program) (l : List Operand) (xs : EV → (List AV → Option R) → Option R) : Prop where
  eq : ∀ e k, xs e k = (vOps e l).bind k
  ok : ∀ ρ H h e E vs, HR P ρ H h → ER ρ e E → vOps e l = some vs → ∃ us, VRs ρ vs us ∧ evs E l = some us
theorem opnds_ok : ∀ {l : List Operand} {xs : EV → (List AV → Option R) → Option R}, opnds P l = some xs → OpsS P l xs
  | [], xs, h => by
    cases h
    exact ⟨fun e k => rfl, fun ρ H h e E vs _ _ hv => by cases hv; exact ⟨[], .nil, rfl⟩⟩
  | x :: l, xs, h => by
    unfold opnds at h
    split at h
    · cases h
    · rename_i xo hx
      split at h
      · cases h
      · rename_i lo hl
        cases h
        have h1 := opnd_ok hx
        have h2 := opnds_ok hl
        refine ⟨fun e k => ?_, fun ρ H h e E vs hr he hv => ?_⟩
        · simp only [consO, h1.eq, h2.eq, vOps]
          cases vOp e x <;> simp
          cases vOps e l <;> simp
        · simp only [vOps] at hv
          obtain ⟨v, hv1, hv⟩ := bind_some hv
          obtain ⟨ws, hv2, hv⟩ := bind_some hv
          cases hv
          obtain ⟨u, k1, k2⟩ := h1.ok ρ H h e E v hr he hv1
          obtain ⟨us, k3, k4⟩ := h2.ok ρ H h e E ws hr he hv2
          exact ⟨u :: us, .cons k1 k3, by simp [evs, k2, k4]⟩
end
end Ry
end Go.TP
/-! Rz3. -/
namespace Go.TP
open Go
namespace Ry
variable {P : Program}

def blkOf : Option AV → Option Pth
  | some (.P b _) => some b
  | some (.S b _ _ _) => some b
  | some (.X (.sp b _)) => some b
  | some (.X (.ss b _ _ _)) => some b
  | _ => none
/-- What the operation reads is in h' as it is in h. -/
def RdOk (ρ : Rn) (op : Op) (e : EV) (h h' : Heap) : Prop := ∀ x, reads op = some x → ∀ b, blkOf (vOp e x) = some b → ∀ lo, ρ b = some lo → h'[lo.g]? = h[lo.g]?
/-- An operation that leaves the heap as it is. -/
def DatS (P : Program) (op : Op) (d : Option (Slot R)) (i : Ins R) : Prop :=
  ∀ cx κ e H r, Tr (i cx κ e H) r → ∃ v, Tr (put d v κ e H) r ∧ ∀ ρ h E, HR P ρ H h → ER ρ e E →
    ∃ u, VR ρ v u ∧ ∀ h', RdOk ρ op e h h' → ∀ dst ty pos aft g, Ev P E h' ⟨dst, op, ty, pos, aft, g⟩ u
variable {d : Option (Slot R)} {x y z : Operand} {xo yo zo : OD R}
theorem dat_mv (hx : OpS P x xo) : DatS P (.move x) d (iMv d xo) := by
  intro cx κ e H r hr
  simp only [iMv, hx.eq] at hr
  obtain ⟨v, hv, hr⟩ := bind_tr hr
  refine ⟨v, hr, fun ρ h E hh he => ?_⟩
  obtain ⟨u, h1, h2⟩ := hx.ok ρ H h e E v hh he hv
  exact ⟨u, h1, fun h' _ dst ty pos aft g => o_mv h2⟩
theorem dat_as (hx : OpS P x xo) : DatS P (.assign x) d (iMv d xo) := by
  intro cx κ e H r hr
  simp only [iMv, hx.eq] at hr
  obtain ⟨v, hv, hr⟩ := bind_tr hr
  refine ⟨v, hr, fun ρ h E hh he => ?_⟩
  obtain ⟨u, h1, h2⟩ := hx.ok ρ H h e E v hh he hv
  exact ⟨u, h1, fun h' _ dst ty pos aft g => o_as h2⟩
theorem dat_pick (hz : OpS P z zo) (hx : OpS P x xo) (hy : OpS P y yo) : DatS P (.pick z x y) d (iPick d zo xo yo) := by
  intro cx κ e H r hr
  simp only [iPick, hz.eq] at hr
  obtain ⟨c, hc, hr⟩ := bind_tr hr
  obtain ⟨b, rfl, hr⟩ := asB_some hr
  cases b with
  | true =>
    simp only [hx.eq] at hr
    obtain ⟨v, hv, hr⟩ := bind_tr hr
    refine ⟨v, hr, fun ρ h E hh he => ?_⟩
    obtain ⟨c', k1, k2⟩ := hz.ok ρ H h e E _ hh he hc
    cases k1
    obtain ⟨u, h1, h2⟩ := hx.ok ρ H h e E v hh he hv
    exact ⟨u, h1, fun h' _ dst ty pos aft g => o_pt k2 rfl h2⟩
  | false =>
    simp only [hy.eq] at hr
    obtain ⟨v, hv, hr⟩ := bind_tr hr
    refine ⟨v, hr, fun ρ h E hh he => ?_⟩
    obtain ⟨c', k1, k2⟩ := hz.ok ρ H h e E _ hh he hc
    cases k1
    obtain ⟨u, h1, h2⟩ := hy.ok ρ H h e E v hh he hv
    exact ⟨u, h1, fun h' _ dst ty pos aft g => o_pf k2 rfl h2⟩
/-- What a two-sided operation comes to. -/
def BinS (P : Program) (op : BinOp) (t : TypeId) (y : Operand) (f : Bin R) : Prop :=
  ∀ a b k r, Tr (f a b k) r → ∃ v, Tr (k v) r ∧ ∀ ρ ua ub, VR ρ a ua → VR ρ b ub → ∃ u, VR ρ v u ∧
    ∀ (E : Env) (h : Heap) (x : Operand) (u' : TypeId) dst ty pos aft g, ev E x = some ua → ev E y = some ub → Ev P E h ⟨dst, .binOp op t x y u', ty, pos, aft, g⟩ u
theorem dat_bin {op : BinOp} {t u : TypeId} {f : Bin R} (hf : BinS P op t y f) (hx : OpS P x xo) (hy : OpS P y yo) : DatS P (.binOp op t x y u) d (iBin d f xo yo) := by
  intro cx κ e H r hr
  simp only [iBin, hx.eq, hy.eq] at hr
  obtain ⟨a, ha, hr⟩ := bind_tr hr
  obtain ⟨b, hb, hr⟩ := bind_tr hr
  obtain ⟨v, hr, hv⟩ := hf a b _ r hr
  refine ⟨v, hr, fun ρ h E hh he => ?_⟩
  obtain ⟨ua, h1, h2⟩ := hx.ok ρ H h e E a hh he ha
  obtain ⟨ub, h3, h4⟩ := hy.ok ρ H h e E b hh he hb
  obtain ⟨u, h5, h6⟩ := hv ρ ua ub h1 h3
  exact ⟨u, h5, fun h' _ dst ty pos aft g => h6 E h' x _ dst ty pos aft g h2 h4⟩
theorem kEq_eq {a b : IntKind} (h : kEq a b = true) : a = b := by cases a <;> cases b <;> first | rfl | cases h
theorem binS_two {op : BinOp} {t : TypeId} {f : IntKind → Int → Int → (AV → Option R) → Option R} {g : Bin R}
    (hf : ∀ ik m n k r, Tr (f ik m n k) r → ∃ v, Tr (k v) r ∧ ∀ ρ, ∃ u, VR ρ v u ∧ ∀ (E : Env) (h : Heap) (x : Operand) (u' : TypeId) dst ty pos aft g, ev E x = some (.int ik m) → ev E y = some (.int ik n) → Ev P E h ⟨dst, .binOp op t x y u', ty, pos, aft, g⟩ u)
    (hg : BinS P op t y g) : BinS P op t y (two f g) := by
  intro a b k r hr
  cases a with
  | I ik m => cases b with
    | I jk n =>
      simp only [two, ifK_eq] at hr
      split at hr
      · rename_i hk
        obtain rfl := kEq_eq hk
        obtain ⟨v, h1, h2⟩ := hf _ _ _ _ _ hr
        refine ⟨v, h1, fun ρ ua ub ha hb => ?_⟩
        cases ha; cases hb
        exact h2 ρ
      · cases hr
    | X y => exact hg _ _ _ _ hr
    | _ => cases hr
  | _ => exact hg _ _ _ _ hr
theorem binS_twoS {op : BinOp} {t : TypeId} {f : IntKind → Int → Int → (AV → Option R) → Option R} {g : Bin R} (hg : BinS P op t y g)
    (hf : ∀ ik m jk n k r, Tr (f ik m n k) r → ∃ v, Tr (k v) r ∧ ∀ ρ, ∃ u, VR ρ v u ∧ ∀ (E : Env) (h : Heap) (x : Operand) (u' : TypeId) dst ty pos aft g, ev E x = some (.int ik m) → ev E y = some (.int jk n) → Ev P E h ⟨dst, .binOp op t x y u', ty, pos, aft, g⟩ u) :
    BinS P op t y (twoS f g) := by
  intro a b k r hr
  cases a with
  | I ik m => cases b with
    | I jk n =>
      obtain ⟨v, h1, h2⟩ := hf _ _ jk _ _ _ hr
      refine ⟨v, h1, fun ρ ua ub ha hb => ?_⟩
      cases ha; cases hb
      exact h2 ρ
    | X y => exact hg _ _ _ _ hr
    | _ => cases hr
  | _ => exact hg _ _ _ _ hr
theorem fork_some {p : Prop} [Decidable p] {κ : AV → Option R} {r : R} (h : Tr (forkB p κ) r) : Tr (κ (.B (decide p))) r := by
  obtain ⟨h1, h2⟩ := h
  rw [ofO_tr (r := r)] at h1 h2
  by_cases hp : p
  · rw [decide_eq_true hp]; exact h1 hp
  · rw [decide_eq_false hp]; exact h2 hp
theorem binS_symI {op : BinOp} {t : TypeId} {f : IntKind → Int → Int → (AV → Option R) → Option R} {g : Bin R}
    (hf : ∀ ik m n k r, Tr (f ik m n k) r → ∃ v, Tr (k v) r ∧ ∀ ρ, ∃ u, VR ρ v u ∧ ∀ (E : Env) (h : Heap) (x : Operand) (u' : TypeId) dst ty pos aft g, ev E x = some (.int ik m) → ev E y = some (.int ik n) → Ev P E h ⟨dst, .binOp op t x y u', ty, pos, aft, g⟩ u)
    (hg : BinS P op t y g) : BinS P op t y (symI f g) := by
  intro a b k r hr
  unfold symI at hr
  split at hr
  case h_4 => exact hg _ _ _ _ hr
  all_goals
    rw [ifK_eq] at hr
    split at hr
    · rename_i hk
      obtain rfl := kEq_eq hk
      obtain ⟨v, h1, h2⟩ := hf _ _ _ _ _ hr
      refine ⟨v, h1, fun ρ ua ub ha hb => ?_⟩
      cases ha; cases hb
      exact h2 ρ
    · cases hr
theorem binS_symS {op : BinOp} {t : TypeId} {f e : IntKind → Int → Int → (AV → Option R) → Option R}
    (hf : ∀ ik m jk n k r, Tr (f ik m n k) r → ∃ v, Tr (k v) r ∧ ∀ ρ, ∃ u, VR ρ v u ∧ ∀ (E : Env) (h : Heap) (x : Operand) (u' : TypeId) dst ty pos aft g, ev E x = some (.int ik m) → ev E y = some (.int jk n) → Ev P E h ⟨dst, .binOp op t x y u', ty, pos, aft, g⟩ u)
    (he : ∀ ik m jk n k r, Tr (e ik m n k) r → ∃ v, Tr (k v) r ∧ ∀ ρ, ∃ u, VR ρ v u ∧ ∀ (E : Env) (h : Heap) (x : Operand) (u' : TypeId) dst ty pos aft g, ev E x = some (.int ik m) → ev E y = some (.int jk n) → Ev P E h ⟨dst, .binOp op t x y u', ty, pos, aft, g⟩ u) :
    BinS P op t y (symS f e) := by
  intro a b k r hr
  unfold symS at hr
  split at hr
  · rename_i ik m jk n
    obtain ⟨v, h1, h2⟩ := hf _ _ jk _ _ _ hr
    refine ⟨v, h1, fun ρ ua ub ha hb => ?_⟩
    cases ha; cases hb
    exact h2 ρ
  · rename_i ik m jk n
    obtain ⟨v, h1, h2⟩ := he _ _ jk _ _ _ hr
    refine ⟨v, h1, fun ρ ua ub ha hb => ?_⟩
    cases ha; cases hb
    exact h2 ρ
  · rename_i ik m jk n
    obtain ⟨v, h1, h2⟩ := hf _ _ jk _ _ _ hr
    refine ⟨v, h1, fun ρ ua ub ha hb => ?_⟩
    cases ha; cases hb
    exact h2 ρ
  · cases hr
theorem binS_bs {op : BinOp} {t : TypeId} {ff : Bool → Bool} {g : Bin R} (hop : ∀ (E : Env) (h : Heap) (x : Operand) (u' : TypeId) dst ty pos aft gd (a b : List UInt8), ev E x = some (.string ⟨a.toArray⟩) → ev E y = some (.string ⟨b.toArray⟩) → Ev P E h ⟨dst, .binOp op t x y u', ty, pos, aft, gd⟩ (.bool (ff (a == b)))) (hg : BinS P op t y g) : BinS P op t y (bsE ff g) := by
  intro a b k r hr
  have key : ∀ (p q : List UInt8), Tr (fork (p = q) (outB (ff true) k) (outB (ff false) k)) r → Tr (k (.B (ff (p == q)))) r := by
    intro p q ⟨h1, h2⟩
    rw [ofO_tr (r := r), outB_eq] at h1 h2
    by_cases hpq : p = q
    · have : (p == q) = true := by simp [hpq]
      rw [this]; exact h1 hpq
    · have : (p == q) = false := by simp [hpq]
      rw [this]; exact h2 hpq
  unfold bsE at hr
  split at hr
  case h_4 => exact hg _ _ _ _ hr
  all_goals
    refine ⟨_, key _ _ hr, fun ρ ua ub ha hb => ?_⟩
    cases ha; cases hb
    exact ⟨_, .B, fun E h x u' dst ty pos aft gd h1 h2 => hop E h x u' dst ty pos aft gd _ _ h1 h2⟩
theorem bytesZ_append (a b : List Int) : bytesZ (a ++ b) = bytesZ a ++ bytesZ b := by simp [bytesZ]
theorem bytesZ_intsZ (s : List UInt8) : bytesZ (intsZ s) = s := by
  induction s with
  | nil => rfl
  | cons u s ih =>
    simp only [bytesZ, intsZ, List.map_cons, List.map_map] at ih ⊢
    rw [ih]
    congr 1
    simp
theorem catK_some {kn : Bool} {a b : List Int} {k : AV → Option R} {r : R} (h : Tr (catK kn a b k) r) : a.length + b.length ≤ 9223372036854775807 ∧ ∃ kn', Tr (k (.X (.bs kn' (a ++ b)))) r := by
  cases kn with
  | false => exact ⟨(need_some h).1, false, (need_some h).2⟩
  | true =>
    have h : Tr (ifK (Nat.ble (a.length + b.length) 9223372036854775807) (k (.X (.bs true (a ++ b)))) none) r := h
    rw [ifK_eq] at h
    split at h
    · rename_i hle; exact ⟨Nat.le_of_ble_eq_true hle, true, h⟩
    · cases h
theorem binS_cat {t : TypeId} {g : Bin R} (hg : BinS P .add t y g) : BinS P .add t y (catB g) := by
  intro a b k r hr
  have key : ∀ (p q : List Int), p.length + q.length ≤ 9223372036854775807 → ∀ (E : Env) (h : Heap) (x : Operand) (u' : TypeId) dst ty pos aft g, ev E x = some (.string ⟨(bytesZ p).toArray⟩) → ev E y = some (.string ⟨(bytesZ q).toArray⟩) → Ev P E h ⟨dst, .binOp .add t x y u', ty, pos, aft, g⟩ (.string ⟨(bytesZ (p ++ q)).toArray⟩) := by
    intro p q hle E h x u' dst ty pos aft g h1 h2
    have := o_sadd (P := P) (h := h) (d := dst) (ty := ty) (pos := pos) (aft := aft) (g := g) (t := t) (u := u') h1 h2 (by simp [ByteArray.size, bytesZ]; omega)
    rw [bytesZ_append, show (⟨(bytesZ p ++ bytesZ q).toArray⟩ : ByteArray) = ⟨(bytesZ p).toArray⟩ ++ ⟨(bytesZ q).toArray⟩ by ext1; simp [ByteArray.data_append]]
    exact this
  unfold catB at hr
  split at hr
  case h_4 => exact hg _ _ _ _ hr
  all_goals
    obtain ⟨hle, kn', hr⟩ := catK_some hr
    refine ⟨_, hr, fun ρ ua ub ha hb => ?_⟩
    cases ha; cases hb
    refine ⟨_, .bs, fun E h x u' dst ty pos aft g h1 h2 => ?_⟩
    first
    | exact key _ _ hle E h x u' dst ty pos aft g h1 h2
    | exact key _ _ hle E h x u' dst ty pos aft g h1 (by rw [bytesZ_intsZ]; exact h2)
    | exact key _ _ hle E h x u' dst ty pos aft g (by rw [bytesZ_intsZ]; exact h1) h2
theorem binS_none {op : BinOp} {t : TypeId} : BinS P op t y (none2 : Bin R) := fun _ _ _ _ h => by cases h
theorem strs_some {f : List UInt8 → List UInt8 → (AV → Option R) → Option R} {a b : AV} {k : AV → Option R} {r : R} (h : Tr (strs f a b k) r) : ∃ s t, a = .X (.str s) ∧ b = .X (.str t) ∧ Tr (f s t k) r := by
  unfold strs at h
  split at h
  · exact ⟨_, _, rfl, rfl, h⟩
  · cases h
theorem strEq_eq : ∀ (a b : List UInt8), strEq a b = (a == b)
  | [], [] => rfl
  | [], _ :: _ => rfl
  | _ :: _, [] => rfl
  | u :: a, v :: b => by
    change (Bool.rec (motive := fun _ => Bool) false (strEq a b) (Nat.beq u.toNat v.toNat)) = _
    rw [strEq_eq a b, List.cons_beq_cons]
    cases hb : Nat.beq u.toNat v.toNat with
    | true =>
      have : u = v := UInt8.toNat_inj.1 (Nat.eq_of_beq_eq_true hb)
      simp [this]
    | false =>
      have : ¬ u = v := fun he => by rw [he] at hb; simp at hb
      simp [this]
theorem toList_mk (s : List UInt8) : (⟨s.toArray⟩ : ByteArray).toList = s := by
  rw [ByteArray.toList_eq]
theorem shAmt_some {ik : IntKind} {n : Int} {k : Nat → Option R} {r : R} (h : Tr (shAmt ik n k) r) : ∃ s : Nat, n = Int.ofNat s ∧ (0 : Int) ≤ s ∧ Tr (k (min s ik.bits)) r := by
  cases n with
  | negSucc n => cases h
  | ofNat s =>
    refine ⟨s, rfl, by omega, ?_⟩
    simp only [shAmt, ifK_eq] at h
    split at h
    · rename_i hb
      have := Nat.le_of_ble_eq_true hb
      rwa [Nat.min_eq_left this]
    · rename_i hb
      have : ¬ s ≤ ik.bits := fun hh => hb (Nat.ble_eq_true_of_le hh)
      rwa [Nat.min_eq_right (by omega)]
theorem pow_cast (n : Nat) : ((2 ^ n : Nat) : Int) = 2 ^ n := by simp
theorem factK_some {o : Nat} {c : Int} {k : Bool → Option R} {r : R} : ∀ {fs : List (Nat × Int × Bool)}, Tr (factK o c fs k) r → ∃ b, (o, c, b) ∈ fs ∧ Tr (k b) r
  | [], h => by cases h
  | f :: l, h => by
    unfold factK at h
    rw [ifK_eq] at h
    split at h
    · rename_i hc
      simp only [Bool.and_eq_true, decide_eq_true_eq] at hc
      rw [boolK_eq] at h
      have := Nat.eq_of_beq_eq_true hc.1
      obtain ⟨o', c', b⟩ := f
      simp only at this hc h
      obtain ⟨_, rfl⟩ := hc
      subst this
      exact ⟨b, List.mem_cons_self .., h⟩
    · obtain ⟨b, h1, h2⟩ := factK_some h
      exact ⟨b, List.mem_cons_of_mem _ h1, h2⟩
theorem binS_sym {op : BinOp} {t : TypeId} {o : Nat} {g : Bin R} (hop : ∀ (E : Env) (h : Heap) (x : Operand) (u' : TypeId) dst ty pos aft gd (m n : Int), ev E x = some (.int .i64 m) → ev E y = some (.int .i64 n) → Ev P E h ⟨dst, .binOp op t x y u', ty, pos, aft, gd⟩ (.bool (cmpZ o m n))) (hg : BinS P op t y g) : BinS P op t y (symB o g) := by
  intro a b k r hr
  unfold symB at hr
  split at hr
  · obtain ⟨q, h1, h2⟩ := factK_some hr
    rw [outB_eq] at h2
    refine ⟨_, h2, fun ρ ua ub ha hb => ?_⟩
    cases hb
    cases ha with
    | sym h3 h4 =>
      have := h4 _ h1
      refine ⟨_, .B, fun E h x u' dst ty pos aft gd k1 k2 => ?_⟩
      have h5 := hop E h x u' dst ty pos aft gd _ _ k1 k2
      rw [this] at h5
      exact h5
  · exact hg a b k r hr
theorem binF_ok {op : BinOp} {t : TypeId} {f : Bin R} (h : binF op = some f) (hne : op ≠ .eql ∧ op ≠ .neq) : BinS P op t y f := by
  cases op with
  | eql => exact absurd rfl hne.1
  | neq => exact absurd rfl hne.2
  | add =>
    cases h
    refine binS_two (fun ik m n k r hr => ?_) (binS_symI (fun ik m n k r hr => ⟨_, hr, fun ρ => ⟨_, .si, fun E h x u' dst ty pos aft g h1 h2 => o_add h1 h2⟩⟩) (binS_cat fun a b k r hr => ?_))
    · rw [wrapK_eq] at hr
      exact ⟨_, hr, fun ρ => ⟨_, .I, fun E h x u' dst ty pos aft g h1 h2 => o_add h1 h2⟩⟩
    · obtain ⟨s, s2, rfl, rfl, hr2⟩ := strs_some hr
      split at hr2
      · rename_i hle
        refine ⟨_, hr2, fun ρ ua ub ha hb => ?_⟩
        cases ha; cases hb
        refine ⟨_, .str, fun E h x u' dst ty pos aft g h1 h2 => ?_⟩
        have := o_sadd (P := P) (h := h) (d := dst) (ty := ty) (pos := pos) (aft := aft) (g := g) (t := t) (u := u') h1 h2 (by
          have : s.length + s2.length ≤ 9223372036854775807 := by simpa using hle
          simp [ByteArray.size]; omega)
        rw [show (⟨(s ++ s2).toArray⟩ : ByteArray) = ⟨s.toArray⟩ ++ ⟨s2.toArray⟩ by ext1; simp [ByteArray.data_append]]
        exact this
      · cases hr2
  | sub =>
    cases h
    refine binS_two (fun ik m n k r hr => ?_) (binS_symI (fun ik m n k r hr => ⟨_, hr, fun ρ => ⟨_, .si, fun E h x u' dst ty pos aft g h1 h2 => o_sub h1 h2⟩⟩) binS_none)
    rw [wrapK_eq] at hr
    exact ⟨_, hr, fun ρ => ⟨_, .I, fun E h x u' dst ty pos aft g h1 h2 => o_sub h1 h2⟩⟩
  | mul =>
    cases h
    refine binS_two (fun ik m n k r hr => ?_) (binS_symI (fun ik m n k r hr => ⟨_, hr, fun ρ => ⟨_, .si, fun E h x u' dst ty pos aft g h1 h2 => o_mul h1 h2⟩⟩) binS_none)
    rw [wrapK_eq] at hr
    exact ⟨_, hr, fun ρ => ⟨_, .I, fun E h x u' dst ty pos aft g h1 h2 => o_mul h1 h2⟩⟩
  | quo =>
    cases h
    refine binS_two (fun ik m n k r hr => ?_) (binS_symI (fun ik m n k r hr => ⟨_, (need_some hr).2, fun ρ => ⟨_, .si, fun E h x u' dst ty pos aft g h1 h2 => o_quo h1 h2 (need_some hr).1⟩⟩) binS_none)
    by_cases hn : n = 0
    · simp [hn] at hr; exact hr.elim
    · simp only [hn, decide_false, cond_false, wrapK_eq] at hr
      exact ⟨_, hr, fun ρ => ⟨_, .I, fun E h x u' dst ty pos aft g h1 h2 => o_quo h1 h2 hn⟩⟩
  | rem =>
    cases h
    refine binS_two (fun ik m n k r hr => ?_) (binS_symI (fun ik m n k r hr => ⟨_, (need_some hr).2, fun ρ => ⟨_, .si, fun E h x u' dst ty pos aft g h1 h2 => o_rem h1 h2 (need_some hr).1⟩⟩) binS_none)
    by_cases hn : n = 0
    · simp [hn] at hr; exact hr.elim
    · simp only [hn, decide_false, cond_false, out_eq] at hr
      exact ⟨_, hr, fun ρ => ⟨_, .I, fun E h x u' dst ty pos aft g h1 h2 => o_rem h1 h2 hn⟩⟩
  | and =>
    cases h
    refine binS_two (fun ik m n k r hr => ?_) (binS_symI (fun ik m n k r hr => ⟨_, hr, fun ρ => ⟨_, .si, fun E h x u' dst ty pos aft g h1 h2 => o_and h1 h2⟩⟩) binS_none)
    rw [out_eq] at hr
    exact ⟨_, hr, fun ρ => ⟨_, .I, fun E h x u' dst ty pos aft g h1 h2 => o_and h1 h2⟩⟩
  | or =>
    cases h
    refine binS_two (fun ik m n k r hr => ?_) (binS_symI (fun ik m n k r hr => ⟨_, hr, fun ρ => ⟨_, .si, fun E h x u' dst ty pos aft g h1 h2 => o_or h1 h2⟩⟩) binS_none)
    rw [out_eq] at hr
    exact ⟨_, hr, fun ρ => ⟨_, .I, fun E h x u' dst ty pos aft g h1 h2 => o_or h1 h2⟩⟩
  | xor =>
    cases h
    refine binS_two (fun ik m n k r hr => ?_) (binS_symI (fun ik m n k r hr => ⟨_, hr, fun ρ => ⟨_, .si, fun E h x u' dst ty pos aft g h1 h2 => o_xor h1 h2⟩⟩) binS_none)
    rw [out_eq] at hr
    exact ⟨_, hr, fun ρ => ⟨_, .I, fun E h x u' dst ty pos aft g h1 h2 => o_xor h1 h2⟩⟩
  | andNot =>
    cases h
    refine binS_two (fun ik m n k r hr => ?_) (binS_symI (fun ik m n k r hr => ⟨_, hr, fun ρ => ⟨_, .si, fun E h x u' dst ty pos aft g h1 h2 => o_andNot h1 h2⟩⟩) binS_none)
    rw [out_eq] at hr
    exact ⟨_, hr, fun ρ => ⟨_, .I, fun E h x u' dst ty pos aft g h1 h2 => o_andNot h1 h2⟩⟩
  | shl =>
    cases h
    refine binS_twoS (binS_symS (fun ik m jk n k r hr => ⟨_, (need_some hr).2, fun ρ => ⟨_, .si, fun E h x u' dst ty pos aft g h1 h2 => ?_⟩⟩) (fun ik m jk n k r hr => ?_)) (fun ik m jk n k r hr => ?_)
    · have := o_shl (P := P) (h := h) (d := dst) (ty := ty) (pos := pos) (aft := aft) (g := g) (t := t) (u := u') h1 h2 (need_some hr).1
      rw [pow_cast]
      exact this
    · obtain ⟨s, rfl, hs, hr⟩ := shAmt_some hr
      refine ⟨_, hr, fun ρ => ⟨_, .si, fun E h x u' dst ty pos aft g h1 h2 => ?_⟩⟩
      have := o_shl (P := P) (h := h) (d := dst) (ty := ty) (pos := pos) (aft := aft) (g := g) (t := t) (u := u') h1 h2 (by omega)
      rw [pow_cast]
      exact this
    obtain ⟨s, rfl, hs, hr⟩ := shAmt_some hr
    rw [wrapK_eq] at hr
    refine ⟨_, hr, fun ρ => ⟨_, .I, fun E h x u' dst ty pos aft g h1 h2 => ?_⟩⟩
    have := o_shl (P := P) (h := h) (d := dst) (ty := ty) (pos := pos) (aft := aft) (g := g) (t := t) (u := u') h1 h2 (by omega)
    rw [show Int.mul m (Int.ofNat (Nat.pow 2 (min s ik.bits))) = m * 2 ^ (min (Int.ofNat s).toNat ik.bits) by simp [pow_cast]]
    exact this
  | shr =>
    cases h
    refine binS_twoS (binS_symS (fun ik m jk n k r hr => ⟨_, (need_some hr).2, fun ρ => ⟨_, .si, fun E h x u' dst ty pos aft g h1 h2 => ?_⟩⟩) (fun ik m jk n k r hr => ?_)) (fun ik m jk n k r hr => ?_)
    · have := o_shr (P := P) (h := h) (d := dst) (ty := ty) (pos := pos) (aft := aft) (g := g) (t := t) (u := u') h1 h2 (need_some hr).1
      rw [pow_cast]
      exact this
    · obtain ⟨s, rfl, hs, hr⟩ := shAmt_some hr
      refine ⟨_, hr, fun ρ => ⟨_, .si, fun E h x u' dst ty pos aft g h1 h2 => ?_⟩⟩
      have := o_shr (P := P) (h := h) (d := dst) (ty := ty) (pos := pos) (aft := aft) (g := g) (t := t) (u := u') h1 h2 (by omega)
      rw [pow_cast]
      exact this
    obtain ⟨s, rfl, hs, hr⟩ := shAmt_some hr
    rw [out_eq] at hr
    refine ⟨_, hr, fun ρ => ⟨_, .I, fun E h x u' dst ty pos aft g h1 h2 => ?_⟩⟩
    have := o_shr (P := P) (h := h) (d := dst) (ty := ty) (pos := pos) (aft := aft) (g := g) (t := t) (u := u') h1 h2 (by omega)
    rw [show Int.fdiv m (Int.ofNat (Nat.pow 2 (min s ik.bits))) = m.fdiv (2 ^ (min (Int.ofNat s).toNat ik.bits)) by simp [pow_cast]]
    exact this
  | lss =>
    cases h
    refine binS_two (fun ik m n k r hr => ?_) (binS_symI (fun ik m n k r hr => ⟨_, fork_some hr, fun ρ => ⟨_, .B, fun E h x u' dst ty pos aft g h1 h2 => o_lss h1 h2⟩⟩) (binS_sym (fun E h x u' dst ty pos aft g m n h1 h2 => o_lss h1 h2) binS_none))
    rw [outB_eq] at hr
    exact ⟨_, hr, fun ρ => ⟨_, .B, fun E h x u' dst ty pos aft g h1 h2 => o_lss h1 h2⟩⟩
  | leq =>
    cases h
    refine binS_two (fun ik m n k r hr => ?_) (binS_symI (fun ik m n k r hr => ⟨_, fork_some hr, fun ρ => ⟨_, .B, fun E h x u' dst ty pos aft g h1 h2 => o_leq h1 h2⟩⟩) (binS_sym (fun E h x u' dst ty pos aft g m n h1 h2 => o_leq h1 h2) binS_none))
    rw [outB_eq] at hr
    exact ⟨_, hr, fun ρ => ⟨_, .B, fun E h x u' dst ty pos aft g h1 h2 => o_leq h1 h2⟩⟩
  | gtr =>
    cases h
    refine binS_two (fun ik m n k r hr => ?_) (binS_symI (fun ik m n k r hr => ⟨_, fork_some hr, fun ρ => ⟨_, .B, fun E h x u' dst ty pos aft g h1 h2 => o_gtr h1 h2⟩⟩) (binS_sym (fun E h x u' dst ty pos aft g m n h1 h2 => o_gtr h1 h2) binS_none))
    rw [outB_eq] at hr
    exact ⟨_, hr, fun ρ => ⟨_, .B, fun E h x u' dst ty pos aft g h1 h2 => o_gtr h1 h2⟩⟩
  | geq =>
    cases h
    refine binS_two (fun ik m n k r hr => ?_) (binS_symI (fun ik m n k r hr => ⟨_, fork_some hr, fun ρ => ⟨_, .B, fun E h x u' dst ty pos aft g h1 h2 => o_geq h1 h2⟩⟩) (binS_sym (fun E h x u' dst ty pos aft g m n h1 h2 => o_geq h1 h2) binS_none))
    rw [outB_eq] at hr
    exact ⟨_, hr, fun ρ => ⟨_, .B, fun E h x u' dst ty pos aft g h1 h2 => o_geq h1 h2⟩⟩
theorem binF_eql {t : TypeId} {f : Bin R} (h : binF .eql = some f) : BinS P .eql t y f := by
  cases h
  refine binS_two (fun ik m n k r hr => ?_) (binS_symI (fun ik m n k r hr => ⟨_, fork_some hr, fun ρ => ⟨_, .B, fun E h x u' dst ty pos aft g h1 h2 => o_eql h1 h2⟩⟩) (binS_sym (fun E h x u' dst ty pos aft g m n h1 h2 => o_eql h1 h2) (binS_bs (fun E h x u' dst ty pos aft g p q h1 h2 => by
    have := o_seq (P := P) (h := h) (d := dst) (ty := ty) (pos := pos) (aft := aft) (g := g) (t := t) (u := u') h1 h2
    rwa [toList_mk, toList_mk] at this) fun a b k r hr => ?_)))
  · rw [outB_eq] at hr
    exact ⟨_, hr, fun ρ => ⟨_, .B, fun E h x u' dst ty pos aft g h1 h2 => o_eql h1 h2⟩⟩
  · obtain ⟨s, s2, rfl, rfl, hr2⟩ := strs_some hr
    rw [outB_eq, strEq_eq] at hr2
    refine ⟨_, hr2, fun ρ ua ub ha hb => ?_⟩
    cases ha; cases hb
    refine ⟨_, .B, fun E h x u' dst ty pos aft g h1 h2 => ?_⟩
    have := o_seq (P := P) (h := h) (d := dst) (ty := ty) (pos := pos) (aft := aft) (g := g) (t := t) (u := u') h1 h2
    rwa [toList_mk, toList_mk] at this
theorem binF_neq {t : TypeId} {f : Bin R} (h : binF .neq = some f) : BinS P .neq t y f := by
  cases h
  refine binS_two (fun ik m n k r hr => ?_) (binS_symI (fun ik m n k r hr => ⟨_, fork_some hr, fun ρ => ⟨_, .B, fun E h x u' dst ty pos aft g h1 h2 => o_neq h1 h2⟩⟩) (binS_sym (fun E h x u' dst ty pos aft g m n h1 h2 => by
    have := o_neq (P := P) (h := h) (d := dst) (ty := ty) (pos := pos) (aft := aft) (g := g) (t := t) (u := u') h1 h2
    rwa [show decide (m ≠ n) = cmpZ 5 m n by simp [cmpZ]] at this) (binS_bs (fun E h x u' dst ty pos aft g p q h1 h2 => by
    have := o_sne (P := P) (h := h) (d := dst) (ty := ty) (pos := pos) (aft := aft) (g := g) (t := t) (u := u') h1 h2
    rwa [toList_mk, toList_mk] at this) fun a b k r hr => ?_)))
  · rw [outB_eq] at hr
    refine ⟨_, hr, fun ρ => ⟨_, .B, fun E h x u' dst ty pos aft g h1 h2 => ?_⟩⟩
    have := o_neq (P := P) (h := h) (d := dst) (ty := ty) (pos := pos) (aft := aft) (g := g) (t := t) (u := u') h1 h2
    rwa [show decide (m ≠ n) = !decide (m = n) by simp] at this
  · obtain ⟨s, s2, rfl, rfl, hr2⟩ := strs_some hr
    rw [outB_eq, strEq_eq] at hr2
    refine ⟨_, hr2, fun ρ ua ub ha hb => ?_⟩
    cases ha; cases hb
    refine ⟨_, .B, fun E h x u' dst ty pos aft g h1 h2 => ?_⟩
    have := o_sne (P := P) (h := h) (d := dst) (ty := ty) (pos := pos) (aft := aft) (g := g) (t := t) (u := u') h1 h2
    rwa [toList_mk, toList_mk] at this
/-- The two ways to ask for equality. -/
def EqF : BinOp → (Bool → Bool) → Prop
  | .eql, f => f = fun b => b
  | .neq, f => f = fun b => !b
  | _, _ => False
theorem binS_bool {op : BinOp} {f : Bool → Bool} (hf : EqF op f) {t : TypeId} (ht : P.underlying t = some .bool) : BinS P op t y (eqBool f : Bin R) := by
  intro a b k r hr
  obtain ⟨p, rfl, hr1⟩ := asB_some hr
  obtain ⟨q, rfl, hr2⟩ := asB_some hr1
  rw [outB_eq] at hr2
  refine ⟨_, hr2, fun ρ ua ub ha hb => ?_⟩
  cases ha; cases hb
  refine ⟨_, .B, fun E h x u' dst ty pos aft g h1 h2 => ?_⟩
  cases op with
  | eql => cases hf; exact o_beq ht h1 h2
  | neq => cases hf; exact o_bne ht h1 h2
  | _ => exact hf.elim
theorem binS_ptr {op : BinOp} {f : Bool → Bool} (hf : EqF op f) {t e : TypeId} (ht : P.underlying t = some (.pointer e)) : BinS P op t y (nilPtr f : Bin R) := by
  have hp : Ptr P t := by simp [Ptr, ptrB, ht]
  intro a b k r hr
  have key : ∃ p : Bool, Tr (k (.B (f p))) r ∧ ∀ ρ ua ub, VR ρ a ua → VR ρ b ub → ub = .pointer none ∧ ∃ q, ua = .pointer q ∧ q.isNone = p := by
    unfold nilPtr at hr
    split at hr
    · rw [outB_eq] at hr
      refine ⟨true, hr, fun ρ ua ub ha hb => ?_⟩
      cases ha; cases hb
      exact ⟨rfl, none, rfl, rfl⟩
    · rw [outB_eq] at hr
      refine ⟨false, hr, fun ρ ua ub ha hb => ?_⟩
      cases ha; cases hb
      exact ⟨rfl, _, rfl, rfl⟩
    · rw [outB_eq] at hr
      refine ⟨false, hr, fun ρ ua ub ha hb => ?_⟩
      cases ha; cases hb
      exact ⟨rfl, _, rfl, rfl⟩
    · cases hr
  obtain ⟨p, hr, hv⟩ := key
  refine ⟨_, hr, fun ρ ua ub ha hb => ?_⟩
  obtain ⟨rfl, q, rfl, hq⟩ := hv ρ ua ub ha hb
  refine ⟨_, .B, fun E h x u' dst ty pos aft g h1 h2 => ?_⟩
  cases op with
  | eql => cases hf; subst hq; exact o_peq hp h1 h2
  | neq => cases hf; subst hq; exact o_pne hp h1 h2
  | _ => exact hf.elim
theorem binS_ifc {op : BinOp} {f : Bool → Bool} (hf : EqF op f) {t : TypeId} {ms : Array (String × TypeId)} (ht : P.underlying t = some (.interface ms)) (hy : isNilI y = true) : BinS P op t y (nilIfc f : Bin R) := by
  have hp : Ifc P t := by simp [Ifc, ifcB, ht]
  obtain rfl : y = .const .nilIface := by
    unfold isNilI at hy
    split at hy
    · rfl
    · cases hy
  intro a b k r hr
  have key : ∃ p : Bool, Tr (k (.B (f p))) r ∧ ∀ ρ ua, VR ρ a ua → isIface ua = true ∧ isNil ua = p := by
    unfold nilIfc at hr
    split at hr
    · rw [outB_eq] at hr
      refine ⟨true, hr, fun ρ ua ha => ?_⟩
      cases ha
      exact ⟨rfl, rfl⟩
    · rw [outB_eq] at hr
      refine ⟨false, hr, fun ρ ua ha => ?_⟩
      cases ha
      exact ⟨rfl, rfl⟩
    · cases hr
  obtain ⟨p, hr, hv⟩ := key
  refine ⟨_, hr, fun ρ ua ub ha hb => ?_⟩
  obtain ⟨h1, h2⟩ := hv ρ ua ha
  refine ⟨_, .B, fun E h x u' dst ty pos aft g h3 h4 => ?_⟩
  cases op with
  | eql => cases hf; subst h2; exact o_ieq hp h1 h3
  | neq => cases hf; subst h2; exact o_ine hp h1 h3
  | _ => exact hf.elim
theorem binS_sl {op : BinOp} {f : Bool → Bool} (hf : EqF op f) {t e : TypeId} (ht : P.underlying t = some (.slice e)) : BinS P op t y (nilSl f : Bin R) := by
  intro a b k r hr
  have key : ∃ p : Bool, Tr (k (.B (f p))) r ∧ ∀ ρ ua ub, VR ρ a ua → VR ρ b ub → ub = .slice none 0 0 ∧ ∃ q n c, ua = .slice q n c ∧ q.isNone = p := by
    unfold nilSl at hr
    split at hr
    · rw [outB_eq] at hr
      refine ⟨true, hr, fun ρ ua ub ha hb => ?_⟩
      cases ha; cases hb
      exact ⟨rfl, none, _, _, rfl, rfl⟩
    · rw [outB_eq] at hr
      refine ⟨false, hr, fun ρ ua ub ha hb => ?_⟩
      cases ha; cases hb
      exact ⟨rfl, _, _, _, rfl, rfl⟩
    · rw [outB_eq] at hr
      refine ⟨false, hr, fun ρ ua ub ha hb => ?_⟩
      cases ha; cases hb
      exact ⟨rfl, _, _, _, rfl, rfl⟩
    · cases hr
  obtain ⟨p, hr, hv⟩ := key
  refine ⟨_, hr, fun ρ ua ub ha hb => ?_⟩
  obtain ⟨rfl, q, n, c, rfl, hq⟩ := hv ρ ua ub ha hb
  refine ⟨_, .B, fun E h x u' dst ty pos aft g h1 h2 => ?_⟩
  cases op with
  | eql => cases hf; subst hq; exact o_bin h1 h2 (fun _ => rfl) fun w => Lib.run_eql_slice_nil w t e q n c 0 0 ht
  | neq => cases hf; subst hq; exact o_bin h1 h2 (fun _ => rfl) fun w => run_neq_slice_nil_any w t e q n c 0 0 ht
  | _ => exact hf.elim
/-! Structs of numbers. -/
def intIn (xs : Array Value) (o : Nat) : Int := match xs[o]? with
  | some (.int _ n) => n
  | _ => 0
theorem run_eqfs {d : Nat} {w : World} (us ws : Array Value) : ∀ (l : List Field) (r : Bool), (∀ f ∈ l, ∃ k' k a b, f.name ≠ "_" ∧ P.underlying f.type = some (.int k') ∧ us[f.offset]? = some (.int k a) ∧ ws[f.offset]? = some (.int k b)) →
    (r = l.all fun f => intIn us f.offset == intIn ws f.offset) →
    (forIn l ((none, ()) : Option Bool × Unit) (fun f (_ : Option Bool × Unit) => (if f.name ≠ "_" then do
          let __do_lift ← part f.type us f.offset
          let __do_lift_1 ← part f.type ws f.offset
          let __do_lift ← Op.equalIn (d + 1) f.type __do_lift __do_lift_1
          if (!__do_lift) = true then pure (ForInStep.done (some false, ()))
            else pure (ForInStep.yield (none, ()))
        else pure (ForInStep.yield (none, ())) : Sem (ForInStep (Option Bool × Unit))))).run P w = .ok (if r then none else some false, ()) w := by
  intro l
  induction l with
  | nil => intro r _ hr; subst hr; rfl
  | cons f l ih =>
    intro r hf hr
    obtain ⟨k', k, a, b, h1, h2, h3, h4⟩ := hf f (List.mem_cons_self ..)
    have hag : (isAgg f.type).run P w = .ok false w := by
      unfold isAgg
      rw [Sem.run_bind, run_underlying h2]
      rfl
    have hp : ∀ (xs : Array Value) v, xs[f.offset]? = some v → (part f.type xs f.offset).run P w = .ok v w := by
      intro xs v hv
      unfold part
      rw [Sem.run_bind, hag]
      simp [Result.andThen, hv]
    have heq : (Op.equalIn (d + 1) f.type (.int k a) (.int k b)).run P w = .ok (a == b) w := by
      unfold Op.equalIn
      rw [Sem.run_bind, run_underlying h2]
      simp [Result.andThen]
    rw [List.forIn_cons]
    simp only [ne_eq, h1, not_false_eq_true, if_true, Sem.run_bind, hp us _ h3, hp ws _ h4, heq, Result.andThen]
    have hall : r = ((a == b) && l.all fun f => intIn us f.offset == intIn ws f.offset) := by
      rw [hr, List.all_cons]
      congr 1
      simp [intIn, h3, h4]
    cases hab : (a == b) with
    | false =>
      rw [hall, hab]
      simp
    | true =>
      have := ih _ (fun f hm => hf f (List.mem_cons_of_mem _ hm)) rfl
      rw [hall, hab]
      simp only [Bool.not_true, Bool.false_eq_true, if_false, Sem.run_pure, Bool.true_and, Result.andThen]
      exact this
theorem run_eqst {t : Nat} {fs : Array Field} (ht : P.underlying t = some (.struct fs)) (hst : P.stoodInHeld t = false) {d : Nat} {w : World} (us ws : Array Value) (r : Bool) (hf : ∀ f ∈ fs.toList, ∃ k' k a b, f.name ≠ "_" ∧ P.underlying f.type = some (.int k') ∧ us[f.offset]? = some (.int k a) ∧ ws[f.offset]? = some (.int k b))
    (hr : r = fs.toList.all fun f => intIn us f.offset == intIn ws f.offset) : (Op.equalIn (d + 2) t (.agg us) (.agg ws)).run P w = .ok r w := by
  have key := run_eqfs (P := P) (d := d) (w := w) us ws fs.toList r hf hr
  rw [Array.forIn_toList] at key
  unfold Op.equalIn
  rw [Sem.run_bind, run_underlying ht]
  simp only [Result.andThen, program, Sem.run_bind, Sem.run, hst, Bool.false_eq_true, if_false]
  erw [key]
  cases r <;> rfl
theorem not_guard {t : Nat} {fs : Array Field} (ht : P.underlying t = some (.struct fs)) (hf : ∀ f ∈ fs.toList, ∃ k', P.underlying f.type = some (.int k')) (d : Nat) : P.eqGuardType (d + 2) t = false := by
  unfold Program.eqGuardType
  rw [ht]
  simp only [Array.any_eq_false]
  intro i hi
  obtain ⟨k', hk⟩ := hf fs[i] (by simp)
  unfold Program.eqGuardType
  rw [hk]
  simp
theorem eqCell_some {x y : AV} {k : Bool → Option R} {r : R} (h : Tr (eqCell x y k) r) : ∃ b, Tr (k b) r ∧ ∀ ρ u w, VR ρ x u → VR ρ y w → ∃ kk m n, u = .int kk m ∧ w = .int kk n ∧ b = (m == n) := by
  unfold eqCell at h
  split at h
  · rw [ifK_eq] at h
    split at h
    · rename_i hk
      obtain rfl := kEq_eq hk
      rw [boolK_eq] at h
      refine ⟨_, h, fun ρ u w hu hw => ?_⟩
      cases hu; cases hw
      exact ⟨_, _, _, rfl, rfl, rfl⟩
    · cases h
  · rw [ifK_eq] at h
    split at h
    · rename_i hk
      have := Pth.beq_eq hk
      subst this
      refine ⟨true, h, fun ρ u w hu hw => ?_⟩
      cases hu with
      | sym h1 h2 =>
        cases hw with
        | sym h3 h4 =>
          rw [h1] at h3
          cases h3
          exact ⟨_, _, _, rfl, rfl, by simp⟩
    · cases h
  · cases h
theorem eqOff_some {l m : List AV} {k : Bool → Option R} {r : R} : ∀ {os : List Nat} {b : Bool}, Tr (eqOff l m os b k) r → ∃ c, Tr (k c) r ∧ ∀ ρ us ws, VRs ρ l us → VRs ρ m ws → (c = (b && os.all fun o => intIn us.toArray o == intIn ws.toArray o)) ∧ ∀ o ∈ os, ∃ kk a c, us.toArray[o]? = some (.int kk a) ∧ ws.toArray[o]? = some (.int kk c)
  | [], b, h => ⟨b, h, fun ρ us ws _ _ => ⟨by simp, fun o ho => by cases ho⟩⟩
  | o :: os, b, h => by
    unfold eqOff at h
    split at h
    · rename_i x y hx hy
      obtain ⟨c, h1, h2⟩ := eqCell_some h
      rw [boolK_eq] at h1
      obtain ⟨c', h3, h4⟩ := eqOff_some h1
      refine ⟨c', h3, fun ρ us ws hl hm => ?_⟩
      obtain ⟨h5, h6⟩ := h4 ρ us ws hl hm
      obtain ⟨u, h7, h8⟩ := hl.get hx
      obtain ⟨w, h9, h10⟩ := hm.get hy
      obtain ⟨kk, a, c2, rfl, rfl, rfl⟩ := h2 ρ u w h8 h10
      have e1 : us.toArray[o]? = some (.int kk a) := by simpa using h7
      have e2 : ws.toArray[o]? = some (.int kk c2) := by simpa using h9
      refine ⟨?_, fun o' ho => ?_⟩
      · rw [h5, List.all_cons, show intIn us.toArray o = a by simp [intIn, e1], show intIn ws.toArray o = c2 by simp [intIn, e2], Bool.and_assoc]
      · rcases List.mem_cons.1 ho with rfl | ho
        · exact ⟨kk, a, c2, e1, e2⟩
        · exact h6 o' ho
    · cases h
theorem binS_agg {op : BinOp} {f : Bool → Bool} (hf : EqF op f) {t : TypeId} {offs : List Nat} (ht : eqOffs P t = some offs) : BinS P op t y (aggEq f offs : Bin R) := by
  unfold eqOffs at ht
  split at ht
  · rename_i fs hu
    split at ht
    · rename_i hc
      cases ht
      simp only [Bool.and_eq_true, Bool.not_eq_true', List.all_eq_true, bne_iff_ne] at hc
      obtain ⟨hc1, hc2⟩ := hc
      have hint : ∀ f ∈ fs.toList, ∃ k', P.underlying f.type = some (.int k') := fun f hm => by
        have := (hc1 f hm).2
        split at this
        · rename_i k' hk; exact ⟨k', hk⟩
        · cases this
      intro a b k r hr
      unfold aggEq at hr
      split at hr
      · rename_i l m
        obtain ⟨c, h1, h2⟩ := eqOff_some hr
        rw [outB_eq] at h1
        refine ⟨_, h1, fun ρ ua ub ha hb => ?_⟩
        cases ha with
        | agg hl =>
          rename_i us
          cases hb with
          | agg hm =>
            rename_i ws
            obtain ⟨h3, h4⟩ := h2 ρ us ws hl hm
            have hrun : ∀ w : World, (Op.equal t (.agg us.toArray) (.agg ws.toArray)).run P w = .ok c w := fun w => by
              refine run_eqst hu hc2 (d := 9998) us.toArray ws.toArray c (fun g hg => ?_) (by rw [h3, List.all_map, Bool.true_and]; rfl)
              obtain ⟨k', hk⟩ := hint g hg
              obtain ⟨kk, x, z, e1, e2⟩ := h4 g.offset (List.mem_map_of_mem hg)
              exact ⟨k', kk, x, z, (hc1 g hg).1, hk, e1, e2⟩
            have hgd : ∀ (op : BinOp) (x : Operand) (w : World), (eqGuard op t x y (.agg us.toArray) (.agg ws.toArray)).run P w = .ok () w := fun op x w => by
              obtain ⟨n, hn⟩ : ∃ n, P.depth = n + 2 := ⟨2 * (P.types.size + Made.depth), rfl⟩
              have hg : P.eqGuardType P.depth t = false := by rw [hn]; exact not_guard hu hint n
              cases op <;> simp [eqGuard, program, Sem.run, Result.andThen, hg]
            refine ⟨_, .B, fun E h x u' dst ty pos aft g k1 k2 => ?_⟩
            cases op with
            | eql =>
              cases hf
              refine o_bin k1 k2 (hgd _ x) fun w => ?_
              simp only [binOp, Sem.run_bind, hrun w, Result.andThen, Sem.run_pure]
            | neq =>
              cases hf
              refine o_bin k1 k2 (hgd _ x) fun w => ?_
              simp only [binOp, Sem.run_bind, hrun w, Result.andThen, Sem.run_pure]
            | _ => exact hf.elim
      · cases hr
    · cases ht
  · cases ht
theorem eqT_ok {op : BinOp} {f : Bool → Bool} (hf : EqF op f) {t : TypeId} {g : Option (Bin R)} {b : Bin R} (hg : ∀ b, g = some b → BinS P op t y b) (h : eqT P t y f g = some b) : BinS P op t y b := by
  unfold eqT at h
  split at h
  · exact hg _ h
  · exact hg _ h
  · rename_i ht; cases h; exact binS_bool hf ht
  · rename_i ht; cases h; exact binS_ptr hf ht
  · rename_i ht
    split at h
    · rename_i hy; cases h; exact binS_ifc hf ht hy
    · cases h
  · rename_i ht; cases h; exact binS_sl hf ht
  · split at h
    · rename_i ht; cases h; exact binS_agg hf ht
    · cases h
  · cases h
theorem binT_ok {op : BinOp} {t : TypeId} {b : Bin R} (h : binT P op t y = some b) : BinS P op t y b := by
  unfold binT at h
  split at h
  · exact eqT_ok (op := .eql) rfl (fun b hb => binF_eql hb) h
  · exact eqT_ok (op := .neq) rfl (fun b hb => binF_neq hb) h
  · rename_i h1 h2; exact binF_ok h ⟨h1, h2⟩
end Ry
end Go.TP
/-! Rz4. -/
namespace Go.TP
open Go
namespace Ry
variable {P : Program} {d : Option (Slot R)} {x y z : Operand} {xo yo zo : OD R}
theorem beq_ne {a b : Nat} (h : ¬ a = b) : Nat.beq a b = false := by
  cases hb : Nat.beq a b
  · rfl
  · exact absurd (Nat.eq_of_beq_eq_true hb) h
theorem unF_ok {op : UnOp} {t : TypeId} {f : AV → (AV → Option R) → Option R} (h : unF op = some f) (hx : OpS P x xo) : DatS P (.unOp op t x) d (iUn d f xo) := by
  intro cx κ e H r hr
  simp only [iUn, hx.eq] at hr
  replace hr := bind_tr hr
  obtain ⟨a, ha, hr⟩ := hr
  cases op with
  | not =>
    cases h
    replace hr := asB_some hr
    obtain ⟨b, rfl, hr⟩ := hr
    have hr : Tr (put d (.B (!b)) κ e H) r := by cases b <;> exact hr
    refine ⟨_, hr, fun ρ h E hh he => ?_⟩
    obtain ⟨u, h1, h2⟩ := hx.ok ρ H h e E _ hh he ha
    cases h1
    exact ⟨_, .B, fun h' _ dst ty pos aft g => o_not h2⟩
  | neg =>
    cases h
    replace hr := asI2_some hr
    rcases hr with ⟨k, m, rfl, hr⟩ | ⟨k, m, rfl, hr⟩
    · rw [wrapK_eq] at hr
      refine ⟨_, hr, fun ρ h E hh he => ?_⟩
      obtain ⟨u, h1, h2⟩ := hx.ok ρ H h e E _ hh he ha
      cases h1
      refine ⟨_, .I, fun h' _ dst ty pos aft g => ?_⟩
      rw [show Int.neg m = 0 - m by show -m = _; omega]
      exact o_neg h2
    · refine ⟨_, hr, fun ρ h E hh he => ?_⟩
      obtain ⟨u, h1, h2⟩ := hx.ok ρ H h e E _ hh he ha
      cases h1
      exact ⟨_, .si, fun h' _ dst ty pos aft g => o_neg h2⟩
  | xor =>
    cases h
    replace hr := asI2_some hr
    rcases hr with ⟨k, m, rfl, hr⟩ | ⟨k, m, rfl, hr⟩
    · rw [out_eq] at hr
      refine ⟨_, hr, fun ρ h E hh he => ?_⟩
      obtain ⟨u, h1, h2⟩ := hx.ok ρ H h e E _ hh he ha
      cases h1
      exact ⟨_, .I, fun h' _ dst ty pos aft g => o_com h2⟩
    · refine ⟨_, hr, fun ρ h E hh he => ?_⟩
      obtain ⟨u, h1, h2⟩ := hx.ok ρ H h e E _ hh he ha
      cases h1
      exact ⟨_, .si, fun h' _ dst ty pos aft g => o_com h2⟩
  | _ => cases h
theorem fieldB_spec {s i off n : Nat} {b : Bool} (h : fieldB P s i = some (off, b, n)) : ∃ fs f inf, P.underlying s = some (.struct fs) ∧ fs[i]? = some f ∧ f.offset = off ∧ P.info? f.type = some inf ∧ inf.size = n ∧ n ≠ 0 ∧ (∀ w, (isAgg f.type).run P w = .ok b w) ∧ (b = false → n = 1) := by
  unfold fieldB at h
  split at h
  · rename_i fs h1
    split at h
    · rename_i f h2
      split at h
      · rename_i inf q h3 h4
        by_cases hz : inf.size = 0
        · have hb : Nat.beq inf.size 0 = true := by simp [hz]
          rw [hb] at h; cases h
        · have hb : Nat.beq inf.size 0 = false := beq_ne hz
          rw [hb] at h
          cases h
          exact ⟨fs, f, inf, h1, h2, rfl, h3, rfl, hz, fun w => by simp [isAgg, run_underlying h4], fun h => by cases h⟩
      · rename_i inf q1 q2 h3 h4
        by_cases hz : inf.size = 0
        · have hb : Nat.beq inf.size 0 = true := by simp [hz]
          rw [hb] at h; cases h
        · have hb : Nat.beq inf.size 0 = false := beq_ne hz
          rw [hb] at h
          cases h
          exact ⟨fs, f, inf, h1, h2, rfl, h3, rfl, hz, fun w => by simp [isAgg, run_underlying h4], fun h => by cases h⟩
      · rename_i inf dd hn1 hn2 h3 h4
        by_cases hz : inf.size = 1
        · have hb : Nat.beq inf.size 1 = true := by simp [hz]
          rw [hb] at h
          cases h
          refine ⟨fs, f, inf, h1, h2, rfl, h3, hz, by decide, fun w => ?_, fun _ => rfl⟩
          unfold isAgg
          rw [Sem.run_bind, run_underlying h4]
          cases dd <;> first | rfl | exact (hn1 _ rfl).elim | exact (hn2 _ _ rfl).elim
        · have hb : Nat.beq inf.size 1 = false := beq_ne hz
          rw [hb] at h; cases h
      · cases h
    · cases h
  · cases h
theorem dat_fa {s i off n : Nat} {b : Bool} (hf : fieldB P s i = some (off, b, n)) (hx : OpS P x xo) : DatS P (.fieldAddr s x i) d (iFa d off xo) := by
  intro cx κ e H r hr
  simp only [iFa, hx.eq] at hr
  replace hr := bind_tr hr
  obtain ⟨a, ha, hr⟩ := hr
  replace hr := asA_some hr
  rcases hr with ⟨b, o, rfl, hr⟩ | ⟨b, o, rfl, hr⟩
  · rw [natK_eq] at hr
    refine ⟨_, hr, fun ρ h E hh he => ?_⟩
    obtain ⟨u, h1, h2⟩ := hx.ok ρ H h e E _ hh he ha
    cases h1 with
    | P h3 =>
      obtain ⟨fs, f, inf, k1, k2, k3, k4, k5, k6, _⟩ := fieldB_spec hf
      refine ⟨_, .P h3, fun h' _ dst ty pos aft g => o_fa ?_ h2⟩
      simp [Fo, foB, k1, k2, k3, k4, k5, k6]
  · refine ⟨_, hr, fun ρ h E hh he => ?_⟩
    obtain ⟨u, h1, h2⟩ := hx.ok ρ H h e E _ hh he ha
    cases h1 with
    | sp h3 h4 =>
      obtain ⟨fs, f, inf, k1, k2, k3, k4, k5, k6, _⟩ := fieldB_spec hf
      refine ⟨_, .sp h3 (by omega), fun h' _ dst ty pos aft g => ?_⟩
      have := o_fa (P := P) (h := h') (d := dst) (ty := ty) (pos := pos) (aft := aft) (g := g) (s := s) (i := i) (off := off) (by simp [Fo, foB, k1, k2, k3, k4, k5, k6]) h2
      rw [show (o + (off : Int)).toNat = o.toNat + off by omega]
      exact this
theorem dat_fd {s i off n : Nat} (hf : fieldB P s i = some (off, false, n)) (hx : OpS P x xo) : DatS P (.field s x i) d (iFd d off xo) := by
  intro cx κ e H r hr
  simp only [iFd, hx.eq] at hr
  replace hr := bind_tr hr
  obtain ⟨a, ha, hr⟩ := hr
  split at hr
  · rename_i l
    rw [nth_eq] at hr
    replace hr := bind_tr hr
    obtain ⟨v, hv, hr⟩ := hr
    refine ⟨_, hr, fun ρ h E hh he => ?_⟩
    obtain ⟨u, h1, h2⟩ := hx.ok ρ H h e E _ hh he ha
    cases h1 with
    | agg h3 =>
      obtain ⟨u, h4, h5⟩ := h3.get hv
      obtain ⟨fs, f, inf, k1, k2, k3, k4, k5, k6, k7, _⟩ := fieldB_spec hf
      refine ⟨u, h5, fun h' _ dst ty pos aft g => fun σ w hA _ => ⟨?_, rfl⟩⟩
      simp [execOp, hA x _ h2, Instr.field, run_underlying k1, k2, part, asAgg, k7, k3, h4]
  · cases hr
theorem dat_fs {s i off n : Nat} (hf : fieldB P s i = some (off, true, n)) (hx : OpS P x xo) : DatS P (.field s x i) d (iFs d off n xo) := by
  intro cx κ e H r hr
  simp only [iFs, hx.eq] at hr
  replace hr := bind_tr hr
  obtain ⟨a, ha, hr⟩ := hr
  split at hr
  · rename_i l
    rw [dropK_eq] at hr
    split at hr
    · rw [takeK_eq] at hr
      split at hr
      · refine ⟨_, hr, fun ρ h E hh he => ?_⟩
        obtain ⟨u, h1, h2⟩ := hx.ok ρ H h e E _ hh he ha
        cases h1 with
        | agg h3 =>
          rename_i us _ _
          obtain ⟨fs, f, inf, k1, k2, k3, k4, k5, k6, k7, _⟩ := fieldB_spec hf
          refine ⟨_, .agg ((h3.drop off).take n), fun h' _ dst ty pos aft g => fun σ w hA _ => ⟨?_, rfl⟩⟩
          simp [execOp, hA x _ h2, Instr.field, run_underlying k1, k2, part, asAgg, k7, k3, sizeOf, typeInfo, k4, k5]
      · cases hr
    · cases hr
  · cases hr
theorem shapeB_one {t n : Nat} (h : shapeB P t = some (false, n)) : One P t := by
  unfold shapeB at h
  split at h
  · cases h
  · cases h
  · rename_i inf dd hn1 hn2 h1 h2
    by_cases hz : inf.size = 1
    · unfold One oneB
      rw [h2, h1]
      cases dd <;> first | (simp [hz]; done) | exact (hn1 _ rfl).elim | exact (hn2 _ _ rfl).elim
    · have hb : Nat.beq inf.size 1 = false := beq_ne hz
      rw [hb] at h; cases h
  · cases h
theorem shapeB_agg {t n : Nat} (h : shapeB P t = some (true, n)) : TP.Agg P t n := by
  unfold shapeB at h
  split at h
  · rename_i inf q h1 h2; cases h; simp [TP.Agg, aggB, h1, h2]
  · rename_i inf q1 q2 h1 h2; cases h; simp [TP.Agg, aggB, h1, h2]
  · rename_i inf dd hn1 hn2 h1 h2
    by_cases hz : inf.size = 1
    · have hb : Nat.beq inf.size 1 = true := by simp [hz]
      rw [hb] at h; cases h
    · have hb : Nat.beq inf.size 1 = false := beq_ne hz
      rw [hb] at h; cases h
  · cases h
theorem blk_some {H : AH} {b : Pth} {k : AB → Option R} {r : R} (h : Tr (blk H b k) r) : ∃ B, getT H.blocks b = some B ∧ Tr (k B) r := by
  obtain ⟨n, t⟩ := H
  simp only [blk] at h
  rw [getK_eq] at h
  exact bind_tr h
theorem cellsB_some {B : AB} {k : Nat → Md → Nat → List AV → Option R} {r : R} (h : Tr (cellsB B k) r) : ∃ T m s cs, B = .cells T m s cs ∧ Tr (k T m s cs) r := by
  cases B with
  | cells T m s cs => exact ⟨T, m, s, cs, rfl, h⟩
  | loop _ _ => cases h
theorem cells0_some {B : AB} {k : Nat → Md → Nat → List AV → Option R} {r : R} (h : Tr (cells0 B k) r) : ∃ T m s cs, B = .cells T m s cs ∧ baseN m T = 0 ∧ Tr (k T m s cs) r := by
  unfold cells0 at h
  replace h := cellsB_some h
  obtain ⟨T, m, s, cs, rfl, h⟩ := h
  rw [ifK_eq] at h
  split at h
  · rename_i h0; exact ⟨T, m, s, cs, rfl, Nat.eq_of_beq_eq_true h0, h⟩
  · cases h
theorem isAt_some {s : Shp} {cs : List AV} {o : Int} (h : isAt s cs o) : 0 ≤ o ∧ ∃ v, cs[o.toNat]? = some v ∧ ∀ ρ u, VR ρ v u → VR ρ (valAt s cs o) u := by
  obtain ⟨h0, h⟩ := h
  refine ⟨h0, ?_⟩
  cases s with
  | int k =>
    obtain ⟨v, h1, n, rfl | rfl⟩ := h
    all_goals
      refine ⟨_, h1, fun ρ u hu => ?_⟩
      cases hu
      simp only [valAt, intAt, h1, intOf]
      exact .si
  | str =>
    obtain ⟨v, h1, ⟨s, rfl⟩ | ⟨kn, l, rfl⟩⟩ := h
    all_goals
      refine ⟨_, h1, fun ρ u hu => ?_⟩
      cases hu
      simp only [valAt, txtAt, h1, txtOf]
    · have := VR.bs (ρ := ρ) (kn := false) (l := intsZ s)
      rw [show (intsZ s).map (fun n => UInt8.ofNat n.toNat) = s from bytesZ_intsZ s] at this
      exact this
    · exact .bs
theorem areAt_some {cs : List AV} : ∀ {l : List Shp} {o : Int}, 0 ≤ o → areAt cs l o → o.toNat + l.length ≤ cs.length ∨ l = [] 
  | [], o, _, _ => .inr rfl
  | s :: l, o, h0, ⟨h1, h2⟩ => by
    obtain ⟨_, v, h3, _⟩ := isAt_some h1
    have := (List.getElem?_eq_some_iff.1 h3).1
    refine .inl ?_
    rcases areAt_some (by omega) h2 with h | rfl
    · simp only [List.length_cons]; omega
    · simp only [List.length_cons, List.length_nil]; omega
theorem areAt_vals {cs : List AV} {ρ : Rn} {us : List Value} (hv : VRs ρ cs us) : ∀ {l : List Shp} {o : Int}, 0 ≤ o → areAt cs l o → VRs ρ (valsAt cs l o) ((us.drop o.toNat).take l.length)
  | [], o, _, _ => by simp [valsAt]; exact .nil
  | s :: l, o, h0, ⟨h1, h2⟩ => by
    obtain ⟨_, v, h3, h4⟩ := isAt_some h1
    obtain ⟨u, h5, h6⟩ := hv.get h3
    have := areAt_vals hv (by omega) h2
    rw [show (o + 1).toNat = o.toNat + 1 by omega] at this
    rw [List.drop_eq_getElem?_toList_append, h5]
    simp only [Option.toList, List.cons_append, List.nil_append, List.length_cons, List.take_succ_cons, valsAt]
    exact .cons (h4 ρ u h6) this
theorem dat_ld {t n : Nat} {sh : Option Shp} (ht : shapeB P t = some (false, n)) (hx : OpS P x xo) : DatS P (.load t x) d (iLd d sh xo) := by
  intro cx κ e H r hr
  simp only [iLd, hx.eq] at hr
  replace hr := bind_tr hr
  obtain ⟨a, ha, hr⟩ := hr
  replace hr := asA_some hr
  rcases hr with ⟨b, o, rfl, hr⟩ | ⟨b, o, rfl, hr⟩
  case inr =>
    split at hr
    · rename_i s
      replace hr := blk_some hr
      obtain ⟨B, hB, hr⟩ := hr
      replace hr := cellsB_some hr
      obtain ⟨T, m, st, cs, rfl, hr⟩ := hr
      obtain ⟨hn, hr⟩ := need_some hr
      rw [relO_eq] at hn hr
      obtain ⟨h0, v, hv, hvv⟩ := isAt_some hn
      refine ⟨_, hr, fun ρ h E hh he => ?_⟩
      obtain ⟨u, h1, h2⟩ := hx.ok ρ H h e E _ hh he ha
      cases h1 with
      | sp h3 h3' =>
        obtain ⟨lo, h4, h5⟩ := hh.blk b _ hB
        rw [h3] at h4
        cases h4
        obtain ⟨us, h6, h7⟩ := h5.readB
        obtain ⟨u, h8, h9⟩ := h6.get hv
        refine ⟨u, hvv ρ u h9, fun h' hk dst ty pos aft g => o_ld (shapeB_one ht) h2 ?_⟩
        have := h7 _ u h8
        rw [show baseN m T + (o - (baseN m T : Int)).toNat = o.toNat by omega] at this
        unfold cel at this ⊢
        rw [hk x rfl b (by rw [ha]; rfl) _ h3]
        exact this
    · cases hr
  replace hr := blk_some hr
  obtain ⟨B, hB, hr⟩ := hr
  replace hr := cells0_some hr
  obtain ⟨T, m, s, cs, rfl, hbase, hr⟩ := hr
  rw [nth_eq] at hr
  replace hr := bind_tr hr
  obtain ⟨v, hv, hr⟩ := hr
  refine ⟨v, hr, fun ρ h E hh he => ?_⟩
  obtain ⟨u, h1, h2⟩ := hx.ok ρ H h e E _ hh he ha
  cases h1 with
  | P h3 =>
    obtain ⟨lo, h4, h5⟩ := hh.blk b _ hB
    rw [h3] at h4
    cases h4
    obtain ⟨us, h6, h7⟩ := h5.read hbase
    obtain ⟨u, h8, h9⟩ := h6.get hv
    refine ⟨u, h9, fun h' hk dst ty pos aft g => o_ld (shapeB_one ht) h2 ?_⟩
    have := h7 o u h8
    unfold cel at this ⊢
    rw [hk x rfl b (by rw [ha]; rfl) _ h3]
    exact this
theorem dat_ls {t n : Nat} {sh : Option (List Shp)} (ht : shapeB P t = some (true, n)) (hx : OpS P x xo) : DatS P (.load t x) d (iLs d n sh xo) := by
  intro cx κ e H r hr
  simp only [iLs, hx.eq] at hr
  replace hr := bind_tr hr
  obtain ⟨a, ha, hr⟩ := hr
  replace hr := asA_some hr
  rcases hr with ⟨b, o, rfl, hr⟩ | ⟨b, o, rfl, hr⟩
  case inr =>
    split at hr
    · rename_i l
      rw [ifK_eq] at hr
      split at hr
      · rename_i hn
        have hn := Nat.eq_of_beq_eq_true hn
        replace hr := blk_some hr
        obtain ⟨B, hB, hr⟩ := hr
        replace hr := cellsB_some hr
        obtain ⟨T, m, st, cs, rfl, hr⟩ := hr
        obtain ⟨⟨h0, hn2⟩, hr⟩ := need_some hr
        rw [relO_eq] at h0 hn2 hr
        refine ⟨_, hr, fun ρ h E hh he => ?_⟩
        obtain ⟨u, h1, h2⟩ := hx.ok ρ H h e E _ hh he ha
        cases h1 with
        | sp h3 h3' =>
          obtain ⟨lo, h4, h5⟩ := hh.blk b _ hB
          rw [h3] at h4
          cases h4
          obtain ⟨us, h6, h7⟩ := h5.readB
          have hl := h6.len
          have hv := areAt_vals h6 h0 hn2
          have hvl := hv.len
          refine ⟨_, .agg hv, fun h' hk dst ty pos aft g => o_lda (shapeB_agg ht) h2 ?_ fun j u hu => ?_⟩
          · rcases areAt_some h0 hn2 with hle | rfl
            · simp only [List.length_take, List.length_drop]; omega
            · simp at hn ⊢; omega
          rw [List.getElem?_take] at hu
          split at hu
          · rw [List.getElem?_drop] at hu
            have := h7 _ u hu
            rw [show baseN m T + ((o - (baseN m T : Int)).toNat + j) = o.toNat + j by omega] at this
            unfold cel at this ⊢
            rw [hk x rfl b (by rw [ha]; rfl) _ h3]
            exact this
          · cases hu
      · cases hr
    · cases hr
  replace hr := blk_some hr
  obtain ⟨B, hB, hr⟩ := hr
  replace hr := cells0_some hr
  obtain ⟨T, m, s, cs, rfl, hbase, hr⟩ := hr
  rw [dropK_eq] at hr
  split at hr
  · rw [takeK_eq] at hr
    split at hr
    · rename_i hle hlt
      refine ⟨_, hr, fun ρ h E hh he => ?_⟩
      obtain ⟨u, h1, h2⟩ := hx.ok ρ H h e E _ hh he ha
      cases h1 with
      | P h3 =>
        obtain ⟨lo, h4, h5⟩ := hh.blk b _ hB
        rw [h3] at h4
        cases h4
        obtain ⟨us, h6, h7⟩ := h5.read hbase
        have hl := h6.len
        refine ⟨_, .agg ((h6.drop o).take n), fun h' hk dst ty pos aft g => o_lda (shapeB_agg ht) h2 (by simp only [List.length_take, List.length_drop, List.length_drop] at hlt ⊢; omega) fun j u hu => ?_⟩
        rw [List.getElem?_take] at hu
        split at hu
        · rw [List.getElem?_drop] at hu
          have := h7 (o + j) u hu
          unfold cel at this ⊢
          rw [hk x rfl b (by rw [ha]; rfl) _ h3]
          exact this
        · cases hu
    · cases hr
  · cases hr
theorem dat_nc (hx : OpS P x xo) : DatS P (.nilCheck x) d (iNc d xo) := by
  intro cx κ e H r hr
  simp only [iNc, hx.eq] at hr
  replace hr := bind_tr hr
  obtain ⟨a, ha, hr⟩ := hr
  split at hr
  · refine ⟨_, hr, fun ρ h E hh he => ?_⟩
    obtain ⟨u, h1, h2⟩ := hx.ok ρ H h e E _ hh he ha
    refine ⟨u, h1, fun h' _ dst ty pos aft g => ?_⟩
    cases h1; exact o_nc h2
  · refine ⟨_, hr, fun ρ h E hh he => ?_⟩
    obtain ⟨u, h1, h2⟩ := hx.ok ρ H h e E _ hh he ha
    refine ⟨u, h1, fun h' _ dst ty pos aft g => ?_⟩
    cases h1; exact o_nci h2
  · refine ⟨_, hr, fun ρ h E hh he => ?_⟩
    obtain ⟨u, h1, h2⟩ := hx.ok ρ H h e E _ hh he ha
    refine ⟨u, h1, fun h' _ dst ty pos aft g => fun σ w hA _ => ⟨?_, rfl⟩⟩
    cases h1; simp [execOp, hA x _ h2]
  · refine ⟨_, hr, fun ρ h E hh he => ?_⟩
    obtain ⟨u, h1, h2⟩ := hx.ok ρ H h e E _ hh he ha
    refine ⟨u, h1, fun h' _ dst ty pos aft g => fun σ w hA _ => ⟨?_, rfl⟩⟩
    cases h1; simp [execOp, hA x _ h2]
  · refine ⟨_, hr, fun ρ h E hh he => ?_⟩
    obtain ⟨u, h1, h2⟩ := hx.ok ρ H h e E _ hh he ha
    refine ⟨u, h1, fun h' _ dst ty pos aft g => ?_⟩
    cases h1; exact o_nc h2
  · cases hr
theorem elemB_spec {t T sz : Nat} (h : elemB P t = some (T, sz)) : Slc P t T sz := by
  unfold elemB at h
  split at h
  · rename_i e h1
    split at h
    · rename_i inf h2
      rw [natK_eq] at h
      cases h
      simp [Slc, slcB, h1, h2]
    · cases h
  · cases h
theorem arrB_spec {t n T sz : Nat} (h : arrB P t = some (n, T, sz)) : TP.Arr P t n T sz := by
  unfold arrB at h
  split at h
  · rename_i e h1
    split at h
    · rename_i inf h2
      rw [natK_eq] at h
      cases h
      simp [TP.Arr, TP.arrB, *]
    · cases h
  · cases h
theorem dat_ip {t n T sz : Nat} (ht : arrB P t = some (n, T, sz)) (hx : OpS P x xo) (hy : OpS P y yo) : DatS P (.indexAddr t x y) d (iIp d n sz xo yo) := by
  intro cx κ e H r hr
  simp only [iIp, hx.eq] at hr
  replace hr := bind_tr hr
  obtain ⟨a, ha, hr⟩ := hr
  replace hr := asP_some hr
  obtain ⟨b, o, rfl, hr⟩ := hr
  simp only [hy.eq] at hr
  replace hr := bind_tr hr
  obtain ⟨c, hc, hr⟩ := hr
  replace hr := asN_some hr
  obtain ⟨i, hik, hr⟩ := hr
  rw [ifK_eq] at hr
  split at hr
  · rename_i hi
    rw [natK_eq] at hr
    refine ⟨_, hr, fun ρ h E hh he => ?_⟩
    obtain ⟨u, h1, h2⟩ := hx.ok ρ H h e E _ hh he ha
    obtain ⟨u', h3, h4⟩ := hy.ok ρ H h e E _ hh he hc
    obtain ⟨ik, rfl⟩ := hik.val h3
    cases h1 with
    | P h5 => exact ⟨_, .P h5, fun h' _ dst ty pos aft g => o_iaa (arrB_spec ht) h2 h4 rfl (Nat.le_of_ble_eq_true hi)⟩
  · cases hr
theorem dat_is {t T sz : Nat} (ht : elemB P t = some (T, sz)) (hx : OpS P x xo) (hy : OpS P y yo) : DatS P (.indexAddr t x y) d (iIs d sz xo yo) := by
  intro cx κ e H r hr
  simp only [iIs, hx.eq] at hr
  replace hr := bind_tr hr
  obtain ⟨a, ha, hr⟩ := hr
  simp only [hy.eq] at hr
  replace hr := bind_tr hr
  obtain ⟨c, hc, hr⟩ := hr
  cases a with
  | X xv =>
    cases xv with
    | ss b o n cq =>
      replace hr := asZ_some hr
      obtain ⟨i, hik, hr⟩ := hr
      obtain ⟨⟨hi0, hin⟩, hr⟩ := need_some hr
      refine ⟨_, hr, fun ρ h E hh he => ?_⟩
      obtain ⟨u, h1, h2⟩ := hx.ok ρ H h e E _ hh he ha
      obtain ⟨u', h3, h4⟩ := hy.ok ρ H h e E _ hh he hc
      obtain ⟨ik, rfl⟩ := hik.val h3
      cases h1 with
      | ss h5 h6 h7 h8 h9 =>
        obtain ⟨h7, rfl⟩ := h7 (by omega)
        obtain ⟨j, rfl⟩ := Int.eq_ofNat_of_zero_le hi0
        have hp : (0 : Int) ≤ (j : Int) * (sz : Int) := Int.mul_nonneg (by omega) (by omega)
        refine ⟨_, .sp h5 (by omega), fun h' _ dst ty pos aft g => ?_⟩
        have := o_ia (P := P) (h := h') (d := dst) (ty := ty) (pos := pos) (aft := aft) (g := g) (elemB_spec ht) rfl h2 h4 rfl (show j < n.toNat by omega)
        rw [show (o + (j : Int) * (sz : Int)).toNat = o.toNat + j * sz by rw [← Int.natCast_mul] at hp ⊢; omega]
        exact this
    | _ => cases hr
  | S b o n cp =>
    replace hr := asN_some hr
    obtain ⟨i, hik, hr⟩ := hr
    simp only [ifK_eq] at hr
    split at hr
    · rename_i hi
      rw [natK_eq] at hr
      refine ⟨_, hr, fun ρ h E hh he => ?_⟩
      obtain ⟨u, h1, h2⟩ := hx.ok ρ H h e E _ hh he ha
      obtain ⟨u', h3, h4⟩ := hy.ok ρ H h e E _ hh he hc
      obtain ⟨ik, rfl⟩ := hik.val h3
      cases h1 with
      | S h5 h6 h7 => exact ⟨_, .P h5, fun h' _ dst ty pos aft g => o_ia (elemB_spec ht) rfl h2 h4 rfl (show i < n from Nat.le_of_ble_eq_true hi)⟩
    · cases hr
  | _ => cases hr
theorem dat_ex {i : Nat} (hx : OpS P x xo) : DatS P (.extract x i) d (iEx d i xo) := by
  intro cx κ e H r hr
  simp only [iEx, hx.eq] at hr
  replace hr := bind_tr hr
  obtain ⟨a, ha, hr⟩ := hr
  split at hr
  · rw [nth_eq] at hr
    replace hr := bind_tr hr
    obtain ⟨v, hv, hr⟩ := hr
    refine ⟨_, hr, fun ρ h E hh he => ?_⟩
    obtain ⟨u, h1, h2⟩ := hx.ok ρ H h e E _ hh he ha
    cases h1 with
    | tup h3 =>
      obtain ⟨u, h4, h5⟩ := h3.get hv
      exact ⟨u, h5, fun h' _ dst ty pos aft g => o_ex h2 (by simpa using h4)⟩
  · cases hr
theorem dat_ix {t : Nat} (ht : P.underlying t = some .string) (hx : OpS P x xo) (hy : OpS P y yo) : DatS P (.index t x y) d (iIx d xo yo) := by
  intro cx κ e H r hr
  simp only [iIx, hx.eq] at hr
  replace hr := bind_tr hr
  obtain ⟨a, ha, hr⟩ := hr
  simp only [hy.eq] at hr
  replace hr := bind_tr hr
  obtain ⟨c, hc, hr⟩ := hr
  have main : ∀ (l : List Int), (∀ ρ w, VR ρ a w → VR ρ (.X (.bs false l)) w) → (∃ i : Nat, ∃ n, l[i]? = some n ∧ ZV c i ∧ Tr (put d (.X (.si .u8 (byteZ n))) κ e H) r) → ∃ v, Tr (put d v κ e H) r ∧ ∀ ρ h E, HR P ρ H h → ER ρ e E →
      ∃ u, VR ρ v u ∧ ∀ h', RdOk ρ (.index t x y) e h h' → ∀ dst ty pos aft g, Ev P E h' ⟨dst, .index t x y, ty, pos, aft, g⟩ u := by
    rintro l hl ⟨i, n, hs, hik, hr⟩
    refine ⟨_, hr, fun ρ h E hh he => ?_⟩
    obtain ⟨w, h1, h2⟩ := hx.ok ρ H h e E _ hh he ha
    obtain ⟨u', h3, h4⟩ := hy.ok ρ H h e E _ hh he hc
    obtain ⟨ik, rfl⟩ := hik.val h3
    replace h1 := hl _ _ h1
    cases h1
    refine ⟨_, .si, fun h' _ dst ty pos aft g => ?_⟩
    have hlt : i < l.length := (List.getElem?_eq_some_iff.1 hs).1
    rw [List.getElem?_eq_getElem hlt] at hs
    cases hs
    have := o_ixs (P := P) (h := h') (d := dst) (ty := ty) (pos := pos) (aft := aft) (g := g) (t := t) (b := UInt8.ofNat (l[i]).toNat) (by simp [Str, strB, ht]) h2 h4 rfl (by
      rw [getElem?_pos (⟨(l.map fun n => UInt8.ofNat n.toNat).toArray⟩ : ByteArray) i (by simpa [ByteArray.size] using hlt)]
      congr 1
      show (l.map fun n => UInt8.ofNat n.toNat).toArray[i]'(by simpa using hlt) = _
      simp)
    rw [show byteZ l[i] = ((UInt8.ofNat (l[i]).toNat).toNat : Int) by simp [byteZ]]
    exact this
  split at hr
  · rename_i _ s
    split at hr
    · rename_i _ ik n
      obtain ⟨⟨h0, h1⟩, hr⟩ := need_some hr
      obtain ⟨j, rfl⟩ := Int.eq_ofNat_of_zero_le h0
      have hj : j < (intsZ s).length := by omega
      refine main (intsZ s) (fun ρ w hw => ?_) ⟨j, (intsZ s)[j], by rw [List.getElem?_eq_getElem hj], ⟨ik, .inr rfl⟩, ?_⟩
      · cases hw
        have := VR.bs (ρ := ρ) (kn := false) (l := intsZ s)
        rwa [show (intsZ s).map (fun n => UInt8.ofNat n.toNat) = s from bytesZ_intsZ s] at this
      · simpa [List.getD_eq_getElem?_getD, List.getElem?_eq_getElem hj] using hr
    replace hr := asN_some hr
    obtain ⟨i, hik, hr⟩ := hr
    cases hs : s[i]? with
    | none => rw [hs] at hr; cases hr
    | some u =>
      rw [hs] at hr
      change Tr (natK u.toNat (fun n => put d (.I .u8 (.ofNat n)) κ e H)) r at hr
      rw [natK_eq] at hr
      refine ⟨_, hr, fun ρ h E hh he => ?_⟩
      obtain ⟨w, h1, h2⟩ := hx.ok ρ H h e E _ hh he ha
      obtain ⟨u', h3, h4⟩ := hy.ok ρ H h e E _ hh he hc
      obtain ⟨ik, rfl⟩ := hik.val h3; cases h1
      refine ⟨_, .I, fun h' _ dst ty pos aft g => o_ixs (by simp [Str, strB, ht]) h2 h4 rfl ?_⟩
      have : i < s.length := (List.getElem?_eq_some_iff.1 hs).1
      rw [List.getElem?_eq_getElem this] at hs
      cases hs
      rw [getElem?_pos (⟨s.toArray⟩ : ByteArray) i (by simpa [ByteArray.size] using this)]
      rfl
  · rename_i _ kn l
    refine main l (fun ρ w hw => by cases hw; exact .bs) ?_
    unfold ixB at hr
    split at hr
    · rename_i ik i
      cases hs : l[i]? with
      | none => rw [hs] at hr; cases hr
      | some n => rw [hs] at hr; exact ⟨i, n, hs, ⟨ik, .inl rfl⟩, hr⟩
    · replace hr := asZ_some hr
      obtain ⟨i, hik, hr⟩ := hr
      obtain ⟨⟨h0, h1⟩, hr⟩ := need_some hr
      obtain ⟨j, rfl⟩ := Int.eq_ofNat_of_zero_le h0
      have hj : j < l.length := by omega
      refine ⟨j, l[j], by rw [List.getElem?_eq_getElem hj], hik, ?_⟩
      simpa [List.getD_eq_getElem?_getD, List.getElem?_eq_getElem hj] using hr
  · cases hr
theorem dat_if {t : Nat} (ht : Conc P t) (hx : OpS P x xo) : DatS P (.makeInterface t x) d (iIf d t xo) := by
  intro cx κ e H r hr
  simp only [iIf, hx.eq] at hr
  replace hr := bind_tr hr
  obtain ⟨a, ha, hr⟩ := hr
  refine ⟨_, hr, fun ρ h E hh he => ?_⟩
  obtain ⟨u, h1, h2⟩ := hx.ok ρ H h e E _ hh he ha
  exact ⟨_, .ifc h1, fun h' _ dst ty pos aft g => o_mi ht h2⟩
theorem dat_fn {f : Nat} {first cap : Array Operand} {xs ys : EV → (List AV → Option R) → Option R} (hx : OpsS P first.toList xs) (hy : OpsS P cap.toList ys) : DatS P (.makeFunc (.func f) first cap) d (iFn d f xs ys) := by
  intro cx κ e H r hr
  simp only [iFn, hx.eq] at hr
  replace hr := bind_tr hr
  obtain ⟨a, ha, hr⟩ := hr
  simp only [hy.eq] at hr
  replace hr := bind_tr hr
  obtain ⟨c, hc, hr⟩ := hr
  refine ⟨_, hr, fun ρ h E hh he => ?_⟩
  obtain ⟨us, h1, h2⟩ := hx.ok ρ H h e E _ hh he ha
  obtain ⟨vs, h3, h4⟩ := hy.ok ρ H h e E _ hh he hc
  exact ⟨_, .fn h1 h3, fun h' _ dst ty pos aft g => o_mf h2 h4⟩
theorem dat_cv {s t : Nat} {k k' : IntKind} (hs : P.underlying s = some (.int k)) (ht : P.underlying t = some (.int k')) (hx : OpS P x xo) : DatS P (.convert s t x) d (iCv d k' xo) := by
  intro cx κ e H r hr
  simp only [iCv, hx.eq] at hr
  replace hr := bind_tr hr
  obtain ⟨a, ha, hr⟩ := hr
  replace hr := asI2_some hr
  rcases hr with ⟨ik, n, rfl, hr⟩ | ⟨ik, n, rfl, hr⟩
  · rw [wrapK_eq] at hr
    refine ⟨_, hr, fun ρ h E hh he => ?_⟩
    obtain ⟨us, h1, h2⟩ := hx.ok ρ H h e E _ hh he ha
    cases h1
    exact ⟨_, .I, fun h' _ dst ty pos aft g => o_cv (by simp [Tyk, someB, hs]) (by simp [Itk, intB, ht]) h2⟩
  · refine ⟨_, hr, fun ρ h E hh he => ?_⟩
    obtain ⟨us, h1, h2⟩ := hx.ok ρ H h e E _ hh he ha
    cases h1
    exact ⟨_, .si, fun h' _ dst ty pos aft g => o_cv (by simp [Tyk, someB, hs]) (by simp [Itk, intB, ht]) h2⟩
end Ry
end Go.TP
/-! Rz5. -/
namespace Go.TP
open Go
namespace Ry
variable {P : Program} {d : Option (Slot R)} {x y z : Operand} {xo yo zo : OD R}
theorem dat_len {t e' : Nat} (ht : P.underlying t = some (.slice e')) (hx : OpS P x xo) : DatS P (.call ⟨.builtin .len, #[x], #[t]⟩) d (iLen d xo) := by
  intro cx κ e H r hr
  simp only [iLen, hx.eq] at hr
  obtain ⟨a, ha, hr⟩ := bind_tr hr
  have key : ∃ v n, Tr (put d v κ e H) r ∧ ∀ ρ u, VR ρ a u → isSlice u = true ∧ VR ρ v (.int .i64 n) ∧ (sn u : Int) = n := by
    split at hr
    · exact ⟨_, _, hr, fun ρ u hu => by cases hu with | ss h1 h2 h3 h4 h5 => exact ⟨rfl, .si, Int.toNat_of_nonneg h2⟩⟩
    · unfold lenSl at hr
      split at hr
      · exact ⟨_, _, hr, fun ρ u hu => by cases hu; exact ⟨rfl, .I, rfl⟩⟩
      · exact ⟨_, _, hr, fun ρ u hu => by cases hu; exact ⟨rfl, .I, rfl⟩⟩
      · exact ⟨_, _, hr, fun ρ u hu => by cases hu; exact ⟨rfl, .I, rfl⟩⟩
      · cases hr
  obtain ⟨v, n, hr, hn⟩ := key
  refine ⟨_, hr, fun ρ h E hh he => ?_⟩
  obtain ⟨u, h1, h2⟩ := hx.ok ρ H h e E _ hh he ha
  obtain ⟨k1, k2, rfl⟩ := hn ρ u h1
  exact ⟨_, k2, fun h' _ dst ty pos aft g => o_len (by simp [SlcT, slcTB, ht]) k1 h2⟩
theorem dat_les {t : Nat} (ht : P.underlying t = some .string) (hx : OpS P x xo) : DatS P (.call ⟨.builtin .len, #[x], #[t]⟩) d (iLeS d xo) := by
  intro cx κ e H r hr
  simp only [iLeS, hx.eq] at hr
  obtain ⟨a, ha, hr⟩ := bind_tr hr
  have key : ∃ v n, Tr (put d v κ e H) r ∧ ∀ ρ u, VR ρ a u → ∃ s : ByteArray, u = .string s ∧ VR ρ v (.int .i64 n) ∧ (s.size : Int) = n := by
    split at hr
    · exact ⟨_, _, hr, fun ρ u hu => by cases hu; exact ⟨_, rfl, .si, by simp [ByteArray.size]⟩⟩
    · unfold lenStr at hr
      split at hr
      · rw [natK_eq] at hr
        exact ⟨_, _, hr, fun ρ u hu => by cases hu; exact ⟨_, rfl, .I, by simp [ByteArray.size]⟩⟩
      · rw [natK_eq] at hr
        exact ⟨_, _, hr, fun ρ u hu => by cases hu; exact ⟨_, rfl, .I, by simp [ByteArray.size]⟩⟩
      · cases hr
  obtain ⟨v, n, hr, hn⟩ := key
  refine ⟨_, hr, fun ρ h E hh he => ?_⟩
  obtain ⟨u, h1, h2⟩ := hx.ok ρ H h e E _ hh he ha
  obtain ⟨s, rfl, k2, rfl⟩ := hn ρ u h1
  exact ⟨_, k2, fun h' _ dst ty pos aft g => o_len_s (P := P) (h := h') (d := dst) (ty := ty) (pos := pos) (aft := aft) (g := g) (t := t) (by simp [Str, strB, ht]) h2⟩
theorem dat_cap {t e' : Nat} (ht : P.underlying t = some (.slice e')) (hx : OpS P x xo) : DatS P (.call ⟨.builtin .cap, #[x], #[t]⟩) d (iCap d xo) := by
  intro cx κ e H r hr
  simp only [iCap, hx.eq] at hr
  obtain ⟨a, ha, hr⟩ := bind_tr hr
  split at hr
  · refine ⟨_, hr, fun ρ h E hh he => ?_⟩
    obtain ⟨u, h1, h2⟩ := hx.ok ρ H h e E _ hh he ha
    cases h1
    refine ⟨_, .I, fun h' _ dst ty pos aft g => o_bi (vals := [_]) (by simp [evs, h2]; rfl) fun w cs => ?_⟩
    simp [builtin, Builtin.cap_, run_underlying ht, goInt]
  · refine ⟨_, hr, fun ρ h E hh he => ?_⟩
    obtain ⟨u, h1, h2⟩ := hx.ok ρ H h e E _ hh he ha
    cases h1 with
    | S h3 h4 h5 =>
      cases h4
      refine ⟨_, .I, fun h' _ dst ty pos aft g => o_bi (vals := [_]) (by simp [evs, h2]; rfl) fun w cs => ?_⟩
      simp [builtin, Builtin.cap_, run_underlying ht, goInt]
  · cases hr
theorem dat_mx {ts : Array TypeId} (hx : OpS P x xo) (hy : OpS P y yo) : DatS P (.call ⟨.builtin .max, #[x, y], ts⟩) d (iMx d xo yo) := by
  intro cx κ e H r hr
  simp only [iMx, hx.eq] at hr
  obtain ⟨a, ha, hr⟩ := bind_tr hr
  replace hr := asI2_some hr
  rcases hr with ⟨ik, m, rfl, hr⟩ | ⟨ik, m, rfl, hr⟩ <;> simp only [hy.eq] at hr <;> obtain ⟨b, hb, hr⟩ := bind_tr hr <;> replace hr := asI2_some hr <;> rcases hr with ⟨jk, n, rfl, hr⟩ | ⟨jk, n, rfl, hr⟩ <;> try rw [out_eq] at hr
  all_goals
    refine ⟨_, hr, fun ρ h E hh he => ?_⟩
    obtain ⟨u, h1, h2⟩ := hx.ok ρ H h e E _ hh he ha
    obtain ⟨u', h3, h4⟩ := hy.ok ρ H h e E _ hh he hb
    cases h1; cases h3
    first | exact ⟨_, .I, fun h' _ dst ty pos aft g => o_max h2 h4⟩ | exact ⟨_, .si, fun h' _ dst ty pos aft g => o_max h2 h4⟩
theorem dat_mn {ts : Array TypeId} (hx : OpS P x xo) (hy : OpS P y yo) : DatS P (.call ⟨.builtin .min, #[x, y], ts⟩) d (iMn d xo yo) := by
  intro cx κ e H r hr
  simp only [iMn, hx.eq] at hr
  obtain ⟨a, ha, hr⟩ := bind_tr hr
  replace hr := asI2_some hr
  rcases hr with ⟨ik, m, rfl, hr⟩ | ⟨ik, m, rfl, hr⟩ <;> simp only [hy.eq] at hr <;> obtain ⟨b, hb, hr⟩ := bind_tr hr <;> replace hr := asI2_some hr <;> rcases hr with ⟨jk, n, rfl, hr⟩ | ⟨jk, n, rfl, hr⟩ <;> try rw [out_eq] at hr
  all_goals
    refine ⟨_, hr, fun ρ h E hh he => ?_⟩
    obtain ⟨u, h1, h2⟩ := hx.ok ρ H h e E _ hh he ha
    obtain ⟨u', h3, h4⟩ := hy.ok ρ H h e E _ hh he hb
    cases h1; cases h3
    first | exact ⟨_, .I, fun h' _ dst ty pos aft g => o_min h2 h4⟩ | exact ⟨_, .si, fun h' _ dst ty pos aft g => o_min h2 h4⟩
theorem zeroB_spec {t : Nat} {z : AV} (h : zeroB P t = some z) : ∃ inf zv, P.info? t = some inf ∧ inf.zero = some zv ∧ ofV zv = some z := by
  unfold zeroB at h
  split at h
  · rename_i inf h1
    split at h
    · rename_i zv h2; exact ⟨inf, zv, h1, h2, h⟩
    · cases h
  · cases h
theorem dat_ta {xt t : Nat} {ok : Bool} {dd : TypeDesc} {zz : AV} (ht : P.underlying t = some dd) (hni : ∀ ms, dd ≠ .interface ms) (hz : zeroB P t = some zz) (hx : OpS P x xo) : DatS P (.typeAssert x xt t ok) d (iTa d t ok zz xo) := by
  obtain ⟨inf, zv, z1, z2, z3⟩ := zeroB_spec hz
  have keyT : ∀ (ok : Bool) (wv : Value) (w : World), (Instr.typeAssert (.iface t wv) xt t ok).run P w = .ok (if ok then .tuple #[wv, .bool true] else wv) w := by
    intro ok wv w
    cases dd <;> first | exact absurd rfl (hni _) | (cases ok <;> simp [Instr.typeAssert, run_underlying ht])
  have keyF : ∀ (u : Nat) (wv : Value) (w : World), u ≠ t → (Instr.typeAssert (.iface u wv) xt t true).run P w = .ok (.tuple #[zv, .bool false]) w := by
    intro u wv w hu
    cases dd <;> first | exact absurd rfl (hni _) | simp [Instr.typeAssert, run_underlying ht, hu, zeroValue, typeInfo, z1, z2]
  have key0 : ∀ (w : World), (Instr.typeAssert .nilIface xt t true).run P w = .ok (.tuple #[zv, .bool false]) w := by
    intro w
    cases dd <;> first | exact absurd rfl (hni _) | simp [Instr.typeAssert, run_underlying ht, zeroValue, typeInfo, z1, z2]
  intro cx κ e H r hr
  simp only [iTa, hx.eq] at hr
  replace hr := bind_tr hr
  obtain ⟨a, ha, hr⟩ := hr
  split at hr
  · rename_i _ u wv
    rw [ifK_eq] at hr
    split at hr
    · rename_i hb
      have hut := Nat.eq_of_beq_eq_true hb
      subst hut
      refine ⟨_, hr, fun ρ h E hh he => ?_⟩
      obtain ⟨u', h1, h2⟩ := hx.ok ρ H h e E _ hh he ha
      cases h1 with
      | ifc h3 =>
        refine ⟨_, .tup (.cons h3 (.cons .B .nil)), fun h' _ dst ty pos aft g => fun σ w hA _ => ⟨?_, rfl⟩⟩
        simp only [execOp, hA x _ h2, Sem.run_bind, keyT, if_true, Result.andThen]
        rfl
    · rename_i hb
      have hne : ¬ u = t := fun hu => hb (by rw [hu]; simp)
      refine ⟨_, hr, fun ρ h E hh he => ?_⟩
      obtain ⟨u', h1, h2⟩ := hx.ok ρ H h e E _ hh he ha
      cases h1 with
      | ifc h3 =>
        refine ⟨_, .tup (.cons (ofV_VR ρ z3) (.cons .B .nil)), fun h' _ dst ty pos aft g => fun σ w hA _ => ⟨?_, rfl⟩⟩
        simp only [execOp, hA x _ h2, Sem.run_bind, keyF _ _ _ hne, Result.andThen]
        rfl
  · rename_i _ u wv
    rw [ifK_eq] at hr
    split at hr
    · rename_i hb
      have hut := Nat.eq_of_beq_eq_true hb
      subst hut
      refine ⟨_, hr, fun ρ h E hh he => ?_⟩
      obtain ⟨u', h1, h2⟩ := hx.ok ρ H h e E _ hh he ha
      cases h1 with
      | ifc h3 =>
        refine ⟨_, h3, fun h' _ dst ty pos aft g => fun σ w hA _ => ⟨?_, rfl⟩⟩
        simp only [execOp, hA x _ h2, Sem.run_bind, keyT, if_true, Result.andThen]
        rfl
    · cases hr
  · refine ⟨_, hr, fun ρ h E hh he => ?_⟩
    obtain ⟨u', h1, h2⟩ := hx.ok ρ H h e E _ hh he ha
    cases h1
    refine ⟨_, .tup (.cons (ofV_VR ρ z3) (.cons .B .nil)), fun h' _ dst ty pos aft g => fun σ w hA _ => ⟨?_, rfl⟩⟩
    simp only [execOp, hA x _ h2, Sem.run_bind, key0, Result.andThen]
    rfl
  · cases hr
end Ry
end Go.TP
/-! Rz6. -/
namespace Go.TP
open Go
namespace Ry
variable {P : Program} {d : Option (Slot R)} {x y z : Operand} {xo yo zo : OD R}
theorem run_sl {t T sz n m l h : Nat} (ht : Slc P t T sz) (a : Option Addr) (lo hi : Option Value) (hlo : (lo = none ∧ l = 0) ∨ ∃ k, lo = some (.int k (l : Nat))) (hhi : (hi = none ∧ h = n) ∨ ∃ k, hi = some (.int k (h : Nat)))
    (h1 : l ≤ h) (h2 : h ≤ m) (hnm : n ≤ m) (w : World) : (Instr.sliceAt t (.slice a n m) lo hi none).run P w = .ok (sliced a l h m sz) w := by
  obtain ⟨h3, inf, h4, h5⟩ := ht.spec
  have he : P.underlying t = some (.slice (P.elem t)) := by simp [Program.elem, h3]
  have hel : P.elem t = T := by simp [Program.elem, h3]
  have hs : (sizeOf (P.elem t)).run P w = .ok sz w := by simp [sizeOf, typeInfo, hel, h4, h5]
  rw [run_sliceAt_slice w t _ lo hi none he]
  rcases hlo with ⟨rfl, rfl⟩ | ⟨k, rfl⟩ <;> rcases hhi with ⟨rfl, rfl⟩ | ⟨k', rfl⟩
  · rw [run_slice_all w t a h m he, hs]; rfl
  · rw [run_slice_h w t a n m he k' h (by omega) (by omega), hs]; simp [Result.andThen]
  · rw [run_slice_l w t a h m he k l (by omega) (by omega), hs]; simp [Result.andThen]
  · rw [run_slice_lh w t a n m he k k' l h (by omega) (by omega) (by omega), hs]; simp [Result.andThen]
def OptS (P : Program) : Option Operand → Option (OD R) → Prop
  | none, none => True
  | some x, some xo => OpS P x xo
  | _, _ => False
theorem bds_some {lo hi : Option Operand} {loo hio : Option (OD R)} (hl : OptS P lo loo) (hh : OptS P hi hio) {e : EV} {go : Nat → Option Nat → Option R} {r : R} (hr : Tr (bds loo hio e go) r) :
    ∃ l h, Tr (go l h) r ∧ ∀ ρ H hp E, HR P ρ H hp → ER ρ e E → (∀ σ, Agree E σ → ((lo.map σ = none ∧ l = 0) ∨ ∃ k, lo.map σ = some (.int k (l : Nat))) ∧ ∀ n, ((hi.map σ = none ∧ hiOf h n = n) ∨ ∃ k, hi.map σ = some (.int k (hiOf h n : Nat)))) := by
  have hi_ : ∀ (l : Nat), Tr (Option.rec (go l none) (fun hi => hi e fun h => asN h fun h => go l (some h)) hio : Option R) r → ∃ h, Tr (go l h) r ∧ ∀ ρ H hp E, HR P ρ H hp → ER ρ e E → ∀ σ, Agree E σ → ∀ n, ((hi.map σ = none ∧ hiOf h n = n) ∨ ∃ k, hi.map σ = some (.int k (hiOf h n : Nat))) := by
    intro l hr
    cases hi with
    | none => cases hio with
      | none => exact ⟨none, hr, fun _ _ _ _ _ _ _ _ _ => .inl ⟨rfl, rfl⟩⟩
      | some _ => exact hh.elim
    | some x => cases hio with
      | none => exact hh.elim
      | some xo =>
        have hx : OpS P x xo := hh
        change Tr (xo e (fun h => asN h fun h => go l (some h))) r at hr
        rw [hx.eq] at hr
        replace hr := bind_tr hr
        obtain ⟨a, ha, hr⟩ := hr
        replace hr := asN_some hr
        obtain ⟨h, hik, hr⟩ := hr
        refine ⟨some h, hr, fun ρ H hp E k1 k2 σ hA n => .inr ?_⟩
        obtain ⟨u, k3, k4⟩ := hx.ok ρ H hp e E _ k1 k2 ha
        obtain ⟨ik, rfl⟩ := hik.val k3
        exact ⟨ik, by simp [hA x _ k4, hiOf]⟩
  cases lo with
  | none => cases loo with
    | none =>
      obtain ⟨h, h1, h2⟩ := hi_ 0 hr
      exact ⟨0, h, h1, fun ρ H hp E k1 k2 σ hA => ⟨.inl ⟨rfl, rfl⟩, h2 ρ H hp E k1 k2 σ hA⟩⟩
    | some _ => exact hl.elim
  | some x => cases loo with
    | none => exact hl.elim
    | some xo =>
      have hx : OpS P x xo := hl
      change Tr (xo e (fun l => asN l fun l => Option.rec (go l none) (fun hi => hi e fun h => asN h fun h => go l (some h)) hio)) r at hr
      rw [hx.eq] at hr
      replace hr := bind_tr hr
      obtain ⟨a, ha, hr⟩ := hr
      replace hr := asN_some hr
      obtain ⟨l, hik, hr⟩ := hr
      obtain ⟨h, h1, h2⟩ := hi_ l hr
      refine ⟨l, h, h1, fun ρ H hp E k1 k2 σ hA => ⟨.inr ?_, h2 ρ H hp E k1 k2 σ hA⟩⟩
      obtain ⟨u, k3, k4⟩ := hx.ok ρ H hp e E _ k1 k2 ha
      obtain ⟨ik, rfl⟩ := hik.val k3
      exact ⟨ik, by simp [hA x _ k4]⟩
theorem slPart_some {sz l : Nat} {h : Option Nat} {v : AV} {k : AV → Option R} {r : R} (hr : Tr (slPart sz v l h k) r) : ∃ v', Tr (k v') r ∧ ∀ ρ u, VR ρ v u →
    ∃ a n m, u = .slice a n m ∧ n ≤ m ∧ l ≤ hiOf h n ∧ hiOf h n ≤ m ∧ VR ρ v' (sliced a l (hiOf h n) m sz) := by
  cases v with
  | S b o n cp =>
    simp only [slPart, natK_eq, ifK_eq] at hr
    split at hr
    · rename_i h1
      have h1 := Nat.le_of_ble_eq_true h1
      cases cp with
      | kn c =>
        simp only at hr
        split at hr
        · rename_i h2
          have h2 := Nat.le_of_ble_eq_true h2
          cases hc : Nat.sub c l with
          | zero =>
            rw [hc] at hr
            refine ⟨_, hr, fun ρ u hu => ?_⟩
            cases hu with
            | S k1 k2 k3 =>
              cases k2
              have : c - l = 0 := hc
              refine ⟨_, n, c, rfl, k3, h1, h2, ?_⟩
              have hcl : c = l := by omega
              unfold sliced
              rw [if_pos hcl]
              exact .S k1 (show c - l = 0 from hc) (by show Nat.sub (hiOf h n) l ≤ _; simp; omega)
          | succ c' =>
            rw [hc] at hr
            simp only [natK_eq] at hr
            refine ⟨_, hr, fun ρ u hu => ?_⟩
            cases hu with
            | S k1 k2 k3 =>
              cases k2
              have hc' : c - l = c' + 1 := hc
              refine ⟨_, n, c, rfl, k3, h1, h2, ?_⟩
              unfold sliced
              rw [if_neg (by omega)]
              simp only [Option.map_some, addr_add]
              exact .S k1 (show c - l = Nat.succ c' from hc) (by show Nat.sub (hiOf h n) l ≤ _; simp; omega)
        · cases hr
      | un q =>
        simp only at hr
        split at hr
        · rename_i h2
          have h2 := Nat.le_of_ble_eq_true h2
          cases l with
          | zero =>
            refine ⟨_, hr, fun ρ u hu => ?_⟩
            cases hu with
            | S k1 k2 k3 =>
              refine ⟨_, n, _, rfl, k3, h1, by omega, ?_⟩
              unfold sliced
              simp only [Nat.zero_mul, Nat.sub_zero, Option.map_some, addr_add, Nat.add_zero, ite_self]
              exact .S k1 k2 (by simp; omega)
          | succ l' =>
            cases hm : Nat.sub (hiOf h n) (l' + 1) with
            | zero =>
              rw [hm] at hr
              refine ⟨_, hr, fun ρ u hu => ?_⟩
              cases hu with
              | S k1 k2 k3 =>
                have hm' : hiOf h n - (l' + 1) = 0 := hm
                refine ⟨_, n, _, rfl, k3, h1, by omega, ?_⟩
                unfold sliced
                rw [hm']
                split
                · exact .slz
                · simp only [Option.map_some, addr_add]; exact .slz
            | succ m' =>
              rw [hm] at hr
              simp only [natK_eq] at hr
              refine ⟨_, hr, fun ρ u hu => ?_⟩
              cases hu with
              | S k1 k2 k3 =>
                have hm' : hiOf h n - (l' + 1) = m' + 1 := hm
                rename_i m _
                refine ⟨_, n, m, rfl, k3, h1, by omega, ?_⟩
                unfold sliced
                rw [if_neg (by omega), hm']
                simp only [Option.map_some, addr_add]
                have k2' : m + q = _ := k2
                exact .S k1 (show m - (l' + 1) + Nat.add q (Nat.succ l') = _ by show m - (l' + 1) + (q + (l' + 1)) = _; omega) (by show m' + 1 ≤ _; omega)
        · cases hr
    · cases hr
  | X xv =>
    cases xv with
    | nils =>
      simp only [slPart, natK_eq, ifK_eq] at hr
      split at hr
      · rename_i h1
        simp only [Bool.and_eq_true] at h1
        obtain ⟨h1, h2⟩ := h1
        have h1 := Nat.eq_of_beq_eq_true h1
        have h2 := Nat.eq_of_beq_eq_true h2
        refine ⟨_, hr, fun ρ u hu => ?_⟩
        cases hu
        refine ⟨none, 0, 0, rfl, Nat.le_refl _, by omega, by omega, ?_⟩
        rw [h1, h2]
        exact .nils
      · cases hr
    | _ => cases hr
  | _ => cases hr
theorem bdZ_some {lo : Option Operand} {loo : Option (OD R)} (hl : OptS P lo loo) {e : EV} {dflt : AV} {go : AV → Option R} {r : R} (hr : Tr (bdZ loo e dflt go) r) :
    ∃ v, Tr (go v) r ∧ ∀ ρ H hp E n, HR P ρ H hp → ER ρ e E → ZV v n → ∀ σ, Agree E σ → (lo.map σ = none ∧ v = dflt) ∨ ∃ k, lo.map σ = some (.int k n) := by
  cases lo with
  | none => cases loo with
    | none => exact ⟨dflt, hr, fun _ _ _ _ _ _ _ _ _ _ => .inl ⟨rfl, rfl⟩⟩
    | some _ => exact hl.elim
  | some x => cases loo with
    | none => exact hl.elim
    | some xo =>
      have hx : OpS P x xo := hl
      change Tr (xo e go) r at hr
      rw [hx.eq] at hr
      replace hr := bind_tr hr
      obtain ⟨a, ha, hr⟩ := hr
      refine ⟨a, hr, fun ρ H hp E n k1 k2 hz σ hA => .inr ?_⟩
      obtain ⟨u, k3, k4⟩ := hx.ok ρ H hp e E _ k1 k2 ha
      obtain ⟨ik, rfl⟩ := hz.val k3
      exact ⟨ik, by simp [hA x _ k4]⟩
theorem run_sls {t : Nat} (ht : P.underlying t = some .string) (s : ByteArray) {l h : Nat} (lo hi : Option Value) (hlo : (lo = none ∧ l = 0) ∨ ∃ k, lo = some (.int k (l : Nat))) (hhi : (hi = none ∧ h = s.size) ∨ ∃ k, hi = some (.int k (h : Nat)))
    (h1 : l ≤ h) (h2 : h ≤ s.size) (w : World) : (Instr.sliceAt t (.string s) lo hi none).run P w = .ok (.string (s.extract l h)) w := by
  rw [run_sliceAt_string w t _ lo hi none ht]
  rcases hlo with ⟨rfl, rfl⟩ | ⟨k, rfl⟩ <;> rcases hhi with ⟨rfl, rfl⟩ | ⟨k', rfl⟩
  · rw [run_slice_string_all w t s ht]
  · rw [run_slice_string_h w t s ht k' h (by omega) (by omega)]; simp
  · rw [run_slice_string_l w t s ht k l (by omega) (by omega)]; simp
  · rw [run_slice_string w t s k k' l h ht (by omega) (by omega) (by omega)]; simp
theorem extract_list (L : List UInt8) (l h : Nat) : (⟨L.toArray⟩ : ByteArray).extract l h = ⟨((L.drop l).take (h - l)).toArray⟩ := by
  ext1
  simp [ByteArray.data_extract, List.extract_eq_take_drop]
theorem dat_sl {t T sz : Nat} {lo hi : Option Operand} {loo hio : Option (OD R)} (ht : elemB P t = some (T, sz)) (hx : OpS P x xo) (hl : OptS P lo loo) (hh : OptS P hi hio) : DatS P (.slice t x lo hi none) d (iSl d sz xo loo hio) := by
  intro cx κ e H r hr
  simp only [iSl, hx.eq] at hr
  replace hr := bind_tr hr
  obtain ⟨a, ha, hr⟩ := hr
  split at hr
  · rename_i b o n cq
    obtain ⟨lv, hr, hb1⟩ := bdZ_some hl hr
    obtain ⟨hv, hr, hb2⟩ := bdZ_some hh hr
    obtain ⟨l, hzl, hr⟩ := asZ_some hr
    obtain ⟨h, hzh, hr⟩ := asZ_some hr
    obtain ⟨⟨q1, q2, q3⟩, hr⟩ := need_some hr
    refine ⟨_, hr, fun ρ hp E k1 k2 => ?_⟩
    obtain ⟨u, h1, h2⟩ := hx.ok ρ H hp e E _ k1 k2 ha
    cases h1 with
    | ss h3 h4 h5 h6 h7 =>
      rename_i lo' og m
      obtain ⟨l, rfl⟩ := Int.eq_ofNat_of_zero_le q1
      obtain ⟨h, rfl⟩ := Int.eq_ofNat_of_zero_le (show (0 : Int) ≤ h by omega)
      obtain ⟨n, rfl⟩ := Int.eq_ofNat_of_zero_le h4
      have hp0 : (0 : Int) ≤ (l : Int) * (sz : Int) := Int.mul_nonneg (by omega) (by omega)
      refine ⟨.slice (some ⟨lo'.g, if m = l then og else og + l * sz, none⟩) ((h : Int) - l).toNat (m - l), .ss h3 (by omega) (fun hlt => ?_) (fun q hq => by cases hq) (by omega), fun h' _ dst ty pos aft g => fun σ w hA _ => ⟨?_, rfl⟩⟩
      · obtain ⟨h5, rfl⟩ := h5 (by omega)
        rw [if_neg (by omega)]
        refine ⟨by omega, ?_⟩
        rw [← Int.natCast_mul] at hp0 ⊢
        omega
      · have b1 := hb1 ρ H hp E _ k1 k2 hzl σ hA
        have b2 := hb2 ρ H hp E _ k1 k2 hzh σ hA
        have := run_sl (elemB_spec ht) (some ⟨lo'.g, og, none⟩) (n := n) (m := m) (l := l) (h := h) (lo.map σ) (hi.map σ) (by
          rcases b1 with ⟨b1, rfl⟩ | b1
          · refine .inl ⟨b1, ?_⟩
            obtain ⟨ik, hk | hk⟩ := hzl
            · cases hk; rfl
            · cases hk
          · exact .inr b1) (by
          rcases b2 with ⟨b2, rfl⟩ | b2
          · refine .inl ⟨b2, ?_⟩
            obtain ⟨ik, hk | hk⟩ := hzh
            · cases hk
            · injection hk with hk; injection hk with _ hk; omega
          · exact .inr b2) (by omega) (by simp at h7; omega) (by simpa using h7) w
        simp only [execOp, hA x _ h2, Option.map_none, Sem.run_bind, Int.toNat_natCast, this, Result.andThen]
        unfold sliced
        simp only [Option.map_some, addr_add]
        rw [show ((h : Int) - (l : Int)).toNat = h - l by omega]
        split <;> rfl
  obtain ⟨l, h, hr, hb⟩ := bds_some hl hh hr
  obtain ⟨v', hr, hv⟩ := slPart_some hr
  refine ⟨_, hr, fun ρ hp E k1 k2 => ?_⟩
  obtain ⟨u, h1, h2⟩ := hx.ok ρ H hp e E _ k1 k2 ha
  obtain ⟨aa, n, m, rfl, h3, h4, h5, h6⟩ := hv ρ u h1
  refine ⟨_, h6, fun h' _ dst ty pos aft g => fun σ w hA _ => ⟨?_, rfl⟩⟩
  obtain ⟨b1, b2⟩ := hb ρ H hp E k1 k2 σ hA
  have := run_sl (elemB_spec ht) aa (lo.map σ) (hi.map σ) b1 (b2 n) h4 h5 h3 w
  simp only [execOp, hA x _ h2, Option.map_none, Sem.run_bind, this, Result.andThen]
  rfl
theorem dat_ss {t : Nat} {lo hi : Option Operand} {loo hio : Option (OD R)} (ht : P.underlying t = some .string) (hx : OpS P x xo) (hl : OptS P lo loo) (hh : OptS P hi hio) : DatS P (.slice t x lo hi none) d (iSs d xo loo hio) := by
  intro cx κ e H r hr
  simp only [iSs, hx.eq] at hr
  replace hr := bind_tr hr
  obtain ⟨a, ha, hr⟩ := hr
  split at hr
  · rename_i s
    obtain ⟨l, h, hr, hb⟩ := bds_some hl hh hr
    rw [natK_eq, ifK_eq] at hr
    split at hr
    · rename_i hc
      simp only [Bool.and_eq_true] at hc
      have c1 := Nat.le_of_ble_eq_true hc.1
      have c2 := Nat.le_of_ble_eq_true hc.2
      refine ⟨_, hr, fun ρ hp E k1 k2 => ?_⟩
      obtain ⟨u, h1, h2⟩ := hx.ok ρ H hp e E _ k1 k2 ha
      cases h1
      refine ⟨_, .str, fun h' _ dst ty pos aft g => fun σ w hA _ => ⟨?_, rfl⟩⟩
      obtain ⟨b1, b2⟩ := hb ρ H hp E k1 k2 σ hA
      have := run_sls ht ⟨s.toArray⟩ (lo.map σ) (hi.map σ) b1 (b2 s.length) c1 c2 w
      simp only [execOp, hA x _ h2, Option.map_none, Sem.run_bind, this, Result.andThen]
      rw [extract_list]
      rfl
    · cases hr
  · rename_i kn s
    obtain ⟨lv, hr, hb1⟩ := bdZ_some hl hr
    obtain ⟨hv, hr, hb2⟩ := bdZ_some hh hr
    have key : ∃ (l h : Nat) (kn' : Bool), l ≤ h ∧ h ≤ s.length ∧ ZV lv l ∧ ZV hv h ∧ Tr (put d (.X (.bs kn' ((s.drop l).take (h - l)))) κ e H) r := by
      unfold subB at hr
      split at hr
      · rw [ifK_eq] at hr
        split at hr
        · rename_i hc
          simp only [Bool.and_eq_true] at hc
          exact ⟨_, _, true, Nat.le_of_ble_eq_true hc.1, Nat.le_of_ble_eq_true hc.2, ⟨_, .inl rfl⟩, ⟨_, .inl rfl⟩, hr⟩
        · cases hr
      · obtain ⟨l, hzl, hr⟩ := asZ_some hr
        obtain ⟨h, hzh, hr⟩ := asZ_some hr
        obtain ⟨⟨q1, q2, q3⟩, hr⟩ := need_some hr
        obtain ⟨l, rfl⟩ := Int.eq_ofNat_of_zero_le q1
        obtain ⟨h, rfl⟩ := Int.eq_ofNat_of_zero_le (show (0 : Int) ≤ h by omega)
        rw [show ((h : Int) - (l : Int)).toNat = h - l by omega, Int.toNat_natCast] at hr
        exact ⟨l, h, false, by omega, by omega, hzl, hzh, hr⟩
    obtain ⟨l, h, kn', c1, c2, hzl, hzh, hr⟩ := key
    refine ⟨_, hr, fun ρ hp E k1 k2 => ?_⟩
    obtain ⟨u, h1, h2⟩ := hx.ok ρ H hp e E _ k1 k2 ha
    cases h1
    refine ⟨_, .bs, fun h' _ dst ty pos aft g => fun σ w hA _ => ⟨?_, rfl⟩⟩
    have b1 := hb1 ρ H hp E _ k1 k2 hzl σ hA
    have b2 := hb2 ρ H hp E _ k1 k2 hzh σ hA
    have := run_sls ht ⟨(s.map fun n => UInt8.ofNat n.toNat).toArray⟩ (l := l) (h := h) (lo.map σ) (hi.map σ) (by
      rcases b1 with ⟨b1, rfl⟩ | b1
      · refine .inl ⟨b1, ?_⟩
        obtain ⟨ik, hk | hk⟩ := hzl
        · injection hk with _ hk; omega
        · cases hk
      · exact .inr b1) (by
      rcases b2 with ⟨b2, rfl⟩ | b2
      · refine .inl ⟨b2, ?_⟩
        simp only [ByteArray.size, List.size_toArray, List.length_map]
        cases kn with
        | true =>
          obtain ⟨ik, hk | hk⟩ := hzh
          · injection hk with _ hk
            have : (s.length : Int) = h := hk
            omega
          · cases hk
        | false =>
          obtain ⟨ik, hk | hk⟩ := hzh
          · cases hk
          · injection hk with hk
            injection hk with _ hk
            omega
      · exact .inr b2) c1 (by simpa [ByteArray.size] using c2) w
    simp only [execOp, hA x _ h2, Option.map_none, Sem.run_bind, this, Result.andThen]
    rw [extract_list, List.map_take, List.map_drop]
    rfl
  · cases hr
end Ry
end Go.TP
/-! Rz7. -/
namespace Go.TP
open Go
namespace Ry
variable {P : Program} {d : Option (Slot R)} {x y z : Operand} {xo yo zo : OD R}
theorem slCells_some {H : AH} {sz : Nat} {v : AV} {k : List AV → Option R} {r : R} (hr : Tr (slCells H sz v k) r) : ∃ cs n, Tr (k cs) r ∧ cs.length = n * sz ∧ ∀ ρ h u, HR P ρ H h → VR ρ v u →
    ∃ a m us, u = .slice a n m ∧ VRs ρ cs us ∧ (a = none → n = 0) ∧ (∀ ad, a = some ad → ad.spot = none) ∧ (∀ ad, a = some ad → ∀ h', (∀ b, blkOf (some v) = some b → ∀ lo, ρ b = some lo → h'[lo.g]? = h[lo.g]?) → ∀ j u, us[j]? = some u → cel h' ad.block (ad.off + j) = some u) := by
  unfold slCells at hr
  split at hr
  · rename_i b o n cp
    cases n with
    | zero =>
      refine ⟨[], 0, hr, by simp, fun ρ h u hh hu => ?_⟩
      cases hu with
      | S h1 h2 h3 => exact ⟨_, _, [], rfl, .nil, fun h => by (cases h), fun ad h => by cases h; rfl, fun _ _ _ _ j u hj => by simp at hj⟩
    | succ n =>
      replace hr : Tr (blk H b (fun B => cells0 B fun _ _ _ cs => dropK cs o fun l => takeK l (Nat.mul (Nat.succ n) sz) k)) r := hr
      replace hr := blk_some hr
      obtain ⟨B, hB, hr⟩ := hr
      replace hr := cells0_some hr
      obtain ⟨T, m, s, cs, rfl, hbase, hr⟩ := hr
      rw [dropK_eq] at hr
      split at hr
      · rw [takeK_eq] at hr
        split at hr
        · rename_i hle hlt
          refine ⟨_, n + 1, hr, by rw [List.length_take]; exact Nat.min_eq_left hlt, fun ρ h u hh hu => ?_⟩
          cases hu with
          | S h1 h2 h3 =>
            obtain ⟨lo, h4, h5⟩ := hh.blk b _ hB
            rw [h1] at h4
            cases h4
            obtain ⟨us, h6, h7⟩ := h5.read hbase
            refine ⟨_, _, _, rfl, (h6.drop o).take _, fun h => by (cases h), fun ad h => (by cases h; rfl), fun ad had h' hk j u hj => ?_⟩
            cases had
            rw [List.getElem?_take] at hj
            split at hj
            · rw [List.getElem?_drop] at hj
              have := h7 (o + j) u hj
              unfold cel at this ⊢
              rw [hk b rfl _ h1]
              exact this
            · cases hj
        · cases hr
      · cases hr
  · refine ⟨[], 0, hr, by simp, fun ρ h u hh hu => ?_⟩
    cases hu
    exact ⟨none, 0, [], rfl, .nil, fun _ => rfl, (fun _ h => by cases h), (fun _ h => by cases h)⟩
  · refine ⟨[], 0, hr, by simp, fun ρ h u hh hu => ?_⟩
    cases hu
    exact ⟨_, _, [], rfl, .nil, fun h => by (cases h), fun ad h => (by cases h; rfl), fun _ _ _ _ j u hj => by simp at hj⟩
  · cases hr
theorem bytesOf_some {ρ : Rn} : ∀ {cs : List AV} {s : List UInt8} {us : List Value}, bytesOf cs = some s → VRs ρ cs us → ∃ ns : List Int, us = ns.map (Value.int .u8) ∧ s = ns.map fun n => UInt8.ofNat n.toNat
  | [], _, _, h, hv => by cases h; cases hv; exact ⟨[], rfl, rfl⟩
  | .I .u8 n :: l, _, _, h, hv => by
    unfold bytesOf at h
    split at h
    · rename_i r hr
      cases h
      cases hv with
      | cons h1 h2 =>
        cases h1
        obtain ⟨ns, h3, h4⟩ := bytesOf_some hr h2
        exact ⟨n :: ns, by rw [h3]; rfl, by rw [h4]; rfl⟩
    · cases h
  | .I .i8 _ :: _, _, _, h, _ => by simp [bytesOf] at h
  | .I .i16 _ :: _, _, _, h, _ => by simp [bytesOf] at h
  | .I .i32 _ :: _, _, _, h, _ => by simp [bytesOf] at h
  | .I .i64 _ :: _, _, _, h, _ => by simp [bytesOf] at h
  | .I .u16 _ :: _, _, _, h, _ => by simp [bytesOf] at h
  | .I .u32 _ :: _, _, _, h, _ => by simp [bytesOf] at h
  | .I .u64 _ :: _, _, _, h, _ => by simp [bytesOf] at h
  | .B _ :: _, _, _, h, _ => by simp [bytesOf] at h
  | .P _ _ :: _, _, _, h, _ => by simp [bytesOf] at h
  | .S _ _ _ _ :: _, _, _, h, _ => by simp [bytesOf] at h
  | .X _ :: _, _, _, h, _ => by simp [bytesOf] at h
theorem intsOf_some {ρ : Rn} : ∀ {cs : List AV} {s : List Int} {us : List Value}, intsOf cs = some s → VRs ρ cs us → us = s.map (Value.int .u8)
  | [], _, _, h, hv => by cases h; cases hv; rfl
  | c :: l, _, _, h, hv => by
    unfold intsOf at h
    split at h
    · rename_i heq; cases heq
    · rename_i heq
      cases heq
      split at h
      · rename_i r hr
        cases h
        cases hv with
        | cons h1 h2 =>
          cases h1
          rw [intsOf_some hr h2]; rfl
      · cases h
    · rename_i heq
      cases heq
      split at h
      · rename_i r hr
        cases h
        cases hv with
        | cons h1 h2 =>
          cases h1
          rw [intsOf_some hr h2]; rfl
      · cases h
    · cases h
theorem foldl_push : ∀ (ns : List Int) (b : ByteArray), ns.foldl (fun r n => r.push (UInt8.ofNat n.toNat)) b = ⟨b.data ++ (ns.map fun n => UInt8.ofNat n.toNat).toArray⟩
  | [], b => by simp
  | n :: ns, b => by
    rw [List.foldl_cons, foldl_push ns]
    congr 1
    simp [ByteArray.push]
theorem areI_vals {k : IntKind} {ρ : Rn} : ∀ {cs : List AV} {us : List Value}, areI k cs → VRs ρ cs us → us = (cs.map intOf).map (Value.int k)
  | [], _, _, hv => by cases hv; rfl
  | c :: cs, _, h, hv => by
    cases hv with
    | cons h1 h2 =>
      have := areI_vals (fun v hv => h v (List.mem_cons_of_mem _ hv)) h2
      rw [this]
      obtain ⟨n, rfl | rfl⟩ := h c (List.mem_cons_self ..) <;> cases h1 <;> rfl
theorem dat_bt {s t e' : Nat} (hs : P.underlying s = some (.slice e')) (he' : P.underlying e' = some (.int .u8)) (ht : P.underlying t = some .string) (hx : OpS P x xo) : DatS P (.convert s t x) d (iBt d xo) := by
  intro cx κ e H r hr
  simp only [iBt, hx.eq] at hr
  replace hr := bind_tr hr
  obtain ⟨a, ha, hr⟩ := hr
  split at hr
  · rename_i b o n cq
    replace hr := blk_some hr
    obtain ⟨B, hB, hr⟩ := hr
    replace hr := cellsB_some hr
    obtain ⟨T, md, s0, cs, rfl, hr⟩ := hr
    obtain ⟨⟨q1, q2, q3, q4⟩, hr⟩ := need_some hr
    rw [relO_eq] at q1 q3 q4 hr
    have hob : (o - (baseN md T : Int)).toNat + baseN md T = o.toNat := by omega
    generalize hrel : o - (baseN md T : Int) = o' at q1 q3 q4 hr hob
    refine ⟨_, hr, fun ρ h E hh he => ?_⟩
    obtain ⟨u, h1, h2⟩ := hx.ok ρ H h e E _ hh he ha
    cases h1 with
    | ss h3 h4 h5 h6 h7 =>
      rename_i lo og m
      obtain ⟨lo', g1, g2⟩ := hh.blk b _ hB
      rw [h3] at g1; cases g1
      obtain ⟨us, g3, g4⟩ := g2.readB
      have hvs : VRs ρ (partA cs o' n) ((us.drop o'.toNat).take n.toNat) := (g3.drop _).take _
      have hul := g3.len
      have hints := areI_vals q4 hvs
      refine ⟨_, .bs, fun h' hk dst ty pos aft g => fun σ w hA hw => ⟨?_, rfl⟩⟩
      have hconv := run_convert_bytes_string (P := P) w s t e' (some ⟨lo.g, og, none⟩) n.toNat m hs he' ht
      have hld : (loadCells ⟨lo.g, og, none⟩ n.toNat).run P w = .ok (((partA cs o' n).map intOf).map (Value.int .u8)).toArray w := by
        have := run_loadCells_list (P := P) (w := w) ⟨lo.g, og, none⟩ ((us.drop o'.toNat).take n.toNat) fun j v hj => by
          rw [addr_add, cell_cel hw]
          rw [List.getElem?_take] at hj
          split at hj
          · rename_i hlt
            obtain ⟨_, rfl⟩ := h5 (by omega)
            rw [List.getElem?_drop] at hj
            have := g4 _ v hj
            rw [show baseN md T + (o'.toNat + j) = o.toNat + j by omega] at this
            unfold cel at this ⊢
            rw [hk x rfl b (by rw [ha]; rfl) _ h3]
            exact this
          · cases hj
        rw [hints, show (((partA cs o' n).map intOf).map (Value.int .u8)).length = n.toNat by simp only [List.length_map, partA, List.length_take, List.length_drop]; omega] at this
        exact this
      have hbs := run_bytesToString (P := P) w ⟨lo.g, og, none⟩ n.toNat m ((partA cs o' n).map intOf) hld
      simp only [execOp, hA x _ h2, Sem.run_bind, hconv, hbs, Result.andThen]
      rw [foldl_push]
      simp
  replace hr := slCells_some (P := P) hr
  obtain ⟨cs, n, hr2, hl, hv⟩ := hr
  have key : ∃ av, Tr (put d av κ e H) r ∧ ∀ ρ us, VRs ρ cs us → ∃ ns : List Int, us = ns.map (Value.int .u8) ∧ VR ρ av (.string ⟨(ns.map fun n => UInt8.ofNat n.toNat).toArray⟩) := by
    cases hb : bytesOf cs with
    | some bs =>
      rw [hb] at hr2
      refine ⟨_, hr2, fun ρ us h3 => ?_⟩
      obtain ⟨ns, h7, h8⟩ := bytesOf_some hb h3
      exact ⟨ns, h7, by rw [h8]; exact .str⟩
    | none =>
      rw [hb] at hr2
      cases hi : intsOf cs with
      | none => rw [hi] at hr2; cases hr2
      | some s =>
        rw [hi] at hr2
        exact ⟨_, hr2, fun ρ us h3 => ⟨s, intsOf_some hi h3, .bs⟩⟩
  obtain ⟨av, hr2, hq⟩ := key
  refine ⟨_, hr2, fun ρ h E hh he => ?_⟩
  obtain ⟨u, h1, h2⟩ := hx.ok ρ H h e E _ hh he ha
  obtain ⟨a', m, us, rfl, h3, h4, h5, h6⟩ := hv ρ h u hh h1
  obtain ⟨ns, h7, h8⟩ := hq ρ us h3
  refine ⟨_, h8, fun h' hk dst ty pos aft g => fun σ w hA hw => ⟨?_, rfl⟩⟩
  have hconv := run_convert_bytes_string (P := P) w s t e' a' n m hs he' ht
  have hlen : us.length = n := by rw [h3.len, hl, Nat.mul_one]
  cases a' with
  | none =>
    have hn := h4 rfl
    subst hn
    have : us = [] := List.eq_nil_of_length_eq_zero hlen
    rw [this] at h7
    have hns : ns = [] := by cases ns with | nil => rfl | cons _ _ => cases h7
    subst hns
    simp only [execOp, hA x _ h2, Sem.run_bind, hconv]
    simp [Conv.bytesToString]
    rfl
  | some ad =>
    have hld : (loadCells ad n).run P w = .ok (ns.map (Value.int .u8)).toArray w := by
      have := run_loadCells_list (P := P) (w := w) ad us fun j v hj => by
        obtain ⟨b, o, sp⟩ := ad
        have hsp : sp = none := h5 _ rfl
        subst hsp
        rw [addr_add, cell_cel hw]
        exact h6 _ rfl h' (fun b hb lo hlo => hk x rfl b (by rw [ha]; exact hb) lo hlo) j v hj
      rw [hlen, h7] at this
      exact this
    have hbs := run_bytesToString (P := P) w ad n m ns hld
    simp only [execOp, hA x _ h2, Sem.run_bind, hconv, hbs, Result.andThen]
    rw [foldl_push]
    simp
theorem evs_agree {E : Env} {σ : Operand → Value} (hA : Agree E σ) {x : Operand} {u : Value} (h : ev E x = some u) : σ x = u := hA x u h
theorem fill_step {pl : Nat → Option (Nat × Nat)} {i off size : Nat} {zs us : List Value} {u : Value} {rest : List (Nat × Value)} (hp : pl i = some (off, size)) (hu : u.cells = us.toArray) (hs : us.length = size) (hl : off + us.length ≤ zs.length) :
    Instr.fill pl zs.toArray ((i, u) :: rest) = Instr.fill pl (zs.take off ++ us ++ zs.drop (off + us.length)).toArray rest := by
  simp only [Instr.fill, hp]
  have hsz : u.cells.size = us.length := by rw [hu]; simp
  rw [if_neg (by simp [hsz, hs]; omega)]
  have he : Array.foldl (fun cs (x : Value × Nat) => match x with | (c, j) => cs.setIfInBounds (off + j) c) zs.toArray u.cells.zipIdx = (zs.take off ++ us ++ zs.drop (off + us.length)).toArray := by
    have h0 := foldl_splice off us 0 zs.toArray (by simpa using hl)
    simp only [Nat.add_zero] at h0
    rw [hu, ← Array.foldl_toList, Array.toList_zipIdx]
    exact h0
  rw [he]
theorem parts_ok {place : Nat → Option (Nat × Nat)} : ∀ {l : List (Nat × Operand)} {ps : List (Part R)}, parts P place l = some ps → ∀ {cs : List AV} {e : EV} {k : List AV → Option R} {r : R}, Tr (partsK ps cs e k) r →
    ∃ cs', Tr (k cs') r ∧ cs'.length = cs.length ∧ ∀ ρ H h E vs, HR P ρ H h → ER ρ e E → VRs ρ cs vs → ∃ vs', VRs ρ cs' vs' ∧ ∀ σ : Operand → Value, (∀ q ∈ l, ∀ u, ev E q.2 = some u → σ q.2 = u) → ∀ place' : Nat → Option (Nat × Nat), (∀ i q, place i = some q → place' i = some q) → Instr.fill place' vs.toArray (l.map fun p => (p.1, σ p.2)) = some vs'.toArray
  | [], ps, hp, cs, e, k, r, hr => by
    cases hp
    exact ⟨cs, hr, rfl, fun ρ H h E vs _ _ hv => ⟨vs, hv, fun σ hA pl hpl => by simp [Instr.fill]⟩⟩
  | (i, x) :: l, ps, hp, cs, e, k, r, hr => by
    unfold parts at hp
    split at hp
    · cases hp
    · rename_i off size hpi
      split at hp
      · cases hp
      · rename_i xo hx
        split at hp
        · cases hp
        · rename_i qs hq
          cases hp
          have hx := opnd_ok hx
          change Tr (xo e (fun v => ifK (Nat.beq (cellsOf v).length size) (overK (cellsOf v) cs off fun cs => partsK qs cs e k) none)) r at hr
          rw [hx.eq] at hr
          replace hr := bind_tr hr
          obtain ⟨v, hv, hr⟩ := hr
          rw [ifK_eq] at hr
          split at hr
          · rename_i hb
            have hb := Nat.eq_of_beq_eq_true hb
            rw [overK_eq] at hr
            split at hr
            · rename_i hle
              obtain ⟨cs', h1, h2, h3⟩ := parts_ok hq hr
              refine ⟨cs', h1, by rw [h2]; simp; omega, fun ρ H h E vs hh he hvs => ?_⟩
              obtain ⟨u, k1, k2⟩ := hx.ok ρ H h e E _ hh he hv
              obtain ⟨us, k3, k4⟩ := k1.cells
              have hul := k4.len
              have hvl := hvs.len
              obtain ⟨vs', k5, k6⟩ := h3 ρ H h E (vs.take off ++ us ++ vs.drop (off + us.length)) hh he (((hvs.take off).append k4).append (hul ▸ hvs.drop _))
              refine ⟨vs', k5, fun σ hA pl hpl => ?_⟩
              rw [List.map_cons]
              show Instr.fill pl vs.toArray ((i, σ x) :: _) = _
              rw [hA (i, x) (List.mem_cons_self ..) u k2, fill_step (hpl _ _ hpi) k3 (by omega) (by omega)]
              exact k6 σ (fun q hq => hA q (List.mem_cons_of_mem _ hq)) pl hpl
            · cases hr
          · cases hr
theorem zero_cells {t : Nat} {z : AV} (h : zeroB P t = some z) : ∃ zv, (∀ w, (zeroValue t).run P w = .ok zv w) ∧ ∃ zs, zv.cells = zs.toArray ∧ ∀ ρ, VRs ρ (cellsOf z) zs := by
  obtain ⟨inf, zv, h1, h2, h3⟩ := zeroB_spec h
  obtain ⟨zs, h4, _⟩ := (ofV_VR (fun _ => none) h3).cells
  refine ⟨zv, fun w => by simp [zeroValue, typeInfo, h1, h2], zs, h4, fun ρ => ?_⟩
  obtain ⟨zs', h6, h7⟩ := (ofV_VR ρ h3).cells
  rw [h4] at h6
  have : zs = zs' := by simpa using h6
  subst this
  exact h7
theorem run_places' (w : World) : ∀ (fs : List Field), (fs.all fun f => (P.info? f.type).isSome) = true → ∃ places : List (Nat × Nat), (fs.mapM fun f => do Pure.pure (f.offset, ← sizeOf f.type) : Sem (List (Nat × Nat))).run P w = .ok places w ∧
    ∀ (i : Nat) (f : Field) (inf : TypeInfo), fs[i]? = some f → P.info? f.type = some inf → places[i]? = some (f.offset, inf.size)
  | [], _ => ⟨[], rfl, fun i f inf h => by simp at h⟩
  | f :: fs, h => by
    simp only [List.all_cons, Bool.and_eq_true] at h
    obtain ⟨inf, hi⟩ := Option.isSome_iff_exists.1 h.1
    obtain ⟨ps, h1, h2⟩ := run_places' w fs h.2
    refine ⟨(f.offset, inf.size) :: ps, ?_, fun i f' inf' hf hinf => ?_⟩
    · have hso : (sizeOf f.type).run P w = .ok inf.size w := by simp [sizeOf, typeInfo, hi]
      simp only [List.mapM_cons, Sem.run_bind, hso, h1, Result.andThen, Sem.run_pure]
    · cases i with
      | zero => simp at hf; subst hf; rw [hi] at hinf; cases hinf; rfl
      | succ i => simp at hf; simpa using h2 i f' inf' hf hinf
theorem dat_bds {t : Nat} {fs : Array Field} {ps : Array (Nat × Operand)} {z : AV} {qs : List (Part R)} (hz : zeroB P t = some z) (ht : P.underlying t = some (.struct fs)) (hall : (fs.toList.all fun f => (P.info? f.type).isSome) = true)
    (hq : parts P (fun i => match fs[i]? with
          | some f => match P.info? f.type with
            | some inf => natK f.offset fun o => natK inf.size fun s => some (o, s)
            | none => none
          | none => none) ps.toList = some qs) : DatS P (.build t ps) d (iBd d (cellsOf z) qs) := by
  intro cx κ e H r hr
  simp only [iBd] at hr
  obtain ⟨cs, hr, hlen, hv⟩ := parts_ok hq hr
  obtain ⟨zv, z1, zs, z2, z3⟩ := zero_cells hz
  refine ⟨_, hr, fun ρ h E hh he => ?_⟩
  obtain ⟨vs, h1, h2⟩ := hv ρ H h E zs hh he (z3 ρ)
  refine ⟨_, .agg h1, fun h' _ dst ty pos aft g => fun σ w hA hw => ⟨?_, rfl⟩⟩
  obtain ⟨places, p1, p2⟩ := run_places' (P := P) w fs.toList hall
  have hpl' : (fs.mapM fun f => do Pure.pure (f.offset, ← sizeOf f.type) : Sem (Array (Nat × Nat))).run P w = .ok places.toArray w := by
    rw [← Array.toArray_toList (xs := fs), List.mapM_toArray]
    simp only [map_eq_pure_bind, Sem.run_bind, p1, Result.andThen, Sem.run_pure]
  have hfill := h2 σ (fun q _ u hu => hA q.2 u hu) (fun i => places.toArray[i]?) (fun i q hi => by
    split at hi
    · rename_i f hf
      split at hi
      · rename_i inf hinf
        simp only [natK_eq] at hi
        cases hi
        simpa using p2 i f inf (by simpa using hf) hinf
      · cases hi
    · cases hi)
  have hm : (ps.map fun (i, x) => (i, σ x)).toList = ps.toList.map fun p => (p.1, σ p.2) := by
    rw [Array.toList_map]
  simp only [execOp, Instr.build, Sem.run_bind, z1, run_underlying ht, hpl', Result.andThen, z2, hm]
  rw [hfill]
  rfl
theorem dat_bda {t n el : Nat} {inf : TypeInfo} {ps : Array (Nat × Operand)} {z : AV} {qs : List (Part R)} (hz : zeroB P t = some z) (ht : P.underlying t = some (.array n el)) (hi : P.info? el = some inf)
    (hq : parts P (fun i => natK (i * inf.size) fun o => natK inf.size fun s => some (o, s)) ps.toList = some qs) : DatS P (.build t ps) d (iBd d (cellsOf z) qs) := by
  intro cx κ e H r hr
  simp only [iBd] at hr
  obtain ⟨cs, hr, hlen, hv⟩ := parts_ok hq hr
  obtain ⟨zv, z1, zs, z2, z3⟩ := zero_cells hz
  refine ⟨_, hr, fun ρ h E hh he => ?_⟩
  obtain ⟨vs, h1, h2⟩ := hv ρ H h E zs hh he (z3 ρ)
  refine ⟨_, .agg h1, fun h' _ dst ty pos aft g => fun σ w hA hw => ⟨?_, rfl⟩⟩
  have hfill := h2 σ (fun q _ u hu => hA q.2 u hu) (fun i => some (i * inf.size, inf.size)) (fun i q hi => by simpa using hi)
  have hm : (ps.map fun (i, x) => (i, σ x)).toList = ps.toList.map fun p => (p.1, σ p.2) := by
    rw [Array.toList_map]
  have hs : (sizeOf el).run P w = .ok inf.size w := by simp [sizeOf, typeInfo, hi]
  simp only [execOp, Instr.build, Sem.run_bind, z1, run_underlying ht, hs, Result.andThen, z2, hm]
  rw [hfill]
  rfl
end Ry
end Go.TP
/-! Rz8. -/
namespace Go.TP
open Go
namespace Ry
variable {P : Program} {d : Option (Slot R)} {x y z : Operand} {xo yo zo : OD R}
section
variable {ρ : Rn} {H : AH} {h : Heap}
noncomputable def upd (ρ : Rn) (b : Pth) (lo : Lo) : Rn := fun q => if q = b then some lo else ρ q
theorem upd_le {b : Pth} {lo : Lo} (hb : ρ b = none) : Le ρ (upd ρ b lo) := by
  intro q l hq
  unfold upd
  rw [if_neg (fun he => by rw [he, hb] at hq; cases hq)]
  exact hq
/-- A new block. -/
theorem hr_new (hh : HR P ρ H h) (B : AB) (lo : Lo) (ob : Obj) (hg : lo.g = h.size) (hB : BR (upd ρ H.next lo) (h.push ob) lo B) :
    HR P (upd ρ H.next lo) ⟨Pth.succ H.next, setT (some B) H.next H.blocks⟩ (h.push ob) ∧ Nx ρ H h (upd ρ H.next lo) ⟨Pth.succ H.next, setT (some B) H.next H.blocks⟩ (h.push ob) := by
  obtain ⟨hn1, hn2⟩ := hh.new H.next (Nat.le_refl _)
  have hle := upd_le (lo := lo) hn1
  have hold : ∀ b, b ≠ H.next → upd ρ H.next lo b = ρ b := fun b hb => if_neg hb
  have hnew : upd ρ H.next lo H.next = some lo := if_pos rfl
  have hget : ∀ b, getT (setT (some B) H.next H.blocks) b = if b = H.next then some B else getT H.blocks b := fun b => getT_setT _ _ _ _
  have hsz : (h.push ob).size = h.size + 1 := by simp
  have hps : ∀ g, g < h.size → (h.push ob)[g]? = h[g]? := fun g hg' => by rw [Array.getElem?_push, if_neg (by omega)]
  refine ⟨⟨fun b B' hb => ?_, fun b b' l l' h1 h2 h3 h4 h5 => ?_, fun b hb => ?_, fun p hp => ?_⟩, ⟨hle, by omega, fun g hg' _ => hps g hg', fun b l T m s cs B' hb h1 h2 => ?_, fun b l hb h1 => ?_, fun b l hb h1 _ => ?_⟩⟩
  · rw [hget] at hb
    by_cases he : b = H.next
    · rw [if_pos he] at hb; cases hb; rw [he]; exact ⟨lo, hnew, hB⟩
    · rw [if_neg he] at hb
      obtain ⟨l, h1, h2⟩ := hh.blk b B' hb
      exact ⟨l, hle b l h1, (h2.same (hps l.g h2.lt)).mono hle⟩
  · rw [hget] at h1 h2
    by_cases he : b = H.next <;> by_cases he' : b' = H.next
    · rw [he, he']; exact .inl rfl
    · rw [if_neg he'] at h2
      obtain ⟨B', hB'⟩ := Option.isSome_iff_exists.1 h2
      obtain ⟨l2, k1, k2⟩ := hh.blk b' B' hB'
      rw [hold b' he', k1] at h4
      cases h4
      rw [he, hnew] at h3
      cases h3
      have := k2.lt
      omega
    · rw [if_neg he] at h1
      obtain ⟨B', hB'⟩ := Option.isSome_iff_exists.1 h1
      obtain ⟨l2, k1, k2⟩ := hh.blk b B' hB'
      rw [hold b he, k1] at h3
      cases h3
      rw [he', hnew] at h4
      cases h4
      have := k2.lt
      omega
    · rw [if_neg he] at h1; rw [if_neg he'] at h2
      rw [hold b he] at h3; rw [hold b' he'] at h4
      refine (hh.inj b b' l l' h1 h2 h3 h4 h5).imp id fun ⟨⟨T, s, cs, e1⟩, ⟨T', s', cs', e2⟩⟩ => ⟨⟨T, s, cs, ?_⟩, ⟨T', s', cs', ?_⟩⟩
      · show getT (setT (some B) H.next H.blocks) b = _; rw [hget, if_neg he]; exact e1
      · show getT (setT (some B) H.next H.blocks) b' = _; rw [hget, if_neg he']; exact e2
  · have hb' : num H.next + 1 ≤ num b := by have := hb; simp only [num_succ] at this; exact this
    have hne : b ≠ H.next := fun he => by rw [he] at hb'; omega
    obtain ⟨k1, k2⟩ := hh.new b (by omega)
    exact ⟨(hold b hne).trans k1, by rw [hget, if_neg hne]; exact k2⟩
  · obtain ⟨l, k1, k2⟩ := hh.glob p hp
    exact ⟨l, hle p l k1, k2⟩
  · have hne : b ≠ H.next := fun he => by rw [he, hn1] at hb; cases hb
    rw [hget, if_neg hne, h1] at h2
    cases h2
    exact ⟨T, m, s, cs, rfl, Nat.le_refl _, Iff.rfl⟩
  · have hne : b ≠ H.next := fun he => by rw [he, hn1] at hb; cases hb
    rw [hget, if_neg hne] at h1
    exact h1
  · have he : b = H.next := by
      by_cases he : b = H.next
      · exact he
      · rw [hold b he, hb] at h1; cases h1
    rw [he, hnew] at h1
    cases h1
    exact .inl (by omega)
/-- A block is turned. -/
theorem hr_set (hh : HR P ρ H h) {b : Pth} {T : Nat} {m : Md} (hmr : m ≠ .ro) {s : Nat} {cs cs' : List AV} {lo : Lo} {h' : Heap} (hb : getT H.blocks b = some (.cells T m s cs)) (hρ : ρ b = some lo) (hsz : h'.size = h.size) (hoth : ∀ i, i ≠ lo.g → h'[i]? = h[i]?)
    (hB : BR ρ h' lo (.cells T m (s + 1) cs')) : HR P ρ ⟨H.next, setT (some (.cells T m (s + 1) cs')) b H.blocks⟩ h' ∧ Nx ρ H h ρ ⟨H.next, setT (some (.cells T m (s + 1) cs')) b H.blocks⟩ h' := by
  have hget : ∀ q, getT (setT (some (.cells T m (s + 1) cs')) b H.blocks) q = if q = b then some (.cells T m (s + 1) cs') else getT H.blocks q := fun q => getT_setT _ _ _ _
  have hsome : ∀ q, (getT (setT (some (.cells T m (s + 1) cs')) b H.blocks) q).isSome → (getT H.blocks q).isSome := by
    intro q hq
    rw [hget] at hq
    by_cases he : q = b
    · rw [he, hb]; rfl
    · rw [if_neg he] at hq; exact hq
  have hnro : ¬ RoB H b := fun ⟨T1, s1, cs1, hr⟩ => by rw [hb] at hr; cases hr; exact hmr rfl
  have hro : ∀ q, RoB H q → RoB ⟨H.next, setT (some (.cells T m (s + 1) cs')) b H.blocks⟩ q := fun q hr => by
    have hqb : q ≠ b := fun he => hnro (he ▸ hr)
    obtain ⟨T1, s1, cs1, hr⟩ := hr
    exact ⟨T1, s1, cs1, by show getT (setT (some (.cells T m (s + 1) cs')) b H.blocks) q = _; rw [hget, if_neg hqb]; exact hr⟩
  refine ⟨⟨fun q B' hq => ?_, fun q q' l l' h1 h2 h3 h4 h5 => (hh.inj q q' l l' (hsome q h1) (hsome q' h2) h3 h4 h5).imp id fun ⟨r1, r2⟩ => ⟨hro q r1, hro q' r2⟩, fun q hq => ?_, hh.glob⟩, ⟨Le.refl _, by omega, fun g hg hk => ?_, fun q l T' m' s' cs1 B' hq h1 h2 => ?_, fun q l _ h1 => hsome q h1, fun q l h1 h2 _ => by rw [h1] at h2; cases h2⟩⟩
  · rw [hget] at hq
    by_cases he : q = b
    · rw [if_pos he] at hq; cases hq; rw [he]; exact ⟨lo, hρ, hB⟩
    · rw [if_neg he] at hq
      obtain ⟨l, h1, h2⟩ := hh.blk q B' hq
      refine ⟨l, h1, h2.same (hoth l.g fun hg => (hh.inj q b l lo (by rw [hq]; rfl) (by rw [hb]; rfl) h1 hρ hg).elim he fun hr => hnro hr.2)⟩
  · obtain ⟨k1, k2⟩ := hh.new q hq
    refine ⟨k1, ?_⟩
    rw [hget, if_neg (fun he => by rw [he, hb] at k2; cases k2)]
    exact k2
  · refine hoth g fun he => ?_
    obtain ⟨T1, m1, s1, cs1, T2, m2, cs2, k1, k2⟩ := (hk b lo (by rw [hb]; rfl) hρ he.symm).resolve_right hnro
    rw [hb] at k1
    have k2 : getT (setT (some (.cells T m (s + 1) cs')) b H.blocks) b = some (.cells T2 m2 s1 cs2) := k2
    rw [hget, if_pos rfl] at k2
    cases k1
    cases k2
  · have h2 : getT (setT (some (.cells T m (s + 1) cs')) b H.blocks) q = some B' := h2
    rw [hget] at h2
    by_cases he : q = b
    · rw [if_pos he] at h2; cases h2
      rw [he, hb] at h1; cases h1
      exact ⟨_, _, _, _, rfl, by omega, Iff.rfl⟩
    · rw [if_neg he, h1] at h2; cases h2
      exact ⟨_, _, _, _, rfl, Nat.le_refl _, Iff.rfl⟩
end
/-- What may come of an operation: a value, a heap, and what stands behind goes on with them. -/
def Out (P : Program) (ρ : Rn) (H : AH) (h : Heap) (k : AV → AH → Option R) (u : Value) (h' : Heap) : Prop :=
  ∃ ρ' v H' r, Tr (k v H') r ∧ HR P ρ' H' h' ∧ Nx ρ H h ρ' H' h' ∧ VR ρ' v u
/-- An operation that makes or turns memory, or calls nothing. -/
def EffS (P : Program) (op : Op) (d : Option (Slot R)) (i : Ins R) : Prop :=
  ∀ cx κ e H r, Tr (i cx κ e H) r → ∀ ρ h E, HR P ρ H h → ER ρ e E → ∀ rd dst ty pos aft, Ef P rd E h ⟨dst, op, ty, pos, aft, none⟩ (Out P ρ H h fun v H' => put d v κ e H')
theorem DatS.eff {op : Op} {i : Ins R} (hd : DatS P op d i) (hnd : ∀ c, op ≠ .defer c) : EffS P op d i := by
  intro cx κ e H r hr ρ h E hh he rd dst ty pos aft
  obtain ⟨v, h1, h2⟩ := hd cx κ e H r hr
  obtain ⟨u, h3, h4⟩ := h2 ρ h E hh he
  have h5 := h4 h (fun _ _ _ _ _ _ => rfl) dst ty pos aft none
  refine ef_of_run (fun σ w hA hw => (h5 σ w hA hw).2) hnd fun σ w hA hw => ⟨u, w, .inl (h5 σ w hA hw).1, ?_, rfl, rfl, rfl⟩
  subst hw
  exact ⟨ρ, v, H, r, h1, hh, Nx.refl _ _ _, h3⟩
theorem new_some {H : AH} {B : AB} {k : Pth → AH → Option R} {r : R} (h : Tr (new H B k) r) : Tr (k H.next ⟨Pth.succ H.next, setT (some B) H.next H.blocks⟩) r := by
  obtain ⟨n, t⟩ := H
  simp only [new] at h
  rw [setK_eq] at h
  exact h
theorem putB_some {H : AH} {b : Pth} {B : AB} {k : AH → Option R} {r : R} (h : Tr (putB H b B k) r) : Tr (k ⟨H.next, setT (some B) b H.blocks⟩) r := by
  obtain ⟨n, t⟩ := H
  simp only [putB] at h
  rw [setK_eq] at h
  exact h
theorem eff_al {T : Nat} {z : AV} (hz : zeroB P T = some z) : EffS P (.alloc T) d (iAl d T (cellsOf z)) := by
  intro cx κ e H r hr ρ h E hh he rd dst ty pos aft
  replace hr := new_some hr
  obtain ⟨zv, z1, zs, z2, z3⟩ := zero_cells hz
  refine ef_of_run (fun _ _ _ _ => rfl) (fun _ hc => by cases hc) fun σ w hA hw => ?_
  subst hw
  obtain ⟨k1, k2⟩ := hr_new hh (.cells T .shut 0 (cellsOf z)) ⟨w.heap.size, 0, default, [], 0⟩ (.cells zs.toArray T) rfl ⟨zs, z3 _, by simp⟩
  refine ⟨.pointer (some ⟨w.heap.size, 0, none⟩), { w with heap := w.heap.push (.cells zs.toArray T) }, .inl ?_, ⟨_, _, _, r, hr, k1, k2, VR.P (lo := ⟨w.heap.size, 0, default, [], 0⟩) (if_pos rfl)⟩, rfl, rfl, rfl⟩
  simp [execOp, Instr.alloc, z1, z2, newVar, newRow, newObj, Sem.run, Result.andThen]
theorem eff_bx {T : Nat} (hx : OpS P x xo) : EffS P (.box T x) d (iBx d T xo) := by
  intro cx κ e H r hr ρ h E hh he rd dst ty pos aft
  simp only [iBx, hx.eq] at hr
  replace hr := bind_tr hr
  obtain ⟨v, hv, hr⟩ := hr
  replace hr := new_some hr
  obtain ⟨u, u1, u2⟩ := hx.ok ρ H h e E v hh he hv
  obtain ⟨us, u3, u4⟩ := u1.cells
  refine ef_of_run (fun _ _ _ _ => rfl) (fun _ hc => by cases hc) fun σ w hA hw => ?_
  subst hw
  obtain ⟨k1, k2⟩ := hr_new hh (.cells T .shut 0 (cellsOf v)) ⟨w.heap.size, 0, default, [], 0⟩ (.cells us.toArray T) rfl ⟨us, u4.mono (upd_le (hh.new _ (Nat.le_refl _)).1), by simp⟩
  refine ⟨.pointer (some ⟨w.heap.size, 0, none⟩), { w with heap := w.heap.push (.cells us.toArray T) }, .inl ?_, ⟨_, _, _, r, hr, k1, k2, VR.P (lo := ⟨w.heap.size, 0, default, [], 0⟩) (if_pos rfl)⟩, rfl, rfl, rfl⟩
  simp [execOp, hA x _ u2, Instr.box, u3, newVar, newRow, newObj, Sem.run]
theorem rep_cells {zs : List Value} {n k : Nat} (hk : k = n * zs.length) : (Array.range k).map (fun i => zs.toArray[i % zs.toArray.size]!) = (List.replicate n zs).flatten.toArray := by
  subst hk
  apply Array.ext'
  rw [Array.toList_map, Array.toList_range]
  induction n with
  | zero => simp
  | succ n ih =>
    rw [Nat.succ_mul, Nat.add_comm, List.range_add, List.map_append, List.replicate_succ, List.flatten_cons]
    congr 1
    · apply List.ext_getElem
      · simp
      · intro i h1 h2
        simp at h1 h2
        simp [Nat.mod_eq_of_lt h1, h1]
    · have ih : _ = (List.replicate n zs).flatten := ih
      rw [List.map_map, ← ih]
      apply List.map_congr_left
      intro i _
      simp
theorem parts_new {t T sz n : Nat} {z : AV} {ps : Array (Nat × Operand)} {qs : List (Part R)} (ht : elemB P t = some (T, sz)) (hz : zeroB P T = some z) (hzl : (cellsOf z).length = sz)
    (hq : parts P (fun i => natK (i * sz) fun o => some (o, sz)) ps.toList = some qs) {e : EV} {k : List AV → Option R} {r : R} (hr : Tr (repK (cellsOf z) n fun cs => partsK qs cs e k) r) :
    ∃ cs', Tr (k cs') r ∧ cs'.length = n * sz ∧ ∀ ρ H h E, HR P ρ H h → ER ρ e E → ∃ vs, VRs ρ cs' vs ∧ (n * sz ≤ 16777216 → ∀ σ : Operand → Value, (∀ q ∈ ps.toList, ∀ u, ev E q.2 = some u → σ q.2 = u) → ∀ w : World, (Instr.buildSlice t n (ps.map fun (i, x) => (i, σ x))).run P w = .ok (.slice (some ⟨w.heap.size, 0, none⟩) n n) { w with heap := w.heap.push (.cells vs.toArray T) }) := by
  rw [repK_eq] at hr
  obtain ⟨cs, h1, h2, h3⟩ := parts_ok hq hr
  obtain ⟨zv, z1, zs, z2, z3⟩ := zero_cells hz
  have hl : ((List.replicate n (cellsOf z)).flatten).length = n * sz := by simp [hzl]
  refine ⟨cs, h1, h2.trans hl, fun ρ H h E hh he => ?_⟩
  obtain ⟨vs, k1, k2⟩ := h3 ρ H h E _ hh he ((z3 ρ).rep n)
  refine ⟨vs, k1, fun hle σ hA w => ?_⟩
  obtain ⟨e1, inf, e2, e3⟩ := (elemB_spec ht).spec
  have hzsl : zs.length = sz := by rw [(z3 ρ).len, hzl]
  have hfill := k2 σ hA (fun i => some (i * sz, sz)) (fun i q hi => by simpa using hi)
  have hm : (ps.map fun (i, x) => (i, σ x)).toList = ps.toList.map fun p => (p.1, σ p.2) := by rw [Array.toList_map]
  have hs : (sizeOf T).run P w = .ok sz w := by simp [sizeOf, typeInfo, e2, e3]
  have hrep := rep_cells (zs := zs) (n := n) (k := n * sz) (by rw [hzsl])
  by_cases h0 : n * sz = 0
  · have hnil : (List.replicate n zs).flatten = [] := List.eq_nil_of_length_eq_zero (by simp [hzsl, h0])
    rw [hnil] at hfill
    have hle' : ¬ n * sz > 2 ^ 24 := by omega
    simp only [Instr.buildSlice, Sem.run_bind, run_underlying e1, hs, Result.andThen, if_neg hle', h0, if_true, Sem.run_pure, hm]
    simp only [Array.range_zero', List.map_toArray, List.map_nil, Array.map_empty, Sem.run_pure, Sem.run_bind, Result.andThen] at hfill ⊢
    simp [hfill, newRow, newObj, Sem.run]
  · have hle' : ¬ n * sz > 2 ^ 24 := by omega
    simp only [Instr.buildSlice, Sem.run_bind, run_underlying e1, hs, Result.andThen, if_neg hle', if_neg h0, Sem.run_pure, z1, z2, hm, hrep, hfill]
    simp [newRow, newObj, Sem.run]
theorem eff_bs {t T sz n : Nat} {z : AV} {ps : Array (Nat × Operand)} {qs : List (Part R)} (ht : elemB P t = some (T, sz)) (hz : zeroB P T = some z) (hzl : (cellsOf z).length = sz)
    (hq : parts P (fun i => natK (i * sz) fun o => some (o, sz)) ps.toList = some qs) : EffS P (.buildSlice t n ps) d (iBs d T n sz (cellsOf z) qs) := by
  intro cx κ e H r hr ρ h E hh he rd dst ty pos aft
  simp only [iBs, ifK_eq] at hr
  split at hr
  · rename_i hle
    have hle := Nat.le_of_ble_eq_true hle
    obtain ⟨cs, hr, hlen, hv⟩ := parts_new ht hz hzl hq hr
    replace hr := new_some hr
    obtain ⟨vs, k1, k2⟩ := hv ρ H h E hh he
    refine ef_of_run (fun _ _ _ _ => rfl) (fun _ hc => by cases hc) fun σ w hA hw => ?_
    subst hw
    obtain ⟨k3, k4⟩ := hr_new hh (.cells T .shut 0 cs) ⟨w.heap.size, 0, default, [], 0⟩ (.cells vs.toArray T) rfl ⟨vs, k1.mono (upd_le (hh.new _ (Nat.le_refl _)).1), by simp⟩
    refine ⟨_, { w with heap := w.heap.push (.cells vs.toArray T) }, .inl ?_, ⟨_, _, _, r, hr, k3, k4, VR.S (lo := ⟨w.heap.size, 0, default, [], 0⟩) (m := n) (if_pos rfl) rfl (Nat.le_refl _)⟩, rfl, rfl, rfl⟩
    have := k2 hle σ (fun q _ u hu => hA q.2 u hu) w
    simp only [execOp, Sem.run_bind, this, Result.andThen]
    rfl
  · cases hr
theorem eff_mk {t T sz : Nat} {z : AV} (ht : elemB P t = some (T, sz)) (hz : zeroB P T = some z) (hzl : (cellsOf z).length = sz) (hb : ∀ inf, P.info? T = some inf → inf.bytes ≤ 1024) (hx : OpS P x xo) (hy : OpS P y yo) : EffS P (.makeSlice t x y) d (iMk d T (cellsOf z) xo yo) := by
  intro cx κ e H r hr ρ h E hh he rd dst ty pos aft
  simp only [iMk, hx.eq] at hr
  replace hr := bind_tr hr
  obtain ⟨v, hv, hr⟩ := hr
  replace hr := asN_some hr
  obtain ⟨l, hik, hr⟩ := hr
  simp only [hy.eq] at hr
  replace hr := bind_tr hr
  obtain ⟨v, hv', hr⟩ := hr
  replace hr := asN_some hr
  obtain ⟨c, hjk, hr⟩ := hr
  simp only [ifK_eq] at hr
  split at hr
  · rename_i hle
    simp only [Bool.and_eq_true] at hle
    have h1 := Nat.le_of_ble_eq_true hle.1
    have h2 := Nat.le_of_ble_eq_true hle.2
    rw [repK_eq] at hr
    replace hr := new_some hr
    obtain ⟨u, u1, u2⟩ := hx.ok ρ H h e E _ hh he hv
    obtain ⟨u', u3, u4⟩ := hy.ok ρ H h e E _ hh he hv'
    obtain ⟨ik, rfl⟩ := hik.val u1; obtain ⟨jk, rfl⟩ := hjk.val u3
    obtain ⟨inf, zv, z1, z2, z3⟩ := zeroB_spec hz
    obtain ⟨zs, z4, z5⟩ := (ofV_VR ρ z3).cells
    obtain ⟨e1, inf', e2, e3⟩ := (elemB_spec ht).spec
    rw [z1] at e2; cases e2
    refine ef_of_run (fun _ _ _ _ => rfl) (fun _ hc => by cases hc) fun σ w hA hw => ?_
    subst hw
    have hzsl : zs.length = sz := by rw [z5.len, hzl]
    have hbb := hb inf z1
    have hmake := run_make (P := P) w t T inf zv e1 z1 z2 ik jk l c (by omega) (by omega) (by have : inf.bytes * c ≤ 1024 * 1048576 := Nat.mul_le_mul hbb h2; have h3 : ((inf.bytes * c : Nat) : Int) ≤ 281474976710656 := (by omega); rwa [Int.natCast_mul] at h3) (by omega)
    have hcells : madeCells zv.cells (c * inf.size) = (List.replicate c zs).flatten.toArray := by
      unfold madeCells
      rw [z4]
      exact rep_cells (by rw [e3, hzsl])
    simp only [Int.toNat_natCast, hcells] at hmake
    obtain ⟨k3, k4⟩ := hr_new hh (.cells T .shut 0 (List.replicate c (cellsOf z)).flatten) ⟨w.heap.size, 0, default, [], 0⟩ (.cells (List.replicate c zs).flatten.toArray T) rfl ⟨_, (z5.rep c).mono (upd_le (hh.new _ (Nat.le_refl _)).1), by simp⟩
    refine ⟨_, { w with heap := w.heap.push (.cells (List.replicate c zs).flatten.toArray T) }, .inl ?_, ⟨_, _, _, r, hr, k3, k4, VR.S (lo := ⟨w.heap.size, 0, default, [], 0⟩) (m := c) (if_pos rfl) rfl h1⟩, rfl, rfl, rfl⟩
    simp only [execOp, hA x _ u2, hA y _ u4, Sem.run_bind]
    erw [hmake]
    rfl
  · cases hr
end Ry
end Go.TP
/-! Rz9. -/
namespace Go.TP
open Go
namespace Ry
variable {P : Program} {d : Option (Slot R)} {x y z : Operand} {xo yo zo : OD R}
theorem one1_ok {ρ : Rn} {v : AV} {u : Value} (h : one1 v = true) (hv : VR ρ v u) : u.oneCell' = true := by
  cases hv <;> first | rfl | cases h
theorem ones_ok {ρ : Rn} : ∀ {l : List AV} {us : List Value}, ones l = true → VRs ρ l us → ∀ u ∈ us, u.oneCell' = true
  | [], _, _, hv, u, hu => by cases hv; cases hu
  | v :: l, _, h, hv, u, hu => by
    cases hv with
    | cons h1 h2 =>
      have h : Bool.rec (motive := fun _ => Bool) false (ones l) (one1 v) = true := h
      cases ho : one1 v with
      | false => rw [ho] at h; cases h
      | true =>
        rw [ho] at h
        rcases List.mem_cons.1 hu with rfl | hu
        · exact one1_ok ho h1
        · exact ones_ok h h2 u hu
theorem open_some {m : Md} {k : Option R} {r : R} (h : Tr (open_ m k) r) : m ≠ .ro ∧ Tr k r := by
  cases m with
  | shut => exact ⟨by simp, h⟩
  | op sz => exact ⟨by simp, h⟩
  | ro => cases h
/-- Some cells of a block that may be turned. -/
theorem BR.over {ρ : Rn} {h : Heap} {lo : Lo} {T : Nat} {m : Md} {s : Nat} {cs us : List AV} {vs : List Value} {o : Nat} (hb : BR ρ h lo (.cells T m s cs)) (hm : m ≠ .ro) (hu : VRs ρ us vs) (hle : o + us.length ≤ cs.length) :
    ∃ cur, h[lo.g]? = some (.cells (List.toArray cur) T (0, 0)) ∧ o + vs.length ≤ cur.length ∧ ∀ h' s', h'[lo.g]? = some (.cells (cur.take o ++ vs ++ cur.drop (o + vs.length)).toArray T (0, 0)) →
      BR ρ h' lo (.cells T m s' (cs.take o ++ us ++ cs.drop (o + us.length))) := by
  have hl := hu.len
  cases m with
  | shut =>
    obtain ⟨ws, h1, h2⟩ := hb
    have hw := h1.len
    refine ⟨ws, h2, by omega, fun h' s' h3 => ⟨_, ((h1.take o).append hu).append (hl ▸ h1.drop _), h3⟩⟩
  | op sz =>
    obtain ⟨ws, rest, h1, h2, h3, h4⟩ := hb
    have hw := h1.len
    refine ⟨ws ++ rest, h2, by simp; omega, fun h' s' h5 => ⟨ws.take o ++ vs ++ ws.drop (o + vs.length), rest, ((h1.take o).append hu).append (hl ▸ h1.drop _), ?_, ?_, h4⟩⟩
    · rw [h5]
      rw [List.take_append_of_le_length (by omega), List.drop_append_of_le_length (by omega)]
      simp only [List.append_assoc]
    · rw [← h3]; simp; omega
  | ro => exact absurd rfl hm
theorem shapeB_size {t n : Nat} {b : Bool} (h : shapeB P t = some (b, n)) (w : World) : (sizeOf t).run P w = .ok n w := by
  cases b with
  | true => exact ((shapeB_agg h).spec w).2
  | false =>
    have h1 := ((shapeB_one h).spec w).2
    unfold shapeB at h
    split at h
    · cases h
    · cases h
    · rename_i inf dd hn1 hn2 h2 h3
      by_cases hz : inf.size = 1
      · have hb : Nat.beq inf.size 1 = true := by simp [hz]
        rw [hb] at h; cases h; exact h1
      · have hb : Nat.beq inf.size 1 = false := beq_ne hz
        rw [hb] at h; cases h
    · cases h
theorem eff_st {t n : Nat} {b : Bool} (ht : shapeB P t = some (b, n)) (hx : OpS P x xo) (hy : OpS P y yo) : EffS P (.store t x y) none (iSt n xo yo) := by
  intro cx κ e H r hr ρ h E hh he rd dst ty pos aft
  simp only [iSt, hx.eq] at hr
  replace hr := bind_tr hr
  obtain ⟨v, hv, hr⟩ := hr
  replace hr := asP_some hr
  obtain ⟨b, o, rfl, hr⟩ := hr
  simp only [hy.eq] at hr
  replace hr := bind_tr hr
  obtain ⟨u, hu, hr⟩ := hr
  replace hr := blk_some hr
  obtain ⟨B, hB, hr⟩ := hr
  replace hr := cellsB_some hr
  obtain ⟨T, m, s, cs, rfl, hr⟩ := hr
  replace hr := open_some hr
  obtain ⟨hm, hr⟩ := hr
  rw [ifK_eq] at hr
  split at hr
  · rename_i hc
    simp only [Bool.and_eq_true] at hc
    obtain ⟨hc1, hc2⟩ := hc
    have hc1 := Nat.eq_of_beq_eq_true hc1
    rw [overK_eq] at hr
    split at hr
    · rename_i hle
      rw [natK_eq] at hr
      replace hr := putB_some hr
      obtain ⟨a, h1, h2⟩ := hx.ok ρ H h e E _ hh he hv
      cases h1 with
      | P hρ =>
        rename_i lo
        obtain ⟨ua, h3, h4⟩ := hy.ok ρ H h e E _ hh he hu
        obtain ⟨us, h5, h6⟩ := h3.cells
        obtain ⟨lo', h7, h8⟩ := hh.blk b _ hB
        rw [hρ] at h7; cases h7
        obtain ⟨cur, h9, h10, h11⟩ := h8.over hm h6 hle
        have hul := h6.len
        refine ef_of_run (fun _ _ _ _ => rfl) (fun _ hc => by cases hc) fun σ w hA hw => ?_
        subst hw
        obtain ⟨h', e1, e2, e3, e4⟩ := run_stores_bk (P := P) us o 0 cur w h9 (by simpa using h10) (ones_ok hc2 h6)
        obtain ⟨k1, k2⟩ := hr_set hh hm hB hρ e2 e3 (h11 h' (s + 1) (by simpa using e4))
        refine ⟨undef, { w with heap := h' }, .inr ⟨rfl, ?_⟩, ⟨_, .X .undef, _, r, hr, k1, k2, .undef⟩, rfl, rfl, rfl⟩
        have hsz : us.length = n := by omega
        simp only [execOp, hA x _ h2, hA y _ h4, Instr.storeAt, Instr.sureAddr, storeVar, Sem.run_bind, Sem.run_pure, Result.andThen, h5]
        simp [shapeB_size ht w, e1, hsz]
    · cases hr
  · cases hr
/-- What is appended: a slice's elements, or so many zeros. -/
inductive Sc (P : Program) (el : TypeId) (size : Nat) (tx : TypeId) (x : Value) (n : Nat) (news : List Value) (w : World) : Prop where
  | sl : Src P size tx x n news w → Sc P el size tx x n news w
  | mk {k k' : IntKind} {inf : TypeInfo} {zv : Value} {zs : List Value} : P.underlying tx = some (.int k) → x = .int k' (n : Nat) → P.info? el = some inf → inf.zero = some zv → zv.cells = zs.toArray → zs.length = size → inf.bytes ≤ 1024 → n ≤ 1073741824 → news = (List.replicate n zs).flatten → (∀ u ∈ news, u.oneCell' = true) → Sc P el size tx x n news w
theorem Sc.one {el : TypeId} {size : Nat} {tx : TypeId} {x : Value} {n : Nat} {news : List Value} {w : World} (h : Sc P el size tx x n news w) : ∀ u ∈ news, u.oneCell' = true := by
  cases h with
  | sl h => exact h.one
  | mk _ _ _ _ _ _ _ _ _ h => exact h
theorem Sc.len {el : TypeId} {size : Nat} {tx : TypeId} {x : Value} {n : Nat} {news : List Value} {w : World} (h : Sc P el size tx x n news w) : news.length = n * size := by
  cases h with
  | sl h => exact h.newsLen
  | mk _ _ _ _ _ h6 _ _ h _ => rw [h]; simp [h6]
theorem zeroCells_eq {zs : List Value} {n : Nat} : Builtin.zeroCells zs.toArray n = (List.replicate n zs).flatten.toArray := rep_cells (by simp)
theorem wrap_nat {n : Nat} (h : n ≤ 1073741824) : IntKind.i64.wrap (n : Int) = n := wrap64 (by omega) (by omega)
theorem app_room {t tx ty el size : Nat} {inf : TypeInfo} {w : World} (ht : P.underlying t = some (.slice el)) (hi : P.info? el = some inf) (hsz : inf.size = size) {b off sLen sCap n : Nat} {x : Value} {news cur : List Value} {T : TypeId} (hs : Sc P el size tx x n news w)
    (hroom : sLen + n ≤ sCap) (hb : w.heap[b]? = some (.cells cur.toArray T (0, 0))) (hle : off + sLen * size + news.length ≤ cur.length) :
    ∃ h', (Builtin.append_ #[t, tx] ty #[.slice (some ⟨b, off, none⟩) sLen sCap, x]).run P w = .ok (.slice (some ⟨b, off, none⟩) (sLen + n) sCap) { w with heap := h' } ∧ h'.size = w.heap.size ∧ (∀ i, i ≠ b → h'[i]? = w.heap[i]?) ∧
      h'[b]? = some (.cells (cur.take (off + sLen * size) ++ news ++ cur.drop (off + sLen * size + news.length)).toArray T (0, 0)) := by
  obtain ⟨h', e1, e2, e3, e4⟩ := run_stores_bk (P := P) news (off + sLen * size) 0 cur w hb (by simpa using hle) hs.one
  refine ⟨h', ?_, e2, e3, by simpa using e4⟩
  subst hsz
  cases hs with
  | sl hs =>
    rcases hs.kind with ⟨e', hk⟩ | hk <;> simp [Builtin.append_, run_underlying ht, run_underlying hk, sizeOf, typeInfo, hi, hs.len, hroom, hs.cells, Addr.add_lit, e1]
  | mk hk hx hi' hz hzc hzl hby hn hnews _ =>
    rw [hi] at hi'
    cases hi'
    subst hx
    have hw := wrap_nat hn
    have hlt : ¬ ((n : Int) < 0) := by omega
    have hbig : ¬ ((n : Int) * inf.bytes > 281474976710656) := by
      have : n * inf.bytes ≤ 1073741824 * 1024 := Nat.mul_le_mul hn hby
      have h3 : ((n * inf.bytes : Nat) : Int) ≤ 281474976710656 := (by omega)
      rw [Int.natCast_mul] at h3
      omega
    by_cases h0 : n * inf.size = 0
    · have hnil : news = [] := by rw [hnews]; exact List.eq_nil_of_length_eq_zero (by simp [hzl, h0])
      subst hnil
      have e1' : h' = w.heap := by
        simp only [storeCells, Sem.run_pure] at e1
        injection e1 with _ h2
        exact (congrArg World.heap h2).symm
      subst e1'
      simp [Builtin.append_, run_underlying ht, run_underlying hk, sizeOf, typeInfo, hi, asInt, asIntOf, hw, hbig, hroom, h0, storeCells]
      exact fun hh => absurd hh hlt
    · simp [Builtin.append_, run_underlying ht, run_underlying hk, sizeOf, typeInfo, zeroValue, hi, hz, asInt, asIntOf, hw, hbig, hroom, h0, Addr.add_lit, hzc, zeroCells_eq, ← hnews, e1]
      exact fun hh => absurd hh hlt
theorem app_grow {t tx ty el size : Nat} {inf : TypeInfo} {z : Value} {zs : List Value} {w : World} (ht : P.underlying t = some (.slice el)) (hi : P.info? el = some inf) (hz : inf.zero = some z) (hzc : z.cells = zs.toArray) (hzl : zs.length = size) (hby : inf.bytes ≤ 1024) (hsz : inf.size = size) {base : Option Addr} {sLen sCap n : Nat} {x : Value} {news olds : List Value} (hs : Sc P el size tx x n news w)
    (hold : (Builtin.firstCells size sLen (.slice base sLen sCap)).run P w.drew = .ok olds.toArray w.drew) (hg : sCap < sLen + n) (hq : sLen + n ≤ 1073741824) :
    ∃ c, sLen + n ≤ c ∧ c ≤ maxLen ∧ ∃ rest, rest.length = (c - (sLen + n)) * size ∧ (Builtin.append_ #[t, tx] ty #[.slice base sLen sCap, x]).run P w = .ok (.slice (some ⟨w.heap.size, 0, none⟩) (sLen + n) c) { w with heap := w.heap.push (.cells (olds ++ news ++ rest).toArray el), drawn := w.drawn + 1 } := by
  have hfit : Builtin.nextslicecap (sLen + n) sCap * inf.bytes ≤ 281474976710656 := by
    have h1 := nextslicecap_le hg
    have : Builtin.nextslicecap (sLen + n) sCap * inf.bytes ≤ (2 * (sLen + n)) * 1024 := Nat.mul_le_mul h1 hby
    omega
  refine ⟨grownCap w (sLen + n) sCap el, grownCap_ge w _ _ _, grownCap_le_maxLen w _ _ _ (by simp only [maxLen]; omega), (List.replicate (grownCap w (sLen + n) sCap el - (sLen + n)) zs).flatten, by simp [hzl], ?_⟩
  have hzz : Builtin.zeroCells z.cells (grownCap w (sLen + n) sCap el - (sLen + n)) = (List.replicate (grownCap w (sLen + n) sCap el - (sLen + n)) zs).flatten.toArray := by rw [hzc, zeroCells_eq]
  subst hsz
  cases hs with
  | sl hs =>
    have := run_append_grow_src (P := P) w t tx ty el inf z ht hi hz base sLen sCap olds hold x n news hs hg (by omega) hfit
    rw [this, hzz, List.append_toArray]
    rfl
  | @mk k1 k2 inf2 zv2 zs2 hk hx hi' hz' hzc' hzl' hby' hn hnews _ =>
    rw [hi] at hi'
    cases hi'
    rw [hz] at hz'
    cases hz'
    subst hx
    rw [hzc] at hzc'
    have hzeq : zs = zs2 := by simpa using hzc'
    have hw := wrap_nat hn
    have hlt : ¬ ((n : Int) < 0) := by omega
    have hbig : ¬ ((n : Int) * inf.bytes > 281474976710656) := by
      have : n * inf.bytes ≤ 1073741824 * 1024 := Nat.mul_le_mul hn hby
      have h3 : ((n * inf.bytes : Nat) : Int) ≤ 281474976710656 := (by omega)
      rw [Int.natCast_mul] at h3
      omega
    have hnr : ¬ (sLen + n ≤ sCap) := by omega
    have h63' : ¬ (9223372036854775807 < ((sLen : Int) + (n : Int))) := by omega
    have h48' : ¬ (281474976710656 < Builtin.nextslicecap (sLen + n) sCap * inf.bytes) := by omega
    have hzz' := hzz
    simp only [grownCap] at hzz'
    by_cases h0 : n * inf.size = 0
    · have hnil : news = [] := by rw [hnews]; exact List.eq_nil_of_length_eq_zero (by rw [← hzeq]; simp [hzl, h0])
      subst hnil
      simp [Builtin.append_, run_underlying ht, run_underlying hk, sizeOf, typeInfo, zeroValue, hi, hz, asInt, asIntOf, hw, hlt, hbig, hnr, h63', h48', Question.forced, hold, newRow, grownCap, h0]
      rw [hzz', List.append_toArray]
      rfl
    · have hzn : Builtin.zeroCells z.cells n = news.toArray := by rw [hzc, zeroCells_eq, hnews, hzeq]
      simp [Builtin.append_, run_underlying ht, run_underlying hk, sizeOf, typeInfo, zeroValue, hi, hz, asInt, asIntOf, hw, hlt, hbig, hnr, h63', h48', Question.forced, hold, newRow, grownCap, h0]
      rw [hzz', hzn, List.append_toArray, List.append_toArray]
      rfl
theorem app_nothing {t tx ty el size : Nat} {inf : TypeInfo} {w : World} (ht : P.underlying t = some (.slice el)) (hi : P.info? el = some inf) (hsz : inf.size = size) {base : Option Addr} {sLen sCap : Nat} {x : Value} (hs : Sc P el size tx x 0 [] w) (hle : sLen ≤ sCap) :
    (Builtin.append_ #[t, tx] ty #[.slice base sLen sCap, x]).run P w = .ok (.slice base sLen sCap) w := by
  subst hsz
  cases hs with
  | sl hs => exact run_append_nothing w t tx ty el inf ht hi base sLen sCap hle x hs
  | @mk k1 k2 inf2 zv2 zs2 hk hx hi' hz' hzc' hzl' hby' hn hnews _ =>
    subst hx
    have hw : IntKind.i64.wrap 0 = 0 := by decide
    cases base <;> simp [Builtin.append_, run_underlying ht, run_underlying hk, sizeOf, typeInfo, hi, asInt, asIntOf, hw, hle, storeCells]
end Ry
end Go.TP
/-! Rza. -/
namespace Go.TP
open Go
namespace Ry
variable {P : Program} {d : Option (Slot R)} {x y z : Operand} {xo yo zo : OD R}
section
variable {ρ : Rn} {H : AH} {h : Heap}
/-- A block is given up. -/
theorem hr_kill (hh : HR P ρ H h) (b : Pth) : HR P ρ ⟨H.next, setT none b H.blocks⟩ h ∧ Nx ρ H h ρ ⟨H.next, setT none b H.blocks⟩ h := by
  have hget : ∀ q, getT (setT none b H.blocks) q = if q = b then none else getT H.blocks q := fun q => getT_setT _ _ _ _
  have hsome : ∀ q B, getT (setT none b H.blocks) q = some B → q ≠ b ∧ getT H.blocks q = some B := by
    intro q B hq
    rw [hget] at hq
    split at hq
    · cases hq
    · exact ⟨‹_›, hq⟩
  refine ⟨⟨fun q B hq => hh.blk q B (hsome q B hq).2, fun q q' l l' h1 h2 h3 h4 h5 => ?_, fun q hq => ⟨(hh.new q hq).1, ?_⟩, hh.glob⟩, ⟨Le.refl _, Nat.le_refl _, fun _ _ _ => rfl, fun q l T m s cs B' hq h1 h2 => ?_, fun q l _ h1 => ?_, fun q l h1 h2 => by rw [h1] at h2; cases h2⟩⟩
  · obtain ⟨B, hB⟩ := Option.isSome_iff_exists.1 h1
    obtain ⟨B', hB'⟩ := Option.isSome_iff_exists.1 h2
    refine (hh.inj q q' l l' (by rw [(hsome q B hB).2]; rfl) (by rw [(hsome q' B' hB').2]; rfl) h3 h4 h5).imp id fun ⟨⟨T, s, cs, e1⟩, ⟨T', s', cs', e2⟩⟩ => ⟨⟨T, s, cs, ?_⟩, ⟨T', s', cs', ?_⟩⟩
    · show getT (setT none b H.blocks) q = _; rw [hget, if_neg (hsome q B hB).1]; exact e1
    · show getT (setT none b H.blocks) q' = _; rw [hget, if_neg (hsome q' B' hB').1]; exact e2
  · rw [hget, (hh.new q hq).2]; simp
  · obtain ⟨_, k⟩ := hsome q B' h2
    rw [h1] at k
    cases k
    exact ⟨_, _, _, _, rfl, Nat.le_refl _, Iff.rfl⟩
  · obtain ⟨B, hB⟩ := Option.isSome_iff_exists.1 h1
    rw [(hsome q B hB).2]; rfl
/-- A block is known by another name, and turned. -/
theorem hr_again (hh : HR P ρ H h) {b : Pth} {B0 B : AB} {lo : Lo} {h' : Heap} (hb : getT H.blocks b = some B0) (hnro : ¬ RoB H b) (hρ : ρ b = some lo) (hsz : h'.size = h.size) (hoth : ∀ i, i ≠ lo.g → h'[i]? = h[i]?) (hB : BR (upd ρ H.next lo) h' lo B) :
    HR P (upd ρ H.next lo) ⟨Pth.succ H.next, setT (some B) H.next (setT none b H.blocks)⟩ h' ∧ Nx ρ H h (upd ρ H.next lo) ⟨Pth.succ H.next, setT (some B) H.next (setT none b H.blocks)⟩ h' := by
  obtain ⟨hn1, hn2⟩ := hh.new H.next (Nat.le_refl _)
  have hle := upd_le (lo := lo) hn1
  have hbn : b ≠ H.next := fun he => by rw [he, hn2] at hb; cases hb
  have hold : ∀ q, q ≠ H.next → upd ρ H.next lo q = ρ q := fun q hq => if_neg hq
  have hnew : upd ρ H.next lo H.next = some lo := if_pos rfl
  have hget : ∀ q, getT (setT (some B) H.next (setT none b H.blocks)) q = if q = H.next then some B else if q = b then none else getT H.blocks q := fun q => by rw [getT_setT, getT_setT]
  have hcase : ∀ q B', getT (setT (some B) H.next (setT none b H.blocks)) q = some B' → (q = H.next ∧ B' = B) ∨ (q ≠ H.next ∧ q ≠ b ∧ getT H.blocks q = some B') := by
    intro q B' hq
    rw [hget] at hq
    by_cases h1 : q = H.next
    · rw [if_pos h1] at hq; cases hq; exact .inl ⟨h1, rfl⟩
    · rw [if_neg h1] at hq
      by_cases h2 : q = b
      · rw [if_pos h2] at hq; cases hq
      · rw [if_neg h2] at hq; exact .inr ⟨h1, h2, hq⟩
  have hne : ∀ q l B', q ≠ b → getT H.blocks q = some B' → ρ q = some l → l.g ≠ lo.g := fun q l B' hqb hq hl hg => (hh.inj q b l lo (by rw [hq]; rfl) (by rw [hb]; rfl) hl hρ hg).elim hqb fun hr => hnro hr.2
  refine ⟨⟨fun q B' hq => ?_, fun q q' l l' h1 h2 h3 h4 h5 => ?_, fun q hq => ?_, fun p hp => ?_⟩, ⟨hle, by omega, fun g hg hk => ?_, fun q l T m s cs B' hq h1 h2 => ?_, fun q l hq h1 => ?_, fun q l hq h1 _ => ?_⟩⟩
  · rcases hcase q B' hq with ⟨rfl, rfl⟩ | ⟨k1, k2, k3⟩
    · exact ⟨lo, hnew, hB⟩
    · obtain ⟨l, j1, j2⟩ := hh.blk q B' k3
      exact ⟨l, hle q l j1, (j2.same (hoth l.g (hne q l B' k2 k3 j1))).mono hle⟩
  · obtain ⟨B1, hB1⟩ := Option.isSome_iff_exists.1 h1
    obtain ⟨B2, hB2⟩ := Option.isSome_iff_exists.1 h2
    rcases hcase q B1 hB1 with ⟨k1, k2⟩ | ⟨k1, k2, k3⟩ <;> rcases hcase q' B2 hB2 with ⟨j1, j2⟩ | ⟨j1, j2, j3⟩
    · rw [k1, j1]; exact .inl rfl
    · rw [k1, hnew] at h3; cases h3
      rw [hold q' j1] at h4
      exact absurd h5.symm (hne q' l' B2 j2 j3 h4)
    · rw [j1, hnew] at h4; cases h4
      rw [hold q k1] at h3
      exact absurd h5 (hne q l B1 k2 k3 h3)
    · rw [hold q k1] at h3; rw [hold q' j1] at h4
      refine (hh.inj q q' l l' (by rw [k3]; rfl) (by rw [j3]; rfl) h3 h4 h5).imp id fun ⟨⟨T, s, cs, e1⟩, ⟨T', s', cs', e2⟩⟩ => ⟨⟨T, s, cs, ?_⟩, ⟨T', s', cs', ?_⟩⟩
      · show getT (setT (some B) H.next (setT none b H.blocks)) q = _; rw [hget, if_neg k1, if_neg k2]; exact e1
      · show getT (setT (some B) H.next (setT none b H.blocks)) q' = _; rw [hget, if_neg j1, if_neg j2]; exact e2
  · have hq' : num H.next + 1 ≤ num q := by have := hq; simp only [num_succ] at this; exact this
    have hqn : q ≠ H.next := fun he => by rw [he] at hq'; omega
    obtain ⟨k1, k2⟩ := hh.new q (by omega)
    refine ⟨(hold q hqn).trans k1, ?_⟩
    rw [hget, if_neg hqn, k2]; simp
  · obtain ⟨l, k1, k2⟩ := hh.glob p hp
    exact ⟨l, hle p l k1, k2⟩
  · refine hoth g fun he => ?_
    obtain ⟨_, _, _, _, _, _, _, _, k2⟩ := (hk b lo (by rw [hb]; rfl) hρ he.symm).resolve_right hnro
    have k2 : getT (setT (some B) H.next (setT none b H.blocks)) b = some _ := k2
    rw [hget, if_neg hbn, if_pos rfl] at k2
    cases k2
  · rcases hcase q B' h2 with ⟨k1, _⟩ | ⟨k1, k2, k3⟩
    · rw [k1, hn1] at hq; cases hq
    · rw [h1] at k3; cases k3
      exact ⟨_, _, _, _, rfl, Nat.le_refl _, Iff.rfl⟩
  · obtain ⟨B1, hB1⟩ := Option.isSome_iff_exists.1 h1
    rcases hcase q B1 hB1 with ⟨k1, _⟩ | ⟨k1, k2, k3⟩
    · rw [k1, hn1] at hq; cases hq
    · rw [k3]; rfl
  · have he : q = H.next := by
      by_cases he : q = H.next
      · exact he
      · rw [hold q he, hq] at h1; cases h1
    rw [he, hnew] at h1
    cases h1
    exact .inr ⟨b, lo, by rw [hb]; rfl, hρ, rfl, hnro⟩
end
theorem killB_some {H : AH} {b : Pth} {k : AH → Option R} {r : R} (h : Tr (killB H b k) r) : Tr (k ⟨H.next, setT none b H.blocks⟩) r := by
  obtain ⟨n, t⟩ := H
  simp only [killB] at h
  rw [setK_eq] at h
  exact h
theorem appNew_ok {T sz q : Nat} {cs : List AV} {mk : Pth → AV} (hmk : ∀ b ρ u, VR ρ (.S b 0 q (.un 0)) u → VR ρ (mk b) u) {κ : Cont R} {e : EV} {H : AH} {r : R} (hr : Tr (appNew d T sz cs mk κ e H) r) {ρ0 ρ : Rn} {H0 : AH} {h0 h : Heap} (hx : Nx ρ0 H0 h0 ρ H h) (hh : HR P ρ H h) {c : Nat} {us rest : List Value} (hu : VRs ρ cs us) (hl : (us ++ rest).length = c * sz) (hc : c ≤ maxLen) (hq : q ≤ c) :
    Out P ρ0 H0 h0 (fun v H' => put d v κ e H') (.slice (some ⟨h.size, 0, none⟩) q c) (h.push (.cells (us ++ rest).toArray T)) := by
  replace hr := new_some hr
  obtain ⟨k3, k4⟩ := hr_new hh (.cells T (.op sz) 0 cs) ⟨h.size, c, default, [], 0⟩ (.cells (us ++ rest).toArray T) rfl ⟨us, rest, hu.mono (upd_le (hh.new _ (Nat.le_refl _)).1), by simp, hl, hc⟩
  exact ⟨_, _, _, r, hr, k3, hx.trans k4 hh, hmk _ _ _ (VR.S (lo := ⟨h.size, c, default, [], 0⟩) (m := c) (if_pos rfl) (show c + 0 = c from rfl) hq)⟩
theorem appAt_ok {t tx ty T sz m : Nat} {z v : AV} {cs : List AV} (ht : elemB P t = some (T, sz)) (hz : zeroB P T = some z) (hzl : (cellsOf z).length = sz) (hby : ∀ inf, P.info? T = some inf → inf.bytes ≤ 1024) (hcs : cs.length = m * sz)
    {mk : Pth → Nat → AV} (hmk : ∀ b q ρ u, VR ρ (.S b 0 q (.un 0)) u → VR ρ (mk b q) u) {κ : Cont R} {e : EV} {H : AH} {r : R} (hr : Tr (appAt mk d T sz v cs m κ e H) r) {ρ : Rn} {u x' : Value} {news : List Value} {w : World} (hh : HR P ρ H w.heap) (hv : VR ρ v u) (hn : VRs ρ cs news) (hs : Sc P T sz tx x' m news w) :
    ∃ v' w', (Builtin.append_ #[t, tx] ty #[u, x']).run P w = .ok v' w' ∧ w'.os = w.os ∧ w'.tape = w.tape ∧ w'.output = w.output ∧ Out P ρ H w.heap (fun v H' => put d v κ e H') v' w'.heap := by
  obtain ⟨e1, inf, e2, e3⟩ := (elemB_spec ht).spec
  obtain ⟨inf', zv, z1, z2, z3⟩ := zeroB_spec hz
  rw [e2] at z1; cases z1
  obtain ⟨zs, z4, z5⟩ := (ofV_VR ρ z3).cells
  have hzsl : zs.length = sz := by rw [z5.len, hzl]
  have hnl := hn.len
  unfold appAt at hr
  split at hr
  · -- nil, nothing
    cases hv
    have : news = [] := List.eq_nil_of_length_eq_zero (by rw [hnl, hcs]; simp)
    subst this
    exact ⟨_, w, app_nothing e1 e2 e3 hs (Nat.le_refl _), rfl, rfl, rfl, _, _, _, r, hr, hh, Nx.refl _ _ _, .nils⟩
  · rename_i m
    cases hv
    rw [ifK_eq] at hr
    split at hr
    · rename_i hle
      have hle := Nat.le_of_ble_eq_true hle
      obtain ⟨c, c1, c2, rest, c3, c4⟩ := app_grow (ty := ty) e1 e2 z2 z4 hzsl (hby _ e2) e3 (base := none) (sLen := 0) (sCap := 0) (olds := []) hs (run_firstCells_none w.drew sz 0 0 0) (by omega) (by omega)
      rw [Nat.zero_add] at c1 c3 c4
      rw [List.nil_append] at c4
      refine ⟨_, _, c4, rfl, rfl, rfl, ?_⟩
      exact appNew_ok (fun b ρ u hu => hmk b _ ρ u hu) hr (Nx.refl _ _ _) hh hn (by rw [List.length_append, hnl, hcs, c3, ← Nat.add_mul]; congr 1; omega) c2 c1
    · cases hr
  · rename_i b o n c
    cases hv with
    | S h1 h2 h3 =>
      have : news = [] := List.eq_nil_of_length_eq_zero (by rw [hnl, hcs]; simp)
      subst this
      exact ⟨_, w, app_nothing e1 e2 e3 hs h3, rfl, rfl, rfl, _, _, _, r, hr, hh, Nx.refl _ _ _, .S h1 h2 h3⟩
  · rename_i b o n c m
    rw [natK_eq, ifK_eq] at hr
    split at hr
    · rename_i hle
      have hle := Nat.le_of_ble_eq_true hle
      rw [ifK_eq] at hr
      split at hr
      · rename_i hroom
        have hroom := Nat.le_of_ble_eq_true hroom
        replace hr := blk_some hr
        obtain ⟨B, hB, hr⟩ := hr
        replace hr := cellsB_some hr
        obtain ⟨T', md, s, ds, rfl, hr⟩ := hr
        cases md with
        | ro => cases hr
        | op _ => cases hr
        | shut =>
          simp only at hr
          rw [overK_eq] at hr
          split at hr
          · rename_i hov
            rw [natK_eq] at hr
            replace hr := putB_some hr
            cases hv with
            | S h1 h2 h3 =>
              rename_i lo
              cases h2
              obtain ⟨lo', h4, h5⟩ := hh.blk b _ hB
              rw [h1] at h4; cases h4
              obtain ⟨cur, h9, h10, h11⟩ := h5.over (by simp) hn hov
              obtain ⟨h', a1, a2, a3, a4⟩ := app_room (ty := ty) e1 e2 e3 hs hroom h9 (by omega)
              obtain ⟨k1, k2⟩ := hr_set hh (by simp) hB h1 a2 a3 (h11 h' (s + 1) a4)
              exact ⟨_, _, a1, rfl, rfl, rfl, _, _, _, r, hr, k1, k2, .S h1 rfl hroom⟩
          · cases hr
      · rename_i hroom
        have hroom : ¬ n + (m + 1) ≤ c := fun hh => hroom (Nat.ble_eq_true_of_le hh)
        replace hr := slCells_some (P := P) hr
        obtain ⟨old, n', hr, hol, hov⟩ := hr
        rw [appK_eq] at hr
        obtain ⟨a, mm, us, k1, k2, k3, k4, k5⟩ := hov ρ w.heap u hh hv
        cases hv with
        | S h1 h2 h3 =>
          cases h2
          cases k1
          have hold : (Builtin.firstCells sz n (.slice (some _) n c)).run P w.drew = .ok us.toArray w.drew := run_firstCells_some w.drew sz n _ n c us (by rw [k2.len, hol]) fun j u hj => by
            rw [addr_add, cell_cel (w := w.drew) (h := w.heap) rfl]
            exact k5 _ rfl w.heap (fun _ _ _ _ => rfl) j u hj
          obtain ⟨c', c1, c2, rest, c3, c4⟩ := app_grow (ty := ty) e1 e2 z2 z4 hzsl (hby _ e2) e3 (sLen := n) (sCap := c) (olds := us) hs hold (by omega) (by omega)
          refine ⟨_, _, c4, rfl, rfl, rfl, ?_⟩
          have hlen : us.length = n * sz := by rw [k2.len, hol]
          exact appNew_ok (fun b ρ u hu => hmk b _ ρ u hu) hr (Nx.refl _ _ _) hh (k2.append hn) (by rw [List.length_append, List.length_append, hlen, hnl, hcs, c3, ← Nat.add_mul, ← Nat.add_mul]; congr 1; omega) c2 c1
    · cases hr
  · rename_i b o n q m
    replace hr := blk_some hr
    obtain ⟨B, hB, hr⟩ := hr
    replace hr := cellsB_some hr
    obtain ⟨T', md, s, ds, rfl, hr⟩ := hr
    cases md with
    | ro => cases hr
    | shut => cases hr
    | op zz =>
      simp only [natK_eq, ifK_eq] at hr
      split at hr
      · rename_i hc
        simp only [Bool.and_eq_true] at hc
        obtain ⟨hc1, hc2, hc3, hc4, hc5⟩ := hc
        have hle := Nat.le_of_ble_eq_true hc1
        have hc2 := Nat.eq_of_beq_eq_true hc2
        have hc3 := Nat.eq_of_beq_eq_true hc3
        have hc4 := Nat.eq_of_beq_eq_true hc4
        have hc5 := Nat.eq_of_beq_eq_true hc5
        subst hc2 hc3 hc4 hc5
        rw [takeK_eq] at hr
        split at hr
        · rename_i htk
          replace hr := killB_some hr
          rw [appK_eq] at hr
          cases hv with
          | S h1 h2 h3 =>
            rename_i M lo
            have h2 : M + 0 = lo.c := h2
            obtain ⟨lo', h4, h5⟩ := hh.blk b _ hB
            rw [h1] at h4; cases h4
            obtain ⟨ws, rest, b1, b2, b3, b4⟩ := h5
            have hwl := b1.len
            have htk' : n * zz ≤ ws.length := by rw [hwl]; exact htk
            have hM : M = lo.c := by omega
            subst hM
            have htake : (ws ++ rest).take (n * zz) = ws.take (n * zz) := List.take_append_of_le_length htk'
            have hus : VRs ρ (ds.take (n * zz) ++ cs) (ws.take (n * zz) ++ news) := (b1.take _).append hn
            have hwtl : (ws.take (n * zz)).length = n * zz := by rw [List.length_take]; exact Nat.min_eq_left htk'
            by_cases hroom : n + (m + 1) ≤ lo.c
            · have hov : 0 + n * zz + news.length ≤ (ws ++ rest).length := by
                rw [b3, hnl, hcs, Nat.zero_add, ← Nat.add_mul]
                exact Nat.mul_le_mul_right _ hroom
              obtain ⟨h', a1, a2, a3, a4⟩ := app_room (ty := ty) e1 e2 e3 hs hroom b2 hov
              rw [Nat.zero_add, htake] at a4
              have hdl : ((ws.take (n * zz) ++ news) ++ (ws ++ rest).drop (n * zz + news.length)).length = lo.c * zz := by
                rw [List.length_append, List.length_append, List.length_drop, hwtl, b3]
                rw [b3] at hov
                omega
              replace hr := new_some hr
              obtain ⟨k1, k2⟩ := hr_again (B := .cells T' (.op zz) 0 (ds.take (n * zz) ++ cs)) hh hB (fun ⟨_, _, _, hr⟩ => by rw [hB] at hr; cases hr) h1 a2 a3 ⟨_, _, hus.mono (upd_le (hh.new _ (Nat.le_refl _)).1), a4, hdl, b4⟩
              exact ⟨_, _, a1, rfl, rfl, rfl, _, _, _, r, hr, k1, k2, hmk _ _ _ _ (VR.S (if_pos rfl) (show lo.c + 0 = lo.c from rfl) hroom)⟩
            · have hold : (Builtin.firstCells zz n (.slice (some ⟨lo.g, 0, none⟩) n lo.c)).run P w.drew = .ok (ws.take (n * zz)).toArray w.drew := run_firstCells_some w.drew zz n _ n lo.c _ hwtl fun j u hj => by
                rw [addr_add, cell_cel (w := w.drew) (h := w.heap) rfl]
                simp only [cel, b2, Nat.zero_add, List.getElem?_toArray]
                rw [← htake, List.getElem?_take] at hj
                split at hj
                · exact hj
                · cases hj
              obtain ⟨c', c1, c2, rest', c3, c4⟩ := app_grow (ty := ty) e1 e2 z2 z4 hzsl (hby _ e2) e3 (sLen := n) (sCap := lo.c) (olds := ws.take (n * zz)) hs hold (by omega) (by omega)
              obtain ⟨k1, k2⟩ := hr_kill hh b
              refine ⟨_, _, c4, rfl, rfl, rfl, ?_⟩
              exact appNew_ok (fun b ρ u hu => hmk b _ ρ u hu) hr k2 k1 hus (by rw [List.length_append, List.length_append, hwtl, hnl, hcs, c3, ← Nat.add_mul, ← Nat.add_mul]; congr 1; omega) c2 c1
        · cases hr
      · cases hr
  · cases hr
theorem smallB_spec {T : Nat} (h : smallB P T = true) : ∀ inf, P.info? T = some inf → inf.bytes ≤ 1024 := by
  intro inf hi
  unfold smallB at h
  rw [hi] at h
  exact Nat.le_of_ble_eq_true h
theorem lenSl_some {a : AV} {k : Nat → Option R} {r : R} (h : Tr (lenSl a k) r) : ∃ n, Tr (k n) r ∧ ∀ ρ u, VR ρ a u → ∃ A c, u = .slice A n c := by
  unfold lenSl at h
  split at h
  · exact ⟨_, h, fun ρ u hu => by cases hu; exact ⟨_, _, rfl⟩⟩
  · exact ⟨_, h, fun ρ u hu => by cases hu; exact ⟨_, _, rfl⟩⟩
  · exact ⟨_, h, fun ρ u hu => by cases hu; exact ⟨_, _, rfl⟩⟩
  · cases h
theorem eff_append {t tx : Nat} {v : AV} {cs : List AV} {m T sz : Nat} {z : AV} {κ : Cont R} {e : EV} {H : AH} {r : R} (ht : elemB P t = some (T, sz)) (hz : zeroB P T = some z) (hzl : (cellsOf z).length = sz) (hby : smallB P T = true) (hcs : cs.length = m * sz)
    {mk : Pth → Nat → AV} (hmk : ∀ b q ρ u, VR ρ (.S b 0 q (.un 0)) u → VR ρ (mk b q) u) (hr : Tr (appAt mk d T sz v cs m κ e H) r) {ρ : Rn} {h : Heap} {E : Env} (hh : HR P ρ H h) {ux uy : Value} (hv : VR ρ v ux) (hx : ev E x = some ux) (hy : ev E y = some uy)
    (hs : ∀ w : World, w.heap = h → ∃ news, VRs ρ cs news ∧ Sc P T sz tx uy m news w) (rd : Option Nat) (dst : Option Tmp) (ty : TypeId) (pos : String) (aft : Array Edge) :
    Ef P rd E h ⟨dst, .call ⟨.builtin .append, #[x, y], #[t, tx]⟩, ty, pos, aft, none⟩ (Out P ρ H h fun v H' => put d v κ e H') := by
  obtain ⟨tc, htc⟩ := resolve_builtin .append #[x, y] #[t, tx] ty
  refine ef_of_run (fun _ _ _ _ => by simp only [Oper.about, htc]; rfl) (fun _ hc => by cases hc) fun σ w hA hw => ?_
  subst hw
  obtain ⟨news, h1, h2⟩ := hs w rfl
  obtain ⟨v', w', a1, a2, a3, a4, a5⟩ := appAt_ok (tx := tx) (ty := ty) ht hz hzl (smallB_spec hby) hcs hmk hr hh hv h1 h2
  have hargs : (#[x, y] : Array Operand).map σ = #[ux, uy] := by simp [hA x _ hx, hA y _ hy]
  refine ⟨v', w', .inl ?_, a5, a2, a3, a4⟩
  simp only [execOp, htc, hargs, Sem.run_bind, Sem.run_pure, Result.andThen, invoke, builtin, a1]
/-- Nothing is appended. -/
theorem eff_nothing {t tx : Nat} {v : AV} {T sz : Nat} {κ : Cont R} {e : EV} {H : AH} {r : R} (ht : elemB P t = some (T, sz)) (hr : Tr (put d v κ e H) r) {ρ : Rn} {h : Heap} {E : Env} (hh : HR P ρ H h) {ux uy : Value} (hv : VR ρ v ux) (hsl : ∃ A n c, ux = .slice A n c ∧ n ≤ c) (hx : ev E x = some ux) (hy : ev E y = some uy)
    (hs : ∀ w : World, w.heap = h → Sc P T sz tx uy 0 [] w) (rd : Option Nat) (dst : Option Tmp) (ty : TypeId) (pos : String) (aft : Array Edge) :
    Ef P rd E h ⟨dst, .call ⟨.builtin .append, #[x, y], #[t, tx]⟩, ty, pos, aft, none⟩ (Out P ρ H h fun v H' => put d v κ e H') := by
  obtain ⟨tc, htc⟩ := resolve_builtin .append #[x, y] #[t, tx] ty
  refine ef_of_run (fun _ _ _ _ => by simp only [Oper.about, htc]; rfl) (fun _ hc => by cases hc) fun σ w hA hw => ?_
  subst hw
  obtain ⟨e1, inf, e2, e3⟩ := (elemB_spec ht).spec
  obtain ⟨A, n, c, rfl, hle⟩ := hsl
  have a1 := app_nothing (ty := ty) e1 e2 e3 (hs w rfl) (base := A) hle
  have hargs : (#[x, y] : Array Operand).map σ = #[.slice A n c, uy] := by simp [hA x _ hx, hA y _ hy]
  refine ⟨_, w, .inl ?_, ⟨_, _, _, r, hr, hh, Nx.refl _ _ _, hv⟩, rfl, rfl, rfl⟩
  simp only [execOp, htc, hargs, Sem.run_bind, Sem.run_pure, Result.andThen, invoke, builtin, a1]
theorem mkZ_ok : ∀ b (q : Nat) ρ u, VR ρ (.S b 0 q (.un 0)) u → VR ρ (mkZ b q) u := by
  intro b q ρ u hu
  cases hu with
  | S h1 h2 h3 =>
    rename_i m lo
    have := VR.ss (ρ := ρ) (b := b) (o := 0) (n := (q : Int)) (cq := some 0) (lo := lo) (og := 0) (m := m) h1 (by omega) (fun _ => ⟨by omega, rfl⟩) (fun q hq => by cases hq; exact h2) (by simpa using h3)
    show VR ρ (.X (.ss b 0 (q : Int) (some 0))) _
    simpa using this
theorem fork_tr {p : Prop} {x y : Option R} {r : R} (h : Tr (fork p x y) r) : (p ∧ Tr x r) ∨ (¬ p ∧ Tr y r) := by
  obtain ⟨h1, h2⟩ := h
  rw [ofO_tr (r := r)] at h1 h2
  by_cases hp : p
  · exact .inl ⟨hp, h1 hp⟩
  · exact .inr ⟨hp, h2 hp⟩
theorem appS_some {T sz : Nat} {v : AV} {cs : List AV} {m : Int} {κ : Cont R} {e : EV} {H : AH} {r : R} (hr : Tr (appS d T sz v cs m κ e H) r) (hcs : cs.length = m.toNat * sz) :
    (m ≤ 0 ∧ Tr (put d v κ e H) r ∧ ∀ ρ u, VR ρ v u → ∃ A n c, u = .slice A n c ∧ n ≤ c) ∨ ∃ v', (∀ ρ u, VR ρ v u → VR ρ v' u) ∧ Tr (appAt (fun b q => mkZ b q) d T sz v' cs m.toNat κ e H) r := by
  unfold appS at hr
  split at hr
  · replace hr := fork_tr hr
    rcases hr with ⟨hm, hr⟩ | ⟨hm, hr⟩
    · exact .inl ⟨hm, hr, fun ρ u hu => by cases hu; exact ⟨_, _, _, rfl, Nat.le_refl _⟩⟩
    · obtain ⟨hle, hr⟩ := need_some hr
      refine .inr ⟨_, fun _ _ h => h, ?_⟩
      obtain ⟨m', rfl⟩ : ∃ m' : Nat, m = ((m' + 1 : Nat) : Int) := ⟨(m - 1).toNat, by omega⟩
      simp only [Int.toNat_natCast, appAt, ifK_eq]
      rw [if_pos (Nat.ble_eq_true_of_le (by omega))]
      exact hr
  · rename_i b o n c
    replace hr := fork_tr hr
    rcases hr with ⟨hm, hr⟩ | ⟨hm, hr⟩
    · exact .inl ⟨hm, hr, fun ρ u hu => by cases hu with | S h1 h2 h3 => exact ⟨_, _, _, rfl, h3⟩⟩
    · obtain ⟨⟨hlt, hle⟩, hr⟩ := need_some hr
      refine .inr ⟨_, fun _ _ h => h, ?_⟩
      obtain ⟨m', rfl⟩ : ∃ m' : Nat, m = ((m' + 1 : Nat) : Int) := ⟨(m - 1).toNat, by omega⟩
      simp only [Int.toNat_natCast, appAt, ifK_eq, natK_eq]
      rw [if_pos (Nat.ble_eq_true_of_le (by omega)), if_neg (fun hh => by have := Nat.le_of_ble_eq_true hh; omega)]
      simp only [appK_eq]
      exact hr
  · rename_i b o n u
    replace hr := fork_tr hr
    rcases hr with ⟨hm, hr⟩ | ⟨hm, hr⟩
    · exact .inl ⟨hm, hr, fun ρ u hu => by cases hu with | S h1 h2 h3 => exact ⟨_, _, _, rfl, h3⟩⟩
    · refine .inr ⟨_, fun _ _ h => h, ?_⟩
      obtain ⟨m', rfl⟩ : ∃ m' : Nat, m = ((m' + 1 : Nat) : Int) := ⟨(m - 1).toNat, by omega⟩
      replace hr := blk_some hr
      obtain ⟨B, hB, hr⟩ := hr
      replace hr := cellsB_some hr
      obtain ⟨T', md, s, ds, rfl, hr⟩ := hr
      cases md with
      | ro => cases hr
      | shut => cases hr
      | op z =>
        simp only [ifK_eq] at hr
        split at hr
        · rename_i hc
          obtain ⟨hle, hr⟩ := need_some hr
          have hb : blk H b = fun (k : AB → Option R) => k (.cells T' (.op z) s ds) := by
            obtain ⟨nx, t⟩ := H
            funext k
            show getK t b k = _
            rw [getK_eq, hB]; rfl
          simp only [Int.toNat_natCast, appAt, ifK_eq, natK_eq, hb, cellsB]
          rw [if_pos (by simp only [Bool.and_eq_true] at hc ⊢; exact ⟨Nat.ble_eq_true_of_le (by omega), hc⟩)]
          simp only [appK_eq]
          exact hr
        · cases hr
  · rename_i b o n u
    replace hr := fork_tr hr
    rcases hr with ⟨hm, hr⟩ | ⟨hm, hr⟩
    · exact .inl ⟨hm, hr, fun ρ u hu => by cases hu with | ss h1 h2 h3 h4 h5 => exact ⟨_, _, _, rfl, h5⟩⟩
    · obtain ⟨m', rfl⟩ : ∃ m' : Nat, m = ((m' + 1 : Nat) : Int) := ⟨(m - 1).toNat, by omega⟩
      replace hr := blk_some hr
      obtain ⟨B, hB, hr⟩ := hr
      replace hr := cellsB_some hr
      obtain ⟨T', md, s, ds, rfl, hr⟩ := hr
      cases md with
      | ro => cases hr
      | shut => cases hr
      | op z =>
        simp only [ifK_eq] at hr
        split at hr
        · rename_i hc
          replace hr := need_some hr
          obtain ⟨⟨rfl, hn, hle, hlen⟩, hr⟩ := hr
          obtain ⟨n, rfl⟩ := Int.eq_ofNat_of_zero_le (show (0 : Int) ≤ n by omega)
          have hns : ((n : Int) * (sz : Int)).toNat = n * sz := by rw [← Int.natCast_mul]; exact Int.toNat_natCast _
          have hlen' : n * sz ≤ ds.length := by rw [← Int.natCast_mul] at hlen; omega
          refine .inr ⟨.S b 0 n (.un u), fun ρ v hv => ?_, ?_⟩
          · cases hv with
            | ss h1 h2 h3 h4 h5 =>
              obtain ⟨_, rfl⟩ := h3 hn
              simp only [Int.toNat_natCast]
              exact .S h1 (h4 _ rfl) (by simpa using h5)
          · have hb : blk H b = fun (k : AB → Option R) => k (.cells T' (.op z) s ds) := by
              obtain ⟨nx, t⟩ := H
              funext k
              show getK t b k = _
              rw [getK_eq, hB]; rfl
            simp only [Int.toNat_natCast, appAt, ifK_eq, natK_eq, hb, cellsB]
            simp only [Bool.and_eq_true] at hc
            rw [if_pos (by simp only [Bool.and_eq_true]; exact ⟨Nat.ble_eq_true_of_le (by omega), rfl, hc⟩)]
            rw [takeK_eq, if_pos (show Nat.mul n sz ≤ ds.length from hlen')]
            simp only [appK_eq]
            rw [hns] at hr
            exact hr
        · cases hr
  · cases hr
theorem eff_app {t tx T sz : Nat} {e' : TypeId} {z : AV} (ht : elemB P t = some (T, sz)) (htx : P.underlying tx = some (.slice e')) (hz : zeroB P T = some z) (hzl : (cellsOf z).length = sz) (hby : smallB P T = true) (hx : OpS P x xo) (hy : OpS P y yo) :
    EffS P (.call ⟨.builtin .append, #[x, y], #[t, tx]⟩) d (iApp d T sz xo yo) := by
  intro cx κ e H r hr ρ h E hh he rd dst ty pos aft
  simp only [iApp, hx.eq] at hr
  replace hr := bind_tr hr
  obtain ⟨v, hv, hr⟩ := hr
  simp only [hy.eq] at hr
  replace hr := bind_tr hr
  obtain ⟨u, hu, hr⟩ := hr
  obtain ⟨ux, h1, h2⟩ := hx.ok ρ H h e E v hh he hv
  obtain ⟨uy, h3, h4⟩ := hy.ok ρ H h e E u hh he hu
  have fin : ∀ (cs : List AV) (m : Int), cs.length = m.toNat * sz → Tr (appS d T sz v cs m κ e H) r → (∀ w : World, w.heap = h → ∃ news, VRs ρ cs news ∧ Sc P T sz tx uy m.toNat news w) → Ef P rd E h ⟨dst, .call ⟨.builtin .append, #[x, y], #[t, tx]⟩, ty, pos, aft, none⟩ (Out P ρ H h fun v H' => put d v κ e H') := by
    intro cs m hcs hr hs
    rcases appS_some hr hcs with ⟨hm, hr, hsl⟩ | ⟨v', hvv, hr⟩
    · have hm0 : m.toNat = 0 := by omega
      rw [hm0] at hs hcs
      refine eff_nothing ht hr hh h1 (hsl ρ ux h1) h2 h4 (fun w hw => ?_) rd dst ty pos aft
      obtain ⟨news, n1, n2⟩ := hs w hw
      have : news = [] := List.eq_nil_of_length_eq_zero (by rw [n1.len, hcs]; simp)
      rw [this] at n2
      exact n2
    · exact eff_append ht hz hzl hby hcs mkZ_ok hr hh (hvv ρ ux h1) h2 h4 hs rd dst ty pos aft
  split at hr
  · rename_i b o n cq
    replace hr := blk_some hr
    obtain ⟨B, hB, hr⟩ := hr
    replace hr := cellsB_some hr
    obtain ⟨T', md, s, ds, rfl, hr⟩ := hr
    obtain ⟨⟨q1, q2, q3, q4⟩, hr⟩ := need_some hr
    rw [relO_eq] at q1 q3 q4 hr
    have hob : (o - (baseN md T' : Int)).toNat + baseN md T' = o.toNat := by omega
    generalize hrel : o - (baseN md T' : Int) = o' at q1 q3 q4 hr hob
    obtain ⟨n, rfl⟩ := Int.eq_ofNat_of_zero_le q2
    obtain ⟨o', rfl⟩ := Int.eq_ofNat_of_zero_le q1
    have hns : ((n : Int) * (sz : Int)).toNat = n * sz := by rw [← Int.natCast_mul]; exact Int.toNat_natCast _
    have hlen : o' + n * sz ≤ ds.length := by rw [← Int.natCast_mul] at q3; omega
    have hpl : (partA ds o' (n * sz)).length = n * sz := by simp only [partA, hns, Int.toNat_natCast, List.length_take, List.length_drop]; omega
    refine fin _ _ (by simpa using hpl) hr fun w hw => ?_
    cases h3 with
    | ss k1 k2 k3 k4 k5 =>
      rename_i lo og m
      obtain ⟨lo', g1, g2⟩ := hh.blk b _ hB
      rw [k1] at g1; cases g1
      obtain ⟨us, g3, g4⟩ := g2.readB
      have hvs : VRs ρ (partA ds o' (n * sz)) ((us.drop o').take (n * sz)) := by
        unfold partA
        rw [hns, Int.toNat_natCast]
        exact (g3.drop _).take _
      refine ⟨_, hvs, .sl (Src.ofSlice w htx ⟨lo.g, og, none⟩ (n : Int).toNat m _ (by rw [hvs.len, hpl]; simp) (fun j q hj => ?_) (ones_ok q4 hvs))⟩
      rw [addr_add, cell_cel hw]
      rw [List.getElem?_take] at hj
      split at hj
      · rename_i hjlt
        have hn0 : 0 < n := by
          cases n with
          | zero => simp at hjlt
          | succ n => omega
        obtain ⟨_, rfl⟩ := k3 (by omega)
        rw [List.getElem?_drop] at hj
        have := g4 _ _ hj
        rw [show baseN md T' + (o' + j) = o.toNat + j by omega] at this
        exact this
      · cases hj
  replace hr := slCells_some (P := P) hr
  obtain ⟨cs, n, hr, hl, hc⟩ := hr
  replace hr := lenSl_some hr
  obtain ⟨m, hr, hm⟩ := hr
  rw [ifK_eq] at hr
  split at hr
  · rename_i hone
    obtain ⟨a, mm, us, rfl, k2, k3, k4, k5⟩ := hc ρ h uy hh h3
    obtain ⟨A', c', hA'⟩ := hm ρ _ h3
    cases hA'
    have hsrc : ∀ w : World, w.heap = h → ∃ news, VRs ρ cs news ∧ Sc P T sz tx (.slice a n mm) n news w := fun w hw => ⟨us, k2, .sl (by
      cases a with
      | none =>
        have := k3 rfl
        subst this
        have hnil : us = [] := List.eq_nil_of_length_eq_zero (by rw [k2.len, hl]; simp)
        subst hnil
        exact Src.ofNil w htx mm
      | some ad =>
        refine Src.ofSlice w htx ad n mm us (by rw [k2.len, hl]) (fun j q hj => ?_) (ones_ok hone k2)
        obtain ⟨bb, oo, sp⟩ := ad
        have hsp : sp = none := k4 _ rfl
        subst hsp
        rw [addr_add, cell_cel hw]
        exact k5 _ rfl h (fun _ _ _ _ => rfl) j q hj)⟩
    split at hr
    · exact fin cs (Int.ofNat n) (by simpa using hl) hr (by simpa using hsrc)
    · exact eff_append ht hz hzl hby hl (fun _ _ _ _ h => h) hr hh h1 h2 h4 hsrc rd dst ty pos aft
  · cases hr
theorem eff_apm {t tx T sz : Nat} {k0 : IntKind} {z : AV} (ht : elemB P t = some (T, sz)) (htx : P.underlying tx = some (.int k0)) (hz : zeroB P T = some z) (hzl : (cellsOf z).length = sz) (hby : smallB P T = true) (hx : OpS P x xo) (hy : OpS P y yo) :
    EffS P (.call ⟨.builtin .append, #[x, y], #[t, tx]⟩) d (iApm d T sz (cellsOf z) xo yo) := by
  intro cx κ e H r hr ρ h E hh he rd dst ty pos aft
  simp only [iApm, hx.eq] at hr
  replace hr := bind_tr hr
  obtain ⟨v, hv, hr⟩ := hr
  simp only [hy.eq] at hr
  replace hr := bind_tr hr
  obtain ⟨u, hu, hr⟩ := hr
  replace hr := asN_some hr
  obtain ⟨m, hik, hr⟩ := hr
  rw [ifK_eq] at hr
  split at hr
  · rename_i hc
    simp only [Bool.and_eq_true] at hc
    have hm := Nat.le_of_ble_eq_true hc.1
    rw [repK_eq] at hr
    obtain ⟨ux, h1, h2⟩ := hx.ok ρ H h e E v hh he hv
    obtain ⟨uy, h3, h4⟩ := hy.ok ρ H h e E _ hh he hu
    obtain ⟨ik, rfl⟩ := hik.val h3
    obtain ⟨inf, zv, z1, z2, z3⟩ := zeroB_spec hz
    obtain ⟨zs, z4, z5⟩ := (ofV_VR ρ z3).cells
    have hzsl : zs.length = sz := by rw [z5.len, hzl]
    refine eff_append ht hz hzl hby (by simp [hzl]) (fun _ _ _ _ h => h) hr hh h1 h2 h4 (fun w hw => ⟨_, z5.rep m, .mk htx rfl z1 z2 z4 hzsl (smallB_spec hby _ z1) hm rfl fun q hq => ?_⟩) rd dst ty pos aft
    obtain ⟨l, hl1, hl2⟩ := List.mem_flatten.1 hq
    rw [List.eq_of_mem_replicate hl1] at hl2
    exact ones_ok hc.2 z5 q hl2
  · cases hr
end Ry
end Go.TP
