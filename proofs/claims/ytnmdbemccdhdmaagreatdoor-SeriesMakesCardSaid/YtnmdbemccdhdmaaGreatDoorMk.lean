/- SeriesMakes, reckoned: one run for each way that the numbers may lie. -/
import Derived.Test.YtnmdbemccdhdmaaGreatDoorAwk
namespace Go.Proofs.YtnmdbemccdhdmaaGreatDoor
open Go Go.TP Go.TP.Ry
noncomputable section
def behL : List Int := [0, 3, 6, 9, 12, 18, 25, 56, 64]
def bruL : List Int := [0, 1, 56, 2, 57, 49, 28, 3, 61, 58, 42, 50, 38, 29, 17, 4, 62, 47, 59, 36, 45, 43, 51, 22, 53, 39, 33, 30, 24, 18, 12, 5, 63, 55, 48, 27, 60, 41, 37, 16, 46, 35, 44, 21, 52, 32, 23, 11, 54, 26, 40, 15, 34, 20, 31, 10, 25, 14, 19, 9, 13, 8, 7, 6]
/-- Are the cells these numbers? -/
def isIs (k : IntKind) : List Int → List AV → Bool
  | [], [] => true
  | n :: ns, .I j m :: cs => kEq k j && (decide (n = m) && isIs k ns cs)
  | _, _ => false
theorem isIs_eq {k : IntKind} : ∀ {ns : List Int} {cs : List AV}, isIs k ns cs = true → cs = ns.map fun n => .I k n
  | [], [], _ => rfl
  | n :: ns, .I j m :: cs, h => by
    simp only [isIs, Bool.and_eq_true, decide_eq_true_eq] at h
    obtain ⟨h1, rfl, h2⟩ := h
    rw [isIs_eq h2, ← kEq_eq h1]
    rfl
  | [], _ :: _, h => by cases h
  | _ :: _, [], h => by cases h
  | _ :: _, .B _ :: _, h => by cases h
  | _ :: _, .P _ _ :: _, h => by cases h
  | _ :: _, .S _ _ _ _ :: _, h => by cases h
  | _ :: _, .X _ :: _, h => by cases h
def awHook {R : Type} : FD R := fun vs H k => match vs with
  | [] => blk H (sl 0) fun B => cellsB B fun _ _ _ gs => chkErr 227 39 (sl 4) gs (blk H (sl 2) fun B => cellsB B fun _ _ _ bs => ifK (isIs .i64 behL bs) (blk H (sl 3) fun B => cellsB B fun _ _ _ ds => ifK (isIs .u8 bruL ds) (k (.B true) H) none) none)
  | _ => none
def hk1 {R : Type} : Nat → Option (FD R) := fun f => match Nat.beq f 9 with
  | true => some awHook
  | false => hk0 f
def ok1 : AV → AH → Option Unit := fun v H => match v with | .B true => keptK (gl.map fun x => sl x.1) H | _ => none
def vsym (fs : List (Nat × Int × Bool)) : AV := .X (.sym (sl 5) fs)
def ssym (fs : List (Nat × Int × Bool)) : AV := .X (.sym (sl 6) fs)
def bsym (fs : List (Nat × Int × Bool)) : AV := .X (.sym (sl 7) fs)
def goM (v s b : AV) : Option Unit := call Tryz.prog hk1 1000000 200 [] [] (.fn 4) [v, .X (.agg [s, b])] ⟨sl 10, initB gl⟩ ok1
def vOther : List (Nat × Int × Bool) := [(5, 0, true), (5, 1, true), (4, 0, false), (4, 1, false)]
theorem m1 : goM (vsym vOther) (ssym []) (bsym []) = some () := by kernel_rfl
theorem m2_0 : goM (.I .i64 0) (ssym [(3, 1, false)]) (bsym []) = some () := by kernel_rfl
theorem m2_1 : goM (.I .i64 1) (ssym [(3, 1, false)]) (bsym []) = some () := by kernel_rfl
theorem m3_0 : goM (.I .i64 0) (ssym [(3, 1, true), (1, 1024, false)]) (bsym []) = some () := by kernel_rfl
theorem m3_1 : goM (.I .i64 1) (ssym [(3, 1, true), (1, 1024, false)]) (bsym []) = some () := by kernel_rfl
theorem m4_0 : goM (.I .i64 0) (ssym [(3, 1, true), (1, 1024, true)]) (bsym [(3, 1, false)]) = some () := by kernel_rfl
theorem m4_1 : goM (.I .i64 1) (ssym [(3, 1, true), (1, 1024, true)]) (bsym [(3, 1, false)]) = some () := by kernel_rfl
theorem m5_0 : goM (.I .i64 0) (ssym [(3, 1, true), (1, 1024, true)]) (bsym [(3, 1, true), (1, 1048576, false)]) = some () := by kernel_rfl
theorem m5_1 : goM (.I .i64 1) (ssym [(3, 1, true), (1, 1024, true)]) (bsym [(3, 1, true), (1, 1048576, false)]) = some () := by kernel_rfl
theorem m6_0 : goM (.I .i64 0) (ssym [(3, 1, true), (1, 1024, true)]) (bsym [(3, 1, true), (1, 1048576, true)]) = some () := by kernel_rfl
theorem m6_1 : goM (.I .i64 1) (ssym [(3, 1, true), (1, 1024, true)]) (bsym [(3, 1, true), (1, 1048576, true)]) = some () := by kernel_rfl
end
end Go.Proofs.YtnmdbemccdhdmaaGreatDoor
