/- errors.As told by its contract; what the package's variables hold. -/
import Derived.Test.YtemmcnbfajlljaaGreatDoorRb
import Derived.Test.YtemmcnbfajlljaaGreatDoorAs
namespace Go.Proofs.YtemmcnbfajlljaaGreatDoor
open Go Go.TP Go.TP.Ry
noncomputable section
def behL : List Int := [0, 3, 6, 9, 12, 18, 25, 56, 64]
def bruL : List Int := [0, 1, 56, 2, 57, 49, 28, 3, 61, 58, 42, 50, 38, 29, 17, 4, 62, 47, 59, 36, 45, 43, 51, 22, 53, 39, 33, 30, 24, 18, 12, 5, 63, 55, 48, 27, 60, 41, 37, 16, 46, 35, 44, 21, 52, 32, 23, 11, 54, 26, 40, 15, 34, 20, 31, 10, 25, 14, 19, 9, 13, 8, 7, 6]
def errT : List AV := [.X (.ifc 148 (.X (.agg [.P (sl 4) 36])))]
def behi : List AV := behL.map fun n => AV'.I .i64 n
def brui : List AV := bruL.map fun n => AV'.I .u8 n
def gl : List (Nat × List AV) := [(0, errT), (3, behi), (2, brui)]
def hk0 : Nat → Option (FD R) := fun f => match Nat.beq f 31 with
  | true => some (asHook 148 36 81 86 (sl 0) (sl 4))
  | false => none
theorem mixed : Tryz.prog.follows .mixedOrders = true := by kernel_rfl
theorem nglob : Tryz.prog.globals.size = 4 := by kernel_rfl
theorem asC : AsC Tryz.prog 31 148 36 81 86 4 where
  ent := Enters.of Tryz.func31 (by kernel_rfl) (show Tryz.f31.body = some _ from rfl)
  nil := as_nil
  hit := fun e t old w h1 h2 h3 => (as_hit e t old w h1 h2 h3).mono fun _ _ h => ⟨h.1, _, _, _, _, h.2⟩
theorem hk0_ok : HookOk Tryz.prog hk0 := by
  intro f g hg
  unfold hk0 at hg
  split at hg
  · rename_i hb
    have := Nat.eq_of_beq_eq_true hb
    subst this
    cases hg
    exact as_ok asC (by kernel_rfl) (by kernel_rfl) (by rw [nglob]; exact Nat.le_refl _)
  · cases hg
end
end Go.Proofs.YtemmcnbfajlljaaGreatDoor
