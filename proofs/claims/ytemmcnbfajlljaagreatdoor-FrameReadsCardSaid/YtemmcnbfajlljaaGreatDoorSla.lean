/- tidepoleref24.Len as a hook; what a payload's frame is. -/
import Derived.Test.YtemmcnbfajlljaaGreatDoorCkaP
namespace Go.Proofs.YtemmcnbfajlljaaGreatDoor
open Go Go.TP Go.TP.Ry
/-- A sum's bytes. -/
def fourL (s : Int) : List Int := [s / 16777216 % 256, s / 65536 % 256, s / 256 % 256, s % 256]
def selL (l : List Int) : List Int := lenB l.length ++ l ++ fourL (cSum l)
noncomputable section
/-- Something that is so of some things is handed on by their names. -/
def nam (inv : Gh → Prop) (body : Gh → Option R) : Option R := some (.loop True inv (fun g => ofO (body g)))
theorem nam_some {inv : Gh → Prop} {body : Gh → Option R} {r : R} (h : Tr (nam inv body) r) (g : Gh) (hg : inv g) : Tr (body g) r := by
  have := h.2 g hg
  rwa [ofO_tr (r := r)] at this
def lenHook : FD R := fun vs H k => match vs with
  | [n] => asK .i64 n fun _ m => need (0 ≤ m ∧ m < 1073741824) (k (.X (.bs false (lenB m))) H)
  | _ => none
def hkL : Nat → Option (FD R) := fun f => match Nat.beq f 46 with
  | true => some rsumHook
  | false => hk2 f
def hkL8 : Nat → Option (FD R) := fun f => match Nat.beq f 8 with
  | true => some lenHook
  | false => hkL f
theorem hkL_ok : HookOk Tryz.prog hkL := by
  intro f g hg
  unfold hkL at hg
  split at hg
  · rename_i hb; obtain rfl := Nat.eq_of_beq_eq_true hb; cases hg; exact rsum_hook
  · exact hk2_ok f g hg
end
end Go.Proofs.YtemmcnbfajlljaaGreatDoor
