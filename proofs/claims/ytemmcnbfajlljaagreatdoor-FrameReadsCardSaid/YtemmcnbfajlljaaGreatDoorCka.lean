/- crc.step as a hook; the loops of crc.Go and slices.Equal. -/
import Derived.Test.YtemmcnbfajlljaaGreatDoorCrcP
import Derived.Test.YtemmcnbfajlljaaGreatDoorRd
namespace Go.Proofs.YtemmcnbfajlljaaGreatDoor
open Go Go.TP Go.TP.Ry
set_option maxRecDepth 100000
noncomputable section
def stpHook : FD R := fun vs H k => match vs with
  | [r, c] => asK .u32 r fun _ a => asK .u8 c fun _ b => need ((0 ≤ a ∧ a < 4294967296) ∧ 0 ≤ b ∧ b < 256) (k (.X (.si .u32 (stI a b))) H)
  | _ => none
theorem stp_hook : HookF stpHook 103 := by
  intro vs H k r hr ρ h us hh hv
  unfold stpHook at hr
  split at hr
  · obtain ⟨_, a, hr, f1⟩ := asK_some hr
    obtain ⟨_, b, hr, f2⟩ := asK_some hr
    obtain ⟨⟨⟨h0, h1⟩, h2, h3⟩, hr⟩ := need_some hr
    exact pur_ret mixed nohk_ok (fu_ok _) slok gl10 (.cons (Pur.x rfl) (.cons (Pur.x rfl) .nil)) (Q := fun w => Fit w (.X (.si .u32 (stI a b)))) (step_ok a b h0 h1 h2 h3) hh (fits2 f1 f2 hv) fun w hQ => ⟨_, hQ, Tr.any hr⟩
  · cases hr
def hkS : Nat → Option (FD R) := fun f => match Nat.beq f 103 with
  | true => some stpHook
  | false => none
theorem hkS_ok : HookOk Tryz.prog hkS := by
  intro f g hg
  unfold hkS at hg
  split at hg
  · rename_i hb; obtain rfl := Nat.eq_of_beq_eq_true hb; cases hg; exact stp_hook
  · cases hg
/-- The loop of slices.Equal: t0 and t1 the slices, t12 their length, t13 where. -/
def eqlH (l m : List Int) : LH := ([0, 1, 12, 13], fun vs H => match vs with
  | [x, y, z, _] => [⟨fun g => 0 ≤ g.i ∧ g.i ≤ l.length ∧ l.take g.i.toNat = m.take g.i.toNat, fun g => (l.length - g.i).toNat, fun g => [x, y, z, .X (.si .i64 g.i)], fun _ => H⟩]
  | _ => [])
def eqR (l m : List Int) (v : AV) : Prop := (v = .B true ∧ l = m) ∨ (v = .B false ∧ l ≠ m)
end
end Go.Proofs.YtemmcnbfajlljaaGreatDoor
