/- awake, reckoned. -/
import Derived.Test.YtnmdbemccdhdmaaGreatDoorHk
namespace Go.Proofs.YtnmdbemccdhdmaaGreatDoor
open Go Go.TP Go.TP.Ry
noncomputable section
theorem awake_run : call Tryz.prog hk0 1000000 200 [] [] (.fn 9) [] ⟨sl 10, initB gl⟩ (fun v H => match v with | .B true => keptK (gl.map fun x => sl x.1) H | _ => none) = some () := by kernel_rfl
end
end Go.Proofs.YtnmdbemccdhdmaaGreatDoor
