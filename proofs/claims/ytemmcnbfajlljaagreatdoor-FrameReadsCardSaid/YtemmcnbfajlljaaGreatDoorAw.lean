/- awake, reckoned. -/
import Derived.Test.YtemmcnbfajlljaaGreatDoorHk
namespace Go.Proofs.YtemmcnbfajlljaaGreatDoor
open Go Go.TP Go.TP.Ry
noncomputable section
theorem awake_run : call Tryz.prog hk0 1000000 200 [] [] (.fn 7) [] ⟨sl 10, initB gl⟩ (fun v H => match v with | .B true => some tt | _ => none) = some tt := by kernel_rfl
end
end Go.Proofs.YtemmcnbfajlljaaGreatDoor
