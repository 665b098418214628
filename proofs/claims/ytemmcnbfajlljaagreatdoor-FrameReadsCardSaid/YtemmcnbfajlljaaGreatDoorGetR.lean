/- Runs, as far as they can be reckoned: what is left to show (printed by vp.py). -/
import Derived.Test.YtemmcnbfajlljaaGreatDoorLen
namespace Go.Proofs.YtemmcnbfajlljaaGreatDoor
open Go Go.TP Go.TP.Ry
set_option maxRecDepth 100000
set_option maxHeartbeats 0
noncomputable section
def getn_sh : Sh := .e
theorem getn_run (l : List Int) : obl getn_sh (ofO (call Tryz.prog nohk 1000 200 [] [] (.fn 9) [.X .nils] ⟨sl 10, .nil⟩ (fun v _ => some (.leaf (Pur v ∧ Fit v (.X (.tup [.X (.si .i64 (gnL l)), .X (.si .i64 (guL l)), .X (.si .i64 (geL l))]))))))) =
  (((Pur (AV'.X (XV.tup ((AV'.I IntKind.i64 (0 : Int)) :: ((AV'.I IntKind.i64 (0 : Int)) :: ((AV'.I IntKind.i64 (16 : Int)) :: [])))))) ∧ (Fit (AV'.X (XV.tup ((AV'.I IntKind.i64 (0 : Int)) :: ((AV'.I IntKind.i64 (0 : Int)) :: ((AV'.I IntKind.i64 (16 : Int)) :: []))))) (AV'.X (XV.tup ((AV'.X (XV.si IntKind.i64 (@gnL l))) :: ((AV'.X (XV.si IntKind.i64 (@guL l))) :: ((AV'.X (XV.si IntKind.i64 (@geL l))) :: [])))))))) := by kernel_rfl
def getz_sh : Sh := .e
theorem getz_run (l : List Int) : obl getz_sh (ofO (call Tryz.prog nohk 1000 200 [] [] (.fn 9) [.X .slz] ⟨sl 10, .nil⟩ (fun v _ => some (.leaf (Pur v ∧ Fit v (.X (.tup [.X (.si .i64 (gnL l)), .X (.si .i64 (guL l)), .X (.si .i64 (geL l))]))))))) =
  (((Pur (AV'.X (XV.tup ((AV'.I IntKind.i64 (0 : Int)) :: ((AV'.I IntKind.i64 (0 : Int)) :: ((AV'.I IntKind.i64 (16 : Int)) :: [])))))) ∧ (Fit (AV'.X (XV.tup ((AV'.I IntKind.i64 (0 : Int)) :: ((AV'.I IntKind.i64 (0 : Int)) :: ((AV'.I IntKind.i64 (16 : Int)) :: []))))) (AV'.X (XV.tup ((AV'.X (XV.si IntKind.i64 (@gnL l))) :: ((AV'.X (XV.si IntKind.i64 (@guL l))) :: ((AV'.X (XV.si IntKind.i64 (@geL l))) :: [])))))))) := by kernel_rfl
end
end Go.Proofs.YtemmcnbfajlljaaGreatDoor
