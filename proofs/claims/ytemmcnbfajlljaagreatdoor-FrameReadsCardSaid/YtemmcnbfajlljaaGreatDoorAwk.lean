/- awake: what it comes to. -/
import Derived.Test.YtemmcnbfajlljaaGreatDoorAw
namespace Go.Proofs.YtemmcnbfajlljaaGreatDoor
open Go Go.TP Go.TP.Ry
noncomputable section
/-- What a run of awake comes to: true; nothing that there was has turned. -/
theorem awake_ok {zs : List Int} {h : Heap} (hh : HR Tryz.prog (rho0 Tryz.prog 10 zs) ⟨sl 10, initB gl⟩ h) : Enters Tryz.prog 7 ∧ Ret Tryz.prog 7 [] h fun u h' => u = .bool true ∧ h.size ≤ h'.size ∧ ∀ g, g < h.size → h'[g]? = h[g]? := by
  obtain ⟨h1, h2⟩ := ret_of mixed hk0_ok (r := tt) (by rw [awake_run]; trivial) hh .nil
  refine ⟨h1, h2.mono ?_⟩
  rintro u h' ⟨ρ', v, H', r, k1, k2, k3, k4⟩
  dsimp only at k1
  split at k1
  · cases k4
    exact ⟨rfl, k3.size, same_of k3⟩
  · cases k1
end
end Go.Proofs.YtemmcnbfajlljaaGreatDoor
