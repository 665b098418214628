/- Ry is sound, part 14b: regions that draw their order: the steps. -/
import Derived.Test.YtnmdbemccdhdmaaGreatDoorRze
namespace Go.TP
open Go
namespace Ry
variable {P : Program} {R : Type} {ops : Array Oper}
section
variable {ρ : Rn} {H : AH} {h : Heap}
theorem hr_push (hh : HR P ρ H h) (ob : Obj) : HR P ρ H (h.push ob) ∧ Nx ρ H h ρ H (h.push ob) := by
  have hps : ∀ g, g < h.size → (h.push ob)[g]? = h[g]? := fun g hg' => by rw [Array.getElem?_push, if_neg (by omega)]
  refine ⟨⟨fun b B hb => ?_, hh.inj, hh.new, hh.glob⟩, ⟨Le.refl _, by simp, fun g hg _ => hps g hg, fun b l T m s cs B' hb h1 h2 => ?_, fun _ _ _ h => h, fun b l h1 h2 => by rw [h1] at h2; cases h2⟩⟩
  · obtain ⟨lo, h1, h2⟩ := hh.blk b B hb
    exact ⟨lo, h1, h2.same (hps lo.g h2.lt)⟩
  · rw [h1] at h2; cases h2; exact ⟨_, _, _, _, rfl, Nat.le_refl _⟩
/-- A block that is there, known to nobody, gets a name. -/
theorem hr_name (hh : HR P ρ H h) (B : AB) (lo : Lo) (hno : ∀ b l, (getT H.blocks b).isSome → ρ b = some l → l.g ≠ lo.g) (hB : BR (upd ρ H.next lo) h lo B) :
    HR P (upd ρ H.next lo) ⟨Pth.succ H.next, setT (some B) H.next H.blocks⟩ h := by
  obtain ⟨hn1, hn2⟩ := hh.new H.next (Nat.le_refl _)
  have hle := upd_le (lo := lo) hn1
  have hold : ∀ b, b ≠ H.next → upd ρ H.next lo b = ρ b := fun b hb => if_neg hb
  have hnew : upd ρ H.next lo H.next = some lo := if_pos rfl
  have hget : ∀ b, getT (setT (some B) H.next H.blocks) b = if b = H.next then some B else getT H.blocks b := fun b => getT_setT _ _ _ _
  refine ⟨fun b B' hb => ?_, fun b b' l l' h1 h2 h3 h4 h5 => ?_, fun b hb => ?_, fun p hp => ?_⟩
  · rw [hget] at hb
    by_cases he : b = H.next
    · rw [if_pos he] at hb; cases hb; rw [he]; exact ⟨lo, hnew, hB⟩
    · rw [if_neg he] at hb
      obtain ⟨l, h1, h2⟩ := hh.blk b B' hb
      exact ⟨l, hle b l h1, h2.mono hle⟩
  · rw [hget] at h1 h2
    by_cases he : b = H.next <;> by_cases he' : b' = H.next
    · rw [he, he']
    · rw [if_neg he'] at h2
      rw [he, hnew] at h3; cases h3
      rw [hold b' he'] at h4
      exact absurd h5.symm (hno b' l' h2 h4)
    · rw [if_neg he] at h1
      rw [he', hnew] at h4; cases h4
      rw [hold b he] at h3
      exact absurd h5 (hno b l h1 h3)
    · rw [if_neg he] at h1; rw [if_neg he'] at h2
      rw [hold b he] at h3; rw [hold b' he'] at h4
      exact hh.inj b b' l l' h1 h2 h3 h4 h5
  · have hb' : num H.next + 1 ≤ num b := by have := hb; simp only [num_succ] at this; exact this
    have hne : b ≠ H.next := fun he => by rw [he] at hb'; omega
    obtain ⟨k1, k2⟩ := hh.new b (by omega)
    exact ⟨(hold b hne).trans k1, by rw [hget, if_neg hne]; exact k2⟩
  · obtain ⟨l, k1, k2⟩ := hh.glob p hp
    exact ⟨l, hle p l k1, k2⟩
end
end Ry
end Go.TP
