/- Ry is sound, part 6: parts of slices and strings, strings of bytes, structs that are built. -/
import Derived.Test.YtnmdbemccdhdmaaGreatDoorRz5
namespace Go.TP
open Go
namespace Ry
variable {P : Program} {R : Type} {d : Option (Slot R)} {x y z : Operand} {xo yo zo : OD R}
theorem run_sl {t T sz n m l h : Nat} (ht : Slc P t T sz) (a : Option Addr) (lo hi : Option Value) (hlo : (lo = none ∧ l = 0) ∨ ∃ k, lo = some (.int k (l : Nat))) (hhi : (hi = none ∧ h = n) ∨ ∃ k, hi = some (.int k (h : Nat)))
    (h1 : l ≤ h) (h2 : h ≤ m) (hnm : n ≤ m) (w : World) : (Instr.sliceAt t (.slice a n m) lo hi none).run P w = .ok (sliced a l h m sz) w := by
  obtain ⟨h3, inf, h4, h5⟩ := ht.spec
  have he : P.underlying t = some (.slice (P.elem t)) := by simp [Program.elem, h3]
  have hel : P.elem t = T := by simp [Program.elem, h3]
  have hs : (sizeOf (P.elem t)).run P w = .ok sz w := by simp [sizeOf, typeInfo, hel, h4, h5]
  rw [run_sliceAt_slice w t _ lo hi none he]
  rcases hlo with ⟨rfl, rfl⟩ | ⟨k, rfl⟩ <;> rcases hhi with ⟨rfl, rfl⟩ | ⟨k', rfl⟩
  · rw [run_slice_all w t a h m he, hs]; rfl
  · rw [run_slice_h w t a n m he k' h (by omega) (by omega), hs]; simp [Result.andThen]
  · rw [run_slice_l w t a h m he k l (by omega) (by omega), hs]; simp [Result.andThen]
  · rw [run_slice_lh w t a n m he k k' l h (by omega) (by omega) (by omega), hs]; simp [Result.andThen]
def OptS (P : Program) : Option Operand → Option (OD R) → Prop
  | none, none => True
  | some x, some xo => OpS P x xo
  | _, _ => False
theorem bds_some {lo hi : Option Operand} {loo hio : Option (OD R)} (hl : OptS P lo loo) (hh : OptS P hi hio) {e : EV} {go : Nat → Option Nat → Option R} {r : R} (hr : bds loo hio e go = some r) :
    ∃ l h, go l h = some r ∧ ∀ ρ H hp E, HR P ρ H hp → ER ρ e E → (∀ σ, Agree E σ → ((lo.map σ = none ∧ l = 0) ∨ ∃ k, lo.map σ = some (.int k (l : Nat))) ∧ ∀ n, ((hi.map σ = none ∧ hiOf h n = n) ∨ ∃ k, hi.map σ = some (.int k (hiOf h n : Nat)))) := by
  have hi_ : ∀ (l : Nat), (Option.rec (go l none) (fun hi => hi e fun h => asN h fun h => go l (some h)) hio : Option R) = some r → ∃ h, go l h = some r ∧ ∀ ρ H hp E, HR P ρ H hp → ER ρ e E → ∀ σ, Agree E σ → ∀ n, ((hi.map σ = none ∧ hiOf h n = n) ∨ ∃ k, hi.map σ = some (.int k (hiOf h n : Nat))) := by
    intro l hr
    cases hi with
    | none => cases hio with
      | none => exact ⟨none, hr, fun _ _ _ _ _ _ _ _ _ => .inl ⟨rfl, rfl⟩⟩
      | some _ => exact hh.elim
    | some x => cases hio with
      | none => exact hh.elim
      | some xo =>
        have hx : OpS P x xo := hh
        change xo e (fun h => asN h fun h => go l (some h)) = some r at hr
        rw [hx.eq] at hr
        replace hr := bind_some hr
        obtain ⟨a, ha, hr⟩ := hr
        replace hr := asN_some hr
        obtain ⟨ik, h, rfl, hr⟩ := hr
        refine ⟨some h, hr, fun ρ H hp E k1 k2 σ hA n => .inr ?_⟩
        obtain ⟨u, k3, k4⟩ := hx.ok ρ H hp e E _ k1 k2 ha
        cases k3
        exact ⟨ik, by simp [hA x _ k4, hiOf]⟩
  cases lo with
  | none => cases loo with
    | none =>
      obtain ⟨h, h1, h2⟩ := hi_ 0 hr
      exact ⟨0, h, h1, fun ρ H hp E k1 k2 σ hA => ⟨.inl ⟨rfl, rfl⟩, h2 ρ H hp E k1 k2 σ hA⟩⟩
    | some _ => exact hl.elim
  | some x => cases loo with
    | none => exact hl.elim
    | some xo =>
      have hx : OpS P x xo := hl
      change xo e (fun l => asN l fun l => Option.rec (go l none) (fun hi => hi e fun h => asN h fun h => go l (some h)) hio) = some r at hr
      rw [hx.eq] at hr
      replace hr := bind_some hr
      obtain ⟨a, ha, hr⟩ := hr
      replace hr := asN_some hr
      obtain ⟨ik, l, rfl, hr⟩ := hr
      obtain ⟨h, h1, h2⟩ := hi_ l hr
      refine ⟨l, h, h1, fun ρ H hp E k1 k2 σ hA => ⟨.inr ?_, h2 ρ H hp E k1 k2 σ hA⟩⟩
      obtain ⟨u, k3, k4⟩ := hx.ok ρ H hp e E _ k1 k2 ha
      cases k3
      exact ⟨ik, by simp [hA x _ k4]⟩
theorem slPart_some {sz l : Nat} {h : Option Nat} {v : AV} {k : AV → Option R} {r : R} (hr : slPart sz v l h k = some r) : ∃ v', k v' = some r ∧ ∀ ρ u, VR ρ v u →
    ∃ a n m, u = .slice a n m ∧ n ≤ m ∧ l ≤ hiOf h n ∧ hiOf h n ≤ m ∧ VR ρ v' (sliced a l (hiOf h n) m sz) := by
  cases v with
  | S b o n cp =>
    simp only [slPart, natK_eq, ifK_eq] at hr
    split at hr
    · rename_i h1
      have h1 := Nat.le_of_ble_eq_true h1
      cases cp with
      | kn c =>
        simp only at hr
        split at hr
        · rename_i h2
          have h2 := Nat.le_of_ble_eq_true h2
          cases hc : Nat.sub c l with
          | zero =>
            rw [hc] at hr
            refine ⟨_, hr, fun ρ u hu => ?_⟩
            cases hu with
            | S k1 k2 k3 =>
              cases k2
              have : c - l = 0 := hc
              refine ⟨_, n, c, rfl, k3, h1, h2, ?_⟩
              have hcl : c = l := by omega
              unfold sliced
              rw [if_pos hcl]
              exact .S k1 (show c - l = 0 from hc) (by show Nat.sub (hiOf h n) l ≤ _; simp; omega)
          | succ c' =>
            rw [hc] at hr
            simp only [natK_eq] at hr
            refine ⟨_, hr, fun ρ u hu => ?_⟩
            cases hu with
            | S k1 k2 k3 =>
              cases k2
              have hc' : c - l = c' + 1 := hc
              refine ⟨_, n, c, rfl, k3, h1, h2, ?_⟩
              unfold sliced
              rw [if_neg (by omega)]
              simp only [Option.map_some, addr_add]
              exact .S k1 (show c - l = Nat.succ c' from hc) (by show Nat.sub (hiOf h n) l ≤ _; simp; omega)
        · cases hr
      | un q =>
        simp only at hr
        split at hr
        · rename_i h2
          have h2 := Nat.le_of_ble_eq_true h2
          cases l with
          | zero =>
            refine ⟨_, hr, fun ρ u hu => ?_⟩
            cases hu with
            | S k1 k2 k3 =>
              refine ⟨_, n, _, rfl, k3, h1, by omega, ?_⟩
              unfold sliced
              simp only [Nat.zero_mul, Nat.sub_zero, Option.map_some, addr_add, Nat.add_zero, ite_self]
              exact .S k1 k2 (by simp; omega)
          | succ l' =>
            cases hm : Nat.sub (hiOf h n) (l' + 1) with
            | zero =>
              rw [hm] at hr
              refine ⟨_, hr, fun ρ u hu => ?_⟩
              cases hu with
              | S k1 k2 k3 =>
                have hm' : hiOf h n - (l' + 1) = 0 := hm
                refine ⟨_, n, _, rfl, k3, h1, by omega, ?_⟩
                unfold sliced
                rw [hm']
                split
                · exact .slz
                · simp only [Option.map_some, addr_add]; exact .slz
            | succ m' =>
              rw [hm] at hr
              simp only [natK_eq] at hr
              refine ⟨_, hr, fun ρ u hu => ?_⟩
              cases hu with
              | S k1 k2 k3 =>
                have hm' : hiOf h n - (l' + 1) = m' + 1 := hm
                rename_i m _
                refine ⟨_, n, m, rfl, k3, h1, by omega, ?_⟩
                unfold sliced
                rw [if_neg (by omega), hm']
                simp only [Option.map_some, addr_add]
                have k2' : m + q = _ := k2
                exact .S k1 (show m - (l' + 1) + Nat.add q (Nat.succ l') = _ by show m - (l' + 1) + (q + (l' + 1)) = _; omega) (by show m' + 1 ≤ _; omega)
        · cases hr
    · cases hr
  | X xv =>
    cases xv with
    | nils =>
      simp only [slPart, natK_eq, ifK_eq] at hr
      split at hr
      · rename_i h1
        simp only [Bool.and_eq_true] at h1
        obtain ⟨h1, h2⟩ := h1
        have h1 := Nat.eq_of_beq_eq_true h1
        have h2 := Nat.eq_of_beq_eq_true h2
        refine ⟨_, hr, fun ρ u hu => ?_⟩
        cases hu
        refine ⟨none, 0, 0, rfl, Nat.le_refl _, by omega, by omega, ?_⟩
        rw [h1, h2]
        exact .nils
      · cases hr
    | _ => cases hr
  | _ => cases hr
theorem dat_sl {t T sz : Nat} {lo hi : Option Operand} {loo hio : Option (OD R)} (ht : elemB P t = some (T, sz)) (hx : OpS P x xo) (hl : OptS P lo loo) (hh : OptS P hi hio) : DatS P (.slice t x lo hi none) d (iSl d sz xo loo hio) := by
  intro cx κ e H r hr
  simp only [iSl, hx.eq] at hr
  replace hr := bind_some hr
  obtain ⟨a, ha, hr⟩ := hr
  obtain ⟨l, h, hr, hb⟩ := bds_some hl hh hr
  obtain ⟨v', hr, hv⟩ := slPart_some hr
  refine ⟨_, hr, fun ρ hp E k1 k2 => ?_⟩
  obtain ⟨u, h1, h2⟩ := hx.ok ρ H hp e E _ k1 k2 ha
  obtain ⟨aa, n, m, rfl, h3, h4, h5, h6⟩ := hv ρ u h1
  refine ⟨_, h6, fun h' _ dst ty pos aft g => fun σ w hA _ => ⟨?_, rfl⟩⟩
  obtain ⟨b1, b2⟩ := hb ρ H hp E k1 k2 σ hA
  have := run_sl (elemB_spec ht) aa (lo.map σ) (hi.map σ) b1 (b2 n) h4 h5 h3 w
  simp only [execOp, hA x _ h2, Option.map_none, Sem.run_bind, this, Result.andThen]
  rfl
end Ry
end Go.TP
