/- Ry is sound, part 12: what an operation is made into. -/
import Derived.Test.YtnmdbemccdhdmaaGreatDoorRzb
namespace Go.TP
open Go
namespace Ry
variable {P : Program} {R : Type} {d : Option (Slot R)}
theorem o1_some {x : Operand} {f : OD R → Option (Ins R)} {i : Ins R} (h : o1 P x f = some i) : ∃ xo, OpS P x xo ∧ f xo = some i := by
  unfold o1 at h
  split at h
  · rename_i xo hx; exact ⟨xo, opnd_ok hx, h⟩
  · cases h
theorem o2_some {x y : Operand} {f : OD R → OD R → Option (Ins R)} {i : Ins R} (h : o2 P x y f = some i) : ∃ xo yo, OpS P x xo ∧ OpS P y yo ∧ f xo yo = some i := by
  obtain ⟨xo, h1, h⟩ := o1_some h
  obtain ⟨yo, h2, h⟩ := o1_some h
  exact ⟨xo, yo, h1, h2, h⟩
theorem oM_some {x : Option Operand} {f : Option (OD R) → Option (Ins R)} {i : Ins R} (h : oM P x f = some i) : ∃ xo, OptS P x xo ∧ f xo = some i := by
  cases x with
  | none => exact ⟨none, trivial, h⟩
  | some x => obtain ⟨xo, h1, h⟩ := o1_some (show o1 P x (fun x => f (some x)) = some i from h); exact ⟨some xo, h1, h⟩
theorem dat_fail {op : Op} : DatS P op d (iFail : Ins R) := fun _ _ _ _ _ h => by cases h
theorem efc_fail {op : Op} : EfcS P op d (iFail : Ins R) := fun _ _ _ _ _ _ _ h => by cases h
theorem kindB_spec {t : Nat} {k : IntKind} (h : kindB P t = some k) : P.underlying t = some (.int k) := by
  unfold kindB at h
  split at h
  · rename_i hu; cases h; exact hu
  · cases h
theorem list1 {α : Type} {a : Array α} {x : α} (h : a.toList = [x]) : a = #[x] := by
  rw [← Array.toArray_toList (xs := a), h]
theorem list2 {α : Type} {a : Array α} {x y : α} (h : a.toList = [x, y]) : a = #[x, y] := by
  rw [← Array.toArray_toList (xs := a), h]
theorem compB_dat {b : Builtin} {args : Array Operand} {ts : Array TypeId} {i : Ins R} (hd : b = .len ∨ b = .cap ∨ b = .min ∨ b = .max) (h : compB P d b args.toList ts.toList = some i) : DatS P (.call ⟨.builtin b, args, ts⟩) d i := by
  unfold compB at h
  split at h
  · rename_i x ha
    rw [list1 ha]
    split at h
    · rename_i t ht
      rw [list1 ht]
      split at h
      · rename_i hu; obtain ⟨xo, h1, h⟩ := o1_some h; cases h; exact dat_len hu h1
      · rename_i hu; obtain ⟨xo, h1, h⟩ := o1_some h; cases h; exact dat_les hu h1
      · cases h
    · cases h
  · rename_i x ha
    rw [list1 ha]
    split at h
    · rename_i t ht
      rw [list1 ht]
      split at h
      · rename_i hu; obtain ⟨xo, h1, h⟩ := o1_some h; cases h; exact dat_cap hu h1
      · cases h
    · cases h
  · rename_i x y ha; rw [list2 ha]; obtain ⟨xo, yo, h1, h2, h⟩ := o2_some h; cases h; exact dat_mx h1 h2
  · rename_i x y ha; rw [list2 ha]; obtain ⟨xo, yo, h1, h2, h⟩ := o2_some h; cases h; exact dat_mn h1 h2
  · rcases hd with h | h | h | h <;> cases h
  · cases h
theorem compB_efc {b : Builtin} {args : Array Operand} {ts : Array TypeId} {i : Ins R} (h : compB P d b args.toList ts.toList = some i) : EfcS P (.call ⟨.builtin b, args, ts⟩) d i := by
  by_cases hd : b = .len ∨ b = .cap ∨ b = .min ∨ b = .max
  · exact ((compB_dat hd h).eff (fun _ hc => by cases hc)).c
  · unfold compB at h
    split at h
    · exact absurd (.inl rfl) hd
    · exact absurd (.inr (.inl rfl)) hd
    · exact absurd (.inr (.inr (.inr rfl))) hd
    · exact absurd (.inr (.inr (.inl rfl))) hd
    · rename_i x y ha
      rw [list2 ha]
      split at h
      · rename_i t u ht
        rw [list2 ht]
        split at h
        · rename_i T sz he
          split at h
          · rename_i hu
            split at h
            · rename_i z hz
              split at h
              · rename_i hc
                simp only [Bool.and_eq_true] at hc
                obtain ⟨xo, yo, h1, h2, h⟩ := o2_some h
                cases h
                exact (eff_apm he hu hz (Nat.eq_of_beq_eq_true hc.1.1) hc.1.2 h1 h2).c
              · cases h
            · cases h
          · rename_i hu
            split at h
            · rename_i z hz
              split at h
              · rename_i hc
                simp only [Bool.and_eq_true] at hc
                obtain ⟨xo, yo, h1, h2, h⟩ := o2_some h
                cases h
                exact (eff_app he hu hz (Nat.eq_of_beq_eq_true hc.1.1) hc.1.2 h1 h2).c
              · cases h
            · cases h
          · cases h
        · cases h
      · cases h
    · cases h
theorem compO_dat {op : Op} {i : Ins R} (hd : isData op = true) (h : compO P d op = some i) : DatS P op d i := by
  unfold compO at h
  split at h
  · obtain ⟨xo, h1, h⟩ := o1_some h; cases h; exact dat_mv h1
  · obtain ⟨xo, h1, h⟩ := o1_some h; cases h; exact dat_as h1
  · obtain ⟨zo, h1, h⟩ := o1_some h; obtain ⟨xo, yo, h2, h3, h⟩ := o2_some h; cases h; exact dat_pick h1 h2 h3
  · cases hd
  · cases hd
  · split at h
    · rename_i z hz
      split at h
      · rename_i fs hu
        split at h
        · cases h
        · rename_i hall
          split at h
          · rename_i l hl; cases h; exact dat_bds hz hu hall hl
          · cases h
      · rename_i hu
        split at h
        · rename_i inf hi
          split at h
          · rename_i l hl; cases h; exact dat_bda hz hu hi hl
          · cases h
        · cases h
      · cases h
    · cases h
  · cases hd
  · cases hd
  · split at h
    · rename_i n hs; obtain ⟨xo, h1, h⟩ := o1_some h; rw [natK_eq] at h; cases h; exact dat_ls hs h1
    · rename_i n hs; obtain ⟨xo, h1, h⟩ := o1_some h; cases h; exact dat_ld hs h1
    · cases h
  · cases hd
  · obtain ⟨xo, h1, h⟩ := o1_some h; cases h; exact dat_nc h1
  · split at h
    · rename_i f hf; obtain ⟨xo, yo, h1, h2, h⟩ := o2_some h; cases h; exact dat_bin (binT_ok hf) h1 h2
    · cases h
  · split at h
    · rename_i f hf; obtain ⟨xo, h1, h⟩ := o1_some h; cases h; exact unF_ok hf h1
    · cases h
  · split at h
    · rename_i h1 h2; obtain ⟨xo, h3, h⟩ := o1_some h; cases h; exact dat_cv h1 h2 h3
    · rename_i h1 h2
      split at h
      · rename_i hk; obtain ⟨xo, h3, h⟩ := o1_some h; cases h; exact dat_bt h1 (kindB_spec hk) h2 h3
      · cases h
    · cases h
  · split at h
    · rename_i hc; obtain ⟨xo, h1, h⟩ := o1_some h; cases h; exact dat_if hc h1
    · cases h
  · split at h
    · rename_i xs hx
      split at h
      · rename_i ys hy; cases h; exact dat_fn (opnds_ok hx) (opnds_ok hy)
      · cases h
    · cases h
  · split at h
    split at h
    · rename_i he
      obtain ⟨xo, h1, h⟩ := o1_some h
      obtain ⟨lo, h2, h⟩ := oM_some h
      obtain ⟨hi, h3, h⟩ := oM_some h
      cases h
      exact dat_sl he h1 h2 h3
    · cases h
  · split at h
    · rename_i hf; obtain ⟨xo, h1, h⟩ := o1_some h; rw [natK_eq] at h; cases h; exact dat_fa hf h1
    · cases h
  · split at h
    · rename_i hf; obtain ⟨xo, h1, h⟩ := o1_some h; rw [natK_eq, natK_eq] at h; cases h; exact dat_fs hf h1
    · rename_i hf; obtain ⟨xo, h1, h⟩ := o1_some h; rw [natK_eq] at h; cases h; exact dat_fd hf h1
    · cases h
  · split at h
    · split at h
      · rename_i he; obtain ⟨xo, yo, h1, h2, h⟩ := o2_some h; cases h; exact dat_is he h1 h2
      · cases h
    · split at h
      · rename_i he; obtain ⟨xo, yo, h1, h2, h⟩ := o2_some h; cases h; exact dat_ip he h1 h2
      · cases h
  · split at h
    · rename_i hu; obtain ⟨xo, yo, h1, h2, h⟩ := o2_some h; cases h; exact dat_ix hu h1 h2
    · cases h
  · obtain ⟨xo, h1, h⟩ := o1_some h; cases h; exact dat_ex h1
  · split at h
    · cases h
    · rename_i dd hni hu
      split at h
      · rename_i z hz; obtain ⟨xo, h1, h⟩ := o1_some h; cases h; exact dat_ta hu (fun ms hm => hni ms (by rw [hm])) hz h1
      · cases h
    · cases h
  · rename_i c
    obtain ⟨callee, args, ts⟩ := c
    simp only at h
    split at h
    · rename_i b
      refine compB_dat ?_ h
      unfold isData at hd
      cases b <;> simp at hd ⊢
    · simp [isData] at hd
    · simp [isData] at hd
    · simp [isData] at hd
  · cases h; exact dat_fail
theorem compO_efc {op : Op} {i : Ins R} (h : compO P d op = some i) : EfcS P op d i := by
  by_cases hd : isData op = true
  · by_cases hdef : ∀ c, op ≠ .defer c
    · exact ((compO_dat hd h).eff hdef).c
    · have : ∃ c, op = .defer c := Classical.byContradiction fun hn => hdef fun c hc => hn ⟨c, hc⟩
      obtain ⟨c, rfl⟩ := this
      cases h
      exact efc_fail
  · unfold compO at h
    split at h <;> first
      | exact absurd rfl hd
      | skip
    · split at h
      · rename_i z hz; cases h; exact (eff_al hz).c
      · cases h
    · obtain ⟨xo, h1, h⟩ := o1_some h; cases h; exact (eff_bx h1).c
    · split at h
      · rename_i T sz he
        split at h
        · rename_i z hz
          split at h
          · rename_i hl
            split at h
            · rename_i l hq; cases h; exact (eff_bs he hz (Nat.eq_of_beq_eq_true hl) hq).c
            · cases h
          · cases h
        · cases h
      · cases h
    · split at h
      · rename_i T sz he
        split at h
        · rename_i z hz
          split at h
          · rename_i hl
            simp only [Bool.and_eq_true] at hl
            obtain ⟨xo, yo, h1, h2, h⟩ := o2_some h
            cases h
            exact (eff_mk he hz (Nat.eq_of_beq_eq_true hl.1) (smallB_spec hl.2) h1 h2).c
          · cases h
        · cases h
      · cases h
    · split at h
      · split at h
        · rename_i hs; obtain ⟨xo, yo, h1, h2, h⟩ := o2_some h; rw [natK_eq] at h; cases h; exact (eff_st hs h1 h2).c
        · cases h
      · cases h
    · rename_i c
      obtain ⟨callee, args, ts⟩ := c
      simp only at h
      split at h
      · exact compB_efc h
      · split at h
        · rename_i xs hx; cases h; exact efc_call (opnds_ok hx)
        · cases h
      · split at h
        · rename_i xs hx; obtain ⟨xo, h1, h⟩ := o1_some h; cases h; exact efc_callv h1 (opnds_ok hx)
        · cases h
      · split at h
        · rename_i xs hx; obtain ⟨xo, h1, h⟩ := o1_some h; cases h; exact efc_inv h1 (opnds_ok hx)
        · cases h
    · cases h; exact efc_fail
end Ry
end Go.TP
