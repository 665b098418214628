/- GetLen and tidepoleref24.Parse as hooks; the laws' heap. -/
import Derived.Test.YtemmcnbfajlljaaGreatDoorGetR
import Derived.Test.YtemmcnbfajlljaaGreatDoorParP
namespace Go.Proofs.YtemmcnbfajlljaaGreatDoor
open Go Go.TP Go.TP.Ry
set_option maxRecDepth 100000
noncomputable section
def tripL (l : List Int) : AV := .X (.tup [.X (.si .i64 (gnL l)), .X (.si .i64 (guL l)), .X (.si .i64 (geL l))])
def getHook : FD R := fun vs H k => match vs with
  | [v] => asL .u8 H v fun l => need (isB l ∧ (l.length : Int) ≤ 1000000) (k (tripL l) H)
  | _ => none
def parHook : FD R := fun vs H k => match vs with
  | [s] => asT s fun _ l => need (isB l ∧ (l.length : Int) ≤ 1000000) (k (tripL l) H)
  | _ => none
theorem trip_nil : Fit (.X (.tup [.I .i64 0, .I .i64 0, .I .i64 16])) (tripL []) := by
  have e : geL [] = 16 := by decide
  exact tup3 (Fit.num (by simp [gnL, e])) (Fit.num (by simp [guL, e])) (Fit.num e.symm)
theorem getn_ok : Tr (call Tryz.prog nohk 1000 200 [] [] (.fn 9) [.X .nils] ⟨sl 10, .nil⟩ (fun v _ => some (.leaf (Pur v ∧ Fit v (.X (.tup [.X (.si .i64 (gnL [])), .X (.si .i64 (guL [])), .X (.si .i64 (geL []))])))))) tt := by
  refine obl_tr (s := getn_sh) ?_
  rw [getn_run]
  exact ⟨pur3 rfl rfl rfl, trip_nil⟩
theorem getz_ok : Tr (call Tryz.prog nohk 1000 200 [] [] (.fn 9) [.X .slz] ⟨sl 10, .nil⟩ (fun v _ => some (.leaf (Pur v ∧ Fit v (.X (.tup [.X (.si .i64 (gnL [])), .X (.si .i64 (guL [])), .X (.si .i64 (geL []))])))))) tt := by
  refine obl_tr (s := getz_sh) ?_
  rw [getz_run]
  exact ⟨pur3 rfl rfl rfl, trip_nil⟩
theorem slok5 : slOk 5 = true := by kernel_rfl
theorem wok1000 : WOk Tryz.prog (1000 : Fu) := fun _ _ _ _ _ h => h.elim
theorem get_hook : HookF getHook 9 := by
  intro vs H k r hr ρ h us hh hv
  unfold getHook at hr
  split at hr
  · obtain ⟨l, hr, hs⟩ := asL_some (P := Tryz.prog) hr
    obtain ⟨⟨hb, hl⟩, hr⟩ := need_some hr
    cases hv with
    | cons h1 h2 =>
      cases h2
      refine read_ret mixed nohk_ok wok1000 slok (by rw [nglob]; decide) (by rw [nglob]; exact slok5) (depth := 200) (k := .u8) (l := l) (Q := fun v => Fit v (tripL l)) (fun he => ?_) (fun _ off => ?_) hh (hs ρ h _ hh h1) fun v hQ => ⟨_, hQ, Tr.any hr⟩
      · subst he; exact ⟨getn_ok, getz_ok⟩
      · rw [nglob]; exact get_ok l off hb hl
  · cases hr
theorem par_hook : HookF parHook 10 := by
  intro vs H k r hr ρ h us hh hv
  unfold parHook at hr
  split at hr
  · obtain ⟨kn, l, hr, f1⟩ := asT_some hr
    obtain ⟨⟨hb, hl⟩, hr⟩ := need_some hr
    exact pur_ret mixed hk2_ok wok1000 slok gl10 (.cons (Pur.x rfl) .nil) (Q := fun v => Fit v (tripL l)) (par_ok l hb hl) hh (fits1 f1 hv) fun v hQ => ⟨_, hQ, Tr.any hr⟩
  · cases hr
def hk3 : Nat → Option (FD R) := fun f => match Nat.beq f 9 with
  | true => some getHook
  | false => match Nat.beq f 10 with
    | true => some parHook
    | false => hk2 f
theorem hk3_ok : HookOk Tryz.prog hk3 := by
  intro f g hg
  unfold hk3 at hg
  split at hg
  · rename_i hb; obtain rfl := Nat.eq_of_beq_eq_true hb; cases hg; exact get_hook
  split at hg
  · rename_i hb; obtain rfl := Nat.eq_of_beq_eq_true hb; cases hg; exact par_hook
  exact hk2_ok f g hg
/-- The package's variables, ahead of other blocks. -/
def glA (l : List (Nat × Nat × List AV)) : List (Nat × Nat × List AV) := (0, 0, errT) :: (3, 0, behi) :: (2, 0, brui) :: l
/-- It is true. -/
def isTrue (v : AV) (_ : AH) : Option R := match v with
  | .B true => some tt
  | _ => none
end
end Go.Proofs.YtemmcnbfajlljaaGreatDoor
