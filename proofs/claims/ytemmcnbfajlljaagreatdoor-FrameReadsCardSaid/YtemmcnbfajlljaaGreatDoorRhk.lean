/- tidepoleref01's functions, and awake, as hooks. -/
import Derived.Test.YtemmcnbfajlljaaGreatDoorRefP
import Derived.Test.YtemmcnbfajlljaaGreatDoorGk
namespace Go.Proofs.YtemmcnbfajlljaaGreatDoor
open Go Go.TP Go.TP.Ry
set_option maxRecDepth 100000
noncomputable section
/-- A text: are its bytes told to be so many; its bytes. -/
def asT (v : AV) (k : Bool → List Int → Option R) : Option R := match v with
  | .X (.str s) => k true (intsZ s)
  | .X (.bs kn l) => k kn l
  | _ => none
/-- A number of that kind. -/
def asK (ki : IntKind) (v : AV) (k : Bool → Int → Option R) : Option R := asI2 v (fun ik n => ifK (kEq ik ki) (k true n) none) (fun ik n => ifK (kEq ik ki) (k false n) none)
theorem asT_some {v : AV} {k : Bool → List Int → Option R} {r : R} (h : Tr (asT v k) r) : ∃ kn l, Tr (k kn l) r ∧ Fit v (.X (.bs false l)) := by
  unfold asT at h
  split at h
  · exact ⟨_, _, h, Fit.str rfl⟩
  · exact ⟨_, _, h, Fit.bs rfl⟩
  · cases h
theorem asK_some {ki : IntKind} {v : AV} {k : Bool → Int → Option R} {r : R} (h : Tr (asK ki v k) r) : ∃ kn n, Tr (k kn n) r ∧ Fit v (.X (.si ki n)) := by
  replace h := asI2_some h
  rcases h with ⟨ik, n, rfl, h⟩ | ⟨ik, n, rfl, h⟩ <;> rw [ifK_eq] at h <;> split at h
  · rename_i hk; obtain rfl := kEq_eq hk; exact ⟨_, _, h, Fit.num rfl⟩
  · cases h
  · rename_i hk; obtain rfl := kEq_eq hk; exact ⟨_, _, h, Fit.rfl⟩
  · cases h
def numHook : FD R := fun vs H k => match vs with
  | [v, n] => asK .u64 v fun _ a => asK .i64 n fun kn m => need (0 ≤ a ∧ a < 18446744073709551616 ∧ m ≤ 1000000000) (k (.X (.bs kn (numL a m.toNat))) H)
  | _ => none
def bytHook : FD R := fun vs H k => match vs with
  | [s] => asT s fun kn l => need (l.length ≤ 1000000000) (k (.X (.bs kn (bytesL l))) H)
  | _ => none
def valHook : FD R := fun vs H k => match vs with
  | [s] => asT s fun _ l => need (l.length ≤ 60) (k (.X (.si .u64 (valL l))) H)
  | _ => none
def texHook : FD R := fun vs H k => match vs with
  | [s, n] => asT s fun _ l => asK .i64 n fun kn m => need (m ≤ 8 * (l.length : Int) ∧ l.length ≤ 100000000) (k (.X (.bs kn (textL l m.toNat))) H)
  | _ => none
def HookF (g : FD R) (f : Nat) : Prop := ∀ vs H k r, Tr (g vs H k) r → ∀ ρ h us, HR Tryz.prog ρ H h → VRs ρ vs us → Enters Tryz.prog f ∧ Ret Tryz.prog f us h (Out Tryz.prog ρ H h k)
theorem slok : slOk 10 = true := by kernel_rfl
theorem gl10 : Tryz.prog.globals.size < 10 := by rw [nglob]; decide
theorem Tr.any {x : Option R} {r s : R} (h : Tr x r) : Tr x s := h
theorem fits1 {ρ : Rn} {v w : AV} {us : List Value} (h : Fit v w) (hv : VRs ρ [v] us) : VRs ρ [w] us := (Fits.cons h .nil).ok hv
theorem fits2 {ρ : Rn} {v w x y : AV} {us : List Value} (h : Fit v w) (h' : Fit x y) (hv : VRs ρ [v, x] us) : VRs ρ [w, y] us := (Fits.cons h (.cons h' .nil)).ok hv
theorem fit_kn {v : AV} {kn : Bool} {l : List Int} (h : Fit v (.X (.bs false l))) : Fit v (.X (.bs kn l)) := fun ρ u hv => Fit.bs rfl _ _ (h ρ u hv)
theorem num_hook : HookF numHook 24 := by
  intro vs H k r hr ρ h us hh hv
  unfold numHook at hr
  split at hr
  · obtain ⟨_, a, hr, f1⟩ := asK_some hr
    obtain ⟨kn, m, hr, f2⟩ := asK_some hr
    obtain ⟨⟨h0, h1, h2⟩, hr⟩ := need_some hr
    exact pure_ret mixed nohk_ok (fu_ok _) slok gl10 rfl (num_ok a m h0 h1 h2) hh (fits2 f1 f2 hv) fun w _ hQ => ⟨_, fit_kn hQ, Tr.any hr⟩
  · cases hr
theorem byt_hook : HookF bytHook 23 := by
  intro vs H k r hr ρ h us hh hv
  unfold bytHook at hr
  split at hr
  · obtain ⟨kn, l, hr, f1⟩ := asT_some hr
    obtain ⟨h0, hr⟩ := need_some hr
    exact pure_ret mixed nohk_ok (fu_ok _) slok gl10 rfl (byt_ok l h0) hh (fits1 f1 hv) fun w _ hQ => ⟨_, fit_kn hQ, Tr.any hr⟩
  · cases hr
theorem val_hook : HookF valHook 25 := by
  intro vs H k r hr ρ h us hh hv
  unfold valHook at hr
  split at hr
  · obtain ⟨kn, l, hr, f1⟩ := asT_some hr
    obtain ⟨h0, hr⟩ := need_some hr
    exact pure_ret mixed nohk_ok (fu_ok _) slok gl10 rfl (val_ok l h0) hh (fits1 f1 hv) fun w _ hQ => ⟨_, hQ, Tr.any hr⟩
  · cases hr
theorem tex_hook : HookF texHook 26 := by
  intro vs H k r hr ρ h us hh hv
  unfold texHook at hr
  split at hr
  · obtain ⟨_, l, hr, f1⟩ := asT_some hr
    obtain ⟨kn, m, hr, f2⟩ := asK_some hr
    obtain ⟨⟨h0, h1⟩, hr⟩ := need_some hr
    exact pure_ret mixed nohk_ok (fu_ok _) slok gl10 rfl (tex_ok l m h0 h1) hh (fits2 f1 f2 hv) fun w _ hQ => ⟨_, fit_kn hQ, Tr.any hr⟩
  · cases hr
def hk2 : Nat → Option (FD R) := fun f => match Nat.beq f 24 with
  | true => some numHook
  | false => match Nat.beq f 23 with
    | true => some bytHook
    | false => match Nat.beq f 25 with
      | true => some valHook
      | false => match Nat.beq f 26 with
        | true => some texHook
        | false => hk1 f
theorem hk2_ok : HookOk Tryz.prog hk2 := by
  intro f g hg
  unfold hk2 at hg
  split at hg
  · rename_i hb; obtain rfl := Nat.eq_of_beq_eq_true hb; cases hg; exact num_hook
  split at hg
  · rename_i hb; obtain rfl := Nat.eq_of_beq_eq_true hb; cases hg; exact byt_hook
  split at hg
  · rename_i hb; obtain rfl := Nat.eq_of_beq_eq_true hb; cases hg; exact val_hook
  split at hg
  · rename_i hb; obtain rfl := Nat.eq_of_beq_eq_true hb; cases hg; exact tex_hook
  exact hk1_ok f g hg
end
end Go.Proofs.YtemmcnbfajlljaaGreatDoor
