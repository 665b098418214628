/- frame.Frames and tidepoleref24.Frames as hooks; the loop of FrameReads; a law of bytes with loops that are told. -/
import Derived.Test.YtemmcnbfajlljaaGreatDoorFrmP
import Derived.Test.YtemmcnbfajlljaaGreatDoorFrmQ
import Derived.Test.YtemmcnbfajlljaaGreatDoorLw
namespace Go.Proofs.YtemmcnbfajlljaaGreatDoor
open Go Go.TP Go.TP.Ry
set_option maxRecDepth 100000
noncomputable section
def okV (l : List Int) (x : AV) (n0 : Pth) : AV := .X (.tup [.X (.ss n0 0 (cntL l) (some 0)), x])
def frHook : FD R := fun vs H k => match vs with
  | [v] => asL0 .u8 H v fun l => need (isB l ∧ (l.length : Int) ≤ 1000000 ∧ getT H.blocks (sl 0) = some (.cells 0 .ro 0 errT))
      (fork ((frW l).1 = 0) (fork (cntL l = 0) (k (.X (.tup [.X .nils, .X .nili])) H) (k (okV l (.X .nili) H.next) (adds H [outB 49 (frL l)]))) (k (errV H.next) (adds H (errB (frW l) H.next))))
  | _ => none
def rfHook : FD R := fun vs H k => match vs with
  | [s] => asT s fun _ l => need (isB l ∧ (l.length : Int) ≤ 1000000)
      (fork ((frW l).1 = 0) (fork (cntL l = 0) (k (.X (.tup [.X .nils, wroV (frW l)])) H) (k (okV l (wroV (frW l)) H.next) (adds H [outB 50 (frL l)]))) (k (.X (.tup [.X .nils, wroV (frW l)])) H))
  | _ => none
theorem glsE : Gls Tryz.prog glE := ⟨fun x hx => by
    obtain rfl := List.mem_singleton.1 hx
    exact ⟨by kernel_rfl, by rw [nglob]; decide⟩, fun x hx ρ los us hg hv => by
    obtain rfl := List.mem_singleton.1 hx
    cases hv with
    | cons h1 h2 =>
      cases h2
      cases h1 with
      | ifc h3 =>
        cases h3 with
        | agg h4 =>
          cases h4 with
          | cons h5 h6 =>
            cases h6
            cases h5 with
            | P h7 =>
              rename_i lo
              have hn : num (sl 4) = 4 := Nat.eq_of_beq_eq_true (show slOk 4 = true by kernel_rfl)
              obtain ⟨lo', g1, g2⟩ := hg (sl 4) (by rw [hn, nglob]; decide)
              rw [h7] at g1; cases g1
              rw [g2, hn]
              exact .cons (.ifc (.agg (.cons (.P (lo := ⟨4, 0, default, [], 0⟩) (rho_gl (by kernel_rfl) (by decide))) .nil))) .nil⟩
theorem fr_hook : HookF frHook 11 := by
  intro vs H k r hr ρ h us hh hv
  unfold frHook at hr
  split at hr
  · obtain ⟨l, hr, hs⟩ := asL0_some (P := Tryz.prog) hr
    obtain ⟨⟨hb, hl, hg⟩, hr⟩ := need_some hr
    cases hv with
    | cons h1 h2 =>
      cases h2
      refine readg_ret mixed hkF_ok (fu_ok (hint1 27 0 (opnH l))) slok (by rw [nglob]; decide) (by rw [nglob]; exact slok5) (depth := 200) (k := .u8) (l := l) (Q := frQ l) glsE (fun he => ?_) (fun hz off => ?_) hh (fun x hx => ?_) (hs ρ h _ hh h1) fun v H' hQ => ?_
      · subst he; exact ⟨frmn_ok, frmz_ok⟩
      · rw [nglob]; exact frm_ok l off hb hz hl
      · obtain rfl := List.mem_singleton.1 hx; exact hg
      · obtain ⟨q1, q2, q3⟩ := hQ
        rcases fork_tr hr with ⟨p, hr⟩ | ⟨p, hr⟩
        · rcases fork_tr hr with ⟨p2, hr⟩ | ⟨p2, hr⟩
          · exact ⟨_, _, Mad.pur (q2 p p2).1 (q2 p p2).2, Tr.any hr⟩
          · exact ⟨_, _, q3 p p2, Tr.any hr⟩
        · exact ⟨_, _, q1 p, Tr.any hr⟩
  · cases hr
theorem rf_hook : HookF rfHook 12 := by
  intro vs H k r hr ρ h us hh hv
  unfold rfHook at hr
  split at hr
  · obtain ⟨kn, l, hr, f1⟩ := asT_some hr
    obtain ⟨⟨hb, hl⟩, hr⟩ := need_some hr
    refine purm_ret mixed hkF_ok (fu_ok (hint1 12 2 (rfrH l))) slok gl10 (.cons (Pur.x rfl) .nil) (Q := rfQ l) (rfr_ok l hb hl) hh (fits1 f1 hv) fun v H' hQ => ?_
    obtain ⟨q1, q2, q3⟩ := hQ
    rcases fork_tr hr with ⟨p, hr⟩ | ⟨p, hr⟩
    · rcases fork_tr hr with ⟨p2, hr⟩ | ⟨p2, hr⟩
      · exact ⟨_, _, Mad.pur (q2 p p2).1 (q2 p p2).2, Tr.any hr⟩
      · exact ⟨_, _, q3 p p2, Tr.any hr⟩
    · exact ⟨_, _, Mad.pur (q1 p).1 (q1 p).2, Tr.any hr⟩
  · cases hr
def hkW : Nat → Option (FD R) := fun f => match Nat.beq f 11 with
  | true => some frHook
  | false => match Nat.beq f 12 with
    | true => some rfHook
    | false => hk1 f
theorem hkW_ok : HookOk Tryz.prog hkW := by
  intro f g hg
  unfold hkW at hg
  split at hg
  · rename_i hb; obtain rfl := Nat.eq_of_beq_eq_true hb; cases hg; exact fr_hook
  split at hg
  · rename_i hb; obtain rfl := Nat.eq_of_beq_eq_true hb; cases hg; exact rf_hook
  exact hk1_ok f g hg
/-- The loop of FrameReads: t3 and t5 what is compared, t76 how many, t77 which one. -/
def cmpF (l : List Int) (vs : List AV) (H : AH) : List LHd := match vs with
  | [v3, v5, v76, _] => [⟨fun g => 0 ≤ g.i ∧ g.i ≤ cntL l, fun g => (cntL l - g.i).toNat, fun g => [v3, v5, v76, .X (.si .i64 g.i)], fun _ => H⟩]
  | _ => []
def cmpH (l : List Int) : LH := ([3, 5, 76, 77], cmpF l)
theorem relO_op (n T : Nat) (o : Int) : relO (.op n) T o = o := rfl
theorem cnt_bnd {l : List Int} (hb : isB l) (h : (frW l).1 = 0) : 0 ≤ cntL l ∧ cntL l ≤ 1024 := by
  have h0 := (got_ok (hb.drop (hB l).toNat)).2
  refine ⟨by unfold cntL; omega, ?_⟩
  have hh : (hdEP l).1 = 0 := by
    unfold frW at h
    split at h
    · exact h
    · rename_i hn; exact Classical.not_not.1 hn
  unfold hdEP at hh
  repeat' split at hh
  all_goals first | omega | (exfalso; revert hh; simp only [ne_eq]; omega) | (rename_i hx; omega)
theorem frL_len (l : List Int) (h : 0 ≤ cntL l) : ((frL l).length : Int) = 2 * cntL l := by
  unfold frL
  rw [pays_len]
  omega
end
end Go.Proofs.YtemmcnbfajlljaaGreatDoor
