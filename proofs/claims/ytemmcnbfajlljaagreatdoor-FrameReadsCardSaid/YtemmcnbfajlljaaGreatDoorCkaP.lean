/- crc.Sum, slices.Equal, tidepoleref23.Sum and GetLen as hooks. -/
import Derived.Test.YtemmcnbfajlljaaGreatDoorCkaR
namespace Go.Proofs.YtemmcnbfajlljaaGreatDoor
open Go Go.TP Go.TP.Ry
set_option maxRecDepth 100000
theorem cSum_nil : cSum [] = 0 := by decide
theorem not_u32 (x : BitVec 32) : bitOp .xor .u32 (Int.ofNat (2 ^ 32 - 1)) (x.toNat : Int) = ((~~~ x).toNat : Int) := by
  rw [show Int.ofNat (2 ^ 32 - 1) = ((BitVec.allOnes 32).toNat : Int) from rfl, xor_u32, BitVec.allOnes_xor]
theorem sum_ok (l : List Int) (off : Nat) (hb : isB l) (hl : (l.length : Int) ≤ 1000000) : Tr (call Tryz.prog hkS (fu (hint1 77 0 (cgoH l))) 200 [] [] (.fn 57) [.X (.ss (sl 5) off l.length none)] ⟨sl 10, initA [(5, off, seqA .u8 l)]⟩ (fun v _ => some (.leaf (Pur v ∧ Fit v (.X (.si .u32 (cSum l))))))) tt := by
  refine obl_tr (s := sum_sh) ?_
  rw [sum_run]
  refine ⟨⟨⟨0, 0, ((cGo l 0).toNat : Int), 0, [], [], [], []⟩, ⟨Int.le_refl _, by dsimp only; omega, rfl⟩, StW.fit (.cons (Fit.num rfl) (.cons Fit.rfl (.cons Fit.rfl (.cons (Fit.num rfl) .nil))))⟩, ?_⟩
  rintro ⟨i, j, m, n', s, t, u, ll⟩ ⟨g0, g1, g2⟩
  dsimp only at g0 g1 g2 ⊢
  subst g2
  have w2 : IntKind.i64.wrap (i + 1) = i + 1 := wrap_i64 (by omega) (by omega)
  have hb0 := hb.get i.toNat
  have hlt := (cGo l i.toNat).isLt
  simp only [relO_ro, acl, Int.mul_one, isAt_seqA, intAt_seqA, w2, not_u32]
  refine ⟨fun hin => ⟨by omega, by omega, ⟨by omega, hb0⟩, ?_⟩, fun hin => ⟨Pur.x rfl, Fit.si ?_⟩⟩
  · refine ⟨⟨i + 1, 0, ((cGo l (i + 1).toNat).toNat : Int), 0, [], [], [], []⟩, ⟨by dsimp only; omega, by dsimp only; omega, rfl⟩, by dsimp only; omega, StW.fit (.cons (Fit.si ?_) (.cons Fit.rfl (.cons Fit.rfl (.cons Fit.rfl .nil))))⟩
    dsimp only
    rw [toNat_succ g0, cGo, stI]
    simp
  · unfold cSum
    rw [show i.toNat = l.length by omega]
theorem sumn_ok : Tr (call Tryz.prog hkS 1000 200 [] [] (.fn 57) [.X .nils] ⟨sl 10, .nil⟩ (fun v _ => some (.leaf (Pur v ∧ Fit v (.X (.si .u32 (cSum []))))))) tt := by
  refine obl_tr (s := sumn_sh) ?_
  rw [sumn_run, cSum_nil]
  exact ⟨Pur.x rfl, Fit.num rfl⟩
theorem sumz_ok : Tr (call Tryz.prog hkS 1000 200 [] [] (.fn 57) [.X .slz] ⟨sl 10, .nil⟩ (fun v _ => some (.leaf (Pur v ∧ Fit v (.X (.si .u32 (cSum []))))))) tt := by
  refine obl_tr (s := sumz_sh) ?_
  rw [sumz_run, cSum_nil]
  exact ⟨Pur.x rfl, Fit.num rfl⟩
theorem take_ne {l m : List Int} {i : Nat} (h1 : i < l.length) (h2 : i < m.length) (h : l.getD i 0 ≠ m.getD i 0) : l ≠ m := fun he => h (by rw [he])
theorem eql_ok (l m : List Int) (off off' : Nat) (hl : (l.length : Int) ≤ 1000000) : Tr (call Tryz.prog nohk (fu (hint1 84 0 (eqlH l m))) 200 [] [] (.fn 84) [.X (.ss (sl 5) off l.length none), .X (.ss (sl 6) off' m.length none)] ⟨sl 10, initA [(5, off, seqA .u8 l), (6, off', seqA .u8 m)]⟩ (fun v _ => some (.leaf (Pur v ∧ eqR l m v)))) tt := by
  refine obl_tr (s := eql_sh) ?_
  rw [eql_run]
  refine ⟨fun hne => ⟨Pur.x rfl, .inr ⟨rfl, fun he => hne (by rw [he])⟩⟩, fun heq => ?_⟩
  have heq : l.length = m.length := by omega
  refine ⟨⟨⟨0, 0, 0, 0, [], [], [], []⟩, ⟨Int.le_refl _, by dsimp only; omega, rfl⟩, StW.fit (.cons Fit.rfl (.cons Fit.rfl (.cons Fit.rfl (.cons (Fit.num rfl) .nil))))⟩, ?_⟩
  rintro ⟨i, j, _, n', s, t, u, ll⟩ ⟨g0, g1, g2⟩
  dsimp only at g0 g1 g2 ⊢
  have w2 : IntKind.i64.wrap (i + 1) = i + 1 := wrap_i64 (by omega) (by omega)
  simp only [relO_ro, acl, Int.mul_one, isAt_seqA, intAt_seqA, w2]
  refine ⟨fun hin => ⟨by omega, by omega, by omega, by omega, fun hne => ⟨Pur.x rfl, .inr ⟨rfl, take_ne (by omega) (by omega) hne⟩⟩, fun he => ?_⟩, fun hin => ⟨Pur.x rfl, .inl ⟨rfl, ?_⟩⟩⟩
  · have he : l.getD i.toNat 0 = m.getD i.toNat 0 := by simpa using he
    refine ⟨⟨i + 1, 0, 0, 0, [], [], [], []⟩, ⟨by dsimp only; omega, by dsimp only; omega, ?_⟩, by dsimp only; omega, StW.fit (.cons Fit.rfl (.cons Fit.rfl (.cons Fit.rfl (.cons Fit.rfl .nil))))⟩
    dsimp only
    rw [toNat_succ g0, take_snoc (by omega), take_snoc (by omega), g2, he]
  · rwa [List.take_of_length_le (by omega), List.take_of_length_le (by omega)] at g2
noncomputable section
def getHook0 : FD R := fun vs H k => match vs with
  | [v] => asL0 .u8 H v fun l => need (isB l ∧ (l.length : Int) ≤ 1000000) (k (tripL l) H)
  | _ => none
def sumHook : FD R := fun vs H k => match vs with
  | [v] => asL0 .u8 H v fun l => need (isB l ∧ (l.length : Int) ≤ 1000000) (k (.X (.si .u32 (cSum l))) H)
  | _ => none
def eqlHook : FD R := fun vs H k => match vs with
  | [v, w] => asL0 .u8 H v fun l => asL0 .u8 H w fun m => need ((l.length : Int) ≤ 1000000 ∧ 0 < l.length ∧ 0 < m.length) (fork (l = m) (k (.B true) H) (k (.B false) H))
  | _ => none
def rsumHook : FD R := fun vs H k => match vs with
  | [s] => asT s fun _ l => need (isB l ∧ (l.length : Int) ≤ 1000000) (k (.X (.si .u32 (cSum l))) H)
  | _ => none
theorem slok6 : slOk 6 = true := by kernel_rfl
theorem get_hook0 : HookF getHook0 9 := by
  intro vs H k r hr ρ h us hh hv
  unfold getHook0 at hr
  split at hr
  · obtain ⟨l, hr, hs⟩ := asL0_some (P := Tryz.prog) hr
    obtain ⟨⟨hb, hl⟩, hr⟩ := need_some hr
    cases hv with
    | cons h1 h2 =>
      cases h2
      refine read_ret mixed nohk_ok wok1000 slok (by rw [nglob]; decide) (by rw [nglob]; exact slok5) (depth := 200) (k := .u8) (l := l) (Q := fun v => Fit v (tripL l)) (fun he => ?_) (fun _ off => ?_) hh (hs ρ h _ hh h1) fun v hQ => ⟨_, hQ, Tr.any hr⟩
      · subst he; exact ⟨getn_ok, getz_ok⟩
      · rw [nglob]; exact get_ok l off hb hl
  · cases hr
theorem sum_hook : HookF sumHook 57 := by
  intro vs H k r hr ρ h us hh hv
  unfold sumHook at hr
  split at hr
  · obtain ⟨l, hr, hs⟩ := asL0_some (P := Tryz.prog) hr
    obtain ⟨⟨hb, hl⟩, hr⟩ := need_some hr
    cases hv with
    | cons h1 h2 =>
      cases h2
      by_cases hz : l = []
      · refine read_ret mixed hkS_ok wok1000 slok (by rw [nglob]; decide) (by rw [nglob]; exact slok5) (depth := 200) (k := .u8) (l := l) (Q := fun v => Fit v (.X (.si .u32 (cSum l)))) (fun he => ?_) (fun hl => ?_) hh (hs ρ h _ hh h1) fun v hQ => ⟨_, hQ, Tr.any hr⟩
        · subst he; exact ⟨sumn_ok, sumz_ok⟩
        · subst hz; exact absurd hl (by decide)
      · refine read_ret mixed hkS_ok (fu_ok (hint1 77 0 (cgoH l))) slok (by rw [nglob]; decide) (by rw [nglob]; exact slok5) (depth := 200) (k := .u8) (l := l) (Q := fun v => Fit v (.X (.si .u32 (cSum l)))) (fun he => ?_) (fun _ off => ?_) hh (hs ρ h _ hh h1) fun v hQ => ⟨_, hQ, Tr.any hr⟩
        · exact absurd he hz
        · rw [nglob]; exact sum_ok l off hb hl
  · cases hr
theorem eql_hook : HookF eqlHook 84 := by
  intro vs H k r hr ρ h us hh hv
  unfold eqlHook at hr
  split at hr
  · obtain ⟨l, hr, hs⟩ := asL0_some (P := Tryz.prog) hr
    obtain ⟨m, hr, ht⟩ := asL0_some (P := Tryz.prog) hr
    obtain ⟨⟨hl, h0, h0'⟩, hr⟩ := need_some hr
    obtain ⟨hr1, hr2⟩ := hr
    cases hv with
    | cons h1 h2 =>
      cases h2 with
      | cons h2 h3 =>
        cases h3
        refine read2_ret mixed nohk_ok (fu_ok (hint1 84 0 (eqlH l m))) slok (by rw [nglob]; decide) (by rw [nglob]; exact slok5) (by rw [nglob]; exact slok6) (depth := 200) (k := .u8) (k' := .u8) (l := l) (l' := m) (Q := eqR l m) (fun off off' => ?_) hh (hs ρ h _ hh h1) (ht ρ h _ hh h2) h0 h0' fun v hQ => ?_
        · rw [nglob]; exact eql_ok l m off off' hl
        · rcases hQ with ⟨rfl, he⟩ | ⟨rfl, he⟩
          · exact ⟨_, Fit.rfl, by have := hr1 he; rwa [ofO_tr (r := tt)] at this⟩
          · exact ⟨_, Fit.rfl, by have := hr2 he; rwa [ofO_tr (r := tt)] at this⟩
  · cases hr
theorem rsum_hook : HookF rsumHook 46 := by
  intro vs H k r hr ρ h us hh hv
  unfold rsumHook at hr
  split at hr
  · obtain ⟨kn, l, hr, f1⟩ := asT_some hr
    obtain ⟨⟨hb, hl⟩, hr⟩ := need_some hr
    exact pur_ret mixed hk2_ok (fu_ok rsmH) slok gl10 (.cons (Pur.x rfl) .nil) (Q := fun v => Fit v (.X (.si .u32 (cSum l)))) (rsum_ok l hb hl) hh (fits1 f1 hv) fun v hQ => ⟨_, hQ, Tr.any hr⟩
  · cases hr
end
end Go.Proofs.YtemmcnbfajlljaaGreatDoor
