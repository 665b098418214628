/- awake as a hook; what a heap begins with. -/
import Derived.Test.YtemmcnbfajlljaaGreatDoorAwk
namespace Go.Proofs.YtemmcnbfajlljaaGreatDoor
open Go Go.TP Go.TP.Ry
noncomputable section
/-- Are the cells these numbers? -/
def isIs (k : IntKind) : List Int → List AV → Bool
  | [], [] => true
  | n :: ns, .I j m :: cs => kEq k j && (decide (n = m) && isIs k ns cs)
  | _, _ => false
theorem isIs_eq {k : IntKind} : ∀ {ns : List Int} {cs : List AV}, isIs k ns cs = true → cs = ns.map fun n => .I k n
  | [], [], _ => rfl
  | n :: ns, .I j m :: cs, h => by
    simp only [isIs, Bool.and_eq_true, decide_eq_true_eq] at h
    obtain ⟨h1, rfl, h2⟩ := h
    rw [isIs_eq h2, ← kEq_eq h1]
    rfl
  | [], _ :: _, h => by cases h
  | _ :: _, [], h => by cases h
  | _ :: _, .B _ :: _, h => by cases h
  | _ :: _, .P _ _ :: _, h => by cases h
  | _ :: _, .S _ _ _ _ :: _, h => by cases h
  | _ :: _, .X _ :: _, h => by cases h
def awHook : FD R := fun vs H k => match vs with
  | [] => blk H (sl 0) fun B => cells0 B fun _ _ _ gs => chkErr 148 36 (sl 4) gs (blk H (sl 3) fun B => cells0 B fun _ _ _ bs => ifK (isIs .i64 behL bs) (blk H (sl 2) fun B => cells0 B fun _ _ _ ds => ifK (isIs .u8 bruL ds) (k (.B true) H) none) none)
  | _ => none
def hk1 : Nat → Option (FD R) := fun f => match Nat.beq f 7 with
  | true => some awHook
  | false => hk0 f
/-- What the package's variables hold. -/
structure GlOk (h : Heap) : Prop where
  err : cel h 0 0 = some (.iface 148 (.agg #[.pointer (some ⟨4, 36, none⟩)]))
  beh : ∀ j n, behL[j]? = some n → cel h 3 j = some (.int .i64 n)
  bru : ∀ j n, bruL[j]? = some n → cel h 2 j = some (.int .u8 n)
theorem cel_lt {h : Heap} {b o : Nat} {v : Value} (hc : cel h b o = some v) : b < h.size := by
  unfold cel at hc
  cases hb : h[b]? with
  | none => rw [hb] at hc; cases hc
  | some ob => exact (Array.getElem?_eq_some_iff.1 hb).1
theorem vrs_ints (ρ : Rn) (k : IntKind) : ∀ (ns : List Int), VRs ρ (ns.map fun n => AV'.I k n) (ns.map fun n => Value.int k n)
  | [] => .nil
  | n :: ns => .cons .I (vrs_ints ρ k ns)
theorem vrs_ints_eq {ρ : Rn} {k : IntKind} : ∀ {ns : List Int} {us : List Value}, VRs ρ (ns.map fun n => AV'.I k n) us → us = ns.map fun n => Value.int k n
  | [], us, h => by cases h; rfl
  | n :: ns, us, h => by
    cases h with
    | cons h1 h2 => cases h1; rw [vrs_ints_eq h2]; rfl
theorem sl_ok (n : Nat) (h : slOk n = true) : num (sl n) = n := Nat.eq_of_beq_eq_true h
theorem hr0 {zs : List Int} {h : Heap} (hg : GlOk h) : HR Tryz.prog (rho0 Tryz.prog 10 zs) ⟨sl 10, initB gl⟩ h := by
  refine hr_init (by kernel_rfl) (by rw [nglob]; decide) fun x hx => ?_
  have hx : x = (0, errT) ∨ x = (3, behi) ∨ x = (2, brui) := by simpa [gl] using hx
  rcases hx with rfl | rfl | rfl
  · refine ⟨by rw [nglob]; decide, by kernel_rfl, cel_lt hg.err, [.iface 148 (.agg #[.pointer (some ⟨4, 36, none⟩)])], ?_, fun j u hu => ?_⟩
    · refine .cons (.ifc (.agg (us := [.pointer (some ⟨4, 36, none⟩)]) (.cons (.P (lo := ⟨4, 0, default, [], 0⟩) ?_) .nil))) .nil
      unfold rho0
      rw [sl_ok 4 (by kernel_rfl), nglob]
      rfl
    · cases j with
      | zero => cases hu; exact hg.err
      | succ j => simp at hu
  · refine ⟨by rw [nglob]; decide, by kernel_rfl, cel_lt (hg.beh 0 0 rfl), behL.map fun n => .int .i64 n, vrs_ints _ _ behL, fun j u hu => ?_⟩
    rw [List.getElem?_map] at hu
    cases hj : behL[j]? with
    | none => rw [hj] at hu; cases hu
    | some n => rw [hj] at hu; cases hu; exact hg.beh j n hj
  · refine ⟨by rw [nglob]; decide, by kernel_rfl, cel_lt (hg.bru 0 0 rfl), bruL.map fun n => .int .u8 n, vrs_ints _ _ bruL, fun j u hu => ?_⟩
    rw [List.getElem?_map] at hu
    cases hj : bruL[j]? with
    | none => rw [hj] at hu; cases hu
    | some n => rw [hj] at hu; cases hu; exact hg.bru j n hj
theorem glob_cells {ρ : Rn} {H : AH} {h : Heap} (hh : HR Tryz.prog ρ H h) {g T s : Nat} {m : Md} {cs : List AV} (hB : getT H.blocks (sl g) = some (.cells T m s cs)) (hz : baseN m T = 0) (hs : slOk g = true) (hg : g ≤ 4) : ∃ us, VRs ρ cs us ∧ ∀ j u, us[j]? = some u → cel h g j = some u := by
  obtain ⟨lo, p1, p2⟩ := hh.blk _ _ hB
  obtain ⟨lo', p1', p3⟩ := hh.glob (sl g) (by rw [nglob, sl_ok g hs]; exact hg)
  rw [p1] at p1'; cases p1'
  obtain ⟨us, p4, p5⟩ := p2.read hz
  rw [p3, sl_ok g hs] at p5
  exact ⟨us, p4, p5⟩
theorem aw_hook : ∀ vs H k r, Tr (awHook vs H k) r → ∀ ρ h us, HR Tryz.prog ρ H h → VRs ρ vs us → Enters Tryz.prog 7 ∧ Ret Tryz.prog 7 us h (Out Tryz.prog ρ H h k) := by
  intro vs H k r hr ρ h us hh hv
  unfold awHook at hr
  split at hr
  · cases hv
    replace hr := blk_some hr
    obtain ⟨B0, hB0, hr⟩ := hr
    replace hr := cells0_some hr
    obtain ⟨T0, m0, s0, gs, rfl, hz0, hr⟩ := hr
    unfold chkErr at hr
    split at hr
    · rename_i t q o
      rw [ifK_eq] at hr
      split at hr
      · rename_i hq
        simp only [Bool.and_eq_true] at hq
        obtain ⟨⟨q1, q2⟩, q3⟩ := hq
        have q1 := Nat.eq_of_beq_eq_true q1
        have q2 := Nat.eq_of_beq_eq_true q2
        have q3 := Pth.beq_eq q3
        subst q1 q2 q3
        replace hr := blk_some hr
        obtain ⟨B2, hB2, hr⟩ := hr
        replace hr := cells0_some hr
        obtain ⟨T2, m2, s2, bs, rfl, hz2, hr⟩ := hr
        rw [ifK_eq] at hr
        split at hr
        · rename_i h2
          replace hr := blk_some hr
          obtain ⟨B3, hB3, hr⟩ := hr
          replace hr := cells0_some hr
          obtain ⟨T3, m3, s3, ds, rfl, hz3, hr⟩ := hr
          rw [ifK_eq] at hr
          split at hr
          · rename_i h3
            have h2 := isIs_eq h2
            have h3 := isIs_eq h3
            subst h2 h3
            obtain ⟨u0, a1, a2⟩ := glob_cells hh hB0 hz0 (by kernel_rfl) (by decide)
            obtain ⟨u2, b1, b2⟩ := glob_cells hh hB2 hz2 (by kernel_rfl) (by decide)
            obtain ⟨u3, c1, c2⟩ := glob_cells hh hB3 hz3 (by kernel_rfl) (by decide)
            have b1 := vrs_ints_eq b1
            have c1 := vrs_ints_eq c1
            subst b1 c1
            obtain ⟨log, r1, r2⟩ := hh.glob (sl 4) (by rw [nglob, sl_ok 4 (by kernel_rfl)]; decide)
            have hg : GlOk h := by
              refine ⟨?_, fun j n hj => b2 j _ (by rw [List.getElem?_map, hj]; rfl), fun j n hj => c2 j _ (by rw [List.getElem?_map, hj]; rfl)⟩
              cases a1 with
              | cons p6 p7 =>
                cases p7
                cases p6 with
                | ifc p8 =>
                  cases p8 with
                  | agg p9 =>
                    cases p9 with
                    | cons p10 p11 =>
                      cases p11
                      cases p10 with
                      | P p12 =>
                        rw [r1] at p12; cases p12
                        have := a2 0 _ rfl
                        rw [r2, sl_ok 4 (by kernel_rfl)] at this
                        exact this
            obtain ⟨e1, e2⟩ := awake_ok (zs := []) (hr0 hg)
            refine ⟨e1, e2.mono ?_⟩
            rintro u h' ⟨rfl, f1, f2⟩
            exact ⟨ρ, _, H, r, hr, hh.away fun b lo hs hb => by
              obtain ⟨B, hB⟩ := Option.isSome_iff_exists.1 hs
              obtain ⟨lo', g1, g2⟩ := hh.blk b B hB
              rw [hb] at g1; cases g1
              exact f2 _ g2.lt, (Nx.refl _ _ _).away f1 f2, .B⟩
          · cases hr
        · cases hr
      · cases hr
    · cases hr
  · cases hr
theorem hk1_ok : HookOk Tryz.prog hk1 := by
  intro f g hg
  unfold hk1 at hg
  split at hg
  · rename_i hb
    have := Nat.eq_of_beq_eq_true hb
    subst this
    cases hg
    exact aw_hook
  · exact hk0_ok f g hg
theorem rsym {n : Nat} {zs : List Int} {fs : List (Nat × Int × Bool)} {z : Int} (hn : slOk n = true) (h1 : 4 < n) (h2 : n < 10) (hz : zs.getD (n - (4 + 1)) 0 = z) (hf : ∀ f ∈ fs, cmpZ f.1 z f.2.1 = f.2.2) : VR (rho0 Tryz.prog 10 zs) (.X (.sym (sl n) fs)) (.int .i64 z) := by
  have : VR (rho0 Tryz.prog 10 zs) (.X (.sym (sl n) fs)) (.int .i64 (⟨0, 0, default, [], z⟩ : Lo).z) := by
    refine .sym (lo := ⟨0, 0, default, [], z⟩) ?_ hf
    unfold rho0
    rw [sl_ok n hn, nglob, if_neg (by omega), if_pos h2, hz]
  exact this
/-- True; nothing that there was has turned. -/
def Good (h : Heap) (u : Value) (h' : Heap) : Prop := u = .bool true ∧ h.size ≤ h'.size ∧ ∀ g, g < h.size → h'[g]? = h[g]?
end
end Go.Proofs.YtemmcnbfajlljaaGreatDoor
