/- SeriesMakes: what a call comes to, whatever the numbers. -/
import Derived.Test.YtnmdbemccdhdmaaGreatDoorMk
namespace Go.Proofs.YtnmdbemccdhdmaaGreatDoor
open Go Go.TP Go.TP.Ry
/-- What the package's variables hold. -/
structure GlOk (h : Heap) : Prop where
  err : cel h 0 0 = some (.iface 227 (.agg #[.pointer (some ⟨4, 39, none⟩)]))
  beh : ∀ j n, behL[j]? = some n → cel h 2 j = some (.int .i64 n)
  bru : ∀ j n, bruL[j]? = some n → cel h 3 j = some (.int .u8 n)
theorem cel_lt {h : Heap} {b o : Nat} {v : Value} (hc : cel h b o = some v) : b < h.size := by
  unfold cel at hc
  cases hb : h[b]? with
  | none => rw [hb] at hc; cases hc
  | some ob => exact (Array.getElem?_eq_some_iff.1 hb).1
theorem vrs_ints (ρ : Rn) (k : IntKind) : ∀ (ns : List Int), VRs ρ (ns.map fun n => AV'.I k n) (ns.map fun n => Value.int k n)
  | [] => .nil
  | n :: ns => .cons .I (vrs_ints ρ k ns)
theorem vrs_ints_eq {ρ : Rn} {k : IntKind} : ∀ {ns : List Int} {us : List Value}, VRs ρ (ns.map fun n => AV'.I k n) us → us = ns.map fun n => Value.int k n
  | [], us, h => by cases h; rfl
  | n :: ns, us, h => by
    cases h with
    | cons h1 h2 => cases h1; rw [vrs_ints_eq h2]; rfl
theorem sl_ok (n : Nat) (h : slOk n = true) : num (sl n) = n := Nat.eq_of_beq_eq_true h
theorem hr0 {zs : List Int} {h : Heap} (hg : GlOk h) : HR Tryz.prog (rho0 Tryz.prog 10 zs) ⟨sl 10, initB gl⟩ h := by
  refine hr_init (by kernel_rfl) (by rw [nglob]; decide) fun x hx => ?_
  have hx : x = (0, errT) ∨ x = (2, behi) ∨ x = (3, brui) := by simpa [gl] using hx
  rcases hx with rfl | rfl | rfl
  · refine ⟨by rw [nglob]; decide, by kernel_rfl, cel_lt hg.err, [.iface 227 (.agg #[.pointer (some ⟨4, 39, none⟩)])], ?_, fun j u hu => ?_⟩
    · refine .cons (.ifc (.agg (us := [.pointer (some ⟨4, 39, none⟩)]) (.cons (.P (lo := ⟨4, 0, default, [], 0⟩) ?_) .nil))) .nil
      unfold rho0
      rw [sl_ok 4 (by kernel_rfl), nglob]
      rfl
    · cases j with
      | zero => cases hu; exact hg.err
      | succ j => simp at hu
  · refine ⟨by rw [nglob]; decide, by kernel_rfl, cel_lt (hg.beh 0 0 rfl), behL.map fun n => .int .i64 n, vrs_ints _ _ behL, fun j u hu => ?_⟩
    rw [List.getElem?_map] at hu
    cases hj : behL[j]? with
    | none => rw [hj] at hu; cases hu
    | some n => rw [hj] at hu; cases hu; exact hg.beh j n hj
  · refine ⟨by rw [nglob]; decide, by kernel_rfl, cel_lt (hg.bru 0 0 rfl), bruL.map fun n => .int .u8 n, vrs_ints _ _ bruL, fun j u hu => ?_⟩
    rw [List.getElem?_map] at hu
    cases hj : bruL[j]? with
    | none => rw [hj] at hu; cases hu
    | some n => rw [hj] at hu; cases hu; exact hg.bru j n hj
theorem glob_cells {ρ : Rn} {H : AH} {h : Heap} (hh : HR Tryz.prog ρ H h) {g T s : Nat} {m : Md} {cs : List AV} (hB : getT H.blocks (sl g) = some (.cells T m s cs)) (hs : slOk g = true) (hg : g ≤ 4) : ∃ us, VRs ρ cs us ∧ ∀ j u, us[j]? = some u → cel h g j = some u := by
  obtain ⟨lo, p1, p2⟩ := hh.blk _ _ hB
  obtain ⟨lo', p1', p3⟩ := hh.glob (sl g) (by rw [nglob, sl_ok g hs]; exact hg)
  rw [p1] at p1'; cases p1'
  obtain ⟨us, p4, p5⟩ := p2.read
  rw [p3, sl_ok g hs] at p5
  exact ⟨us, p4, p5⟩
theorem aw_hook {R : Type} : ∀ vs H k r, awHook (R := R) vs H k = some r → ∀ ρ h us, HR Tryz.prog ρ H h → VRs ρ vs us → Enters Tryz.prog 9 ∧ Ret Tryz.prog 9 us h (Out Tryz.prog ρ H h k) := by
  intro vs H k r hr ρ h us hh hv
  unfold awHook at hr
  split at hr
  · cases hv
    replace hr := blk_some hr
    obtain ⟨B0, hB0, hr⟩ := hr
    replace hr := cellsB_some hr
    obtain ⟨T0, m0, s0, gs, rfl, hr⟩ := hr
    unfold chkErr at hr
    split at hr
    · rename_i t q o
      rw [ifK_eq] at hr
      split at hr
      · rename_i hq
        simp only [Bool.and_eq_true] at hq
        obtain ⟨⟨q1, q2⟩, q3⟩ := hq
        have q1 := Nat.eq_of_beq_eq_true q1
        have q2 := Nat.eq_of_beq_eq_true q2
        have q3 := Pth.beq_eq q3
        subst q1 q2 q3
        replace hr := blk_some hr
        obtain ⟨B2, hB2, hr⟩ := hr
        replace hr := cellsB_some hr
        obtain ⟨T2, m2, s2, bs, rfl, hr⟩ := hr
        rw [ifK_eq] at hr
        split at hr
        · rename_i h2
          replace hr := blk_some hr
          obtain ⟨B3, hB3, hr⟩ := hr
          replace hr := cellsB_some hr
          obtain ⟨T3, m3, s3, ds, rfl, hr⟩ := hr
          rw [ifK_eq] at hr
          split at hr
          · rename_i h3
            have h2 := isIs_eq h2
            have h3 := isIs_eq h3
            subst h2 h3
            obtain ⟨u0, a1, a2⟩ := glob_cells hh hB0 (by kernel_rfl) (by decide)
            obtain ⟨u2, b1, b2⟩ := glob_cells hh hB2 (by kernel_rfl) (by decide)
            obtain ⟨u3, c1, c2⟩ := glob_cells hh hB3 (by kernel_rfl) (by decide)
            have b1 := vrs_ints_eq b1
            have c1 := vrs_ints_eq c1
            subst b1 c1
            obtain ⟨log, r1, r2⟩ := hh.glob (sl 4) (by rw [nglob, sl_ok 4 (by kernel_rfl)]; decide)
            have hg : GlOk h := by
              refine ⟨?_, fun j n hj => b2 j _ (by rw [List.getElem?_map, hj]; rfl), fun j n hj => c2 j _ (by rw [List.getElem?_map, hj]; rfl)⟩
              cases a1 with
              | cons p6 p7 =>
                cases p7
                cases p6 with
                | ifc p8 =>
                  cases p8 with
                  | agg p9 =>
                    cases p9 with
                    | cons p10 p11 =>
                      cases p11
                      cases p10 with
                      | P p12 =>
                        rw [r1] at p12; cases p12
                        have := a2 0 _ rfl
                        rw [r2, sl_ok 4 (by kernel_rfl)] at this
                        exact this
            obtain ⟨e1, e2⟩ := awake_ok (zs := []) (hr0 hg)
            refine ⟨e1, e2.mono ?_⟩
            rintro u h' ⟨rfl, f1, f2⟩
            exact ⟨ρ, _, H, r, hr, hh.away fun b lo hs hb => by
              obtain ⟨B, hB⟩ := Option.isSome_iff_exists.1 hs
              obtain ⟨lo', g1, g2⟩ := hh.blk b B hB
              rw [hb] at g1; cases g1
              exact f2 _ g2.lt, (Nx.refl _ _ _).away f1 f2, .B⟩
          · cases hr
        · cases hr
      · cases hr
    · cases hr
  · cases hr
theorem hk1_ok {R : Type} : HookOk (R := R) Tryz.prog hk1 := by
  intro f g hg
  unfold hk1 at hg
  split at hg
  · rename_i hb
    have := Nat.eq_of_beq_eq_true hb
    subst this
    cases hg
    exact aw_hook
  · exact hk0_ok f g hg
/-- True; nothing that there was has turned. -/
def Good (h : Heap) (u : Value) (h' : Heap) : Prop := u = .bool true ∧ h.size ≤ h'.size ∧ ∀ g, g < h.size → h'[g]? = h[g]?
theorem goM_ok {v s b : AV} (hr : goM v s b = some ()) {zs : List Int} {h : Heap} (hg : GlOk h) {uv us ub : Value} (hv : VR (rho0 Tryz.prog 10 zs) v uv) (hs : VR (rho0 Tryz.prog 10 zs) s us) (hb : VR (rho0 Tryz.prog 10 zs) b ub) : Ret Tryz.prog 4 [uv, .agg #[us, ub]] h (Good h) := by
  have hr : call Tryz.prog hk1 1000000 200 [] [] (.fn 4) [v, .X (.agg [s, b])] ⟨sl 10, initB gl⟩ ok1 = some () := hr
  obtain ⟨_, h2⟩ := ret_of mixed hk1_ok hr (hr0 hg) (.cons hv (.cons (.agg (us := [us, ub]) (.cons hs (.cons hb .nil))) .nil))
  refine h2.mono ?_
  rintro u h' ⟨ρ', w, H', r, k1, k2, k3, k4⟩
  unfold ok1 at k1
  split at k1
  · cases k4
    exact ⟨rfl, k3.size, same_of k3 k1⟩
  · cases k1
theorem rsym {n : Nat} {zs : List Int} {fs : List (Nat × Int × Bool)} {z : Int} (hn : slOk n = true) (h1 : 4 < n) (h2 : n < 10) (hz : zs.getD (n - 5) 0 = z) (hf : ∀ f ∈ fs, cmpZ f.1 z f.2.1 = f.2.2) : VR (rho0 Tryz.prog 10 zs) (.X (.sym (sl n) fs)) (.int .i64 z) := by
  have : VR (rho0 Tryz.prog 10 zs) (.X (.sym (sl n) fs)) (.int .i64 (⟨0, 0, default, [], z⟩ : Lo).z) := by
    refine .sym (lo := ⟨0, 0, default, [], z⟩) ?_ hf
    unfold rho0
    rw [sl_ok n hn, nglob, if_neg (by omega), if_pos h2, hz]
  exact this
theorem makes_ok (v s b : Int) {h : Heap} (hg : GlOk h) : Ret Tryz.prog 4 [.int .i64 v, .agg #[.int .i64 s, .int .i64 b]] h (Good h) := by
  have V : ∀ fs, (∀ f ∈ fs, cmpZ f.1 v f.2.1 = f.2.2) → VR (rho0 Tryz.prog 10 [v, s, b]) (vsym fs) (.int .i64 v) := fun fs hf => rsym (by kernel_rfl) (by decide) (by decide) rfl hf
  have S : ∀ fs, (∀ f ∈ fs, cmpZ f.1 s f.2.1 = f.2.2) → VR (rho0 Tryz.prog 10 [v, s, b]) (ssym fs) (.int .i64 s) := fun fs hf => rsym (by kernel_rfl) (by decide) (by decide) rfl hf
  have B : ∀ fs, (∀ f ∈ fs, cmpZ f.1 b f.2.1 = f.2.2) → VR (rho0 Tryz.prog 10 [v, s, b]) (bsym fs) (.int .i64 b) := fun fs hf => rsym (by kernel_rfl) (by decide) (by decide) rfl hf
  have nof : ∀ z : Int, ∀ f ∈ ([] : List (Nat × Int × Bool)), cmpZ f.1 z f.2.1 = f.2.2 := fun z f hf => by cases hf
  by_cases h0 : v = 0 ∨ v = 1
  · have key : ∀ s' b' : AV, VR (rho0 Tryz.prog 10 [v, s, b]) s' (.int .i64 s) → VR (rho0 Tryz.prog 10 [v, s, b]) b' (.int .i64 b) → goM (.I .i64 0) s' b' = some () → goM (.I .i64 1) s' b' = some () → Ret Tryz.prog 4 [.int .i64 v, .agg #[.int .i64 s, .int .i64 b]] h (Good h) := by
      intro s' b' hs hb g0 g1
      rcases h0 with rfl | rfl
      · exact goM_ok g0 hg .I hs hb
      · exact goM_ok g1 hg .I hs hb
    by_cases h1 : 1 ≤ s
    · by_cases h2 : s ≤ 1024
      · have hS := S [(3, 1, true), (1, 1024, true)] (by simp [cmpZ, h1, h2])
        by_cases h3 : 1 ≤ b
        · by_cases h4 : b ≤ 1048576
          · exact key _ _ hS (B [(3, 1, true), (1, 1048576, true)] (by simp [cmpZ, h3, h4])) m6_0 m6_1
          · exact key _ _ hS (B [(3, 1, true), (1, 1048576, false)] (by simp [cmpZ, h3, h4])) m5_0 m5_1
        · exact key _ _ hS (B [(3, 1, false)] (by simp [cmpZ, h3])) m4_0 m4_1
      · exact key _ _ (S [(3, 1, true), (1, 1024, false)] (by simp [cmpZ, h1, h2])) (B [] (nof b)) m3_0 m3_1
    · exact key _ _ (S [(3, 1, false)] (by simp [cmpZ, h1])) (B [] (nof b)) m2_0 m2_1
  · have h0' : v ≠ 0 ∧ v ≠ 1 := ⟨fun hh => h0 (.inl hh), fun hh => h0 (.inr hh)⟩
    exact goM_ok m1 hg (V vOther (by simp [vOther, cmpZ, h0'.1, h0'.2])) (S [] (nof s)) (B [] (nof b))
end Go.Proofs.YtnmdbemccdhdmaaGreatDoor
