/- The evaluator: functions of slices of numbers, told by what they come to. -/
import Derived.Test.YtemmcnbfajlljaaGreatDoorRc
/-! Rzo. -/
namespace Go.TP
open Go
noncomputable section
namespace Ry
variable {P : Program}
/-- The numbers that a slice shows; it may be empty. -/
def asL0 (k : IntKind) (H : AH) (v : AV) (κ : List Int → Option R) : Option R := match v with
  | .X (.ss b o n _) => blk H b fun B => cellsB B fun T m _ cs => need (0 ≤ n ∧ 0 ≤ relO m T o ∧ relO m T o + n ≤ cs.length ∧ areI k (partA cs (relO m T o) n)) (κ ((partA cs (relO m T o) n).map intOf))
  | v => asL k H v κ
/-- What such a slice is. -/
def SlR (k : IntKind) (l : List Int) (h : Heap) (u : Value) : Prop := (l = [] ∧ ∃ A c, u = .slice A 0 c ∧ (A = none → c = 0) ∧ (∀ a, A = some a → a.spot = none)) ∨ (0 < l.length ∧ ∃ g o c, g < h.size ∧ l.length ≤ c ∧ u = .slice (some ⟨g, o, none⟩) l.length c ∧ ∀ (j : Nat) (z : Int), l[j]? = some z → cel h g (o + j) = some (.int k z))
theorem asL0_some {k : IntKind} {H : AH} {v : AV} {κ : List Int → Option R} {r : R} (h : Tr (asL0 k H v κ) r) : ∃ l, Tr (κ l) r ∧ ∀ ρ h u, HR P ρ H h → VR ρ v u → SlR k l h u := by
  unfold asL0 at h
  split at h
  · rename_i b o n cq
    by_cases hn : 0 < n
    · have h' : Tr (asL k H (.X (.ss b o n cq)) κ) r := by
        show Tr (blk H b fun B => cellsB B fun T m _ cs => need (0 < n ∧ 0 ≤ relO m T o ∧ relO m T o + n ≤ cs.length ∧ areI k (partA cs (relO m T o) n)) (κ ((partA cs (relO m T o) n).map intOf))) r
        replace h := blk_some h
        obtain ⟨B, hB, h⟩ := h
        replace h := cellsB_some h
        obtain ⟨T, m, s, cs, rfl, h⟩ := h
        obtain ⟨⟨q1, q2, q3, q4⟩, h⟩ := need_some h
        have hb : blk H b = fun (k : AB → Option R) => k (.cells T m s cs) := by
          obtain ⟨nx, t⟩ := H
          funext k
          show getK t b k = _
          rw [getK_eq, hB]; rfl
        rw [hb]
        refine ⟨⟨hn, q2, q3, q4⟩, ?_⟩
        rw [ofO_tr (r := r)]
        exact h
      exact asL_some h'
    · replace h := blk_some h
      obtain ⟨B, hB, h⟩ := h
      replace h := cellsB_some h
      obtain ⟨T, m, s, cs, rfl, h⟩ := h
      obtain ⟨⟨q1, q2, q3, q4⟩, h⟩ := need_some h
      obtain rfl : n = 0 := by omega
      refine ⟨_, h, fun ρ hp u hh hv => .inl ⟨by simp [partA], ?_⟩⟩
      cases hv with
      | ss h1 h2 h3 h4 h5 => exact ⟨_, _, rfl, fun h => (by cases h), fun a h => by cases h; rfl⟩
  · exact asL_some h
/-- A function that reads a slice of numbers: what a run of it comes to. -/
theorem readm_ret (hm : P.follows .mixedOrders = true) {hook : Nat → Option (FD R)} (hH : HookOk P hook) {fuel : Fu} (hW : WOk P fuel) {n : Nat} (hn : slOk n = true) (hgn : P.globals.size + 1 < n) (hs1 : slOk (P.globals.size + 1) = true) {depth f : Nat} {k : IntKind} {l : List Int} {Q : AV → AH → Prop}
    (h0 : l = [] → Tr (call P hook fuel depth [] [] (.fn f) [.X .nils] ⟨sl n, .nil⟩ (fun v H' => some (.leaf (Q v H')))) tt ∧ Tr (call P hook fuel depth [] [] (.fn f) [.X .slz] ⟨sl n, .nil⟩ (fun v H' => some (.leaf (Q v H')))) tt)
    (h : 0 < l.length → ∀ off : Nat, Tr (call P hook fuel depth [] [] (.fn f) [.X (.ss (sl (P.globals.size + 1)) off l.length none)] ⟨sl n, initA [(P.globals.size + 1, off, seqA k l)]⟩ (fun v H' => some (.leaf (Q v H')))) tt)
    {ρ : Rn} {H : AH} {hp : Heap} {u : Value} (hh : HR P ρ H hp) (hv : SlR k l hp u)
    {κ : AV → AH → Option R} (hk : ∀ v H', Q v H' → ∃ V Ns, Mad n v H' V Ns ∧ Tr (κ (V H.next) (adds H (Ns H.next))) tt) : Enters P f ∧ Ret P f [u] hp (Out P ρ H hp κ) := by
  have hnn : num (sl n) = n := Nat.eq_of_beq_eq_true hn
  have hnil : ∀ b, (getT (.nil : PT AB) b).isSome → RoB ⟨sl n, .nil⟩ b := fun b hs => by rw [getT_nil] at hs; cases hs
  rcases hv with ⟨hl, A, c, rfl, hA, hA2⟩ | ⟨hl, g, o, c, hg, hle, rfl, hc⟩
  · obtain ⟨k1, k2⟩ := h0 hl
    have hr : HR P (rho0 P n []) ⟨sl n, .nil⟩ hp := hr_init (l := []) hn (by omega) (fun x hx => by cases hx)
    cases A with
    | none => obtain rfl := hA rfl; exact made_fin hnil hr (retW_of hm hH hW k1 hr (.cons .nils .nil)) hh (by show ∀ v H', Q v H' → ∃ V Ns, Mad (num (sl n)) v H' V Ns ∧ _; rw [hnn]; exact hk)
    | some a =>
      obtain ⟨b, o, sp⟩ := a
      obtain rfl := hA2 _ rfl
      exact made_fin hnil hr (retW_of hm hH hW k2 hr (.cons .slz .nil)) hh (by show ∀ v H', Q v H' → ∃ V Ns, Mad (num (sl n)) v H' V Ns ∧ _; rw [hnn]; exact hk)
  · have hsl : num (sl (P.globals.size + 1)) = P.globals.size + 1 := Nat.eq_of_beq_eq_true hs1
    have hρ : rho1 P [(P.globals.size + 1, g)] (sl (P.globals.size + 1)) = some ⟨g, 0, default, [], 0⟩ := by
      unfold rho1
      rw [hsl, if_neg (by omega)]
      simp [List.lookup]
    have hr : HR P (rho1 P [(P.globals.size + 1, g)]) ⟨sl n, initA [(P.globals.size + 1, o, seqA k l)]⟩ hp := by
      refine hr_args hn (by omega) (fun p g' hp => ?_) fun x hx => ?_
      · simp only [List.lookup] at hp
        split at hp
        · rename_i he; have := eq_of_beq he; omega
        · cases hp
      · obtain rfl := List.mem_singleton.1 hx
        refine ⟨hs1, _, hρ, hg, _, seqA_vrs, fun j u hu => ?_⟩
        rw [List.getElem?_map] at hu
        cases hj : l[j]? with
        | none => rw [hj] at hu; cases hu
        | some z => rw [hj] at hu; cases hu; exact hc j z hj
    refine made_fin (fun b hs => initA_ro hs) hr (retW_of hm hH hW (h hl o) hr (.cons ?_ .nil)) hh (by show ∀ v H', Q v H' → ∃ V Ns, Mad (num (sl n)) v H' V Ns ∧ _; rw [hnn]; exact hk)
    have := VR.ss (ρ := rho1 P [(P.globals.size + 1, g)]) (b := sl (P.globals.size + 1)) (o := (o : Int)) (n := (l.length : Int)) (cq := none) (lo := ⟨g, 0, default, [], 0⟩) (og := o) (m := c) hρ (by omega) (fun _ => ⟨by omega, by simp⟩) (fun q hq => by cases hq) (by simpa using hle)
    simpa using this
/-- Package variables that are read alone, and what they hold. -/
structure Gls (P : Program) (Gl : List (Nat × Nat × List AV)) : Prop where
  ok : ∀ x ∈ Gl, slOk x.1 = true ∧ x.1 ≤ P.globals.size
  tr : ∀ x ∈ Gl, ∀ ρ los us, (∀ p, num p ≤ P.globals.size → ∃ lo, ρ p = some lo ∧ lo.g = num p) → VRs ρ x.2.2 us → VRs (rho1 P los) x.2.2 us
/-- They stand there. -/
def hasG (H : AH) (Gl : List (Nat × Nat × List AV)) : Prop := ∀ x ∈ Gl, getT H.blocks (sl x.1) = some (.cells x.2.1 .ro 0 x.2.2)
theorem Gls.args {Gl : List (Nat × Nat × List AV)} (hg : Gls P Gl) {ρ : Rn} {H : AH} {h : Heap} (hh : HR P ρ H h) (hH : hasG H Gl) (los : List (Nat × Nat)) : ∀ x ∈ Gl, slOk x.1 = true ∧ ∃ lo, rho1 P los (sl x.1) = some lo ∧ lo.g < h.size ∧ ∃ us, VRs (rho1 P los) x.2.2 us ∧ ∀ j u, us[j]? = some u → cel h lo.g (x.2.1 + j) = some u := by
  intro x hx
  obtain ⟨h1, h2⟩ := hg.ok x hx
  have hn : num (sl x.1) = x.1 := Nat.eq_of_beq_eq_true h1
  obtain ⟨lo, g1, g2, us, g3, g4⟩ := hh.blk _ _ (hH x hx)
  obtain ⟨lo', g5, g6⟩ := hh.glob (sl x.1) (by omega)
  rw [g1] at g5; cases g5
  refine ⟨h1, ⟨num (sl x.1), 0, default, [], 0⟩, by unfold rho1; rw [if_pos (by omega)], by dsimp only; omega, us, hg.tr x hx ρ los us hh.glob g3, fun j u hj => ?_⟩
  have := g4 j u hj
  rw [g6] at this
  exact this
/-- A function that reads a slice of numbers, and package variables: what a run of it comes to. -/
theorem readg_ret (hm : P.follows .mixedOrders = true) {hook : Nat → Option (FD R)} (hH : HookOk P hook) {fuel : Fu} (hW : WOk P fuel) {n : Nat} (hn : slOk n = true) (hgn : P.globals.size + 1 < n) (hs1 : slOk (P.globals.size + 1) = true) {depth f : Nat} {k : IntKind} {l : List Int} {Q : AV → AH → Prop} {Gl : List (Nat × Nat × List AV)} (hg : Gls P Gl)
    (h0 : l = [] → Tr (call P hook fuel depth [] [] (.fn f) [.X .nils] ⟨sl n, initA Gl⟩ (fun v H' => some (.leaf (Q v H')))) tt ∧ Tr (call P hook fuel depth [] [] (.fn f) [.X .slz] ⟨sl n, initA Gl⟩ (fun v H' => some (.leaf (Q v H')))) tt)
    (h : 0 < l.length → ∀ off : Nat, Tr (call P hook fuel depth [] [] (.fn f) [.X (.ss (sl (P.globals.size + 1)) off l.length none)] ⟨sl n, initA ((P.globals.size + 1, off, seqA k l) :: Gl)⟩ (fun v H' => some (.leaf (Q v H')))) tt)
    {ρ : Rn} {H : AH} {hp : Heap} {u : Value} (hh : HR P ρ H hp) (hG : hasG H Gl) (hv : SlR k l hp u)
    {κ : AV → AH → Option R} (hk : ∀ v H', Q v H' → ∃ V Ns, Mad n v H' V Ns ∧ Tr (κ (V H.next) (adds H (Ns H.next))) tt) : Enters P f ∧ Ret P f [u] hp (Out P ρ H hp κ) := by
  have hnn : num (sl n) = n := Nat.eq_of_beq_eq_true hn
  rcases hv with ⟨hl, A, c, rfl, hA, hA2⟩ | ⟨hl, g, o, c, hgg, hle, rfl, hc⟩
  · obtain ⟨k1, k2⟩ := h0 hl
    have hr : HR P (rho1 P []) ⟨sl n, initA Gl⟩ hp := hr_args hn (by omega) (fun p g hp => by cases hp) (hg.args hh hG [])
    cases A with
    | none => obtain rfl := hA rfl; exact made_fin (fun b hs => initA_ro hs) hr (retW_of hm hH hW k1 hr (.cons .nils .nil)) hh (by show ∀ v H', Q v H' → ∃ V Ns, Mad (num (sl n)) v H' V Ns ∧ _; rw [hnn]; exact hk)
    | some a =>
      obtain ⟨b, o, sp⟩ := a
      obtain rfl := hA2 _ rfl
      exact made_fin (fun b hs => initA_ro hs) hr (retW_of hm hH hW k2 hr (.cons .slz .nil)) hh (by show ∀ v H', Q v H' → ∃ V Ns, Mad (num (sl n)) v H' V Ns ∧ _; rw [hnn]; exact hk)
  · have hsl : num (sl (P.globals.size + 1)) = P.globals.size + 1 := Nat.eq_of_beq_eq_true hs1
    have hρ : rho1 P [(P.globals.size + 1, g)] (sl (P.globals.size + 1)) = some ⟨g, 0, default, [], 0⟩ := by
      unfold rho1
      rw [hsl, if_neg (by omega)]
      simp [List.lookup]
    have hr : HR P (rho1 P [(P.globals.size + 1, g)]) ⟨sl n, initA ((P.globals.size + 1, o, seqA k l) :: Gl)⟩ hp := by
      refine hr_args hn (by omega) (fun p g' hp => ?_) fun x hx => ?_
      · simp only [List.lookup] at hp
        split at hp
        · rename_i he; have := eq_of_beq he; omega
        · cases hp
      · rcases List.mem_cons.1 hx with rfl | hx
        · refine ⟨hs1, _, hρ, hgg, _, seqA_vrs, fun j u hu => ?_⟩
          rw [List.getElem?_map] at hu
          cases hj : l[j]? with
          | none => rw [hj] at hu; cases hu
          | some z => rw [hj] at hu; cases hu; exact hc j z hj
        · exact hg.args hh hG _ x hx
    refine made_fin (fun b hs => initA_ro hs) hr (retW_of hm hH hW (h hl o) hr (.cons ?_ .nil)) hh (by show ∀ v H', Q v H' → ∃ V Ns, Mad (num (sl n)) v H' V Ns ∧ _; rw [hnn]; exact hk)
    have := VR.ss (ρ := rho1 P [(P.globals.size + 1, g)]) (b := sl (P.globals.size + 1)) (o := (o : Int)) (n := (l.length : Int)) (cq := none) (lo := ⟨g, 0, default, [], 0⟩) (og := o) (m := c) hρ (by omega) (fun _ => ⟨by omega, by simp⟩) (fun q hq => by cases hq) (by simpa using hle)
    simpa using this
/-- A function that is handed no memory: what a run of it over an empty heap comes to. -/
theorem purm_ret (hm : P.follows .mixedOrders = true) {hook : Nat → Option (FD R)} (hH : HookOk P hook) {fuel : Fu} (hW : WOk P fuel) {n : Nat} (hn : slOk n = true) (hgn : P.globals.size < n) {depth f : Nat} {vs : List AV} (hp : Purs vs) {Q : AV → AH → Prop}
    (h : Tr (call P hook fuel depth [] [] (.fn f) vs ⟨sl n, .nil⟩ (fun v H' => some (.leaf (Q v H')))) tt) {ρ : Rn} {H : AH} {hp' : Heap} {us : List Value} (hh : HR P ρ H hp') (hv : VRs ρ vs us)
    {κ : AV → AH → Option R} (hk : ∀ v H', Q v H' → ∃ V Ns, Mad n v H' V Ns ∧ Tr (κ (V H.next) (adds H (Ns H.next))) tt) : Enters P f ∧ Ret P f us hp' (Out P ρ H hp' κ) := by
  have hnn : num (sl n) = n := Nat.eq_of_beq_eq_true hn
  have h0 : HR P (rho0 P n []) ⟨sl n, .nil⟩ hp' := hr_init (l := []) hn hgn (fun x hx => by cases hx)
  exact made_fin (fun b hs => by have hs : (getT (.nil : PT AB) b).isSome = true := hs; rw [getT_nil] at hs; cases hs) h0 (retW_of hm hH hW h h0 (hp.ok hv)) hh (by show ∀ v H', Q v H' → ∃ V Ns, Mad (num (sl n)) v H' V Ns ∧ _; rw [hnn]; exact hk)
/-- A function that reads two slices of numbers, neither of them empty, and hands out no memory. -/
theorem read2_ret (hm : P.follows .mixedOrders = true) {hook : Nat → Option (FD R)} (hH : HookOk P hook) {fuel : Fu} (hW : WOk P fuel) {n : Nat} (hn : slOk n = true) (hgn : P.globals.size + 2 < n) (hs1 : slOk (P.globals.size + 1) = true) (hs2 : slOk (P.globals.size + 2) = true) {depth f : Nat} {k k' : IntKind} {l l' : List Int} {Q : AV → Prop}
    (h : ∀ off off' : Nat, Tr (call P hook fuel depth [] [] (.fn f) [.X (.ss (sl (P.globals.size + 1)) off l.length none), .X (.ss (sl (P.globals.size + 2)) off' l'.length none)] ⟨sl n, initA [(P.globals.size + 1, off, seqA k l), (P.globals.size + 2, off', seqA k' l')]⟩ (fun v _ => some (.leaf (Pur v ∧ Q v)))) tt)
    {ρ : Rn} {H : AH} {hp : Heap} {u u' : Value} (hh : HR P ρ H hp) (hv : SlR k l hp u) (hv' : SlR k' l' hp u') (hl : 0 < l.length) (hl' : 0 < l'.length)
    {κ : AV → AH → Option R} (hk : ∀ v, Q v → ∃ v', Fit v v' ∧ Tr (κ v' H) tt) : Enters P f ∧ Ret P f [u, u'] hp (Out P ρ H hp κ) := by
  rcases hv with ⟨he, _⟩ | ⟨_, g, o, c, hg, hle, rfl, hc⟩
  · rw [he] at hl; exact absurd hl (by decide)
  rcases hv' with ⟨he, _⟩ | ⟨_, g', o', c', hg', hle', rfl, hc'⟩
  · rw [he] at hl'; exact absurd hl' (by decide)
  have hsl : num (sl (P.globals.size + 1)) = P.globals.size + 1 := Nat.eq_of_beq_eq_true hs1
  have hsl2 : num (sl (P.globals.size + 2)) = P.globals.size + 2 := Nat.eq_of_beq_eq_true hs2
  have hρ : rho1 P [(P.globals.size + 1, g), (P.globals.size + 2, g')] (sl (P.globals.size + 1)) = some ⟨g, 0, default, [], 0⟩ := by
    unfold rho1
    rw [hsl, if_neg (by omega)]
    simp [List.lookup]
  have hρ2 : rho1 P [(P.globals.size + 1, g), (P.globals.size + 2, g')] (sl (P.globals.size + 2)) = some ⟨g', 0, default, [], 0⟩ := by
    unfold rho1
    rw [hsl2, if_neg (by omega)]
    have : (P.globals.size + 2 == P.globals.size + 1) = false := by simp
    simp [List.lookup, this]
  have hr : HR P (rho1 P [(P.globals.size + 1, g), (P.globals.size + 2, g')]) ⟨sl n, initA [(P.globals.size + 1, o, seqA k l), (P.globals.size + 2, o', seqA k' l')]⟩ hp := by
    refine hr_args hn (by omega) (fun p g' hp => ?_) fun x hx => ?_
    · simp only [List.lookup] at hp
      split at hp
      · rename_i he; have := eq_of_beq he; omega
      · split at hp
        · rename_i he; have := eq_of_beq he; omega
        · cases hp
    · rcases List.mem_cons.1 hx with rfl | hx
      · refine ⟨hs1, _, hρ, hg, _, seqA_vrs, fun j u hu => ?_⟩
        rw [List.getElem?_map] at hu
        cases hj : l[j]? with
        | none => rw [hj] at hu; cases hu
        | some z => rw [hj] at hu; cases hu; exact hc j z hj
      · obtain rfl := List.mem_singleton.1 hx
        refine ⟨hs2, _, hρ2, hg', _, seqA_vrs, fun j u hu => ?_⟩
        rw [List.getElem?_map] at hu
        cases hj : l'[j]? with
        | none => rw [hj] at hu; cases hu
        | some z => rw [hj] at hu; cases hu; exact hc' j z hj
  obtain ⟨h1, h2⟩ := retW_of hm hH hW (h o o') hr (us := [.slice (some ⟨g, o, none⟩) l.length c, .slice (some ⟨g', o', none⟩) l'.length c']) (.cons (by
    have := VR.ss (ρ := rho1 P [(P.globals.size + 1, g), (P.globals.size + 2, g')]) (b := sl (P.globals.size + 1)) (o := (o : Int)) (n := (l.length : Int)) (cq := none) (lo := ⟨g, 0, default, [], 0⟩) (og := o) (m := c) hρ (by omega) (fun _ => ⟨by omega, by simp⟩) (fun q hq => by cases hq) (by simpa using hle)
    simpa using this) (.cons (by
    have := VR.ss (ρ := rho1 P [(P.globals.size + 1, g), (P.globals.size + 2, g')]) (b := sl (P.globals.size + 2)) (o := (o' : Int)) (n := (l'.length : Int)) (cq := none) (lo := ⟨g', 0, default, [], 0⟩) (og := o') (m := c') hρ2 (by omega) (fun _ => ⟨by omega, by simp⟩) (fun q hq => by cases hq) (by simpa using hle')
    simpa using this) .nil))
  refine ⟨h1, h2.mono ?_⟩
  rintro u h' ⟨ρ', v, H', r, k1, k2, k3, k4⟩
  obtain ⟨hpv, hQ⟩ : Pur v ∧ Q v := k1
  obtain ⟨v', hf, hr⟩ := hk v hQ
  have hsame : ∀ g, g < hp.size → h'[g]? = hp[g]? := fun g hg => k3.fr g hg fun b lo hs _ _ => .inr (initA_ro hs)
  exact ⟨ρ, v', H, tt, hr, hh.away fun b lo hs hb => by
    obtain ⟨B, hB⟩ := Option.isSome_iff_exists.1 hs
    obtain ⟨lo', g1, g2⟩ := hh.blk b B hB
    rw [hb] at g1; cases g1
    exact hsame _ g2.lt, (Nx.refl _ _ _).away k3.size hsame, hf _ _ (hpv _ _ _ k4)⟩
end Ry
end
end Go.TP
