/- Ry is sound, part 2: heaps that are told; what may have turned; operands. -/
import Derived.Test.YtnmdbemccdhdmaaGreatDoorRz1
namespace Go.TP
open Go
namespace Ry

/-- The pending jump of a loop's record. -/
def Jr (ids : List Nat) : Nat → Code → Prop
  | 0, c => c = .ret
  | n + 1, c => ∃ id, idx id ids 0 = some n ∧ c = .exit id
def BR (ρ : Rn) (h : Heap) (lo : Lo) : AB → Prop
  | .cells T .shut _ cs => ∃ us, VRs ρ cs us ∧ h[lo.g]? = some (.cells us.toArray T (0, 0))
  | .cells T (.op sz) _ cs => ∃ us rest, VRs ρ cs us ∧ h[lo.g]? = some (.cells (us ++ rest).toArray T (0, 0)) ∧ (us ++ rest).length = lo.c * sz ∧ lo.c ≤ maxLen
  | .cells _ .ro _ cs => lo.g < h.size ∧ ∃ us, VRs ρ cs us ∧ ∀ j u, us[j]? = some u → cel h lo.g j = some u
  | .loop true none => h[lo.g]? = some (.loop { lo.lp with state := .ready, pending := none })
  | .loop false none => h[lo.g]? = some (.loop { lo.lp with state := .busy, pending := none })
  | .loop false (some j) => ∃ c, Jr lo.ids j c ∧ h[lo.g]? = some (.loop { lo.lp with state := .done, pending := some c })
  | .loop true (some _) => False
theorem BR.mono {ρ ρ' : Rn} {h : Heap} {lo : Lo} (hl : Le ρ ρ') : ∀ {B : AB}, BR ρ h lo B → BR ρ' h lo B
  | .cells _ .shut _ _, ⟨us, h1, h2⟩ => ⟨us, h1.mono hl, h2⟩
  | .cells _ (.op _) _ _, ⟨us, rest, h1, h2⟩ => ⟨us, rest, h1.mono hl, h2⟩
  | .cells _ .ro _ _, ⟨h0, us, h1, h2⟩ => ⟨h0, us, h1.mono hl, h2⟩
  | .loop true none, h => h
  | .loop false none, h => h
  | .loop false (some _), h => h
  | .loop true (some _), h => h
theorem BR.same {ρ : Rn} {h h' : Heap} {lo : Lo} (hs : h'[lo.g]? = h[lo.g]?) : ∀ {B : AB}, BR ρ h lo B → BR ρ h' lo B
  | .cells _ .shut _ _, ⟨us, h1, h2⟩ => ⟨us, h1, hs.trans h2⟩
  | .cells _ (.op _) _ _, ⟨us, rest, h1, h2, h3⟩ => ⟨us, rest, h1, hs.trans h2, h3⟩
  | .cells _ .ro _ _, ⟨h0, us, h1, h2⟩ => ⟨by rw [Array.getElem?_eq_getElem h0] at hs; exact (Array.getElem?_eq_some_iff.1 hs).1, us, h1, fun j u hu => by have := h2 j u hu; unfold cel at this ⊢; rw [hs]; exact this⟩
  | .loop true none, h => hs.trans h
  | .loop false none, h => hs.trans h
  | .loop false (some _), ⟨c, h1, h2⟩ => ⟨c, h1, hs.trans h2⟩
  | .loop true (some _), h => h
theorem BR.lt {ρ : Rn} {h : Heap} {lo : Lo} : ∀ {B : AB}, BR ρ h lo B → lo.g < h.size
  | .cells _ .shut _ _, ⟨_, _, h2⟩ => (Array.getElem?_eq_some_iff.1 h2).1
  | .cells _ (.op _) _ _, ⟨_, _, _, h2, _⟩ => (Array.getElem?_eq_some_iff.1 h2).1
  | .cells _ .ro _ _, ⟨h0, _⟩ => h0
  | .loop true none, h => (Array.getElem?_eq_some_iff.1 h).1
  | .loop false none, h => (Array.getElem?_eq_some_iff.1 h).1
  | .loop false (some _), ⟨_, _, h⟩ => (Array.getElem?_eq_some_iff.1 h).1
  | .loop true (some _), h => h.elim
theorem BR.read {ρ : Rn} {h : Heap} {lo : Lo} {T : Nat} {m : Md} {s : Nat} {cs : List AV} (hb : BR ρ h lo (.cells T m s cs)) : ∃ us, VRs ρ cs us ∧ ∀ j u, us[j]? = some u → cel h lo.g j = some u := by
  cases m with
  | shut => obtain ⟨us, h1, h2⟩ := hb; exact ⟨us, h1, fun j u hu => by simp [cel, h2, hu]⟩
  | op sz =>
    obtain ⟨us, rest, h1, h2, _⟩ := hb
    refine ⟨us, h1, fun j u hu => ?_⟩
    have hj := (List.getElem?_eq_some_iff.1 hu).1
    simp only [cel, h2, List.getElem?_toArray]
    rw [List.getElem?_append_left hj]; exact hu
  | ro => exact hb.2

structure HR (P : Program) (ρ : Rn) (H : AH) (h : Heap) : Prop where
  blk : ∀ b B, getT H.blocks b = some B → ∃ lo, ρ b = some lo ∧ BR ρ h lo B
  inj : ∀ b b' lo lo', (getT H.blocks b).isSome → (getT H.blocks b').isSome → ρ b = some lo → ρ b' = some lo' → lo.g = lo'.g → b = b'
  new : ∀ b, num H.next ≤ num b → ρ b = none ∧ getT H.blocks b = none
  glob : ∀ p, num p ≤ P.globals.size → ∃ lo, ρ p = some lo ∧ lo.g = num p
def Kept (H H' : AH) (b : Pth) : Prop := ∃ T m s cs T' m' cs', getT H.blocks b = some (.cells T m s cs) ∧ getT H'.blocks b = some (.cells T' m' s cs')
structure Nx (ρ : Rn) (H : AH) (h : Heap) (ρ' : Rn) (H' : AH) (h' : Heap) : Prop where
  le : Le ρ ρ'
  size : h.size ≤ h'.size
  fr : ∀ g, g < h.size → (∀ b lo, (getT H.blocks b).isSome → ρ b = some lo → lo.g = g → Kept H H' b) → h'[g]? = h[g]?
  mono : ∀ b lo T m s cs B', ρ b = some lo → getT H.blocks b = some (.cells T m s cs) → getT H'.blocks b = some B' → ∃ T' m' s' cs', B' = .cells T' m' s' cs' ∧ s ≤ s'
  nores : ∀ b lo, ρ b = some lo → (getT H'.blocks b).isSome → (getT H.blocks b).isSome
  newb : ∀ b lo, ρ b = none → ρ' b = some lo → (getT H'.blocks b).isSome → h.size ≤ lo.g ∨ ∃ b0 lo0, (getT H.blocks b0).isSome ∧ ρ b0 = some lo0 ∧ lo0.g = lo.g
theorem Nx.refl (ρ : Rn) (H : AH) (h : Heap) : Nx ρ H h ρ H h :=
  ⟨Le.refl _, Nat.le_refl _, fun _ _ _ => rfl, fun _ _ T m s cs B' _ h1 h2 => by rw [h1] at h2; cases h2; exact ⟨T, m, s, cs, rfl, Nat.le_refl _⟩, fun _ _ _ h => h, fun _ _ h1 h2 => by rw [h1] at h2; cases h2⟩
section
variable {P : Program} {ρ0 ρ1 ρ2 : Rn} {H0 H1 H2 : AH} {h0 h1 h2 : Heap}
theorem Nx.trans (x : Nx ρ0 H0 h0 ρ1 H1 h1) (y : Nx ρ1 H1 h1 ρ2 H2 h2) (r1 : HR P ρ1 H1 h1) : Nx ρ0 H0 h0 ρ2 H2 h2 := by
  have mid : ∀ b lo, ρ0 b = some lo → Kept H0 H2 b → Kept H0 H1 b ∧ Kept H1 H2 b := by
    rintro b lo hb ⟨T, m, s, cs, T', m', cs', k1, k2⟩
    have hs := y.nores b lo (x.le _ _ hb) (by rw [k2]; rfl)
    obtain ⟨B1, hB1⟩ := Option.isSome_iff_exists.1 hs
    obtain ⟨T1, m1, s1, cs1, rfl, hle⟩ := x.mono b lo T m s cs B1 hb k1 hB1
    obtain ⟨T2, m2, s2, cs2, h3, hle2⟩ := y.mono b lo T1 m1 s1 cs1 _ (x.le _ _ hb) hB1 k2
    cases h3
    have : s1 = s := by omega
    subst this
    exact ⟨⟨_, _, _, _, _, _, _, k1, hB1⟩, ⟨_, _, _, _, _, _, _, hB1, k2⟩⟩
  refine ⟨x.le.trans y.le, Nat.le_trans x.size y.size, fun g hg hk => ?_, fun b lo T m s cs B' hb h1 h2 => ?_, fun b lo hb h2 => x.nores b lo hb (y.nores b lo (x.le _ _ hb) h2), fun b lo hb hb2 h2 => ?_⟩
  · rw [y.fr g (Nat.lt_of_lt_of_le hg x.size) ?_, x.fr g hg fun b lo hs hb hgb => (mid b lo hb (hk b lo hs hb hgb)).1]
    intro b lo hs hb hgb
    cases hb0 : ρ0 b with
    | some lo0 =>
      have he : lo0 = lo := by have := x.le _ _ hb0; rw [hb] at this; cases this; rfl
      subst he
      exact (mid b lo0 hb0 (hk b lo0 (x.nores b lo0 hb0 hs) hb0 hgb)).2
    | none =>
      rcases x.newb b lo hb0 hb hs with hh | ⟨b0, lo0, k1, k2, k3⟩
      · omega
      · have hk0 := (mid b0 lo0 k2 (hk b0 lo0 k1 k2 (k3.trans hgb))).1
        obtain ⟨_, _, _, _, _, _, _, _, hk0⟩ := hk0
        have := r1.inj b b0 lo lo0 hs (by rw [hk0]; rfl) hb (x.le _ _ k2) k3.symm
        rw [this, k2] at hb0
        cases hb0
  · obtain ⟨B1, hb1⟩ := Option.isSome_iff_exists.1 (y.nores b lo (x.le _ _ hb) (by rw [h2]; rfl))
    obtain ⟨T1, m1, s1, cs1, rfl, hle⟩ := x.mono b lo T m s cs B1 hb h1 hb1
    obtain ⟨T2, m2, s2, cs2, rfl, hle2⟩ := y.mono b lo T1 m1 s1 cs1 _ (x.le _ _ hb) hb1 h2
    exact ⟨_, _, _, _, rfl, Nat.le_trans hle hle2⟩
  · cases hb1 : ρ1 b with
    | some lo1 =>
      have he : lo1 = lo := by have := y.le _ _ hb1; rw [hb2] at this; cases this; rfl
      subst he
      exact x.newb b lo1 hb hb1 (y.nores b lo1 hb1 h2)
    | none =>
      rcases y.newb b lo hb1 hb2 h2 with hh | ⟨b1, lo1, k1, k2, k3⟩
      · exact .inl (Nat.le_trans x.size hh)
      · cases hb10 : ρ0 b1 with
        | some lo10 =>
          have he : lo10 = lo1 := by have := x.le _ _ hb10; rw [k2] at this; cases this; rfl
          subst he
          exact .inr ⟨b1, lo10, x.nores b1 lo10 hb10 k1, hb10, k3⟩
        | none =>
          rcases x.newb b1 lo1 hb10 k2 k1 with hh | ⟨b0, lo0, j1, j2, j3⟩
          · exact .inl (by omega)
          · exact .inr ⟨b0, lo0, j1, j2, j3.trans k3⟩
/-- A block that nobody knows stays as it is, and nobody comes to know it. -/
theorem Nx.out {ρ ρ' : Rn} {H H' : AH} {h h' : Heap} (hx : Nx ρ H h ρ' H' h') {g : Nat} (hlt : g < h.size) (hf : ∀ b lo, (getT H.blocks b).isSome → ρ b = some lo → lo.g ≠ g) : h'[g]? = h[g]? ∧ ∀ b lo, (getT H'.blocks b).isSome → ρ' b = some lo → lo.g ≠ g := by
  refine ⟨hx.fr g hlt fun b lo hs hb' hg => absurd hg (hf b lo hs hb'), fun b lo hs hb' hg => ?_⟩
  cases hρ : ρ b with
  | some lo0 =>
    have he : lo0 = lo := by have := hx.le _ _ hρ; rw [hb'] at this; cases this; rfl
    subst he
    exact hf b lo0 (hx.nores b lo0 hρ hs) hρ hg
  | none =>
    rcases hx.newb b lo hρ hb' hs with h1 | ⟨b0, lo0, k1, k2, k3⟩
    · omega
    · exact hf b0 lo0 k1 k2 (k3.trans hg)
theorem Nx.away {ρ ρ' : Rn} {H H' : AH} {h h' h'' : Heap} (hx : Nx ρ H h ρ' H' h') (hsz : h'.size ≤ h''.size) (hs : ∀ g, g < h.size → h''[g]? = h'[g]?) : Nx ρ H h ρ' H' h'' :=
  ⟨hx.le, Nat.le_trans hx.size hsz, fun g hg hk => (hs g hg).trans (hx.fr g hg hk), hx.mono, hx.nores, hx.newb⟩
theorem HR.away {ρ : Rn} {H : AH} {h h' : Heap} (hh : HR P ρ H h) (hs : ∀ b lo, (getT H.blocks b).isSome → ρ b = some lo → h'[lo.g]? = h[lo.g]?) : HR P ρ H h' :=
  ⟨fun b B hb => let ⟨lo, h1, h2⟩ := hh.blk b B hb; ⟨lo, h1, h2.same (hs b lo (by rw [hb]; rfl) h1)⟩, hh.inj, hh.new, hh.glob⟩
/-- Blocks that a function lays for the calls that its rounds defer. -/
structure Mk (hb : Heap) (ρ : Rn) (H : AH) (h : Heap) (Ds : List Nat) : Prop where
  nd : Ds.Nodup
  at_ : ∀ D ∈ Ds, h[D]? = some (.deferred (some [])) ∧ hb.size ≤ D
  free : ∀ D ∈ Ds, ∀ b lo, (getT H.blocks b).isSome → ρ b = some lo → lo.g ≠ D
theorem Mk.nil {hb : Heap} {ρ : Rn} {H : AH} {h : Heap} : Mk hb ρ H h [] := ⟨List.nodup_nil, fun _ hD => (by cases hD), fun _ hD => (by cases hD)⟩
theorem Mk.nx {hb : Heap} {ρ ρ' : Rn} {H H' : AH} {h h' : Heap} {Ds : List Nat} (hm : Mk hb ρ H h Ds) (hx : Nx ρ H h ρ' H' h') : Mk hb ρ' H' h' Ds :=
  ⟨hm.nd, fun D hD => ⟨(hx.out (Array.getElem?_eq_some_iff.1 (hm.at_ D hD).1).1 (hm.free D hD)).1.trans (hm.at_ D hD).1, (hm.at_ D hD).2⟩, fun D hD => (hx.out (Array.getElem?_eq_some_iff.1 (hm.at_ D hD).1).1 (hm.free D hD)).2⟩
def mark (D : Nat) : Deferred := { target := .collected D, args := #[] }
/-! Environments, operands. -/
def ER (ρ : Rn) (e : EV) (E : Env) : Prop := ∀ p v, getE e p = some v → ∃ u, VR ρ v u ∧ TP.look E p = some u
theorem ER.mono {ρ ρ' : Rn} {e : EV} {E : Env} (h : ER ρ e E) (hl : Le ρ ρ') : ER ρ' e E := fun p v hp => let ⟨u, h1, h2⟩ := h p v hp; ⟨u, h1.mono hl, h2⟩
theorem ER.put {ρ : Rn} {e : EV} {E : Env} (h : ER ρ e E) (p : Nat) {v : AV} {u : Value} (hv : VR ρ v u) : ER ρ (setE (some v) p e) ((p, u) :: E) := by
  intro q w hq
  rw [look_cons]
  by_cases hqp : q = p
  · subst hqp
    rw [getE_setE] at hq
    split at hq
    · cases hq; exact ⟨u, hv, by simp⟩
    · rename_i hn
      unfold getE at hq
      rw [if_neg (fun hh => hn ⟨rfl, hh⟩)] at hq
      cases hq
  · rw [getE_other hqp] at hq
    rw [if_neg (fun h => hqp h.symm)]
    exact h q w hq
theorem ER.del {ρ : Rn} {e : EV} {E : Env} (h : ER ρ e E) (p : Nat) : ER ρ (setE none p e) E := by
  intro q w hq
  by_cases hqp : q = p
  · subst hqp; rw [getE_del] at hq; cases hq
  · rw [getE_other hqp] at hq
    exact h q w hq
/-- A slot that nothing is known of may hold anything. -/
theorem ER.put' {ρ : Rn} {e : EV} {E : Env} (h : ER ρ e E) (p : Nat) (u : Value) (hp : getE e p = none) : ER ρ e ((p, u) :: E) := by
  intro q w hq
  rw [look_cons, if_neg (fun hh => by rw [← hh] at hq; rw [hp] at hq; cases hq)]
  exact h q w hq
def vOp (e : EV) : Operand → Option AV
  | .tmp t => getE e t
  | .const c => ofV c
  | .global g => some (.P (sl g) 0)
  | .func f => some (.X (.fn f [] []))
variable {R : Type}
structure OpS (P : Program) (x : Operand) (xo : OD R) : Prop where
  eq : ∀ e k, xo e k = (vOp e x).bind k
  ok : ∀ ρ H h e E v, HR P ρ H h → ER ρ e E → vOp e x = some v → ∃ u, VR ρ v u ∧ ev E x = some u
theorem opnd_ok {x : Operand} {xo : OD R} (h : opnd P x = some xo) : OpS P x xo := by
  cases x with
  | tmp t =>
    simp only [opnd] at h
    obtain ⟨G, hG, h⟩ := slG_some h
    cases h
    refine ⟨fun e k => oT_eq hG e k, fun ρ H h e E v hr he hv => ?_⟩
    obtain ⟨u, h1, h2⟩ := he _ _ hv
    exact ⟨u, h1, h2⟩
  | const c =>
    simp only [opnd] at h
    split at h
    · rename_i a ha
      cases h
      refine ⟨fun e k => by simp [oC, vOp, ha], fun ρ H h e E v hr he hv => ⟨c, ofV_VR ρ hv, rfl⟩⟩
    · cases h
  | global g =>
    simp only [opnd, slP, ifK_eq] at h
    split at h
    · rename_i hg
      split at h
      · rename_i hb
        cases h
        have hn := Nat.eq_of_beq_eq_true hb
        refine ⟨fun e k => rfl, fun ρ H h e E v hr he hv => ?_⟩
        cases hv
        obtain ⟨lo, h1, h2⟩ := hr.glob (sl g) (by rw [hn]; exact Nat.le_of_lt (Nat.le_of_ble_eq_true hg))
        exact ⟨_, .P h1, by rw [h2, hn]; rfl⟩
      · cases h
    · cases h
  | func f =>
    cases h
    refine ⟨fun e k => rfl, fun ρ H h e E v hr he hv => ?_⟩
    cases hv
    exact ⟨_, .fn .nil .nil, rfl⟩
def vOps (e : EV) : List Operand → Option (List AV)
  | [] => some []
  | x :: l => (vOp e x).bind fun v => (vOps e l).bind fun vs => some (v :: vs)
structure OpsS (P : Program) (l : List Operand) (xs : EV → (List AV → Option R) → Option R) : Prop where
  eq : ∀ e k, xs e k = (vOps e l).bind k
  ok : ∀ ρ H h e E vs, HR P ρ H h → ER ρ e E → vOps e l = some vs → ∃ us, VRs ρ vs us ∧ evs E l = some us
theorem opnds_ok : ∀ {l : List Operand} {xs : EV → (List AV → Option R) → Option R}, opnds P l = some xs → OpsS P l xs
  | [], xs, h => by
    cases h
    exact ⟨fun e k => rfl, fun ρ H h e E vs _ _ hv => by cases hv; exact ⟨[], .nil, rfl⟩⟩
  | x :: l, xs, h => by
    unfold opnds at h
    split at h
    · cases h
    · rename_i xo hx
      split at h
      · cases h
      · rename_i lo hl
        cases h
        have h1 := opnd_ok hx
        have h2 := opnds_ok hl
        refine ⟨fun e k => ?_, fun ρ H h e E vs hr he hv => ?_⟩
        · simp only [consO, h1.eq, h2.eq, vOps]
          cases vOp e x <;> simp
          cases vOps e l <;> simp
        · simp only [vOps] at hv
          obtain ⟨v, hv1, hv⟩ := bind_some hv
          obtain ⟨ws, hv2, hv⟩ := bind_some hv
          cases hv
          obtain ⟨u, k1, k2⟩ := h1.ok ρ H h e E v hr he hv1
          obtain ⟨us, k3, k4⟩ := h2.ok ρ H h e E ws hr he hv2
          exact ⟨u :: us, .cons k1 k3, by simp [evs, k2, k4]⟩
end
end Ry
end Go.TP
