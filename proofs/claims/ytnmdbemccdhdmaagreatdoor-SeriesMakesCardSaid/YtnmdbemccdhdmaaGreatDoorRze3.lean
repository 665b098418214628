/- Ry is sound, part 14c: regions that draw their order: an operation that only reads. -/
import Derived.Test.YtnmdbemccdhdmaaGreatDoorRze2
namespace Go.TP
open Go
namespace Ry
variable {P : Program} {R : Type} {ops : Array Oper} {K : Kt} {κi : List Item}
theorem take_on {i d : Nat} {op : Op} {ty : TypeId} {pos : String} {aft : Array Edge} {g : Option (Nat × Bool)} {L : Array Bool} {E : Env} {h : Heap} {u : Value} {lr2 : Lr} {f : Nat} (ho : ops[i]? = some ⟨some d, op, ty, pos, aft, g⟩) (hd : isData op = true) (hc : tk ops L i = true) (hg : GOn ops E g)
    (hv : ∀ L h', Needs ops L i → Phi ops lr2 L h' → Ev P E h' ⟨some d, op, ty, pos, aft, none⟩ u) (r : RunD P K ops (Phi ops lr2) f (L.setIfInBounds i true) κi ((d, u) :: E) h) : RunD P K ops (Phi ops lr2) (f + 1) L κi E h := by
  have hdt : ∀ L h, Phi ops lr2 (L.setIfInBounds i true) h → Phi ops lr2 L h := fun L h hp => Phi.data ho hd hp
  cases g with
  | none => exact RunD.take hdt hc ho hv r
  | some p =>
    obtain ⟨j, w⟩ := p
    obtain ⟨t, h1, h2⟩ := hg
    exact RunD.on hdt hc ho h1 h2 rfl hv r
theorem take_off {i d : Nat} {op : Op} {ty : TypeId} {pos : String} {aft : Array Edge} {j t : Nat} {w : Bool} {L : Array Bool} {E : Env} {h : Heap} {v : Value} {lr2 : Lr} {f : Nat} (ho : ops[i]? = some ⟨some d, op, ty, pos, aft, some (j, w)⟩) (hd : isData op = true) (hc : tk ops L i = true) (hj : (ops[j]?).bind (·.dst) = some t) (hl : look E t = some v) (hb : v = .bool (!w) ∨ v = undef)
    (r : RunD P K ops (Phi ops lr2) f (L.setIfInBounds i true) κi ((d, undef) :: E) h) : RunD P K ops (Phi ops lr2) (f + 1) L κi E h := by
  have hdt : ∀ L h, Phi ops lr2 (L.setIfInBounds i true) h → Phi ops lr2 L h := fun L h hp => Phi.data ho hd hp
  rcases hb with rfl | rfl
  · exact RunD.off hdt hc ho hj hl rfl r
  · exact RunD.offu hdt hc ho hj hl r
theorem LgR.same {L : Array Bool} {lg : Lg} {lr : Lr} {ρ : Rn} {H : AH} {h : Heap} {i : Nat} (hl : LgR ops L lg lr ρ H h) : LgR ops (L.setIfInBounds i true) lg lr ρ H h := fun x hx hn => hl x hx (Needs.less hn)
theorem LgR.more {L : Array Bool} {lg : Lg} {lr : Lr} {ρ : Rn} {H : AH} {h : Heap} {y : Nat × Pth × Nat} (hl : LgR ops L lg lr ρ H h) : LgR ops L (y :: lg) lr ρ H h := fun x hx hn => let ⟨h1, b, st, lo, h2, h3⟩ := hl x hx hn; ⟨h1, b, st, lo, List.mem_cons_of_mem _ h2, h3⟩
/-- What is logged. -/
theorem logK_some {n : Nat} {H : AH} {v : AV} {lg : Lg} {k : Lg → Option R} {r : R} (h : logK n H v lg k = some r) : ∃ lg', k lg' = some r ∧ ((blkOf (some v) = none ∧ lg' = lg) ∨ ∃ b T m st cs, blkOf (some v) = some b ∧ getT H.blocks b = some (.cells T m st cs) ∧ lg' = (n, b, st) :: lg) := by
  unfold logK at h
  split at h
  · replace h := blk_some h
    obtain ⟨B, hB, h⟩ := h
    replace h := cellsB_some h
    obtain ⟨T, m, st, cs, rfl, h⟩ := h
    exact ⟨_, h, .inr ⟨_, T, m, st, cs, rfl, hB, rfl⟩⟩
  · replace h := blk_some h
    obtain ⟨B, hB, h⟩ := h
    replace h := cellsB_some h
    obtain ⟨T, m, st, cs, rfl, h⟩ := h
    exact ⟨_, h, .inr ⟨_, T, m, st, cs, rfl, hB, rfl⟩⟩
  · rename_i h1 h2
    refine ⟨lg, h, .inl ⟨?_, rfl⟩⟩
    unfold blkOf
    split
    · rename_i heq; cases heq; exact absurd rfl (h1 _ _)
    · rename_i heq; cases heq; exact absurd rfl (h2 _ _ _ _)
    · rfl
/-- A guard is read. -/
theorem guard_some {e : EV} {q : Nat} {G : EV → Option AV} (hG : ∀ e, G e = getE e q) {w : Bool} {x y : Option R} {r : R} (h : oT G e (fun v => match v with
    | .B b => ifK (b == w) x y
    | .X .undef => y
    | _ => none) = some r) : (x = some r ∧ ∀ ρ E, ER ρ e E → look E q = some (.bool w)) ∨ (y = some r ∧ ∀ ρ E, ER ρ e E → ∃ v, look E q = some v ∧ (v = .bool (!w) ∨ v = undef)) := by
  rw [oT_eq hG] at h
  replace h := bind_some h
  obtain ⟨v, hv, h⟩ := h
  split at h
  · rename_i b
    rw [ifK_eq] at h
    split at h
    · rename_i hb
      have hb : b = w := by simpa using hb
      subst hb
      refine .inl ⟨h, fun ρ E he => ?_⟩
      obtain ⟨u, hu, hl⟩ := he q _ hv
      cases hu
      exact hl
    · rename_i hb
      have hb : ¬ b = w := by simpa using hb
      refine .inr ⟨h, fun ρ E he => ?_⟩
      obtain ⟨u, hu, hl⟩ := he q _ hv
      cases hu
      exact ⟨_, hl, .inl (by cases b <;> cases w <;> simp_all)⟩
  · refine .inr ⟨h, fun ρ E he => ?_⟩
    obtain ⟨u, hu, hl⟩ := he q _ hv
    cases hu
    exact ⟨_, hl, .inr rfl⟩
  · cases h
/-- What a step that only reads leaves to do. -/
def TakeR (P : Program) (ops : Array Oper) (K : Kt) (κi : List Item) (i : Nat) (L : Array Bool) (kk : DC R) (lg : Lg) (pc : List AV) (H : AH) (r : R) (e : EV) : Prop :=
  ∃ lg' e' d, kk lg' pc e' H = some r ∧ (ops[i]?).bind (·.dst) = some d ∧ (∀ q, d ≠ q → getE e' q = getE e q) ∧ ∀ ρ h E, HR P ρ H h → ER ρ e E → ∀ lr, LgR ops L lg lr ρ H h → ∃ (u : Value) (new : Lr), LgR ops (L.setIfInBounds i true) lg' (new ++ lr) ρ H h ∧ ER ρ e' ((d, u) :: E) ∧
    ∀ lr2 f, (∀ x ∈ new, x ∈ lr2) → RunD P K ops (Phi ops lr2) f (L.setIfInBounds i true) κi ((d, u) :: E) h → RunD P K ops (Phi ops lr2) (f + 1) L κi E h
section
variable {cx : Cx R} {i d : Nat} {op : Op} {ty : TypeId} {pos : String} {aft : Array Edge} {g : Option (Nat × Bool)} {L : Array Bool} {p : Option (Slot R)} {c : Ins R} {kk : DC R} {lg lg' : Lg} {pc : List AV} {e : EV} {H : AH} {r : R}
theorem take_core (ho : ops[i]? = some ⟨some d, op, ty, pos, aft, g⟩) (hd : isData op = true) (hc : tk ops L i = true) (hp : p.map Slot.p = some d) (hdk : DstOk p) (hco : compO P p op = some c) (hr : c cx (kk lg' pc) e H = some r)
    (hlog : (lg' = lg ∧ ∀ x, reads op = some x → blkOf (vOp e x) = none) ∨ ∃ x b T m st cs, reads op = some x ∧ blkOf (vOp e x) = some b ∧ getT H.blocks b = some (.cells T m st cs) ∧ lg' = (i, b, st) :: lg)
    (hg : ∀ ρ E, ER ρ e E → GOn ops E g) : TakeR P ops K κi i L kk lg pc H r e := by
  obtain ⟨v, h1, h2⟩ := compO_dat hd hco cx _ e H r hr
  obtain ⟨e', h3, h4, h4'⟩ := put_some hdk h1
  rw [hp] at h4'
  refine ⟨lg', e', d, h3, by rw [ho]; rfl, fun q hq => h4' q (fun hh => hq (by injection hh)), fun ρ h E hh he lr hl => ?_⟩
  obtain ⟨u, h5, h6⟩ := h2 ρ h E hh he
  have he' : ER ρ e' ((d, u) :: E) := by
    have := h4 ρ E u he h5
    rw [hp] at this; exact this
  rcases hlog with ⟨rfl, hn⟩ | ⟨x, b, T, m, st, cs, hx, hb, hB, rfl⟩
  · exact ⟨u, [], hl.same, he', fun lr2 f _ hrun => take_on ho hd hc (hg ρ E he) (fun L' h' _ _ => h6 h' (fun x hx b hb => by rw [hn x hx] at hb; cases hb) _ _ _ _ _) hrun⟩
  · obtain ⟨lo, k1, k2⟩ := hh.blk b _ hB
    have hlt := k2.lt
    refine ⟨u, [(i, lo.g, h[lo.g])], ?_, he', fun lr2 f hin hrun => take_on ho hd hc (hg ρ E he) (fun L' h' hn hp => h6 h' (fun x' hx' b' hb' lo' hlo' => ?_) _ _ _ _ _) hrun⟩
    · intro y hy hn
      rcases List.mem_cons.1 hy with rfl | hy
      · exact ⟨Array.getElem?_eq_getElem hlt, b, st, lo, List.mem_cons_self .., k1, rfl, T, m, cs, hB⟩
      · exact hl.same.more y hy hn
    · rw [hx] at hx'; cases hx'
      rw [hb] at hb'; cases hb'
      rw [k1] at hlo'; cases hlo'
      have hin' := hin (i, lo.g, h[lo.g]) (List.mem_cons_self ..)
      have := hp _ hin' hn
      exact this.trans (Array.getElem?_eq_getElem hlt).symm
theorem off_core {j : Nat} {w : Bool} {q : Nat} (ho : ops[i]? = some ⟨some d, op, ty, pos, aft, some (j, w)⟩) (hd : isData op = true) (hc : tk ops L i = true) (hp : p.map Slot.p = some d) (hdk : DstOk p) (hr : put p (.X .undef) (kk lg pc) e H = some r)
    (hj : (ops[j]?).bind (·.dst) = some q) (hg : ∀ ρ E, ER ρ e E → ∃ v, look E q = some v ∧ (v = .bool (!w) ∨ v = undef)) : TakeR P ops K κi i L kk lg pc H r e := by
  obtain ⟨e', h3, h4, h4'⟩ := put_some hdk hr
  rw [hp] at h4'
  refine ⟨lg, e', d, h3, by rw [ho]; rfl, fun q hq => h4' q (fun hh => hq (by injection hh)), fun ρ h E hh he lr hl => ?_⟩
  have he' : ER ρ e' ((d, undef) :: E) := by
    have := h4 ρ E undef he .undef
    rw [hp] at this; exact this
  obtain ⟨v, hl1, hl2⟩ := hg ρ E he
  exact ⟨undef, [], hl.same, he', fun lr2 f _ hrun => take_off ho hd hc hj hl1 hl2 hrun⟩
theorem take_ok {ms : List (Nat × Nat)} {di : DI R} (hcs : compS P ops ms (.take i) = some di) (hd : dataAt ops i = true) (hc : tk ops L i = true) (hr : di cx kk lg pc e H = some r) : TakeR P ops K κi i L kk lg pc H r e := by
  unfold dataAt at hd
  cases ho : ops[i]? with
  | none => rw [ho] at hd; cases hd
  | some o =>
    rw [ho] at hd
    simp only [Bool.and_eq_true] at hd
    obtain ⟨hd1, hd2⟩ := hd
    obtain ⟨dst, op, ty, pos, aft, g⟩ := o
    cases dst with
    | none => cases hd2
    | some dn =>
      simp only [compS, ho] at hcs
      split at hcs
      · cases hcs
      · rename_i c hc1
        replace hc1 := dstK_some hc1
        obtain ⟨p, hp, hdk, hc1⟩ := hc1
        simp only at hp hc1 hd1
        cases hrd : reads op with
        | none =>
          rw [hrd] at hcs
          cases hcs
          have hr : c cx (kk lg pc) e H = some r := hr
          split at hc1
          · cases hc1; cases hr
          · rename_i c' hc'
            split at hc1
            · cases hc1
              exact take_core ho hd1 hc hp hdk hc' hr (.inl ⟨rfl, fun x hx => by rw [hrd] at hx; cases hx⟩) fun _ _ _ => trivial
            · rename_i j w
              split at hc1
              · cases hc1
              · rename_i t hj
                replace hc1 := slG_some hc1
                obtain ⟨G, hG, hc1⟩ := hc1
                cases hc1
                have hj' : (ops[j]?).bind (·.dst) = some t := by simpa using hj
                rcases guard_some hG hr with ⟨hr, hg⟩ | ⟨hr, hg⟩
                · exact take_core ho hd1 hc hp hdk hc' hr (.inl ⟨rfl, fun x hx => by rw [hrd] at hx; cases hx⟩) fun ρ E he => ⟨t, hj', hg ρ E he⟩
                · exact off_core ho hd1 hc hp hdk hr hj' hg
        | some x =>
          rw [hrd] at hcs
          simp only at hcs
          split at hcs
          · cases hcs; cases hr
          · rename_i xo hxo
            have hx := opnd_ok hxo
            have logs : ∀ {v : AV}, vOp e x = some v → ∀ {lg' : Lg}, ((blkOf (some v) = none ∧ lg' = lg) ∨ ∃ b T m st cs, blkOf (some v) = some b ∧ getT H.blocks b = some (.cells T m st cs) ∧ lg' = (i, b, st) :: lg) →
                (lg' = lg ∧ ∀ x, reads op = some x → blkOf (vOp e x) = none) ∨ ∃ x b T m st cs, reads op = some x ∧ blkOf (vOp e x) = some b ∧ getT H.blocks b = some (.cells T m st cs) ∧ lg' = (i, b, st) :: lg := by
              intro v hv lg' hl
              rcases hl with ⟨h1, h2⟩ | ⟨b, T, m, st, cs, h1, h2, h3⟩
              · exact .inl ⟨h2, fun y hy => by rw [hrd] at hy; cases hy; rw [hv]; exact h1⟩
              · exact .inr ⟨x, b, T, m, st, cs, hrd, by rw [hv]; exact h1, h2, h3⟩
            split at hcs
            · cases hcs
              have hr : xo e (fun v => logK i H v lg fun lg => c cx (kk lg pc) e H) = some r := hr
              rw [hx.eq] at hr
              replace hr := bind_some hr
              obtain ⟨v, hv, hr⟩ := hr
              obtain ⟨lg', hr, hl⟩ := logK_some hr
              split at hc1
              · cases hc1; cases hr
              · rename_i c' hc'
                cases hc1
                exact take_core ho hd1 hc hp hdk hc' hr (logs hv hl) fun _ _ _ => trivial
            · rename_i j w
              split at hcs
              · cases hcs
              · rename_i t hj
                replace hcs := slG_some hcs
                obtain ⟨G, hG, hcs⟩ := hcs
                replace hcs := dstK_some hcs
                obtain ⟨p', hp', hdk', hcs⟩ := hcs
                split at hcs
                · cases hcs; cases hr
                · rename_i c' hc'
                  cases hcs
                  have hj' : (ops[j]?).bind (·.dst) = some t := by simpa using hj
                  rcases guard_some hG hr with ⟨hr, hg⟩ | ⟨hr, hg⟩
                  · have hr : xo e (fun v => logK i H v lg fun lg => c' cx (kk lg pc) e H) = some r := hr
                    rw [hx.eq] at hr
                    replace hr := bind_some hr
                    obtain ⟨v, hv, hr⟩ := hr
                    obtain ⟨lg', hr, hl⟩ := logK_some hr
                    exact take_core ho hd1 hc hp' hdk' hc' hr (logs hv hl) fun ρ E he => ⟨t, hj', hg ρ E he⟩
                  · exact off_core ho hd1 hc hp' hdk' hr hj' hg
end
end Ry
end Go.TP
