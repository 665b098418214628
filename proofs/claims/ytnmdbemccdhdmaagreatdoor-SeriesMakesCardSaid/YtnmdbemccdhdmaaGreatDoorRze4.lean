/- Ry is sound, part 14d: regions that draw their order: an operation that does more than read; the whole. -/
import Derived.Test.YtnmdbemccdhdmaaGreatDoorRze3
namespace Go.TP
open Go
section
variable {P : Program} {K : Kt} {ops : Array Oper} {Φ : Array Bool → Heap → Prop} {f : Nat} {listed : Array Bool} {κ : List Item} {e : Env} {h : Heap}
/-- Operation k may be the next one; its guard may be off. -/
def StepG (P : Program) (K : Kt) (ops : Array Oper) (Φ : Array Bool → Heap → Prop) (f : Nat) (listed : Array Bool) (κ : List Item) (e : Env) (h : Heap) (k : Nat) : Prop :=
  StepD P K ops Φ f listed κ e h k ∨ ∃ d op ty pos aft j w t v, ops[k]? = some ⟨d, op, ty, pos, aft, some (j, w)⟩ ∧ (ops[j]?).bind (·.dst) = some t ∧ look e t = some v ∧ (v = .bool (!w) ∨ v = undef) ∧ RunD P K ops Φ f (listed.setIfInBounds k true) κ (putE d undef e) h
theorem RunD.effg (hΦ : Φ listed h) {l : List Nat} (hl : rdy ops listed = l) (hne : l ≠ []) (hs : ∀ k ∈ l, StepG P K ops Φ f listed κ e h k) : RunD P K ops Φ (f + 1) listed κ e h := by
  intro hk hcl a w hf hd hw
  have hΦ' : Φ listed w.heap := by rw [hw.heap]; exact hΦ
  refine ⟨hΦ', .inl ⟨fun h0 => absurd (hl.symm.trans h0) hne, fun k hk' => ?_⟩⟩
  rcases hs k (hl ▸ hk') with ⟨d, op, ty, pos, aft, g, R, ho, hg, hv, r⟩ | ⟨d, op, ty, pos, aft, j, wt, t, v, ho, hj, hlk, hb, r⟩
  · have hko := okL_get hk ho
    have h' := hv a w hf.agree hw.heap (AnyD P K.rd ops Φ (fun a' w' => RunA P K.rd K.Q κ a' w') f (listed.setIfInBounds k true)) fun v w' hr h1 h2 h3 =>
      r v _ hr hk (hcl.set hk') _ w' (by
        cases d with
        | none => exact hf
        | some d => exact hf.put (okOp_dst hko rfl) v) (by cases d <;> exact hd) ⟨rfl, h1.trans hw.os, h2.trans hw.tape, h3.trans hw.out⟩
    unfold opW
    simp only [ho, hg.wanted hf, if_true]
    exact h'
  · have hko := okL_get hk ho
    have hn : Region.wanted ⟨d, op, ty, pos, aft, some (j, wt)⟩ (yielded ops a.tmps) = false := by
      rcases hb with rfl | rfl
      · have hy := yielded_bool hf hj hlk; simp [Region.wanted, hy]
      · have hy := yielded_undef hf hj hlk; simp [Region.wanted, hy]
    unfold opW
    simp only [ho, hn, Bool.false_eq_true, if_false]
    refine r hk (hcl.set hk') _ w ?_ (by cases d <;> exact hd) hw
    cases d with
    | none => exact hf
    | some d => exact hf.put (okOp_dst hko rfl) undef
end
namespace Ry
variable {P : Program} {R : Type} {ops : Array Oper} {K : Kt} {κi : List Item}
theorem effAt_spec {i : Nat} (h : effAt ops i = true) : ∃ o, ops[i]? = some o ∧ isData o.op = false := by
  unfold effAt at h
  split at h
  · rename_i o ho; exact ⟨o, ho, by simpa using h⟩
  · cases h
theorem newAt_spec {i : Nat} (h : newAt ops i = true) : ∃ o, ops[i]? = some o ∧ isNew o.op = true ∧ o.guard = none := by
  unfold newAt at h
  split at h
  · rename_i o ho
    simp only [Bool.and_eq_true] at h
    exact ⟨o, ho, h.1.1, by simpa using h.1.2⟩
  · cases h
theorem isNew_data {op : Op} (h : isNew op = true) : isData op = false := by
  cases op <;> first | rfl | cases h
theorem eff_ok {ρ0 : Rn} {cx : Cx R} (hcx : CxS P ρ0 cx) {ms : List (Nat × Nat)} {i : Nat} {di : DI R} (hcs : compS P ops ms (.eff i) = some di) {kk : DC R} {lg : Lg} {pc : List AV} {e : EV} {H : AH} {r : R} (hr : di cx kk lg pc e H = some r)
    {ρ : Rn} {h : Heap} {E : Env} (hle : Le ρ0 ρ) (hh : HR P ρ H h) (he : ER ρ e E) {Φ : Array Bool → Heap → Prop} {f : Nat} {L : Array Bool}
    (hk : ∀ lg' e' H' r', kk lg' pc e' H' = some r' → ∀ ρ' h' u d, (ops[i]?).bind (fun o => some o.dst) = some d → Nx ρ H h ρ' H' h' → HR P ρ' H' h' → ER ρ' e' (putE d u E) → (∀ q, d ≠ some q → getE e' q = getE e q) →
      (∀ x ∈ lg, Nat.testBit (maskAt ops ms i) x.1 = false → x ∈ lg' ∧ ((∃ T m cs, getT H'.blocks x.2.1 = some (.cells T m x.2.2 cs)) ∨ (H' = H ∧ h' = h ∧ ρ' = ρ))) → RunD P K ops Φ f (L.setIfInBounds i true) κi (putE d u E) h') : StepG P K ops Φ f L κi E h i := by
  simp only [compS] at hcs
  split at hcs
  · cases hcs
  · rename_i o ho
    split at hcs
    · cases hcs
    · rename_i c hc1
      rw [natK_eq] at hcs
      cases hcs
      obtain ⟨dst, op, ty, pos, aft, g⟩ := o
      replace hc1 := dstK_some hc1
      obtain ⟨p, hp, hdk, hc1⟩ := hc1
      simp only at hp hc1
      have hr : c cx (fun e H => chkLg (maskAt ops ms i) H lg fun lg => kk lg pc e H) e H = some r := hr
      split at hc1
      · cases hc1; cases hr
      · rename_i c' hc'
        have key : ∀ r, c' cx (fun e H => chkLg (maskAt ops ms i) H lg fun lg => kk lg pc e H) e H = some r → GOn ops E g → StepG P K ops Φ f L κi E h i := by
          intro r hr hg
          refine .inl ⟨dst, op, ty, pos, aft, g, _, ho, hg, compO_efc hc' cx ρ0 hcx _ e H r hr ρ h E hle hh he K.rd dst ty pos aft, fun u h' hout => ?_⟩
          obtain ⟨ρ', v, H', r', k1, k2, k3, k4⟩ := hout
          obtain ⟨e', k5, k6, k7⟩ := put_some hdk k1
          obtain ⟨lg', k8, k9⟩ := chkLg_some k5
          have := k6 ρ' E u (he.mono k3.le) k4
          rw [hp] at this k7
          exact hk lg' e' H' r' k8 ρ' h' u dst (by rw [ho]; rfl) k3 k2 this k7 fun x hx hb => ⟨(k9 x hx hb).1, .inl (k9 x hx hb).2⟩
        split at hc1
        · cases hc1
          exact key r hr trivial
        · rename_i j w
          split at hc1
          · cases hc1
          · rename_i t hj
            replace hc1 := slG_some hc1
            obtain ⟨G, hG, hc1⟩ := hc1
            cases hc1
            have hj' : (ops[j]?).bind (·.dst) = some t := by simpa using hj
            rcases guard_some hG hr with ⟨hr, hg⟩ | ⟨hr, hg⟩
            · exact key r hr ⟨t, hj', hg ρ E he⟩
            · obtain ⟨e', k5, k6, k7⟩ := put_some hdk hr
              obtain ⟨lg', k8, k9⟩ := chkLg_some k5
              obtain ⟨v, hl1, hl2⟩ := hg ρ E he
              have := k6 ρ E undef he .undef
              rw [hp] at this k7
              exact .inr ⟨dst, op, ty, pos, aft, j, w, t, v, ho, hj', hl1, hl2, hk lg' e' H r k8 ρ h undef dst (by rw [ho]; rfl) (Nx.refl _ _ _) hh this k7 fun x hx hb => ⟨(k9 x hx hb).1, .inl (k9 x hx hb).2⟩⟩
/-- The log, where what it says stays so. -/
theorem LgR.mv {L : Array Bool} {lg : Lg} {lr : Lr} {ρ ρ' : Rn} {H H' : AH} {h h' : Heap} {i : Nat} (hl : LgR ops L lg lr ρ H h) (hle : Le ρ ρ') (hB : ∀ b lo, ρ b = some lo → getT H'.blocks b = getT H.blocks b) (hh : ∀ g, g < h.size → h'[g]? = h[g]?) : LgR ops (L.setIfInBounds i true) lg lr ρ' H' h' := by
  intro x hx hn
  obtain ⟨h1, b, st, lo, h2, h3, h4, T, m, cs, h5⟩ := hl x hx (Needs.less hn)
  exact ⟨(hh _ (Array.getElem?_eq_some_iff.1 h1).1).trans h1, b, st, lo, h2, hle _ _ h3, h4, T, m, cs, (hB b lo h3).trans h5⟩
/-- What is pending. -/
structure Pend (P : Program) (R : Type) (ops : Array Oper) (p : Nat) (o : Oper) (d : Nat) (T : Nat) (mk : Pth → AV) (ρ : Rn) (e : EV) (pc : List AV) (news : List Value) (val : Nat → Value) : Prop where
  ho : ops[p]? = some o
  hd : o.dst = some d
  hg : o.guard = none
  hn : isNew o.op = true
  hc : ∃ cells, newCells (R := R) P o.op = some (T, mk, cells)
  he : getE e d = none
  cells : VRs ρ pc news
  val : ∀ (ρ' : Rn) (b : Pth) (lo : Lo), ρ' b = some lo → VR ρ' (mk b) (val lo.g)
section
variable {p i : Nat} {o oi : Oper} {d : Nat} {T : Nat} {mk : Pth → AV} {ρ ρ' : Rn} {e e' : EV} {E : Env} {pc : List AV} {news : List Value} {val : Nat → Value}
theorem apart_spec (ha : apartB ops i p = true) (hi : ops[i]? = some oi) (hp : ops[p]? = some o) : (∀ x, oi.dst = some x → o.dst ≠ some x) ∧ ∀ z ∈ o.op.operands.toList, ∀ t, z = .tmp t → oi.dst ≠ some t := by
  unfold apartB at ha
  rw [hi, hp] at ha
  simp only at ha
  cases hd : oi.dst with
  | none => exact ⟨fun x hx => (by cases hx), fun z _ t _ hx => (by cases hx)⟩
  | some x =>
    rw [hd] at ha
    simp only [Bool.and_eq_true, List.all_eq_true] at ha
    obtain ⟨h1, h2⟩ := ha
    refine ⟨fun y hy => ?_, fun z hz t ht => ?_⟩
    · cases hy
      intro hh
      rw [hh] at h1
      simp at h1
    · intro hh
      cases hh
      have := h2 z hz
      rw [ht] at this
      simp at this
theorem Pend.put (hP : Pend P R ops p o d T mk ρ e pc news val) (hle : Le ρ ρ') {di : Option Nat} (h1 : ∀ x, di = some x → o.dst ≠ some x) (he : ∀ q, di ≠ some q → getE e' q = getE e q) : Pend P R ops p o d T mk ρ' e' pc news val :=
  ⟨hP.ho, hP.hd, hP.hg, hP.hn, hP.hc, (he d (fun hh => h1 _ hh hP.hd)).trans hP.he, hP.cells.mono hle, hP.val⟩
end
/-- The block that was made ahead, which nobody knows. -/
structure Made' (hb : Heap) (ρ : Rn) (H : AH) (h : Heap) (E : Env) (d : Nat) (T : Nat) (news : List Value) (val : Nat → Value) (g : Nat) : Prop where
  at_ : TP.look E d = some (val g)
  is : h[g]? = some (.cells news.toArray T (0, 0))
  late : hb.size ≤ g
  free : ∀ b lo, (getT H.blocks b).isSome → ρ b = some lo → lo.g ≠ g
theorem Made'.eff {hb : Heap} {ρ ρ' : Rn} {H H' : AH} {h h' : Heap} {E : Env} {d : Nat} {T : Nat} {news : List Value} {val : Nat → Value} {g : Nat} (hm : Made' hb ρ H h E d T news val g) (hx : Nx ρ H h ρ' H' h') {di : Option Nat} {u : Value} (hd : di ≠ some d) : Made' hb ρ' H' h' (putE di u E) d T news val g := by
  obtain ⟨q1, q2⟩ := hx.out (Array.getElem?_eq_some_iff.1 hm.is).1 hm.free
  refine ⟨?_, q1.trans hm.is, hm.late, q2⟩
  cases di with
  | none => exact hm.at_
  | some x =>
    simp only [putE]
    rw [look_cons, if_neg (fun hh => hd (by rw [hh]))]
    exact hm.at_
theorem chk_count {L : Array Bool} {p : Nat} : ∀ {pl : List Stp}, chkPlan ops L (some p) pl = true → countS pl = countS pl - 1 + 1
  | [], h => by simp [chkPlan] at h
  | .take i :: l, h => by simp [countS]
  | .eff i :: l, h => by simp [countS]
  | .pre i :: l, h => by simp [chkPlan] at h
  | .new i :: l, h => by simp [countS]
theorem Phi.app {lr lr' : Lr} {L : Array Bool} {h : Heap} (hp : Phi ops (lr' ++ lr) L h) : Phi ops lr L h := fun x hx hn => hp x (List.mem_append_right _ hx) hn
theorem rdy_un {L : Array Bool} {i : Nat} {l : List Nat} (h : rdyB ops L l = true) (hi : i ∈ l) : L.getD i true = false := by
  have h : Region.ready .any ops L = l := by simpa [rdyB] using h
  exact (mem_ready.1 (by rw [h]; exact hi)).1
theorem tk_un {L : Array Bool} {i : Nat} (h : tk ops L i = true) : L.getD i true = false := by
  have h : Region.free .any ops L i = true ∧ (Region.ready .any ops L).contains i = true := by simpa [tk] using h
  exact (mem_ready.1 (by simpa using h.2)).1
theorem un_ne {L : Array Bool} {i p : Nat} (h : (L.setIfInBounds p true).getD i true = false) : p ≠ i := by
  intro hh
  subst hh
  rw [getD_set_self] at h
  cases h
section
variable {ρb : Rn} {Hb : AH} {hb : Heap} {cx : Cx R} {κ : Cont R}
/-- Nothing is pending. -/
def SA (P : Program) (ops : Array Oper) (K : Kt) (κi : List Item) (ρb : Rn) (Hb : AH) (hb : Heap) (cx : Cx R) (κ : Cont R) (pl : List Stp) : Prop :=
  ∀ ms di L lg pc e H r, MsOk ops ms → compD P ops ms pl = some di → chkPlan ops L none pl = true → L.size = ops.size → di cx (fun _ _ => κ) lg pc e H = some r →
  ∀ ρ h E lr, Nx ρb Hb hb ρ H h → HR P ρ H h → ER ρ e E → LgR ops L lg lr ρ H h → ∃ lr', RunD P K ops (Phi ops (lr' ++ lr)) (countS pl) L κi E h
/-- p is pending, and hasn't been made. -/
def SB (P : Program) (ops : Array Oper) (K : Kt) (κi : List Item) (ρb : Rn) (Hb : AH) (hb : Heap) (cx : Cx R) (κ : Cont R) (pl : List Stp) : Prop :=
  ∀ ms di L p lg pc e H r, MsOk ops ms → compD P ops ms pl = some di → chkPlan ops L (some p) pl = true → L.size = ops.size → di cx (fun _ _ => κ) lg pc e H = some r →
  ∀ ρ h E lr o d T mk news val, Nx ρb Hb hb ρ H h → HR P ρ H h → ER ρ e E → LgR ops L lg lr ρ H h → Pend P R ops p o d T mk ρ e pc news val → PRun P ρ E o T mk pc news val → ∃ lr', RunD P K ops (Phi ops (lr' ++ lr)) (countS pl) L κi E h
/-- p is pending, and has been made. -/
def SC (P : Program) (ops : Array Oper) (K : Kt) (κi : List Item) (ρb : Rn) (Hb : AH) (hb : Heap) (cx : Cx R) (κ : Cont R) (pl : List Stp) : Prop :=
  ∀ ms di L p lg pc e H r, MsOk ops ms → compD P ops ms pl = some di → chkPlan ops L (some p) pl = true → L.size = ops.size → di cx (fun _ _ => κ) lg pc e H = some r →
  ∀ ρ h E lr o d T mk news val g, Nx ρb Hb hb ρ H h → HR P ρ H h → ER ρ e E → LgR ops (L.setIfInBounds p true) lg lr ρ H h → Pend P R ops p o d T mk ρ e pc news val → Made' hb ρ H h E d T news val g →
    ∃ lr', RunD P K ops (Phi ops (lr' ++ lr)) (countS pl - 1) (L.setIfInBounds p true) κi E h
theorem compD_cons {ms : List (Nat × Nat)} {s : Stp} {l : List Stp} {di : DI R} (h : compD P ops ms (s :: l) = some di) : ∃ i j, compS P ops ms s = some i ∧ compD P ops (msOf ops ms s) l = some j ∧ di = dThen i j := by
  unfold compD at h
  split at h
  · cases h
  · rename_i i hi
    split at h
    · cases h
    · rename_i j hj
      cases h
      exact ⟨i, j, hi, hj, rfl⟩
theorem SA.nil (hκ : SndK P K ρb Hb hb κi κ) : SA P ops K κi ρb Hb hb cx κ [] := by
  intro ms di L lg pc e H r hms hdi hck hsz hr ρ h E lr hx hh he hl
  cases hdi
  simp only [chkPlan, Bool.and_eq_true] at hck
  exact ⟨[], RunD.done hl.phi hck.2 (hκ e H r hr ρ h E hx hh he)⟩
theorem SA.take {i : Nat} {l : List Stp} (ih : SA P ops K κi ρb Hb hb cx κ l) : SA P ops K κi ρb Hb hb cx κ (.take i :: l) := by
  intro ms di L lg pc e H r hms hdi hck hsz hr ρ h E lr hx hh he hl
  obtain ⟨s, j, hs, hj, rfl⟩ := compD_cons hdi
  simp only [chkPlan, Bool.and_eq_true] at hck
  obtain ⟨⟨⟨c1, c2⟩, _⟩, c3⟩ := hck
  obtain ⟨lg', e', d, k1, _, _, k2⟩ := take_ok (K := K) (κi := κi) hs c1 c2 (show s cx (j cx fun _ _ => κ) lg pc e H = some r from hr)
  obtain ⟨u, new, k3, k4, k5⟩ := k2 ρ h E hh he lr hl
  obtain ⟨lr', k6⟩ := ih _ j _ lg' pc e' H r (hms.next _) hj c3 (by simpa using hsz) k1 ρ h _ (new ++ lr) hx hh k4 k3
  refine ⟨lr' ++ new, k5 _ _ (fun x hx => by simp [hx]) ?_⟩
  rw [List.append_assoc]
  exact k6
theorem SB.take {i : Nat} {l : List Stp} (ih : SB P ops K κi ρb Hb hb cx κ l) : SB P ops K κi ρb Hb hb cx κ (.take i :: l) := by
  intro ms di L p lg pc e H r hms hdi hck hsz hr ρ h E lr o d T mk news val hx hh he hl hP hrun
  obtain ⟨s, j, hs, hj, rfl⟩ := compD_cons hdi
  simp only [chkPlan, Bool.and_eq_true] at hck
  obtain ⟨⟨⟨c1, c2⟩, c4, c5⟩, c3⟩ := hck
  obtain ⟨lg', e', di, k1, k7, k8, k2⟩ := take_ok (K := K) (κi := κi) hs c1 c2 (show s cx (j cx fun _ _ => κ) lg pc e H = some r from hr)
  obtain ⟨u, new, k3, k4, k5⟩ := k2 ρ h E hh he lr hl
  cases hoi : ops[i]? with
  | none => rw [hoi] at k7; cases k7
  | some oi =>
    rw [hoi] at k7
    have k7 : oi.dst = some di := k7
    obtain ⟨a1, a2⟩ := apart_spec c5 hoi hP.ho
    rw [k7] at a1 a2
    have hP' : Pend P R ops p o d T mk ρ e' pc news val := hP.put (Le.refl _) (di := some di) a1 fun q hq => k8 q fun hh => hq (by rw [hh])
    obtain ⟨lr', k6⟩ := ih _ j _ p lg' pc e' H r (hms.next _) hj c3 (by simpa using hsz) k1 ρ h _ (new ++ lr) o d T mk news val hx hh k4 k3 hP' (hrun.put (Le.refl _) (d := some di) a2)
    refine ⟨lr' ++ new, k5 _ _ (fun x hx => by simp [hx]) ?_⟩
    rw [List.append_assoc]
    exact k6
theorem SC.take {i : Nat} {l : List Stp} (ih : SC P ops K κi ρb Hb hb cx κ l) : SC P ops K κi ρb Hb hb cx κ (.take i :: l) := by
  intro ms di L p lg pc e H r hms hdi hck hsz hr ρ h E lr o d T mk news val g hx hh he hl hP hM
  obtain ⟨s, j, hs, hj, rfl⟩ := compD_cons hdi
  simp only [chkPlan, Bool.and_eq_true] at hck
  obtain ⟨⟨⟨c1, c2⟩, c4, c5⟩, c3⟩ := hck
  have hne : p ≠ i := un_ne (tk_un c4)
  obtain ⟨lg', e', di, k1, k7, k8, k2⟩ := take_ok (K := K) (κi := κi) hs c1 c4 (show s cx (j cx fun _ _ => κ) lg pc e H = some r from hr)
  obtain ⟨u, new, k3, k4, k5⟩ := k2 ρ h E hh he lr hl
  rw [Array.setIfInBounds_comm _ _ hne] at k3 k5
  cases hoi : ops[i]? with
  | none => rw [hoi] at k7; cases k7
  | some oi =>
    rw [hoi] at k7
    have k7 : oi.dst = some di := k7
    obtain ⟨a1, a2⟩ := apart_spec c5 hoi hP.ho
    rw [k7] at a1 a2
    have hP' : Pend P R ops p o d T mk ρ e' pc news val := hP.put (Le.refl _) (di := some di) a1 fun q hq => k8 q fun hh => hq (by rw [hh])
    have hM' : Made' hb ρ H h ((di, u) :: E) d T news val g := hM.eff (Nx.refl _ _ _) (di := some di) fun hh => a1 _ hh hP.hd
    obtain ⟨lr', k6⟩ := ih _ j _ p lg' pc e' H r (hms.next _) hj c3 (by simpa using hsz) k1 ρ h _ (new ++ lr) o d T mk news val g hx hh k4 k3 hP' hM'
    refine ⟨lr' ++ new, ?_⟩
    have hc : countS (.take i :: l) - 1 = countS l - 1 + 1 := by
      have := chk_count c3
      simp only [countS]; omega
    rw [hc]
    refine k5 _ _ (fun x hx => by simp [hx]) ?_
    rw [List.append_assoc]
    exact k6
theorem effs_log {L : Array Bool} {lg lg' : Lg} {lr : Lr} {ρ ρ' : Rn} {H H' : AH} {h h' : Heap} {ms : List (Nat × Nat)} {i : Nat} {o : Oper} (hms : MsOk ops ms) (hl : LgR ops L lg lr ρ H h) (hh : HR P ρ H h) (hx : Nx ρ H h ρ' H' h') (hi : ops[i]? = some o) (hd : isData o.op = false) (hsz : L.size = ops.size)
    (hc : ∀ x ∈ lg, Nat.testBit (maskAt ops ms i) x.1 = false → x ∈ lg' ∧ ((∃ T m cs, getT H'.blocks x.2.1 = some (.cells T m x.2.2 cs)) ∨ (H' = H ∧ h' = h ∧ ρ' = ρ))) : LgR ops (L.setIfInBounds i true) lg' lr ρ' H' h' := by
  have hlt := (Array.getElem?_eq_some_iff.1 hi).1
  intro x hxr hn
  obtain ⟨h1, b, st, lo, h2, h3, h4, T, m, cs, h5⟩ := hl x hxr (Needs.less hn)
  have hbit : Nat.testBit (maskAt ops ms i) x.1 = false := by
    cases hb : Nat.testBit (maskAt ops ms i) x.1 with
    | false => rfl
    | true => exact absurd (maskAt_bit hms hb) (hn i o hi hd (by simp [Array.getD_eq_getD_getElem?, hsz, hlt]))
  obtain ⟨k1, ⟨T', m', cs', k2⟩ | ⟨rfl, rfl, rfl⟩⟩ := hc _ h2 hbit
  · refine ⟨?_, b, st, lo, k1, hx.le _ _ h3, h4, T', m', cs', k2⟩
    rw [← h1]
    have hlt : x.2.1 < h.size := (Array.getElem?_eq_some_iff.1 h1).1
    refine hx.fr x.2.1 hlt fun b' lo' hs hb' hg' => ?_
    have : b' = b := hh.inj b' b lo' lo hs (by rw [h5]; rfl) hb' h3 (by rw [hg', h4])
    subst this
    exact ⟨T, m, st, cs, T', m', cs', h5, k2⟩
  · exact ⟨h1, b, st, lo, k1, h3, h4, T, m, cs, h5⟩
theorem SA.eff (hcx : CxS P ρb cx) {i : Nat} {l : List Stp} (ih : SA P ops K κi ρb Hb hb cx κ l) : SA P ops K κi ρb Hb hb cx κ (.eff i :: l) := by
  intro ms di L lg pc e H r hms hdi hck hsz hr ρ h E lr hx hh he hl
  obtain ⟨s, j, hs, hj, rfl⟩ := compD_cons hdi
  simp only [chkPlan, Bool.and_eq_true] at hck
  obtain ⟨⟨c1, c2⟩, c3⟩ := hck
  obtain ⟨o, ho, hod⟩ := effAt_spec c1
  have c2 : rdy ops L = [i] := by simpa [rdyB] using c2
  refine ⟨[], RunD.effg (f := countS l) hl.phi c2 (by simp) fun k hk => ?_⟩
  obtain rfl : k = i := by simpa using hk
  refine eff_ok hcx hs (show s cx (j cx fun _ _ => κ) lg pc e H = some r from hr) hx.le hh he ?_
  intro lg' e' H' r' k1 ρ' h' u d hd hx' hh' he' hq hlg
  obtain ⟨lr', k6⟩ := ih _ j _ lg' pc e' H' r' (hms.next _) hj c3 (by simpa using hsz) k1 ρ' h' _ lr (hx.trans hx' hh) hh' he' (effs_log hms hl hh hx' ho hod hsz hlg)
  exact k6.weak fun _ _ => Phi.app
theorem SC.eff (hcx : CxS P ρb cx) {i : Nat} {l : List Stp} (ih : SC P ops K κi ρb Hb hb cx κ l) : SC P ops K κi ρb Hb hb cx κ (.eff i :: l) := by
  intro ms di L p lg pc e H r hms hdi hck hsz hr ρ h E lr o d T mk news val g hx hh he hl hP hM
  obtain ⟨s, j, hs, hj, rfl⟩ := compD_cons hdi
  simp only [chkPlan, Bool.and_eq_true] at hck
  obtain ⟨⟨⟨⟨c1, c2⟩, c4⟩, c5⟩, c3⟩ := hck
  obtain ⟨oi, hoi, hod⟩ := effAt_spec c1
  obtain ⟨a1, a2⟩ := apart_spec c5 hoi hP.ho
  have hne : p ≠ i := un_ne (rdy_un c4 (by simp))
  have c4 : rdy ops (L.setIfInBounds p true) = [i] := by simpa [rdyB] using c4
  have hc : countS (.eff i :: l) - 1 = countS l - 1 + 1 := by
    have := chk_count c3
    simp only [countS]; omega
  rw [hc]
  refine ⟨[], RunD.effg (f := countS l - 1) hl.phi c4 (by simp) fun k hk => ?_⟩
  obtain rfl : k = i := by simpa using hk
  refine eff_ok hcx hs (show s cx (j cx fun _ _ => κ) lg pc e H = some r from hr) hx.le hh he ?_
  intro lg' e' H' r' k1 ρ' h' u di hd hx' hh' he' hq hlg
  rw [hoi] at hd
  have hd : oi.dst = di := by injection hd
  subst hd
  have hlog := effs_log hms hl hh hx' hoi hod (by simpa using hsz) hlg
  rw [Array.setIfInBounds_comm _ _ hne] at hlog ⊢
  obtain ⟨lr', k6⟩ := ih _ j _ p lg' pc e' H' r' (hms.next _) hj c3 (by simpa using hsz) k1 ρ' h' _ lr o d T mk news val g (hx.trans hx' hh) hh' he' hlog (hP.put hx'.le a1 hq) (hM.eff hx' fun hh => a1 _ hh hP.hd)
  exact k6.weak fun _ _ => Phi.app
theorem SB.eff (hcx : CxS P ρb cx) {i : Nat} {l : List Stp} (ih : SB P ops K κi ρb Hb hb cx κ l) (ihC : SC P ops K κi ρb Hb hb cx κ (.eff i :: l)) : SB P ops K κi ρb Hb hb cx κ (.eff i :: l) := by
  intro ms di L p lg pc e H r hms hdi hck hsz hr ρ h E lr o d T mk news val hx hh he hl hP hrun
  have hdi0 := hdi
  have hr0 := hr
  have hck0 := hck
  obtain ⟨s, j, hs, hj, rfl⟩ := compD_cons hdi
  simp only [chkPlan, Bool.and_eq_true] at hck
  obtain ⟨⟨⟨⟨c1, c2⟩, c4⟩, c5⟩, c3⟩ := hck
  obtain ⟨oi, hoi, hod⟩ := effAt_spec c1
  obtain ⟨a1, a2⟩ := apart_spec c5 hoi hP.ho
  have hi : StepG P K ops (Phi ops lr) (countS l) L κi E h i := by
    refine eff_ok hcx hs (show s cx (j cx fun _ _ => κ) lg pc e H = some r from hr) hx.le hh he ?_
    intro lg' e' H' r' k1 ρ' h' u di hd hx' hh' he' hq hlg
    rw [hoi] at hd
    have hd : oi.dst = di := by injection hd
    subst hd
    obtain ⟨lr', k6⟩ := ih _ j _ p lg' pc e' H' r' (hms.next _) hj c3 (by simpa using hsz) k1 ρ' h' _ lr o d T mk news val (hx.trans hx' hh) hh' he' (effs_log hms hl hh hx' hoi hod hsz hlg) (hP.put hx'.le a1 hq) (hrun.put hx'.le a2)
    exact k6.weak fun _ _ => Phi.app
  have hp : StepG P K ops (Phi ops lr) (countS l) L κi E h p := by
    obtain ⟨dst, op, ty, pos, aft, gd⟩ := o
    have hg0 : gd = none := hP.hg
    subst hg0
    have hd0 : dst = some d := hP.hd
    subst hd0
    refine .inl ⟨some d, op, ty, pos, aft, none, _, hP.ho, trivial, hrun.ef K.rd h, fun u h' ho => ?_⟩
    obtain ⟨rfl, rfl⟩ := ho
    obtain ⟨hh2, hx2⟩ := hr_push hh (.cells news.toArray T (0, 0))
    have hps : ∀ g, g < h.size → (h.push (.cells news.toArray T (0, 0)))[g]? = h[g]? := fun g hg' => by rw [Array.getElem?_push, if_neg (by omega)]
    have hE : ER ρ e ((d, val h.size) :: E) := he.put' d _ hP.he
    have hM : Made' hb ρ H (h.push (.cells news.toArray T (0, 0))) ((d, val h.size) :: E) d T news val h.size :=
      ⟨by rw [look_cons, if_pos rfl], by simp, hx.size, fun b lo hs hb' hg => by
        obtain ⟨B, hB⟩ := Option.isSome_iff_exists.1 hs
        obtain ⟨lo', h1, h2⟩ := hh.blk b B hB
        rw [hb'] at h1; cases h1
        have := h2.lt
        omega⟩
    obtain ⟨lr', k6⟩ := ihC ms _ L p lg pc e H r hms hdi0 hck0 hsz hr0 ρ _ _ lr _ d T mk news val h.size (hx.trans hx2 hh) hh2 hE (hl.mv (Le.refl _) (fun _ _ _ => rfl) hps) hP hM
    exact k6.weak fun _ _ => Phi.app
  have hor := Bool.or_eq_true _ _ ▸ c2
  rcases hor with c2 | c2
  · have c2 : rdy ops L = [i, p] := by simpa [rdyB] using c2
    refine ⟨[], RunD.effg (f := countS l) hl.phi c2 (by simp) fun k hk => ?_⟩
    rcases List.mem_cons.1 hk with rfl | hk
    · exact hi
    · obtain rfl : k = p := by simpa using hk
      exact hp
  · have c2 : rdy ops L = [p, i] := by simpa [rdyB] using c2
    refine ⟨[], RunD.effg (f := countS l) hl.phi c2 (by simp) fun k hk => ?_⟩
    rcases List.mem_cons.1 hk with rfl | hk
    · exact hp
    · obtain rfl : k = i := by simpa using hk
      exact hi
theorem SA.pre {i : Nat} {l : List Stp} (ih : SB P ops K κi ρb Hb hb cx κ l) : SA P ops K κi ρb Hb hb cx κ (.pre i :: l) := by
  intro ms di L lg pc e H r hms hdi hck hsz hr ρ h E lr hx hh he hl
  obtain ⟨s, j, hs, hj, rfl⟩ := compD_cons hdi
  simp only [chkPlan, Bool.and_eq_true] at hck
  obtain ⟨c1, c3⟩ := hck
  obtain ⟨o, ho, hon, hog⟩ := newAt_spec c1
  simp only [compS, ho] at hs
  replace hs := dstK_some hs
  obtain ⟨p, hp, hdk, hs⟩ := hs
  split at hs
  · cases hs
  · rename_i sd
    split at hs
    · rename_i T mk cells hn
      cases hs
      have hr : cells e (fun cs => sd.S none e fun e => j cx (fun _ _ => κ) lg cs e H) = some r := hr
      obtain ⟨pc', k1, k2⟩ := newCells_ok hn hr
      rw [hdk sd rfl] at k1
      obtain ⟨dst, op, ty, pos, aft, g⟩ := o
      obtain ⟨news, val, k3⟩ := k2 ρ H h E hh he dst ty pos aft g
      have hd : dst = some sd.p := by simpa using hp.symm
      have hP : Pend P R ops i ⟨dst, op, ty, pos, aft, g⟩ sd.p T mk ρ (setE none sd.p e) pc' news val := ⟨ho, hd, hog, hon, ⟨_, hn⟩, getE_del, k3.cells, k3.val⟩
      exact ih _ j _ i lg pc' _ H r hms hj c3 hsz k1 ρ h E lr _ sd.p T mk news val hx hh (he.del sd.p) hl hP k3
    · cases hs; cases hr
theorem new_spec {ms : List (Nat × Nat)} {p : Nat} {di : DI R} (hs : compS P ops ms (.new p) = some di) {o : Oper} {d : Nat} {T : Nat} {mk : Pth → AV} {ρ : Rn} {e : EV} {pc : List AV} {news : List Value} {val : Nat → Value} (hP : Pend P R ops p o d T mk ρ e pc news val) : ∃ sd : Slot R, di = dNew sd T mk ∧ sd.p = d ∧ SlotOk sd := by
  simp only [compS, hP.ho] at hs
  replace hs := dstK_some hs
  obtain ⟨p, hp, hdk, hs⟩ := hs
  rw [hP.hd] at hp
  split at hs
  · cases hs
  · rename_i sd
    obtain ⟨cells, hc⟩ := hP.hc
    rw [hc] at hs
    cases hs
    exact ⟨sd, rfl, by simpa using hp, hdk sd rfl⟩
theorem SB.fresh {p' : Nat} {l : List Stp} (ih : SA P ops K κi ρb Hb hb cx κ l) : SB P ops K κi ρb Hb hb cx κ (.new p' :: l) := by
  intro ms di L p lg pc e H r hms hdi hck hsz hr ρ h E lr o d T mk news val hx hh he hl hP hrun
  obtain ⟨s, j, hs, hj, rfl⟩ := compD_cons hdi
  simp only [chkPlan, Bool.and_eq_true, beq_iff_eq] at hck
  obtain ⟨⟨rfl, c2⟩, c3⟩ := hck
  obtain ⟨sd, hsd, hsp, hso⟩ := new_spec hs hP
  subst hsd hsp
  have hr : new H (.cells T .shut 0 pc) (fun b H => sd.S (some (mk b)) e fun e => j cx (fun _ _ => κ) lg pc e H) = some r := by cases sd; exact hr
  have hr := new_some hr
  rw [hso] at hr
  have c2 : rdy ops L = [p] := by simpa [rdyB] using c2
  refine ⟨[], RunD.effg (f := countS l) hl.phi c2 (by simp) fun k hk => ?_⟩
  obtain rfl : k = p := by simpa using hk
  obtain ⟨dst, op, ty, pos, aft, gd⟩ := o
  have hg0 : gd = none := hP.hg
  subst hg0
  have hd0 : dst = some sd.p := hP.hd
  subst hd0
  refine .inl ⟨some sd.p, op, ty, pos, aft, none, _, hP.ho, trivial, hrun.ef K.rd h, fun u h' ho => ?_⟩
  obtain ⟨rfl, rfl⟩ := ho
  obtain ⟨hn1, hn2⟩ := hh.new H.next (Nat.le_refl _)
  obtain ⟨hh2, hx2⟩ := hr_new hh (.cells T .shut 0 pc) ⟨h.size, 0, default, [], 0⟩ (.cells news.toArray T (0, 0)) rfl ⟨news, hP.cells.mono (upd_le hn1), by simp⟩
  have hv : VR (upd ρ H.next ⟨h.size, 0, default, [], 0⟩) (mk H.next) (val h.size) := hP.val _ H.next ⟨h.size, 0, default, [], 0⟩ (if_pos rfl)
  obtain ⟨lr', k6⟩ := ih _ j _ lg pc _ _ r (hms.next _) hj c3 (by simpa using hsz) hr _ _ ((sd.p, val h.size) :: E) lr (hx.trans hx2 hh) hh2 ((he.mono hx2.le).put sd.p hv)
    (hl.mv hx2.le (fun b lo hb' => by rw [getT_setT, if_neg (fun hh => by rw [hh, hn1] at hb'; cases hb')]) fun g hg => by rw [Array.getElem?_push, if_neg (by omega)])
  exact k6.weak fun _ _ => Phi.app
theorem SC.fresh {p' : Nat} {l : List Stp} (ih : SA P ops K κi ρb Hb hb cx κ l) : SC P ops K κi ρb Hb hb cx κ (.new p' :: l) := by
  intro ms di L p lg pc e H r hms hdi hck hsz hr ρ h E lr o d T mk news val g hx hh he hl hP hM
  obtain ⟨s, j, hs, hj, rfl⟩ := compD_cons hdi
  simp only [chkPlan, Bool.and_eq_true, beq_iff_eq] at hck
  obtain ⟨⟨rfl, c2⟩, c3⟩ := hck
  obtain ⟨sd, hsd, hsp, hso⟩ := new_spec hs hP
  subst hsd hsp
  have hr : new H (.cells T .shut 0 pc) (fun b H => sd.S (some (mk b)) e fun e => j cx (fun _ _ => κ) lg pc e H) = some r := by cases sd; exact hr
  have hr := new_some hr
  rw [hso] at hr
  obtain ⟨hn1, hn2⟩ := hh.new H.next (Nat.le_refl _)
  have hle := upd_le (ρ := ρ) (lo := (⟨g, 0, default, [], 0⟩ : Lo)) hn1
  have hh2 := hr_name hh (.cells T .shut 0 pc) ⟨g, 0, default, [], 0⟩ hM.free ⟨news, hP.cells.mono hle, hM.is⟩
  have hv : VR (upd ρ H.next ⟨g, 0, default, [], 0⟩) (mk H.next) (val g) := hP.val _ H.next ⟨g, 0, default, [], 0⟩ (if_pos rfl)
  have hget : ∀ b lo, ρ b = some lo → getT (setT (some (AB.cells T .shut 0 pc)) H.next H.blocks) b = getT H.blocks b := fun b lo hb' => by rw [getT_setT, if_neg (fun hh => by rw [hh, hn1] at hb'; cases hb')]
  have hx2 : Nx ρb Hb hb (upd ρ H.next ⟨g, 0, default, [], 0⟩) ⟨Pth.succ H.next, setT (some (.cells T .shut 0 pc)) H.next H.blocks⟩ h := by
    refine ⟨hx.le.trans hle, hx.size, fun g' hg' hk => hx.fr g' hg' fun b lo hs hb' hgb => ?_, fun b lo T' m s cs B' hb' h1 h2 => ?_, fun b lo hb' h2 => ?_, fun b lo hb' hb2 h2 => ?_⟩
    · obtain ⟨T', m, s, cs, T'', m', cs', q1, q2⟩ := hk b lo hs hb' hgb
      exact ⟨T', m, s, cs, T'', m', cs', q1, by rw [hget b lo (hx.le _ _ hb')] at q2; exact q2⟩
    · rw [hget b lo (hx.le _ _ hb')] at h2
      exact hx.mono b lo T' m s cs B' hb' h1 h2
    · rw [hget b lo (hx.le _ _ hb')] at h2
      exact hx.nores b lo hb' h2
    · by_cases hbn : b = H.next
      · subst hbn
        have : upd ρ H.next ⟨g, 0, default, [], 0⟩ H.next = some ⟨g, 0, default, [], 0⟩ := if_pos rfl
        rw [this] at hb2
        cases hb2
        exact .inl hM.late
      · have : upd ρ H.next ⟨g, 0, default, [], 0⟩ b = ρ b := if_neg hbn
        rw [this] at hb2
        rw [hget b lo hb2] at h2
        exact hx.newb b lo hb' hb2 h2
  have hE : ER (upd ρ H.next ⟨g, 0, default, [], 0⟩) (setE (some (mk H.next)) sd.p e) E := by
    intro q w hq
    by_cases hqd : q = sd.p
    · rw [getE_setE] at hq
      split at hq
      · cases hq
        rw [hqd]
        exact ⟨_, hv, hM.at_⟩
      · exact he.mono hle q w hq
    · rw [getE_other hqd] at hq
      exact he.mono hle q w hq
  have hc : countS (.new p :: l) - 1 = countS l := by simp [countS]
  rw [hc]
  exact ih _ j _ lg pc _ _ r (hms.next _) hj c3 (by simpa using hsz) hr _ h E lr hx2 hh2 hE fun x hx hn => by
    obtain ⟨q1, b, st, lo, q2, q3, q4, T', m, cs, q5⟩ := hl x hx hn
    exact ⟨q1, b, st, lo, q2, hle _ _ q3, q4, T', m, cs, (hget b lo q3).trans q5⟩
theorem S_all (hcx : CxS P ρb cx) (hκ : SndK P K ρb Hb hb κi κ) : ∀ pl, SA P ops K κi ρb Hb hb cx κ pl ∧ SB P ops K κi ρb Hb hb cx κ pl ∧ SC P ops K κi ρb Hb hb cx κ pl
  | [] => ⟨SA.nil hκ, fun ms di L p lg pc e H r _ _ hck => by simp [chkPlan] at hck, fun ms di L p lg pc e H r _ _ hck => by simp [chkPlan] at hck⟩
  | .take i :: l => let ⟨a, b, c⟩ := S_all hcx hκ l; ⟨a.take, b.take, c.take⟩
  | .eff i :: l => let ⟨a, b, c⟩ := S_all hcx hκ l; ⟨a.eff hcx, b.eff hcx (c.eff hcx), c.eff hcx⟩
  | .pre i :: l => let ⟨a, b, c⟩ := S_all hcx hκ l; ⟨SA.pre b, fun ms di L p lg pc e H r _ _ hck => by simp [chkPlan] at hck, fun ms di L p lg pc e H r _ _ hck => by simp [chkPlan] at hck⟩
  | .new i :: l => let ⟨a, b, c⟩ := S_all hcx hκ l; ⟨fun ms di L lg pc e H r _ _ hck => by simp [chkPlan] at hck, SB.fresh a, SC.fresh a⟩
end
/-- What is asked of regions that draw. -/
def DrawOk (P : Program) (R : Type) : Prop := ∀ (K : Kt) (ρb : Rn) (Hb : AH) (hb : Heap) (cx : Cx R) (id : Nat) (ops : Array Oper) (pl : List Stp) (i : DI R) (κi : List Item) (κ : Cont R), CxS P ρb cx → chkPlan ops (Array.replicate ops.size false) none pl = true → countS pl = ops.size → okL K.n ops.toList = true → compD P ops [] pl = some i →
  SndK P K ρb Hb hb κi κ → SndK P K ρb Hb hb (.code (.region id ops true) :: κi) (fun e H => i cx (fun _ _ => κ) [] [] e H)
theorem draw_ok (hm : P.follows .mixedOrders = true) : DrawOk P R := by
  intro K ρb Hb hb cx id ops pl i κi κ hcx hck hcount hok hi hκ e H r hr ρ h E hx hh he
  obtain ⟨lr', k⟩ := (S_all (ops := ops) hcx hκ pl).1 [] i _ [] [] e H r (fun j m hj => by cases hj) hi hck (by simp) hr ρ h E [] hx hh he (fun x hx => by cases hx)
  have := Run.draw (id := id) (l := ops.toList) (κ := κi) _ hm hok (by rw [hcount] at k; simpa using k)
  simpa using this
end Ry
end Go.TP
