/- Ry is sound, part 13: regions whose operations come in one order. -/
import Derived.Test.YtnmdbemccdhdmaaGreatDoorRzc
namespace Go.TP
open Go
section
variable {P : Program} {K : Kt} {κ : List Item} {e : Env} {h : Heap} {ops : Array Oper} {l : List Oper}
theorem RunL.offg {d : Option Nat} {op : Op} {ty : TypeId} {pos : String} {aft : Array Edge} {j t : Nat} {want : Bool} {v : Value} (hj : (ops[j]?).bind (·.dst) = some t) (hl : look e t = some v) (hb : v = .bool (!want) ∨ v = undef)
    (r : RunL P K ops l κ (putE d undef e) h) : RunL P K ops (⟨d, op, ty, pos, aft, some (j, want)⟩ :: l) κ e h := by
  intro hk a w hf hd hw
  obtain ⟨k1, k2⟩ := okL_cons hk
  have hn : Region.wanted ⟨d, op, ty, pos, aft, some (j, want)⟩ (yielded ops a.tmps) = false := by
    rcases hb with rfl | rfl
    · have hy := yielded_bool hf hj hl; simp [Region.wanted, hy]
    · have hy := yielded_undef hf hj hl; simp [Region.wanted, hy]
  simp only [WL, hn, Bool.false_eq_true, if_false]
  refine r k2 _ w ?_ (by cases d <;> exact hd) hw
  cases d with
  | none => exact hf
  | some d => exact hf.put (okOp_dst k1 rfl) undef
theorem RunL.xg {d : Option Nat} {op : Op} {ty : TypeId} {pos : String} {aft : Array Edge} {R : Value → Heap → Prop} (hv : Ef P K.rd e h ⟨d, op, ty, pos, aft, none⟩ R)
    (r : ∀ v h', R v h' → RunL P K ops l κ (putE d v e) h') : RunL P K ops (⟨d, op, ty, pos, aft, none⟩ :: l) κ e h := by
  cases d with
  | none => exact RunL.y hv r
  | some d => exact RunL.x hv r
end
namespace Ry
variable {P : Program} {R : Type}
/-- What stands behind is sound: begun so, whatever has turned since. -/
def SndK (P : Program) (K : Kt) (ρb : Rn) (Hb : AH) (hb : Heap) (κi : List Item) (κ : Cont R) : Prop :=
  ∀ e H r, κ e H = some r → ∀ ρ h E, Nx ρb Hb hb ρ H h → HR P ρ H h → ER ρ e E → Run P K κi E h
theorem put_some {p : Option (Slot R)} (hd : DstOk p) {v : AV} {κ : Cont R} {e : EV} {H : AH} {r : R} (h : put p v κ e H = some r) : ∃ e', κ e' H = some r ∧ (∀ ρ E u, ER ρ e E → VR ρ v u → ER ρ e' (putE (p.map Slot.p) u E)) ∧ ∀ q, p.map Slot.p ≠ some q → getE e' q = getE e q := by
  cases p with
  | none => exact ⟨e, h, fun ρ E u he _ => he, fun _ _ => rfl⟩
  | some s =>
    have h : s.S (some v) e (fun e => κ e H) = some r := by cases s; exact h
    rw [hd s rfl] at h
    refine ⟨_, h, fun ρ E u he hu => he.put s.p hu, fun q hq => ?_⟩
    exact getE_other fun hqp => hq (by rw [hqp]; rfl)
variable {K : Kt} {ρb : Rn} {Hb : AH} {hb : Heap} {κi : List Item} {cx : Cx R}
theorem comp1_ok (hcx : CxS P ρb cx) {all : List Oper} {o : Oper} {i : Ins R} (hi : comp1 P all o = some i) {l : List Oper} {κ : Cont R}
    (hκ : ∀ e H r, κ e H = some r → ∀ ρ h E, Nx ρb Hb hb ρ H h → HR P ρ H h → ER ρ e E → RunL P K all.toArray l κi E h) :
    ∀ e H r, i cx κ e H = some r → ∀ ρ h E, Nx ρb Hb hb ρ H h → HR P ρ H h → ER ρ e E → RunL P K all.toArray (o :: l) κi E h := by
  obtain ⟨dst, op, ty, pos, aft, g⟩ := o
  replace hi := dstK_some hi
  obtain ⟨p, hp, hdk, hi⟩ := hi
  intro e H r hr ρ h E hx hh he
  simp only at hp hi
  split at hi
  · cases hi; cases hr
  · rename_i c hc
    have key : ∀ e H r, c cx κ e H = some r → ∀ ρ h E, Nx ρb Hb hb ρ H h → HR P ρ H h → ER ρ e E → RunL P K all.toArray (⟨dst, op, ty, pos, aft, none⟩ :: l) κi E h := by
      intro e H r hr ρ h E hx hh he
      refine RunL.xg (compO_efc hc cx ρb hcx κ e H r hr ρ h E hx.le hh he K.rd dst ty pos aft) fun u h' ho => ?_
      obtain ⟨ρ', v, H', r', k1, k2, k3, k4⟩ := ho
      obtain ⟨e', k5, k6, _⟩ := put_some hdk k1
      have := hκ e' H' r' k5 ρ' h' _ (hx.trans k3 hh) k2 (k6 ρ' E u (he.mono k3.le) k4)
      rwa [hp] at this
    split at hi
    · cases hi
      exact key e H r hr ρ h E hx hh he
    · rename_i j w
      split at hi
      · cases hi
      · rename_i t hj
        replace hi := slG_some hi
        obtain ⟨G, hG, hi⟩ := hi
        cases hi
        have hj' : (all.toArray[j]?).bind (·.dst) = some t := by simpa using hj
        have hr : oT G e (fun v => match v with
            | .B b => ifK (b == w) (c cx κ e H) (put p (.X .undef) κ e H)
            | .X .undef => put p (.X .undef) κ e H
            | _ => none) = some r := hr
        rw [oT_eq hG] at hr
        replace hr := bind_some hr
        obtain ⟨v, hv, hr⟩ := hr
        obtain ⟨u, hu, hl⟩ := he t v hv
        have off : ∀ u, look E t = some u → u = .bool (!w) ∨ u = undef → put p (.X .undef) κ e H = some r → RunL P K all.toArray (⟨dst, op, ty, pos, aft, some (j, w)⟩ :: l) κi E h := by
          intro u hl hb hr
          obtain ⟨e', k5, k6, _⟩ := put_some hdk hr
          refine RunL.offg hj' hl hb ?_
          have := hκ e' H r k5 ρ h _ hx hh (k6 ρ E undef he .undef)
          rwa [hp] at this
        split at hr
        · rename_i b
          cases hu
          rw [ifK_eq] at hr
          split at hr
          · rename_i hb
            have hb : b = w := by simpa using hb
            exact RunL.on hj' hl hb (key e H r hr ρ h E hx hh he)
          · rename_i hb
            refine off _ hl (.inl ?_) hr
            have hb : ¬ b = w := by simpa using hb
            cases b <;> cases w <;> simp_all
        · cases hu
          exact off _ hl (.inr rfl) hr
        · cases hr
theorem compL_ok (hcx : CxS P ρb cx) {all : List Oper} : ∀ {l : List Oper} {i : Ins R}, compL P all l = some i → ∀ {κ : Cont R}, SndK P K ρb Hb hb κi κ →
    ∀ e H r, i cx κ e H = some r → ∀ ρ h E, Nx ρb Hb hb ρ H h → HR P ρ H h → ER ρ e E → RunL P K all.toArray l κi E h
  | [], i, hi, κ, hκ => by
    cases hi
    intro e H r hr ρ h E hx hh he
    exact RunL.nil (hκ e H r hr ρ h E hx hh he)
  | o :: l, i, hi, κ, hκ => by
    unfold compL at hi
    split at hi
    · cases hi
    · rename_i c hc
      split at hi
      · cases hi
      · rename_i c' hc'
        cases hi
        exact comp1_ok hcx hc (κ := c' cx κ) (compL_ok hcx hc' hκ)
end Ry
end Go.TP
