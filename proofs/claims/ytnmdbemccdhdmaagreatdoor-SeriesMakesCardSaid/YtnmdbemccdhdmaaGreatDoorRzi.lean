/- Ry is sound, part 17: a run that is reckoned; errors.As; how a heap begins. -/
import Derived.Test.YtnmdbemccdhdmaaGreatDoorRzg
namespace Go.TP
open Go
namespace Ry
variable {P : Program} {R : Type}
/-- A call that has been reckoned returns so. -/
theorem ret_of (hm : P.follows .mixedOrders = true) {hook : Nat → Option (FD R)} (hH : HookOk P hook) {fuel depth f : Nat} {vs : List AV} {H : AH} {k : AV → AH → Option R} {r : R} (h : call P hook fuel depth [] [] (.fn f) vs H k = some r)
    {ρ : Rn} {hp : Heap} {us : List Value} (hh : HR P ρ H hp) (hv : VRs ρ vs us) : Enters P f ∧ Ret P f us hp (Out P ρ H hp k) :=
  call_ok (draw_ok hm) hH depth [] ρ (fun p hp => by cases hp) [] ρ (Le.refl _) (fun p hp => by cases hp) (.fn f) vs H k r h ρ hp us (Le.refl _) hh hv
/-! errors.As, at a target of a pointer type. -/
noncomputable def chkErr (rt er : Nat) (g : Pth) (cs : List AV) (x : Option R) : Option R := match cs with
  | [.X (.ifc t (.X (.agg [.P q o])))] => ifK (Nat.beq t rt && Nat.beq o er && Pth.beq q g) x none
  | _ => none
noncomputable def asHook (rt er tE tPE : Nat) (g0 g : Pth) : FD R := fun args H k => match args with
  | [.X .nili, _] => k (.B false) H
  | [.X (.ifc t (.P be oe)), .X (.ifc t2 (.P b o))] => ifK (Nat.beq t tE && Nat.beq t2 tPE) (blk H g0 fun B => cellsB B fun _ _ _ gs => chkErr rt er g gs (blk H b fun B => cellsB B fun T m s cs => open_ m (overK [.P be oe] cs o fun cs => natK (Nat.succ s) fun s => putB H b (.cells T m s cs) fun H => k (.B true) H))) none
  | _ => none
structure AsC (P : Program) (f rt er tE tPE n : Nat) : Prop where
  ent : Enters P f
  nil : ∀ (t : Value) (w : World), Calls P f #[.nilIface, t] w fun e w' => e = .returned (.bool false) ∧ w' = w
  hit : ∀ (e t : Addr) (old : Value) (w : World), w.cell? ⟨0, 0, none⟩ = some (.iface rt (.agg #[.pointer (some ⟨n, er, none⟩)])) → w.cell? t = some old → w.frozen? t = false →
    Calls P f #[.iface tE (.pointer (some e)), .iface tPE (.pointer (some t))] w fun ev w' => ev = .returned (.bool true) ∧ ∃ a b c d : Obj, w' = ((((w.alloc a).alloc b).alloc c).alloc d).setCell t (.pointer (some e))
theorem as_ok {f rt er tE tPE n : Nat} {g0 g : Pth} (hc : AsC P f rt er tE tPE n) (h0 : num g0 = 0) (hg : num g = n) (hn : n ≤ P.globals.size) : ∀ vs H k r, asHook (R := R) rt er tE tPE g0 g vs H k = some r → ∀ ρ h us, HR P ρ H h → VRs ρ vs us → Enters P f ∧ Ret P f us h (Out P ρ H h k) := by
  intro vs H k r hr ρ h us hh hv
  refine ⟨hc.ent, ?_⟩
  unfold asHook at hr
  split at hr
  · cases hv with
    | cons h1 h2 =>
      cases h1
      cases h2 with
      | cons h3 h4 =>
        cases h4
        intro w hw
        refine (hc.nil _ w).mono ?_
        rintro e w' ⟨rfl, rfl⟩
        exact ⟨_, rfl, rfl, rfl, rfl, ρ, _, H, r, hr, hh.away (fun _ _ _ _ => by rw [hw]), by rw [hw]; exact Nx.refl _ _ _, .B⟩
  · rename_i t be oe t2 b o
    rw [ifK_eq] at hr
    split at hr
    · rename_i hcc
      simp only [Bool.and_eq_true] at hcc
      have e1 := Nat.eq_of_beq_eq_true hcc.1
      have e2 := Nat.eq_of_beq_eq_true hcc.2
      subst e1 e2
      replace hr := blk_some hr
      obtain ⟨B0, hB0, hr⟩ := hr
      replace hr := cellsB_some hr
      obtain ⟨T0, m0, s0, gs, rfl, hr⟩ := hr
      unfold chkErr at hr
      split at hr
      · rename_i t' q o'
        rw [ifK_eq] at hr
        split at hr
        · rename_i hq
          simp only [Bool.and_eq_true] at hq
          obtain ⟨⟨q1, q2⟩, q3⟩ := hq
          have q1 := Nat.eq_of_beq_eq_true q1
          have q2 := Nat.eq_of_beq_eq_true q2
          have q3 := Pth.beq_eq q3
          subst q1 q2 q3
          obtain ⟨lo0, p1, p2⟩ := hh.blk g0 _ hB0
          obtain ⟨lo0', p1', p3⟩ := hh.glob g0 (by omega)
          rw [p1] at p1'; cases p1'
          obtain ⟨ug, p4, p5⟩ := p2.read
          obtain ⟨log, r1, r2⟩ := hh.glob q (by omega)
          have hcell : cel h 0 0 = some (.iface t' (.agg #[.pointer (some ⟨n, o', none⟩)])) := by
            cases p4 with
            | cons p6 p7 =>
              cases p7
              cases p6 with
              | ifc p8 =>
                cases p8 with
                | agg p9 =>
                  cases p9 with
                  | cons p10 p11 =>
                    cases p11
                    cases p10 with
                    | P p12 =>
                      rw [r1] at p12; cases p12
                      have := p5 0 _ rfl
                      rw [p3, h0, r2, hg] at this
                      exact this
          replace hr := blk_some hr
          obtain ⟨B, hB, hr⟩ := hr
          replace hr := cellsB_some hr
          obtain ⟨T, m, s, cs, rfl, hr⟩ := hr
          replace hr := open_some hr
          obtain ⟨hmd, hr⟩ := hr
          rw [overK_eq] at hr
          split at hr
          · rename_i hle
            rw [natK_eq] at hr
            replace hr := putB_some hr
            cases hv with
            | cons h1 h2 =>
              cases h1 with
              | ifc h1 =>
                cases h1 with
                | P h1 =>
                  rename_i loe
                  cases h2 with
                  | cons h3 h4 =>
                    cases h4
                    cases h3 with
                    | ifc h3 =>
                      cases h3 with
                      | P h3 =>
                        rename_i lo
                        obtain ⟨lo', h7, h8⟩ := hh.blk b _ hB
                        rw [h3] at h7; cases h7
                        obtain ⟨cur, h9, h10, h11⟩ := h8.over hmd (.cons (.P h1) .nil) hle
                        intro w hw
                        subst hw
                        have hlt : o < cur.length := by have h10 : o + 1 ≤ cur.length := h10; omega
                        refine (hc.hit ⟨loe.g, oe, none⟩ ⟨lo.g, o, none⟩ cur[o] w (by rw [cell_cel rfl]; exact hcell) (by rw [cell_cel rfl]; simp [cel, h9, hlt]) (by simp [World.frozen?, h9])).mono ?_
                        rintro ev w' ⟨rfl, oa, ob, oc, od, rfl⟩
                        refine ⟨_, rfl, rfl, rfl, rfl, ?_⟩
                        obtain ⟨a1, a2⟩ := hr_push hh oa
                        obtain ⟨b1, b2⟩ := hr_push a1 ob
                        obtain ⟨c1, c2⟩ := hr_push b1 oc
                        obtain ⟨d1, d2⟩ := hr_push c1 od
                        obtain ⟨h4, hh4⟩ : ∃ h4 : Heap, h4 = (((w.heap.push oa).push ob).push oc).push od := ⟨_, rfl⟩
                        rw [← hh4] at d1 d2
                        have hx4 := ((a2.trans b2 a1).trans c2 b1).trans d2 c1
                        have h9' : h4[lo.g]? = some (.cells cur.toArray T (0, 0)) := by
                          have hlg := (Array.getElem?_eq_some_iff.1 h9).1
                          rw [hh4, Array.getElem?_push, if_neg (by simp; omega), Array.getElem?_push, if_neg (by simp; omega), Array.getElem?_push, if_neg (by simp; omega), Array.getElem?_push, if_neg (by omega)]
                          exact h9
                        have hset' : (((((w.alloc oa).alloc ob).alloc oc).alloc od).setCell ⟨lo.g, o, none⟩ (.pointer (some ⟨loe.g, oe, none⟩))).heap = hset h4 lo.g o (.pointer (some ⟨loe.g, oe, none⟩)) := by
                          rw [hh4]
                          rfl
                        rw [hset']
                        obtain ⟨k1, k2⟩ := hr_set d1 hB h3 (hset_size ..) (fun i hi => hset_other hi) (h11 _ (s + 1) (by
                          rw [hset_same h9']
                          have : (cur.toArray.setIfInBounds o (.pointer (some ⟨loe.g, oe, none⟩))) = (cur.take o ++ [Value.pointer (some ⟨loe.g, oe, none⟩)] ++ cur.drop (o + 1)).toArray := by
                            rw [List.setIfInBounds_toArray, List.set_eq_take_append_cons_drop, if_pos hlt]
                            simp
                          rw [this]
                          rfl))
                        exact ⟨ρ, _, _, r, hr, k1, hx4.trans k2 d1, .B⟩
          · cases hr
        · cases hr
      · cases hr
    · cases hr
  · cases hr
/-! How a heap begins. -/
/-- What is known of the package's variables; the numbers of which only some is known. -/
noncomputable def rho0 (P : Program) (n : Nat) (zs : List Int) : Rn := fun p => if num p ≤ P.globals.size then some ⟨num p, 0, default, [], 0⟩ else if num p < n then some ⟨0, 0, default, [], zs.getD (num p - (P.globals.size + 1)) 0⟩ else none
noncomputable def initB : List (Nat × List AV) → PT AB
  | [] => .nil
  | x :: l => setT (some (.cells 0 .ro 0 x.2)) (sl x.1) (initB l)
noncomputable def slOk (n : Nat) : Bool := Nat.beq (num (sl n)) n
theorem initB_get : ∀ (l : List (Nat × List AV)) (b : Pth) (B : AB), getT (initB l) b = some B → ∃ x ∈ l, b = sl x.1 ∧ B = .cells 0 .ro 0 x.2
  | [], b, B, h => by simp [initB, getT_nil] at h
  | x :: l, b, B, h => by
    simp only [initB, getT_setT] at h
    split at h
    · rename_i hb
      cases h
      exact ⟨x, List.mem_cons_self .., hb, rfl⟩
    · obtain ⟨y, h1, h2⟩ := initB_get l b B h
      exact ⟨y, List.mem_cons_of_mem _ h1, h2⟩
theorem hr_init {n : Nat} {zs : List Int} {l : List (Nat × List AV)} {h : Heap} (hn : slOk n = true) (hgn : P.globals.size < n)
    (hl : ∀ x ∈ l, x.1 < P.globals.size ∧ slOk x.1 = true ∧ x.1 < h.size ∧ ∃ us, VRs (rho0 P n zs) x.2 us ∧ ∀ j u, us[j]? = some u → cel h x.1 j = some u) : HR P (rho0 P n zs) ⟨sl n, initB l⟩ h := by
  have hnn : num (sl n) = n := Nat.eq_of_beq_eq_true hn
  have hin : ∀ b B, getT (initB l) b = some B → num b < P.globals.size := fun b B hb => by
    obtain ⟨x, h1, rfl, _⟩ := initB_get l b B hb
    rw [Nat.eq_of_beq_eq_true (hl x h1).2.1]
    exact (hl x h1).1
  refine ⟨fun b B hb => ?_, fun b b' lo lo' h1 h2 h3 h4 h5 => ?_, fun b hb => ⟨?_, ?_⟩, fun p hp => ⟨_, if_pos hp, rfl⟩⟩
  · obtain ⟨x, h1, rfl, rfl⟩ := initB_get l b B hb
    obtain ⟨g1, g2, g3, us, g4, g5⟩ := hl x h1
    have hx : num (sl x.1) = x.1 := Nat.eq_of_beq_eq_true g2
    refine ⟨⟨x.1, 0, default, [], 0⟩, ?_, g3, us, g4, g5⟩
    unfold rho0
    rw [hx, if_pos (by omega)]
  · obtain ⟨B, hB⟩ := Option.isSome_iff_exists.1 h1
    obtain ⟨B', hB'⟩ := Option.isSome_iff_exists.1 h2
    have k1 := hin b B hB
    have k2 := hin b' B' hB'
    unfold rho0 at h3 h4
    rw [if_pos (by omega)] at h3 h4
    cases h3; cases h4
    exact num_inj h5
  · have hb : n ≤ num b := by have := hb; simp only [hnn] at this; exact this
    unfold rho0
    rw [if_neg (by omega), if_neg (by omega)]
  · have hb : n ≤ num b := by have := hb; simp only [hnn] at this; exact this
    cases hg : getT (initB l) b with
    | none => rfl
    | some B => have := hin b B hg; omega
/-- The blocks that have not been turned. -/
noncomputable def keptK : List Pth → AH → Option Unit
  | [], _ => some ()
  | b :: l, H => blk H b fun B => cellsB B fun _ _ s _ => ifK (Nat.beq s 0) (keptK l H) none
theorem keptK_some {H : AH} : ∀ {l : List Pth}, keptK l H = some () → ∀ b ∈ l, ∃ T m cs, getT H.blocks b = some (.cells T m 0 cs)
  | [], _, b, hb => by cases hb
  | a :: l, h, b, hb => by
    unfold keptK at h
    replace h := blk_some h
    obtain ⟨B, hB, h⟩ := h
    replace h := cellsB_some h
    obtain ⟨T, m, s, cs, rfl, h⟩ := h
    rw [ifK_eq] at h
    split at h
    · rename_i hs
      have := Nat.eq_of_beq_eq_true hs
      subst this
      rcases List.mem_cons.1 hb with rfl | hb
      · exact ⟨T, m, cs, hB⟩
      · exact keptK_some h b hb
    · cases h
/-- Nothing that there was has turned. -/
theorem same_of {n : Nat} {zs : List Int} {l : List (Nat × List AV)} {ρ' : Rn} {H' : AH} {h h' : Heap} (hx : Nx (rho0 P n zs) ⟨sl n, initB l⟩ h ρ' H' h') (hk : keptK (l.map fun x => sl x.1) H' = some ()) : ∀ g, g < h.size → h'[g]? = h[g]? := by
  intro g hg
  refine hx.fr g hg fun b lo hs hb hgb => ?_
  obtain ⟨B, hB⟩ := Option.isSome_iff_exists.1 hs
  obtain ⟨x, h1, h2, h3⟩ := initB_get l b B hB
  obtain ⟨T, m, cs, h4⟩ := keptK_some hk b (by rw [h2]; exact List.mem_map_of_mem (f := fun x : Nat × List AV => sl x.1) h1)
  exact ⟨0, .ro, 0, x.2, T, m, cs, by show getT (initB l) b = _; rw [hB, h3], h4⟩
end Ry
end Go.TP
