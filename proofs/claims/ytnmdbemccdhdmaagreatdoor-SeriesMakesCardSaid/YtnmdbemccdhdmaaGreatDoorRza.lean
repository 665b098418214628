/- Ry is sound, part 10: append. -/
import Derived.Test.YtnmdbemccdhdmaaGreatDoorRz9
namespace Go.TP
open Go
namespace Ry
variable {P : Program} {R : Type} {d : Option (Slot R)} {x y z : Operand} {xo yo zo : OD R}
section
variable {ρ : Rn} {H : AH} {h : Heap}
/-- A block is given up. -/
theorem hr_kill (hh : HR P ρ H h) (b : Pth) : HR P ρ ⟨H.next, setT none b H.blocks⟩ h ∧ Nx ρ H h ρ ⟨H.next, setT none b H.blocks⟩ h := by
  have hget : ∀ q, getT (setT none b H.blocks) q = if q = b then none else getT H.blocks q := fun q => getT_setT _ _ _ _
  have hsome : ∀ q B, getT (setT none b H.blocks) q = some B → q ≠ b ∧ getT H.blocks q = some B := by
    intro q B hq
    rw [hget] at hq
    split at hq
    · cases hq
    · exact ⟨‹_›, hq⟩
  refine ⟨⟨fun q B hq => hh.blk q B (hsome q B hq).2, fun q q' l l' h1 h2 h3 h4 h5 => ?_, fun q hq => ⟨(hh.new q hq).1, ?_⟩, hh.glob⟩, ⟨Le.refl _, Nat.le_refl _, fun _ _ _ => rfl, fun q l T m s cs B' hq h1 h2 => ?_, fun q l _ h1 => ?_, fun q l h1 h2 => by rw [h1] at h2; cases h2⟩⟩
  · obtain ⟨B, hB⟩ := Option.isSome_iff_exists.1 h1
    obtain ⟨B', hB'⟩ := Option.isSome_iff_exists.1 h2
    exact hh.inj q q' l l' (by rw [(hsome q B hB).2]; rfl) (by rw [(hsome q' B' hB').2]; rfl) h3 h4 h5
  · rw [hget, (hh.new q hq).2]; simp
  · obtain ⟨_, k⟩ := hsome q B' h2
    rw [h1] at k
    cases k
    exact ⟨_, _, _, _, rfl, Nat.le_refl _⟩
  · obtain ⟨B, hB⟩ := Option.isSome_iff_exists.1 h1
    rw [(hsome q B hB).2]; rfl
/-- A block is known by another name, and turned. -/
theorem hr_again (hh : HR P ρ H h) {b : Pth} {B0 B : AB} {lo : Lo} {h' : Heap} (hb : getT H.blocks b = some B0) (hρ : ρ b = some lo) (hsz : h'.size = h.size) (hoth : ∀ i, i ≠ lo.g → h'[i]? = h[i]?) (hB : BR (upd ρ H.next lo) h' lo B) :
    HR P (upd ρ H.next lo) ⟨Pth.succ H.next, setT (some B) H.next (setT none b H.blocks)⟩ h' ∧ Nx ρ H h (upd ρ H.next lo) ⟨Pth.succ H.next, setT (some B) H.next (setT none b H.blocks)⟩ h' := by
  obtain ⟨hn1, hn2⟩ := hh.new H.next (Nat.le_refl _)
  have hle := upd_le (lo := lo) hn1
  have hbn : b ≠ H.next := fun he => by rw [he, hn2] at hb; cases hb
  have hold : ∀ q, q ≠ H.next → upd ρ H.next lo q = ρ q := fun q hq => if_neg hq
  have hnew : upd ρ H.next lo H.next = some lo := if_pos rfl
  have hget : ∀ q, getT (setT (some B) H.next (setT none b H.blocks)) q = if q = H.next then some B else if q = b then none else getT H.blocks q := fun q => by rw [getT_setT, getT_setT]
  have hcase : ∀ q B', getT (setT (some B) H.next (setT none b H.blocks)) q = some B' → (q = H.next ∧ B' = B) ∨ (q ≠ H.next ∧ q ≠ b ∧ getT H.blocks q = some B') := by
    intro q B' hq
    rw [hget] at hq
    by_cases h1 : q = H.next
    · rw [if_pos h1] at hq; cases hq; exact .inl ⟨h1, rfl⟩
    · rw [if_neg h1] at hq
      by_cases h2 : q = b
      · rw [if_pos h2] at hq; cases hq
      · rw [if_neg h2] at hq; exact .inr ⟨h1, h2, hq⟩
  have hne : ∀ q l B', q ≠ b → getT H.blocks q = some B' → ρ q = some l → l.g ≠ lo.g := fun q l B' hqb hq hl hg => hqb (hh.inj q b l lo (by rw [hq]; rfl) (by rw [hb]; rfl) hl hρ hg)
  refine ⟨⟨fun q B' hq => ?_, fun q q' l l' h1 h2 h3 h4 h5 => ?_, fun q hq => ?_, fun p hp => ?_⟩, ⟨hle, by omega, fun g hg hk => ?_, fun q l T m s cs B' hq h1 h2 => ?_, fun q l hq h1 => ?_, fun q l hq h1 _ => ?_⟩⟩
  · rcases hcase q B' hq with ⟨rfl, rfl⟩ | ⟨k1, k2, k3⟩
    · exact ⟨lo, hnew, hB⟩
    · obtain ⟨l, j1, j2⟩ := hh.blk q B' k3
      exact ⟨l, hle q l j1, (j2.same (hoth l.g (hne q l B' k2 k3 j1))).mono hle⟩
  · obtain ⟨B1, hB1⟩ := Option.isSome_iff_exists.1 h1
    obtain ⟨B2, hB2⟩ := Option.isSome_iff_exists.1 h2
    rcases hcase q B1 hB1 with ⟨k1, k2⟩ | ⟨k1, k2, k3⟩ <;> rcases hcase q' B2 hB2 with ⟨j1, j2⟩ | ⟨j1, j2, j3⟩
    · rw [k1, j1]
    · rw [k1, hnew] at h3; cases h3
      rw [hold q' j1] at h4
      exact absurd h5.symm (hne q' l' B2 j2 j3 h4)
    · rw [j1, hnew] at h4; cases h4
      rw [hold q k1] at h3
      exact absurd h5 (hne q l B1 k2 k3 h3)
    · rw [hold q k1] at h3; rw [hold q' j1] at h4
      exact hh.inj q q' l l' (by rw [k3]; rfl) (by rw [j3]; rfl) h3 h4 h5
  · have hq' : num H.next + 1 ≤ num q := by have := hq; simp only [num_succ] at this; exact this
    have hqn : q ≠ H.next := fun he => by rw [he] at hq'; omega
    obtain ⟨k1, k2⟩ := hh.new q (by omega)
    refine ⟨(hold q hqn).trans k1, ?_⟩
    rw [hget, if_neg hqn, k2]; simp
  · obtain ⟨l, k1, k2⟩ := hh.glob p hp
    exact ⟨l, hle p l k1, k2⟩
  · refine hoth g fun he => ?_
    obtain ⟨_, _, _, _, _, _, _, _, k2⟩ := hk b lo (by rw [hb]; rfl) hρ he.symm
    have k2 : getT (setT (some B) H.next (setT none b H.blocks)) b = some _ := k2
    rw [hget, if_neg hbn, if_pos rfl] at k2
    cases k2
  · rcases hcase q B' h2 with ⟨k1, _⟩ | ⟨k1, k2, k3⟩
    · rw [k1, hn1] at hq; cases hq
    · rw [h1] at k3; cases k3
      exact ⟨_, _, _, _, rfl, Nat.le_refl _⟩
  · obtain ⟨B1, hB1⟩ := Option.isSome_iff_exists.1 h1
    rcases hcase q B1 hB1 with ⟨k1, _⟩ | ⟨k1, k2, k3⟩
    · rw [k1, hn1] at hq; cases hq
    · rw [k3]; rfl
  · have he : q = H.next := by
      by_cases he : q = H.next
      · exact he
      · rw [hold q he, hq] at h1; cases h1
    rw [he, hnew] at h1
    cases h1
    exact .inr ⟨b, lo, by rw [hb]; rfl, hρ, rfl⟩
end
theorem killB_some {H : AH} {b : Pth} {k : AH → Option R} {r : R} (h : killB H b k = some r) : k ⟨H.next, setT none b H.blocks⟩ = some r := by
  obtain ⟨n, t⟩ := H
  simp only [killB] at h
  rw [setK_eq] at h
  exact h
theorem appNew_ok {T sz q : Nat} {cs : List AV} {κ : Cont R} {e : EV} {H : AH} {r : R} (hr : appNew d T sz cs q κ e H = some r) {ρ0 ρ : Rn} {H0 : AH} {h0 h : Heap} (hx : Nx ρ0 H0 h0 ρ H h) (hh : HR P ρ H h) {c : Nat} {us rest : List Value} (hu : VRs ρ cs us) (hl : (us ++ rest).length = c * sz) (hc : c ≤ maxLen) (hq : q ≤ c) :
    Out P ρ0 H0 h0 (fun v H' => put d v κ e H') (.slice (some ⟨h.size, 0, none⟩) q c) (h.push (.cells (us ++ rest).toArray T)) := by
  replace hr := new_some hr
  obtain ⟨k3, k4⟩ := hr_new hh (.cells T (.op sz) 0 cs) ⟨h.size, c, default, [], 0⟩ (.cells (us ++ rest).toArray T) rfl ⟨us, rest, hu.mono (upd_le (hh.new _ (Nat.le_refl _)).1), by simp, hl, hc⟩
  exact ⟨_, _, _, r, hr, k3, hx.trans k4 hh, VR.S (lo := ⟨h.size, c, default, [], 0⟩) (m := c) (if_pos rfl) (show c + 0 = c from rfl) hq⟩
theorem appAt_ok {t tx ty T sz m : Nat} {z v : AV} {cs : List AV} (ht : elemB P t = some (T, sz)) (hz : zeroB P T = some z) (hzl : (cellsOf z).length = sz) (hby : ∀ inf, P.info? T = some inf → inf.bytes ≤ 1024) (hcs : cs.length = m * sz)
    {κ : Cont R} {e : EV} {H : AH} {r : R} (hr : appAt d T sz v cs m κ e H = some r) {ρ : Rn} {u x' : Value} {news : List Value} {w : World} (hh : HR P ρ H w.heap) (hv : VR ρ v u) (hn : VRs ρ cs news) (hs : Sc P T sz tx x' m news w) :
    ∃ v' w', (Builtin.append_ #[t, tx] ty #[u, x']).run P w = .ok v' w' ∧ w'.os = w.os ∧ w'.tape = w.tape ∧ w'.output = w.output ∧ Out P ρ H w.heap (fun v H' => put d v κ e H') v' w'.heap := by
  obtain ⟨e1, inf, e2, e3⟩ := (elemB_spec ht).spec
  obtain ⟨inf', zv, z1, z2, z3⟩ := zeroB_spec hz
  rw [e2] at z1; cases z1
  obtain ⟨zs, z4, z5⟩ := (ofV_VR ρ z3).cells
  have hzsl : zs.length = sz := by rw [z5.len, hzl]
  have hnl := hn.len
  unfold appAt at hr
  split at hr
  · -- nil, nothing
    cases hv
    have : news = [] := List.eq_nil_of_length_eq_zero (by rw [hnl, hcs]; simp)
    subst this
    exact ⟨_, w, app_nothing e1 e2 e3 hs (Nat.le_refl _), rfl, rfl, rfl, _, _, _, r, hr, hh, Nx.refl _ _ _, .nils⟩
  · rename_i m
    cases hv
    rw [ifK_eq] at hr
    split at hr
    · rename_i hle
      have hle := Nat.le_of_ble_eq_true hle
      obtain ⟨c, c1, c2, rest, c3, c4⟩ := app_grow (ty := ty) e1 e2 z2 z4 hzsl (hby _ e2) e3 (base := none) (sLen := 0) (sCap := 0) (olds := []) hs (run_firstCells_none w.drew sz 0 0 0) (by omega) (by omega)
      rw [Nat.zero_add] at c1 c3 c4
      rw [List.nil_append] at c4
      refine ⟨_, _, c4, rfl, rfl, rfl, ?_⟩
      exact appNew_ok hr (Nx.refl _ _ _) hh hn (by rw [List.length_append, hnl, hcs, c3, ← Nat.add_mul]; congr 1; omega) c2 c1
    · cases hr
  · rename_i b o n c
    cases hv with
    | S h1 h2 h3 =>
      have : news = [] := List.eq_nil_of_length_eq_zero (by rw [hnl, hcs]; simp)
      subst this
      exact ⟨_, w, app_nothing e1 e2 e3 hs h3, rfl, rfl, rfl, _, _, _, r, hr, hh, Nx.refl _ _ _, .S h1 h2 h3⟩
  · rename_i b o n c m
    rw [natK_eq, ifK_eq] at hr
    split at hr
    · rename_i hle
      have hle := Nat.le_of_ble_eq_true hle
      rw [ifK_eq] at hr
      split at hr
      · rename_i hroom
        have hroom := Nat.le_of_ble_eq_true hroom
        replace hr := blk_some hr
        obtain ⟨B, hB, hr⟩ := hr
        replace hr := cellsB_some hr
        obtain ⟨T', md, s, ds, rfl, hr⟩ := hr
        cases md with
        | ro => cases hr
        | op _ => cases hr
        | shut =>
          simp only at hr
          rw [overK_eq] at hr
          split at hr
          · rename_i hov
            rw [natK_eq] at hr
            replace hr := putB_some hr
            cases hv with
            | S h1 h2 h3 =>
              rename_i lo
              cases h2
              obtain ⟨lo', h4, h5⟩ := hh.blk b _ hB
              rw [h1] at h4; cases h4
              obtain ⟨cur, h9, h10, h11⟩ := h5.over (by simp) hn hov
              obtain ⟨h', a1, a2, a3, a4⟩ := app_room (ty := ty) e1 e2 e3 hs hroom h9 (by omega)
              obtain ⟨k1, k2⟩ := hr_set hh hB h1 a2 a3 (h11 h' (s + 1) a4)
              exact ⟨_, _, a1, rfl, rfl, rfl, _, _, _, r, hr, k1, k2, .S h1 rfl hroom⟩
          · cases hr
      · rename_i hroom
        have hroom : ¬ n + (m + 1) ≤ c := fun hh => hroom (Nat.ble_eq_true_of_le hh)
        replace hr := slCells_some (P := P) hr
        obtain ⟨old, n', hr, hol, hov⟩ := hr
        rw [appK_eq] at hr
        obtain ⟨a, mm, us, k1, k2, k3, k4, k5⟩ := hov ρ w.heap u hh hv
        cases hv with
        | S h1 h2 h3 =>
          cases h2
          cases k1
          have hold : (Builtin.firstCells sz n (.slice (some _) n c)).run P w.drew = .ok us.toArray w.drew := run_firstCells_some w.drew sz n _ n c us (by rw [k2.len, hol]) fun j u hj => by
            rw [addr_add, cell_cel (w := w.drew) (h := w.heap) rfl]
            exact k5 _ rfl w.heap (fun _ _ _ _ => rfl) j u hj
          obtain ⟨c', c1, c2, rest, c3, c4⟩ := app_grow (ty := ty) e1 e2 z2 z4 hzsl (hby _ e2) e3 (sLen := n) (sCap := c) (olds := us) hs hold (by omega) (by omega)
          refine ⟨_, _, c4, rfl, rfl, rfl, ?_⟩
          have hlen : us.length = n * sz := by rw [k2.len, hol]
          exact appNew_ok hr (Nx.refl _ _ _) hh (k2.append hn) (by rw [List.length_append, List.length_append, hlen, hnl, hcs, c3, ← Nat.add_mul, ← Nat.add_mul]; congr 1; omega) c2 c1
    · cases hr
  · rename_i b o n q m
    replace hr := blk_some hr
    obtain ⟨B, hB, hr⟩ := hr
    replace hr := cellsB_some hr
    obtain ⟨T', md, s, ds, rfl, hr⟩ := hr
    cases md with
    | ro => cases hr
    | shut => cases hr
    | op zz =>
      simp only [natK_eq, ifK_eq] at hr
      split at hr
      · rename_i hc
        simp only [Bool.and_eq_true] at hc
        obtain ⟨hc1, hc2, hc3, hc4, hc5⟩ := hc
        have hle := Nat.le_of_ble_eq_true hc1
        have hc2 := Nat.eq_of_beq_eq_true hc2
        have hc3 := Nat.eq_of_beq_eq_true hc3
        have hc4 := Nat.eq_of_beq_eq_true hc4
        have hc5 := Nat.eq_of_beq_eq_true hc5
        subst hc2 hc3 hc4 hc5
        rw [takeK_eq] at hr
        split at hr
        · rename_i htk
          replace hr := killB_some hr
          rw [appK_eq] at hr
          cases hv with
          | S h1 h2 h3 =>
            rename_i M lo
            have h2 : M + 0 = lo.c := h2
            obtain ⟨lo', h4, h5⟩ := hh.blk b _ hB
            rw [h1] at h4; cases h4
            obtain ⟨ws, rest, b1, b2, b3, b4⟩ := h5
            have hwl := b1.len
            have htk' : n * zz ≤ ws.length := by rw [hwl]; exact htk
            have hM : M = lo.c := by omega
            subst hM
            have htake : (ws ++ rest).take (n * zz) = ws.take (n * zz) := List.take_append_of_le_length htk'
            have hus : VRs ρ (ds.take (n * zz) ++ cs) (ws.take (n * zz) ++ news) := (b1.take _).append hn
            have hwtl : (ws.take (n * zz)).length = n * zz := by rw [List.length_take]; exact Nat.min_eq_left htk'
            by_cases hroom : n + (m + 1) ≤ lo.c
            · have hov : 0 + n * zz + news.length ≤ (ws ++ rest).length := by
                rw [b3, hnl, hcs, Nat.zero_add, ← Nat.add_mul]
                exact Nat.mul_le_mul_right _ hroom
              obtain ⟨h', a1, a2, a3, a4⟩ := app_room (ty := ty) e1 e2 e3 hs hroom b2 hov
              rw [Nat.zero_add, htake] at a4
              have hdl : ((ws.take (n * zz) ++ news) ++ (ws ++ rest).drop (n * zz + news.length)).length = lo.c * zz := by
                rw [List.length_append, List.length_append, List.length_drop, hwtl, b3]
                rw [b3] at hov
                omega
              replace hr := new_some hr
              obtain ⟨k1, k2⟩ := hr_again (B := .cells T' (.op zz) 0 (ds.take (n * zz) ++ cs)) hh hB h1 a2 a3 ⟨_, _, hus.mono (upd_le (hh.new _ (Nat.le_refl _)).1), a4, hdl, b4⟩
              exact ⟨_, _, a1, rfl, rfl, rfl, _, _, _, r, hr, k1, k2, VR.S (if_pos rfl) (show lo.c + 0 = lo.c from rfl) hroom⟩
            · have hold : (Builtin.firstCells zz n (.slice (some ⟨lo.g, 0, none⟩) n lo.c)).run P w.drew = .ok (ws.take (n * zz)).toArray w.drew := run_firstCells_some w.drew zz n _ n lo.c _ hwtl fun j u hj => by
                rw [addr_add, cell_cel (w := w.drew) (h := w.heap) rfl]
                simp only [cel, b2, Nat.zero_add, List.getElem?_toArray]
                rw [← htake, List.getElem?_take] at hj
                split at hj
                · exact hj
                · cases hj
              obtain ⟨c', c1, c2, rest', c3, c4⟩ := app_grow (ty := ty) e1 e2 z2 z4 hzsl (hby _ e2) e3 (sLen := n) (sCap := lo.c) (olds := ws.take (n * zz)) hs hold (by omega) (by omega)
              obtain ⟨k1, k2⟩ := hr_kill hh b
              refine ⟨_, _, c4, rfl, rfl, rfl, ?_⟩
              exact appNew_ok hr k2 k1 hus (by rw [List.length_append, List.length_append, hwtl, hnl, hcs, c3, ← Nat.add_mul, ← Nat.add_mul]; congr 1; omega) c2 c1
        · cases hr
      · cases hr
  · cases hr
theorem smallB_spec {T : Nat} (h : smallB P T = true) : ∀ inf, P.info? T = some inf → inf.bytes ≤ 1024 := by
  intro inf hi
  unfold smallB at h
  rw [hi] at h
  exact Nat.le_of_ble_eq_true h
theorem lenSl_some {a : AV} {k : Nat → Option R} {r : R} (h : lenSl a k = some r) : ∃ n, k n = some r ∧ ∀ ρ u, VR ρ a u → ∃ A c, u = .slice A n c := by
  unfold lenSl at h
  split at h
  · exact ⟨_, h, fun ρ u hu => by cases hu; exact ⟨_, _, rfl⟩⟩
  · exact ⟨_, h, fun ρ u hu => by cases hu; exact ⟨_, _, rfl⟩⟩
  · exact ⟨_, h, fun ρ u hu => by cases hu; exact ⟨_, _, rfl⟩⟩
  · cases h
theorem eff_append {t tx : Nat} {v : AV} {cs : List AV} {m T sz : Nat} {z : AV} {κ : Cont R} {e : EV} {H : AH} {r : R} (ht : elemB P t = some (T, sz)) (hz : zeroB P T = some z) (hzl : (cellsOf z).length = sz) (hby : smallB P T = true) (hcs : cs.length = m * sz)
    (hr : appAt d T sz v cs m κ e H = some r) {ρ : Rn} {h : Heap} {E : Env} (hh : HR P ρ H h) {ux uy : Value} (hv : VR ρ v ux) (hx : ev E x = some ux) (hy : ev E y = some uy)
    (hs : ∀ w : World, w.heap = h → ∃ news, VRs ρ cs news ∧ Sc P T sz tx uy m news w) (rd : Option Nat) (dst : Option Tmp) (ty : TypeId) (pos : String) (aft : Array Edge) :
    Ef P rd E h ⟨dst, .call ⟨.builtin .append, #[x, y], #[t, tx]⟩, ty, pos, aft, none⟩ (Out P ρ H h fun v H' => put d v κ e H') := by
  obtain ⟨tc, htc⟩ := resolve_builtin .append #[x, y] #[t, tx] ty
  refine ef_of_run (fun _ _ _ _ => by simp only [Oper.about, htc]; rfl) (fun _ hc => by cases hc) fun σ w hA hw => ?_
  subst hw
  obtain ⟨news, h1, h2⟩ := hs w rfl
  obtain ⟨v', w', a1, a2, a3, a4, a5⟩ := appAt_ok (tx := tx) (ty := ty) ht hz hzl (smallB_spec hby) hcs hr hh hv h1 h2
  have hargs : (#[x, y] : Array Operand).map σ = #[ux, uy] := by simp [hA x _ hx, hA y _ hy]
  refine ⟨v', w', .inl ?_, a5, a2, a3, a4⟩
  simp only [execOp, htc, hargs, Sem.run_bind, Sem.run_pure, Result.andThen, invoke, builtin, a1]
theorem eff_app {t tx T sz : Nat} {e' : TypeId} {z : AV} (ht : elemB P t = some (T, sz)) (htx : P.underlying tx = some (.slice e')) (hz : zeroB P T = some z) (hzl : (cellsOf z).length = sz) (hby : smallB P T = true) (hx : OpS P x xo) (hy : OpS P y yo) :
    EffS P (.call ⟨.builtin .append, #[x, y], #[t, tx]⟩) d (iApp d T sz xo yo) := by
  intro cx κ e H r hr ρ h E hh he rd dst ty pos aft
  simp only [iApp, hx.eq] at hr
  replace hr := bind_some hr
  obtain ⟨v, hv, hr⟩ := hr
  simp only [hy.eq] at hr
  replace hr := bind_some hr
  obtain ⟨u, hu, hr⟩ := hr
  replace hr := slCells_some (P := P) hr
  obtain ⟨cs, n, hr, hl, hc⟩ := hr
  replace hr := lenSl_some hr
  obtain ⟨m, hr, hm⟩ := hr
  rw [ifK_eq] at hr
  split at hr
  · rename_i hone
    obtain ⟨ux, h1, h2⟩ := hx.ok ρ H h e E v hh he hv
    obtain ⟨uy, h3, h4⟩ := hy.ok ρ H h e E u hh he hu
    obtain ⟨a, mm, us, rfl, k2, k3, k4, k5⟩ := hc ρ h uy hh h3
    obtain ⟨A', c', hA'⟩ := hm ρ _ h3
    cases hA'
    refine eff_append ht hz hzl hby hl hr hh h1 h2 h4 (fun w hw => ⟨us, k2, .sl ?_⟩) rd dst ty pos aft
    cases a with
    | none =>
      have := k3 rfl
      subst this
      have hnil : us = [] := List.eq_nil_of_length_eq_zero (by rw [k2.len, hl]; simp)
      subst hnil
      exact Src.ofNil w htx mm
    | some ad =>
      refine Src.ofSlice w htx ad n mm us (by rw [k2.len, hl]) (fun j q hj => ?_) (ones_ok hone k2)
      obtain ⟨bb, oo, sp⟩ := ad
      have hsp : sp = none := k4 _ rfl
      subst hsp
      rw [addr_add, cell_cel hw]
      exact k5 _ rfl h (fun _ _ _ _ => rfl) j q hj
  · cases hr
theorem eff_apm {t tx T sz : Nat} {k0 : IntKind} {z : AV} (ht : elemB P t = some (T, sz)) (htx : P.underlying tx = some (.int k0)) (hz : zeroB P T = some z) (hzl : (cellsOf z).length = sz) (hby : smallB P T = true) (hx : OpS P x xo) (hy : OpS P y yo) :
    EffS P (.call ⟨.builtin .append, #[x, y], #[t, tx]⟩) d (iApm d T sz (cellsOf z) xo yo) := by
  intro cx κ e H r hr ρ h E hh he rd dst ty pos aft
  simp only [iApm, hx.eq] at hr
  replace hr := bind_some hr
  obtain ⟨v, hv, hr⟩ := hr
  simp only [hy.eq] at hr
  replace hr := bind_some hr
  obtain ⟨u, hu, hr⟩ := hr
  replace hr := asN_some hr
  obtain ⟨ik, m, rfl, hr⟩ := hr
  rw [ifK_eq] at hr
  split at hr
  · rename_i hc
    simp only [Bool.and_eq_true] at hc
    have hm := Nat.le_of_ble_eq_true hc.1
    rw [repK_eq] at hr
    obtain ⟨ux, h1, h2⟩ := hx.ok ρ H h e E v hh he hv
    obtain ⟨uy, h3, h4⟩ := hy.ok ρ H h e E _ hh he hu
    cases h3
    obtain ⟨inf, zv, z1, z2, z3⟩ := zeroB_spec hz
    obtain ⟨zs, z4, z5⟩ := (ofV_VR ρ z3).cells
    have hzsl : zs.length = sz := by rw [z5.len, hzl]
    refine eff_append ht hz hzl hby (by simp [hzl]) hr hh h1 h2 h4 (fun w hw => ⟨_, z5.rep m, .mk htx rfl z1 z2 z4 hzsl (smallB_spec hby _ z1) hm rfl fun q hq => ?_⟩) rd dst ty pos aft
    obtain ⟨l, hl1, hl2⟩ := List.mem_flatten.1 hq
    rw [List.eq_of_mem_replicate hl1] at hl2
    exact ones_ok hc.2 z5 q hl2
  · cases hr
end Ry
end Go.TP
