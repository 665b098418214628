/- Ry is sound, part 15: code. -/
import Derived.Test.YtnmdbemccdhdmaaGreatDoorRzh
import Derived.Test.YtnmdbemccdhdmaaGreatDoorRzp
namespace Go.TP
open Go
/-- With these blocks for deferred calls. -/
def Kt.wd (K : Kt) (Ds : List Nat) : Kt := { K with ds := Ds.map Ry.mark }
namespace Ry
variable {P : Program} {R : Type} {K : Kt} {ρb : Rn} {Hb : AH} {hb : Heap} {cx : Cx R}
/-- What stands behind is sound, whatever blocks for deferred calls there are. -/
def SndM (P : Program) (K : Kt) (ρb : Rn) (Hb : AH) (hb : Heap) (κi : List Item) (κ : Cont R) : Prop :=
  ∀ e H r, κ e H = some r → ∀ ρ h E Ds, Nx ρb Hb hb ρ H h → HR P ρ H h → ER ρ e E → Mk hb ρ H h Ds → Run P (K.wd Ds) κi E h
/-- A jump that nothing here takes. -/
def SndX (P : Program) (K : Kt) (ρb : Rn) (Hb : AH) (hb : Heap) (id : Nat) (κ : Cont R) : Prop :=
  ∀ e H r, κ e H = some r → ∀ ρ h E Ds, Nx ρb Hb hb ρ H h → HR P ρ H h → ER ρ e E → Mk hb ρ H h Ds → ∀ a w, Fits K.n E a → a.defers = Ds.map mark → Wk K h w → K.Q (.exit id) a w
def XsOk (P : Program) (K : Kt) (ρb : Rn) (Hb : AH) (hb : Heap) (ids : List Nat) (xs : List (Cont R)) (κi : List Item) : Prop :=
  ∀ id n, idx id ids 0 = some n → ∀ k, xs[n]? = some k → (∃ κi', exitTo id κi = some κi' ∧ SndM P K ρb Hb hb κi' k) ∨ (exitTo id κi = none ∧ SndX P K ρb Hb hb id k)
theorem idx_shift (id : Nat) : ∀ (l : List Nat) (n m : Nat), idx id l (n + 1) = some m → ∃ m', m = m' + 1 ∧ idx id l n = some m'
  | [], _, _, h => by cases h
  | i :: l, n, m, h => by
    simp only [idx] at h ⊢
    cases hb : Nat.beq i id with
    | true => rw [hb] at h; cases h; exact ⟨n, rfl, rfl⟩
    | false => rw [hb] at h; exact idx_shift id l (n + 1) m h
theorem XsOk.skipIt {κi : List Item} {it : Item} {ids : List Nat} {xs : List (Cont R)} (h : XsOk P K ρb Hb hb ids xs κi) (hit : ∀ id, exitTo id (it :: κi) = exitTo id κi) : XsOk P K ρb Hb hb ids xs (it :: κi) := fun id n hi k hk => by
  rcases h id n hi k hk with ⟨κi', h1, h2⟩ | ⟨h1, h2⟩
  · exact .inl ⟨κi', (hit id).trans h1, h2⟩
  · exact .inr ⟨(hit id).trans h1, h2⟩
theorem Wk.wd {K : Kt} {Ds Ds' : List Nat} {h : Heap} {w : World} (hw : Wk (K.wd Ds) h w) : Wk (K.wd Ds') h w := ⟨hw.heap, hw.os, hw.tape, hw.out⟩
/-- What is asked of code. -/
def CodeOk (P : Program) (R : Type) (fn : Nat) (c : Code) (ids : List Nat) (x : CD R) : Prop := ∀ (K : Kt) (ρb : Rn) (Hb : AH) (hb : Heap) (cx : Cx R) (rk : Cont R) (xs : List (Cont R)) (κi : List Item) (κ : Cont R), K.n = fn → (K.rd = none ∨ noR c = true) → CxS P ρb cx → (∀ κi, SndM P K ρb Hb hb (.code .ret :: κi) rk) → XsOk P K ρb Hb hb ids xs κi →
  SndM P K ρb Hb hb κi κ → SndM P K ρb Hb hb (.code c :: κi) (x cx rk xs κ)
theorem CxS.le {ρ ρ' : Rn} {cx : Cx R} (h : CxS P ρ cx) (hl : Le ρ ρ') : CxS P ρ' cx := fun ext ρ1 h1 => h ext ρ1 (hl.trans h1)
/-- What stands behind, from here on, with just these blocks. -/
theorem SndM.here {κi : List Item} {κ : Cont R} (hκ : SndM P K ρb Hb hb κi κ) {ρ : Rn} {H : AH} {h : Heap} {Ds : List Nat} (hx : Nx ρb Hb hb ρ H h) (hh : HR P ρ H h) (hm : Mk hb ρ H h Ds) : SndK P (K.wd Ds) ρ H h κi κ :=
  fun e' H' r' hr' ρ' h' E' hx' hh' he' => hκ e' H' r' hr' ρ' h' E' Ds (hx.trans hx' hh) hh' he' (hm.nx hx')
/-- A round of a range over a function. -/
theorem round_ok {fn : Nat} {c d : Code} {ids : List Nat} {ca cb : CD R} (hca : CodeOk P R fn c [] ca) (hcb : CodeOk P R fn d ids cb) (hnc : noR c = true) (hnd : noR d = true) {ρ0 : Rn} (hcx : CxS P ρ0 cx) {l : Pth} {lo : Lo} (hl : ρ0 l = some lo) (hids : lo.ids = ids)
    {qs : List (Slot R)} (hqo : ∀ s ∈ qs, SlotOk s) (hlp : lo.lp.params.toList = qs.map Slot.p) (hlc : lo.lp.assign = c) (hld : lo.lp.body = d) (hqn : ∀ p ∈ qs.map Slot.p, p < fn) {e0 : EV} {E0 : Env} (hE0 : ER ρ0 e0 E0) (hf0 : Fits fn E0 ⟨lo.lp.tmps, []⟩) :
    YS P ρ0 l (round cx l qs ca cb ids.length e0) := by
  intro vs H k r hr ρ h us lo' hle hh hlo hv
  have hlo0 := hle l lo hl
  rw [hlo] at hlo0
  cases hlo0
  unfold Ry.round at hr
  replace hr := blk_some hr
  obtain ⟨B, hB, hr⟩ := hr
  replace hr := loopB_some hr
  obtain ⟨on, j, rfl, hr⟩ := hr
  rw [ifK_eq] at hr
  split at hr
  · rename_i hon
    obtain ⟨lo', h1, h2⟩ := hh.blk l _ hB
    rw [hlo] at h1; cases h1
    obtain ⟨st, pe, h3, h4, _⟩ := h2.any
    obtain ⟨rfl, rfl, rfl⟩ := h4 hon
    obtain ⟨h5, e', h6, h7⟩ := argsAt_ok hqo hr
    have hE' := h7 ρ E0 us (hE0.mono hle) hv
    have hF' := Fits.par (us := us) hf0 hqn
    intro rd w hw
    subst hw
    have hsz : us.toArray.size = lo.lp.params.size := by
      have : lo.lp.params.size = qs.length := by rw [← Array.length_toList, hlp]; simp
      simp [this, ← h5, hv.len]
    have hy := run_yield (P := P) (w := w) (args := us.toArray) h3 hsz
    refine ⟨_, _, _, _, hy, ?_⟩
    subst hlc hld
    generalize hRr : (fun (en : Ending) (w' : World) => ∃ v, en = .returned v ∧ w'.os = w.os ∧ w'.tape = w.tape ∧ w'.output = w.output ∧ Out P ρ H w.heap k v w'.heap) = Rr
    refine roundIn_of_wpIn trivial ?_
    have htm : Array.foldl (fun (tmps : Array Value) (x : Tmp × Value) => tmps.setIfInBounds x.1 x.2) lo.lp.tmps (lo.lp.params.zip us.toArray) = ((qs.map Slot.p).zip us).foldl (fun t (x : Nat × Value) => t.setIfInBounds x.1 x.2) lo.lp.tmps := by
      rw [← Array.foldl_toList, Array.toList_zip, hlp]
    show (lo.lp.assign).wpIn (Wd (some lo.g)) 0 P (Exit.then (fun a₁ w₁ => ∃ w₂, (Instr.beginRound lo.g).run P w₁ = .ok () w₂ ∧ (lo.lp.body).wpIn (Wd (some lo.g)) 0 P (roundPost P lo.g Rr) a₁ w₂) (fun _ _ _ => False)) ⟨Array.foldl (fun (tmps : Array Value) (x : Tmp × Value) => tmps.setIfInBounds x.1 x.2) lo.lp.tmps (lo.lp.params.zip us.toArray), []⟩ w
    rw [htm]
    intro b k' cs hro _ _
    -- what a round's end comes to
    have hend : ∀ (jump : Option Code) (on : Bool) (j : Option Nat) (on0 : Bool) (j0 : Option Nat) (r4 : R) (ρ4 : Rn) (H4 : AH) (w4 : World), (∀ ρ h', LR h' lo (if jump.isNone then .ready else .done) jump → BR ρ h' lo (.loop on j)) →
        getT H4.blocks l = some (.loop on0 j0) → Nx ρ H w.heap ρ4 H4 w4.heap → HR P ρ4 H4 w4.heap → k (.B jump.isNone) ⟨H4.next, setT (some (.loop on j)) l H4.blocks⟩ = some r4 → w4.os = w.os → w4.tape = w.tape → w4.output = w.output →
        ∃ v w', (Instr.endRound lo.g jump).run P w4 = .ok v w' ∧ Rr (.returned v) w' := by
      intro jump on j on0 j0 r4 ρ4 H4 w4 hBR hB4 hx4 hh4 hk4 o1 o2 o3
      obtain ⟨lo4, q1, q2⟩ := hh4.blk l _ hB4
      rw [hx4.le l lo hlo] at q1; cases q1
      obtain ⟨st4, pe4, q3, _, _⟩ := q2.any
      have hlt := (Array.getElem?_eq_some_iff.1 q3).1
      obtain ⟨q5, q6⟩ := hr_loop hh4 hB4 (hx4.le l lo hlo) (ob := .loop { lo.lp with state := if jump.isNone then .ready else .done, pending := jump }) (hBR ρ4 _ (by unfold LR; simp [hlt]))
      refine ⟨_, _, run_endRound (P := P) jump q3, ?_⟩
      rw [← hRr]
      exact ⟨_, rfl, o1, o2, o3, ρ4, _, _, r4, hk4, q5, hx4.trans q6 hh4, .B⟩
    -- the assignments
    refine (hca ⟨fn, some lo.g, w.os, w.tape, w.output, [], Exit.then (fun a₁ w₁ => ∃ w₂, (Instr.beginRound lo.g).run P w₁ = .ok () w₂ ∧ (lo.lp.body).wpIn (Wd (some lo.g)) 0 P (roundPost P lo.g Rr) a₁ w₂) (fun _ _ _ => False)⟩ ρ H w.heap cx (fun _ _ => none) [] [] _ rfl (.inr hnc) (hcx.le hle)
      (fun κi e H r hr => by cases hr) (fun id n hi => by cases hi) ?_ e' H r h6 ρ w.heap _ [] (Nx.refl _ _ _) hh hE' .nil) ⟨_, []⟩ w hF' rfl ⟨rfl, rfl, rfl, rfl⟩ b k' cs hro
    intro e2 H2 r2 hr2 ρ2 h2 E2 Ds hx2 hh2 he2 hm2
    refine Run.nil fun a w2 hf2 hd2 hw2 => ?_
    replace hr2 := blk_some hr2
    obtain ⟨B2, hB2, hr2⟩ := hr2
    replace hr2 := loopB_some hr2
    obtain ⟨on2, j2, rfl, hr2⟩ := hr2
    rw [ifK_eq] at hr2
    split at hr2
    · rename_i hon2
      replace hr2 := putB_some hr2
      obtain ⟨lo2, p1, p2⟩ := hh2.blk l _ hB2
      have hlo2 := hx2.le l lo hlo
      rw [hlo2] at p1; cases p1
      obtain ⟨st2, pe2, p3, p4, _⟩ := p2.any
      obtain ⟨rfl, rfl, rfl⟩ := p4 hon2
      have hw2h : w2.heap = h2 := hw2.heap
      subst hw2h
      have hlt := (Array.getElem?_eq_some_iff.1 p3).1
      obtain ⟨p5, p6⟩ := hr_loop hh2 hB2 hlo2 (on' := false) (j' := none) (ob := .loop { lo.lp with state := .busy, pending := none }) (by show _ = _; simp [hlt])
      refine ⟨_, run_beginRound (P := P) p3 rfl, ?_⟩
      intro b k' cs hro _ _
      have hx3 := hx2.trans p6 hh2
      have jumps : ∀ (j : Nat) (c : Code), Jr ids j c → ∀ (e5 : EV) (H5 : AH) (r5 : R), leave l k j e5 H5 = some r5 → ∀ (ρ4 : Rn) (w4 : World), Nx ρ H w.heap ρ4 H5 w4.heap → HR P ρ4 H5 w4.heap → w4.os = w.os → w4.tape = w.tape → w4.output = w.output → ∃ v w', (Instr.endRound lo.g (some c)).run P w4 = .ok v w' ∧ Rr (.returned v) w' := by
        intro j c hj e4 H4 r4 hr4 ρ4 w4 hx4 hh4 o1 o2 o3
        replace hr4 := blk_some hr4
        obtain ⟨B4, hB4, hr4⟩ := hr4
        replace hr4 := loopB_some hr4
        obtain ⟨on4, j4, rfl, hr4⟩ := hr4
        replace hr4 := putB_some hr4
        exact hend (some c) false (some j) on4 j4 r4 ρ4 H4 w4 (fun _ _ hl => ⟨c, by rw [hids]; exact hj, hl⟩) hB4 hx4 hh4 hr4 o1 o2 o3
      refine (hcb ⟨fn, some lo.g, w2.os, w2.tape, w2.output, [], roundPost P lo.g Rr⟩ ρ H w.heap cx _ _ [] _ rfl (.inr hnd) (hcx.le hle) ?_ ?_ ?_ e2 _ r2 hr2 ρ2 _ _ Ds hx3 p5 he2 ⟨hm2.nd, fun D hD => ⟨?_, (hm2.at_ D hD).2⟩, fun D hD => ?_⟩) a (w2.putObj lo.g (.loop { lo.lp with state := .busy, pending := none })) hf2 hd2 ⟨rfl, rfl, rfl, rfl⟩ b k' cs hro
      · intro κi e4 H4 r4 hr4 ρ4 h4 E4 Ds4 hx4 hh4 he4 hm4
        refine Run.ret fun a4 w4 hf4 hd4 hw4 => ?_
        have hw4h : w4.heap = h4 := hw4.heap
        subst hw4h
        exact jumps 0 .ret rfl e4 H4 r4 hr4 ρ4 w4 hx4 hh4 (hw4.os.trans hw2.os) (hw4.tape.trans hw2.tape) (hw4.out.trans hw2.out)
      · intro id n hi kk hkk
        refine .inr ⟨rfl, ?_⟩
        have := leaves_get hkk
        subst this
        intro e4 H4 r4 hr4 ρ4 h4 E4 Ds4 hx4 hh4 he4 hm4 a4 w4 hf4 hd4 hw4
        have hw4h : w4.heap = h4 := hw4.heap
        subst hw4h
        exact jumps (1 + n) (.exit id) (by rw [Nat.add_comm]; exact ⟨id, hi, rfl⟩) e4 H4 r4 hr4 ρ4 w4 hx4 hh4 (hw4.os.trans hw2.os) (hw4.tape.trans hw2.tape) (hw4.out.trans hw2.out)
      · intro e4 H4 r4 hr4 ρ4 h4 E4 Ds4 hx4 hh4 he4 hm4
        refine Run.nil fun a4 w4 hf4 hd4 hw4 => ?_
        have hw4h : w4.heap = h4 := hw4.heap
        subst hw4h
        replace hr4 := blk_some hr4
        obtain ⟨B4, hB4, hr4⟩ := hr4
        replace hr4 := loopB_some hr4
        obtain ⟨on4, j4, rfl, hr4⟩ := hr4
        replace hr4 := putB_some hr4
        exact hend none true none on4 j4 r4 ρ4 H4 w4 (fun _ _ hl => hl) hB4 hx4 hh4 hr4 (hw4.os.trans hw2.os) (hw4.tape.trans hw2.tape) (hw4.out.trans hw2.out)
      · have hne : D ≠ lo.g := fun he => hm2.free D hD l lo (by rw [hB2]; rfl) hlo2 he.symm
        exact (World.putObj_heap_other hne).trans (hm2.at_ D hD).1
      · exact (p6.out (Array.getElem?_eq_some_iff.1 (hm2.at_ D hD).1).1 (hm2.free D hD)).2
    · cases hr2
  · cases hr
theorem cRange_some {qs : List (Slot R)} {ca cb : CD R} {m : Nat} {xo : OD R} {g : Operand} (hg : OpS P g xo) {rk : Cont R} {xs : List (Cont R)} {κ : Cont R} {e : EV} {H : AH} {r : R} (hr : cRange qs ca cb m xo cx rk xs κ e H = some r) :
    ∃ f first cap, vOp e g = some (.X (.fn f first cap)) ∧ cx [(H.next, round cx H.next qs ca cb m e)] (.fn f) (first ++ [.X (.yld H.next)] ++ cap) ⟨Pth.succ H.next, setT (some (.loop true none)) H.next H.blocks⟩ (fun _ H' => blk H' H.next fun B => loopB B fun on j =>
      killB H' H.next fun H' => Option.rec (ifK on (κ e H') none) (fun j => Nat.rec (rk e H') (fun j _ => Option.rec none (fun k => k e H') xs[j]?) j) j) = some r := by
  unfold cRange at hr
  rw [hg.eq] at hr
  replace hr := bind_some hr
  obtain ⟨v, hv, hr⟩ := hr
  split at hr
  · rename_i f first cap
    exact ⟨f, first, cap, hv, new_some hr⟩
  · cases hr
theorem range_ok {fn : Nat} {g : Operand} {ps : Array Tmp} {c d : Code} {ids : List Nat} {ca cb : CD R} (hca : CodeOk P R fn c [] ca) (hcb : CodeOk P R fn d ids cb) (hnc : noR c = true) (hnd : noR d = true) {xo : OD R} (hg : OpS P g xo) {qs : List (Slot R)} (hqs : qs.map Slot.p = ps.toList ∧ ∀ s ∈ qs, SlotOk s) (hlt : ∀ t ∈ ps, t < fn)
    (K : Kt) (ρb : Rn) (Hb : AH) (hb : Heap) (cx : Cx R) (rk : Cont R) (xs : List (Cont R)) (κi : List Item) (κ : Cont R) (hn : K.n = fn) (hrd : K.rd = none) (hcx : CxS P ρb cx) (hrk : ∀ κi, SndM P K ρb Hb hb (.code .ret :: κi) rk) (hxs : XsOk P K ρb Hb hb ids xs κi)
    (hκ : SndM P K ρb Hb hb κi κ) : SndM P K ρb Hb hb (.code (.rangeFunc g ps c d) :: κi) (cRange qs ca cb ids.length xo cx rk xs κ) := by
  intro e H r hr ρ h E Ds hx hh he hm a w hf hd hw
  obtain ⟨f, first, cap, hv, hr⟩ := cRange_some hg hr
  obtain ⟨u, hu1, hu2⟩ := hg.ok ρ H h e E _ hh he hv
  cases hu1 with
  | fn hv1 hv2 =>
    rename_i fs cs
    show RunA P K.rd K.Q _ a w
    rw [hrd]
    refine RunA.rangeFunc fun fn' => ?_
    have hwh : w.heap = h := hw.heap
    subst hwh
    obtain ⟨lp, hlp⟩ : ∃ lp : Loop, lp = { state := .ready, pending := none, fn := fn', tmps := a.tmps, params := ps, assign := c, body := d, defers := w.heap.size } := ⟨_, rfl⟩
    obtain ⟨h1, hh1⟩ : ∃ h1 : Heap, h1 = w.heap.push (.deferred (some [])) := ⟨_, rfl⟩
    obtain ⟨a1, a2⟩ := hr_push hh (.deferred (some []))
    rw [← hh1] at a1 a2
    have hs1 : h1.size = w.heap.size + 1 := by rw [hh1]; simp
    obtain ⟨hn1, hn2⟩ := hh.new H.next (Nat.le_refl _)
    obtain ⟨lo, hlo⟩ : ∃ lo : Lo, lo = ⟨w.heap.size + 1, 0, lp, ids, 0⟩ := ⟨_, rfl⟩
    have hlpr : { lo.lp with state := .ready, pending := none } = lp := by rw [hlo, hlp]
    obtain ⟨a3, a4⟩ := hr_new a1 (.loop true none) lo (.loop lp) (by rw [hlo, hs1]) (by show _ = _; rw [hlpr, hlo]; simp [← hs1])
    obtain ⟨ρ1, hρ1⟩ : ∃ ρ1, ρ1 = upd ρ H.next lo := ⟨_, rfl⟩
    rw [← hρ1] at a3 a4
    have hl1 : ρ1 H.next = some lo := by rw [hρ1]; exact if_pos rfl
    have hle1 : Le ρ ρ1 := a4.le
    have hcx1 : CxS P ρ1 cx := hcx.le (hx.le.trans hle1)
    have hys : YS P ρ1 H.next (round cx H.next qs ca cb ids.length e) := by
      refine round_ok hca hcb hnc hnd hcx1 hl1 (by rw [hlo]) hqs.2 (by rw [hlo, hlp]; exact hqs.1.symm) (by rw [hlo, hlp]) (by rw [hlo, hlp]) (fun p hp => ?_) (he.mono hle1) (by
        rw [hlo, hlp]
        subst hn
        exact ⟨hf.size, hf.get⟩)
      rw [hqs.1] at hp
      exact hlt _ (by simpa using hp)
    obtain ⟨b1, b2⟩ := hcx1 [(H.next, round cx H.next qs ca cb ids.length e)] ρ1 (Le.refl _) (fun p hp => by
      obtain rfl := List.mem_singleton.1 hp
      exact hys) (.fn f) _ _ _ r hr ρ1 (h1.push (.loop lp)) (fs ++ [(Value.func (.yield lo.g) #[] #[])] ++ cs) (Le.refl _) a3 (((hv1.mono hle1).append (.cons (.yld hl1) .nil)).append (hv2.mono hle1))
    have hgv : a.eval g = .func (.func f) fs.toArray cs.toArray := hf.agree _ _ hu2
    obtain ⟨w1, hw1⟩ : ∃ w1 : World, w1 = { w with heap := h1.push (.loop lp) } := ⟨_, rfl⟩
    refine ⟨w.heap.size + 1, [mark w.heap.size], w1, { target := .fn (.func f) cs.toArray, args := fs.toArray ++ #[(Value.func (.yield (w.heap.size + 1)) #[] #[])] }, w1, f, (fs ++ [(Value.func (.yield lo.g) #[] #[])] ++ cs).toArray, w1, ?_, ?_, ?_, ?_⟩
    · rw [run_enterLoop_outer, hw1, hh1, hlp]
      rfl
    · simp only [resolve, hgv]
      simp [go_sem]
    · have hla : (fs.toArray ++ #[(Value.func (.yield (w.heap.size + 1)) #[] #[])]) ++ cs.toArray = (fs ++ [(Value.func (.yield lo.g) #[] #[])] ++ cs).toArray := by rw [hlo]; simp
      simp only [invoke]
      rw [hla]
      exact b1 _ _
    · have hb2 := b2 w1 (by rw [hw1])
      refine callsWd (Calls.mono hb2 ?_)
      rintro en w3 ⟨v, rfl, o1, o2, o3, ρ', v', H', r', c1, c2, c3, c4⟩
      refine ⟨v, rfl, ?_⟩
      replace c1 := blk_some c1
      obtain ⟨B, hB, c1⟩ := c1
      replace c1 := loopB_some c1
      obtain ⟨on, j, rfl, c1⟩ := c1
      replace c1 := killB_some c1
      have hl' := c3.le _ _ hl1
      obtain ⟨lo', d1, d2⟩ := c2.blk _ _ hB
      rw [hl'] at d1; cases d1
      obtain ⟨st, pe, d3, d4, d5⟩ := d2.any
      have hlog : lo.g = w.heap.size + 1 := by rw [hlo]
      have hx1 : Nx ρ H w.heap ρ1 _ (h1.push (.loop lp)) := a2.trans a4 a1
      have hx3 : Nx ρb Hb hb ρ' H' w3.heap := (hx.trans hx1 hh).trans c3 a3
      obtain ⟨e1, e2⟩ := hr_kill c2 H.next
      obtain ⟨w4, hw4⟩ : ∃ w4 : World, w4 = w3.putObj lo.g (.loop { lo.lp with state := .exhausted, pending := pe }) := ⟨_, rfl⟩
      have hoth : ∀ g, g ≠ lo.g → w4.heap[g]? = w3.heap[g]? := fun g hg => by rw [hw4]; exact World.putObj_heap_other hg
      have hsz4 : w4.heap.size = w3.heap.size := by rw [hw4]; simp
      have hdead : getT (setT none H.next H'.blocks) H.next = none := by rw [getT_setT, if_pos rfl]
      have hkill : ∀ b lo', (getT (setT none H.next H'.blocks) b).isSome → ρ' b = some lo' → lo'.g ≠ lo.g := by
        intro b lo' hs hb' hg'
        by_cases hbn : b = H.next
        · subst hbn; rw [hdead] at hs; cases hs
        · rw [getT_setT, if_neg hbn] at hs
          exact hbn (c2.inj b H.next lo' lo hs (by rw [hB]; rfl) hb' hl' hg')
      have e3 : HR P ρ' ⟨H'.next, setT none H.next H'.blocks⟩ w4.heap := e1.away fun b lo' hs hb' => hoth _ (hkill b lo' hs hb')
      have e4 : Nx ρb Hb hb ρ' ⟨H'.next, setT none H.next H'.blocks⟩ w4.heap := (hx3.trans e2 c2).away (Nat.le_of_eq hsz4.symm) fun g hg => hoth g (by have := hx.size; omega)
      have hm1 : Mk hb ρ1 ⟨Pth.succ H.next, setT (some (.loop true none)) H.next H.blocks⟩ (h1.push (.loop lp)) (w.heap.size :: Ds) := by
        have hmx := hm.nx hx1
        have hDlt : ∀ D ∈ Ds, D < w.heap.size := fun D hD => (Array.getElem?_eq_some_iff.1 (hm.at_ D hD).1).1
        refine ⟨List.nodup_cons.2 ⟨fun hD => by have := hDlt _ hD; omega, hm.nd⟩, fun D hD => ?_, fun D hD => ?_⟩
        · rcases List.mem_cons.1 hD with rfl | hD
          · refine ⟨?_, hx.size⟩
            rw [Array.getElem?_push, if_neg (by omega), hh1]
            simp
          · exact hmx.at_ D hD
        · rcases List.mem_cons.1 hD with rfl | hD
          · intro b lo' hs hb' hg'
            by_cases hbn : b = H.next
            · subst hbn; rw [hl1] at hb'; cases hb'; omega
            · rw [getT_setT, if_neg hbn] at hs
              rw [hρ1] at hb'
              have hb' : ρ b = some lo' := by unfold upd at hb'; rw [if_neg hbn] at hb'; exact hb'
              obtain ⟨B', hB'⟩ := Option.isSome_iff_exists.1 hs
              obtain ⟨lo2, f1, f2⟩ := hh.blk b _ hB'
              rw [hb'] at f1; cases f1
              have := f2.lt
              omega
          · exact hmx.free D hD
      have hm3 := hm1.nx c3
      have hm4 : Mk hb ρ' ⟨H'.next, setT none H.next H'.blocks⟩ w4.heap (w.heap.size :: Ds) := by
        refine ⟨hm3.nd, fun D hD => ⟨?_, (hm3.at_ D hD).2⟩, fun D hD b lo' hs hb' => ?_⟩
        · rw [hoth D fun hh => hm3.free D hD H.next lo (by rw [hB]; rfl) hl' hh.symm]
          exact (hm3.at_ D hD).1
        · by_cases hbn : b = H.next
          · subst hbn; rw [hdead] at hs; cases hs
          · rw [getT_setT, if_neg hbn] at hs
            exact hm3.free D hD b lo' hs hb'
      have hnb : st ≠ .busy → (Instr.endLoop lo.g).run P w3 = .ok pe w4 := fun hst => by rw [hw4]; exact run_endLoop (P := P) d3 hst
      have hd' : ({ a with defers := [mark w.heap.size] ++ a.defers } : Act).defers = (w.heap.size :: Ds).map mark := by
        show [mark w.heap.size] ++ a.defers = _
        rw [hd]; rfl
      have hw4' : Wk (K.wd (w.heap.size :: Ds)) w4.heap w4 := by
        have p1 : w4.os = w3.os := by rw [hw4]; rfl
        have p2 : w4.tape = w3.tape := by rw [hw4]; rfl
        have p3 : w4.output = w3.output := by rw [hw4]; rfl
        have q1 : w1.os = w.os := by rw [hw1]
        have q2 : w1.tape = w.tape := by rw [hw1]
        have q3 : w1.output = w.output := by rw [hw1]
        exact ⟨rfl, (p1.trans (o1.trans q1)).trans hw.os, (p2.trans (o2.trans q2)).trans hw.tape, (p3.trans (o3.trans q3)).trans hw.out⟩
      have hE' : ER ρ' e E := he.mono (hle1.trans c3.le)
      have go : ∀ (κ' : Cont R) (κi' : List Item), SndM P K ρb Hb hb κi' κ' → κ' e ⟨H'.next, setT none H.next H'.blocks⟩ = some r' → RunA P none K.Q κi' { a with defers := [mark w.heap.size] ++ a.defers } w4 := by
        intro κ' κi' hs hr'
        have := hs e _ r' hr' ρ' w4.heap E (w.heap.size :: Ds) e4 e3 hE' hm4 { a with defers := [mark w.heap.size] ++ a.defers } w4 ⟨hf.size, hf.get⟩ hd' hw4'
        have this : RunA P K.rd K.Q κi' { a with defers := [mark w.heap.size] ++ a.defers } w4 := this
        rwa [hrd] at this
      rw [← hlog]
      cases j with
      | none =>
        have c1 : ifK on (κ e ⟨H'.next, setT none H.next H'.blocks⟩) none = some r' := c1
        rw [ifK_eq] at c1
        split at c1
        · rename_i hon
          obtain ⟨rfl, rfl, _⟩ := d4 hon
          exact ⟨none, w4, hnb (by decide), go κ κi hκ c1⟩
        · cases c1
      | some j =>
        obtain ⟨rfl, cc, hj, rfl⟩ := d5 j rfl
        refine ⟨some cc, w4, hnb (by decide), ?_⟩
        cases j with
        | zero =>
          have c1 : rk e ⟨H'.next, setT none H.next H'.blocks⟩ = some r' := c1
          cases hj
          exact go rk _ (hrk κi) c1
        | succ j =>
          have c1 : (Option.rec none (fun k => k e ⟨H'.next, setT none H.next H'.blocks⟩) xs[j]? : Option R) = some r' := c1
          obtain ⟨id, hid, rfl⟩ := hj
          rw [hlo] at hid
          cases hk : xs[j]? with
          | none => rw [hk] at c1; cases c1
          | some kk =>
            rw [hk] at c1
            have c1 : kk e ⟨H'.next, setT none H.next H'.blocks⟩ = some r' := c1
            rcases hxs id j hid kk hk with ⟨κi', h3, h4⟩ | ⟨h3, h4⟩
            · refine go kk (.code (.exit id) :: κi) ?_ c1
              intro e5 H5 r5 hr5 ρ5 h5 E5 Ds5 hx5 hh5 he5 hm5
              exact Run.exit h3 (h4 e5 H5 r5 hr5 ρ5 h5 E5 Ds5 hx5 hh5 he5 hm5)
            · refine go kk (.code (.exit id) :: κi) ?_ c1
              intro e5 H5 r5 hr5 ρ5 h5 E5 Ds5 hx5 hh5 he5 hm5
              exact Run.exitOut h3 fun a5 w5 hf5 hd5 hw5 => h4 e5 H5 r5 hr5 ρ5 h5 E5 Ds5 hx5 hh5 he5 hm5 a5 w5 hf5 hd5 ⟨hw5.heap, hw5.os, hw5.tape, hw5.out⟩
theorem compC_ok (hD : DrawOk P R) {fn fuel : Nat} : ∀ {c : Code} {ids : List Nat} {x : CD R}, compC P fn fuel ids c = some x → CodeOk P R fn c ids x
  | .skip, ids, x, h => by
    simp only [compC] at h; cases h
    intro K ρb Hb hb cx rk xs κi κ hn hrd hcx hrk hxs hκ e H r hr ρ h E Ds hx hh he hm
    exact Run.skip (hκ e H r hr ρ h E Ds hx hh he hm)
  | .seq a b, ids, x, h => by
    simp only [compC] at h
    split at h
    · cases h
    · rename_i ca ha
      split at h
      · cases h
      · rename_i cb hb'
        cases h
        intro K ρb Hb hb cx rk xs κi κ hn hrd hcx hrk hxs hκ e H r hr ρ h E Ds hx hh he hm
        refine Run.seq ?_
        have hra : K.rd = none ∨ noR a = true := hrd.imp id fun h => by simp only [noR, Bool.and_eq_true] at h; exact h.1
        have hrb : K.rd = none ∨ noR b = true := hrd.imp id fun h => by simp only [noR, Bool.and_eq_true] at h; exact h.2
        exact compC_ok hD ha K ρb Hb hb cx rk xs (.code b :: κi) (cb cx rk xs κ) hn hra hcx hrk (hxs.skipIt fun _ => rfl) (compC_ok hD hb' K ρb Hb hb cx rk xs κi κ hn hrb hcx hrk hxs hκ) e H r hr ρ h E Ds hx hh he hm
  | .region id ops false, ids, x, h => by
    simp only [compC] at h
    split at h
    · cases h
      intro K ρb Hb hb cx rk xs κi κ hn hrd hcx hrk hxs hκ e H r hr
      cases hr
    · rename_i hok
      split at h
      · cases h
      · rename_i i hi
        cases h
        intro K ρb Hb hb cx rk xs κi κ hn hrd hcx hrk hxs hκ e H r hr ρ h E Ds hx hh he hm
        subst hn
        have := Run.region (K := K.wd Ds) (id := id) (l := ops.toList) hok (compL_ok (hcx.le hx.le) hi (hκ.here hx hh hm) e H r hr ρ h E (Nx.refl _ _ _) hh he)
        simpa using this
  | .region id ops true, ids, x, h => by
    simp only [compC, forceI_eq] at h
    split at h
    · cases h
      intro K ρb Hb hb cx rk xs κi κ hn hrd hcx hrk hxs hκ e H r hr
      cases hr
    · rename_i hok
      simp only [Bool.and_eq_true] at hok
      split at h
      · cases h
      · rename_i i hi
        cases h
        intro K ρb Hb hb cx rk xs κi κ hn hrd hcx hrk hxs hκ e H r hr ρ h E Ds hx hh he hm
        subst hn
        exact hD (K.wd Ds) ρ H h cx id ops _ i κi κ (hcx.le hx.le) (plan_ok (by rw [Bool.and_eq_true]; exact hok.1.1)) (Nat.eq_of_beq_eq_true hok.1.2) hok.2 hi (hκ.here hx hh hm) e H r hr ρ h E (Nx.refl _ _ _) hh he
  | .cond c a b, ids, x, h => by
    simp only [compC] at h
    split at h
    · cases h
    · rename_i co hc
      split at h
      · cases h
      · rename_i ca ha
        split at h
        · cases h
        · rename_i cb hb'
          cases h
          intro K ρb Hb hb cx rk xs κi κ hn hrd hcx hrk hxs hκ e H r hr ρ h E Ds hx hh he hm
          have hra : K.rd = none ∨ noR a = true := hrd.imp id fun h => by simp only [noR, Bool.and_eq_true] at h; exact h.1
          have hrb : K.rd = none ∨ noR b = true := hrd.imp id fun h => by simp only [noR, Bool.and_eq_true] at h; exact h.2
          have hco := opnd_ok hc
          have hr : co e (fun v => asB v fun q => Bool.rec (cb cx rk xs κ e H) (ca cx rk xs κ e H) q) = some r := hr
          rw [hco.eq] at hr
          replace hr := bind_some hr
          obtain ⟨v, hv, hr⟩ := hr
          replace hr := asB_some hr
          obtain ⟨q, rfl, hr⟩ := hr
          obtain ⟨u, h1, h2⟩ := hco.ok ρ H h e E _ hh he hv
          cases h1
          cases q with
          | true => exact Run.yes h2 rfl (compC_ok hD ha K ρb Hb hb cx rk xs κi κ hn hra hcx hrk hxs hκ e H r hr ρ h E Ds hx hh he hm)
          | false => exact Run.no h2 rfl (compC_ok hD hb' K ρb Hb hb cx rk xs κi κ hn hrb hcx hrk hxs hκ e H r hr ρ h E Ds hx hh he hm)
  | .block id b, ids, x, h => by
    simp only [compC] at h
    split at h
    · cases h
    · rename_i cb hb'
      cases h
      intro K ρb Hb hb cx rk xs κi κ hn hrd hcx hrk hxs hκ e H r hr ρ h E Ds hx hh he hm
      refine Run.block ?_
      refine compC_ok hD hb' K ρb Hb hb cx rk (κ :: xs) (.inBlock id :: κi) κ hn (hrd.imp (fun h => h) fun h => by simpa only [noR] using h) hcx hrk ?_ (fun e H r hr ρ h E Ds hx hh he hm => Run.inBlock (hκ e H r hr ρ h E Ds hx hh he hm)) e H r hr ρ h E Ds hx hh he hm
      intro id' n hi k hk
      simp only [idx] at hi
      cases hbq : Nat.beq id id' with
      | true =>
        rw [hbq] at hi
        cases hi
        cases hk
        have := Nat.eq_of_beq_eq_true hbq
        subst this
        exact .inl ⟨κi, by simp [exitTo], hκ⟩
      | false =>
        rw [hbq] at hi
        obtain ⟨m, rfl, hm'⟩ := idx_shift id' ids 0 n hi
        have hne : ¬ id = id' := fun he => by rw [he] at hbq; simp at hbq
        rcases hxs id' m hm' k (by simpa using hk) with ⟨κi', h1, h2⟩ | ⟨h1, h2⟩
        · exact .inl ⟨κi', by simp [exitTo, hne, h1], h2⟩
        · exact .inr ⟨by simp [exitTo, hne, h1], h2⟩
  | .loop b, ids, x, h => by
    simp only [compC] at h
    split at h
    · cases h
    · rename_i cb hb'
      cases h
      intro K ρb Hb hb cx rk xs κi κ hn hrd hcx hrk hxs hκ
      have hrb : K.rd = none ∨ noR b = true := hrd.imp (fun h => h) fun h => by simpa only [noR] using h
      have hxs' : XsOk P K ρb Hb hb ids xs (.inLoop b :: κi) := hxs.skipIt fun _ => rfl
      have key : ∀ n, SndM P K ρb Hb hb (.inLoop b :: κi) (Nat.rec (fun _ _ => none) (fun _ ih => cb cx rk xs ih) n : Cont R) := by
        intro n
        induction n with
        | zero => intro e H r hr; cases hr
        | succ n ih =>
          intro e H r hr ρ h E Ds hx hh he hm
          exact Run.inLoop (compC_ok hD hb' K ρb Hb hb cx rk xs (.inLoop b :: κi) _ hn hrb hcx hrk hxs' ih e H r hr ρ h E Ds hx hh he hm)
      intro e H r hr ρ h E Ds hx hh he hm
      have hr : (Nat.rec (fun _ _ => none) (fun _ ih => cb cx rk xs ih) fuel : Cont R) e H = some r := hr
      cases fuel with
      | zero => cases hr
      | succ n => exact Run.loop (compC_ok hD hb' K ρb Hb hb cx rk xs (.inLoop b :: κi) _ hn hrb hcx hrk hxs' (key n) e H r hr ρ h E Ds hx hh he hm)
  | .exit id, ids, x, h => by
    simp only [compC] at h
    split at h
    · cases h
    · rename_i n hn'
      rw [natK_eq] at h
      cases h
      intro K ρb Hb hb cx rk xs κi κ hn hrd hcx hrk hxs hκ e H r hr ρ h E Ds hx hh he hm
      cases hk : xs[n]? with
      | none =>
        have hr : (Option.rec none (fun k => k e H) xs[n]? : Option R) = some r := hr
        rw [hk] at hr; cases hr
      | some k =>
        have hr : (Option.rec none (fun k => k e H) xs[n]? : Option R) = some r := hr
        rw [hk] at hr
        rcases hxs id n hn' k hk with ⟨κi', h1, h2⟩ | ⟨h1, h2⟩
        · exact Run.exit h1 (h2 e H r hr ρ h E Ds hx hh he hm)
        · exact Run.exitOut h1 fun a w hf hd hw => h2 e H r hr ρ h E Ds hx hh he hm a w hf hd ⟨hw.heap, hw.os, hw.tape, hw.out⟩
  | .ret, ids, x, h => by
    simp only [compC] at h; cases h
    intro K ρb Hb hb cx rk xs κi κ hn hrd hcx hrk hxs hκ e H r hr ρ h E Ds hx hh he hm
    exact hrk κi e H r hr ρ h E Ds hx hh he hm
  | .rangeFunc g ps c d, ids, x, h => by
    simp only [compC] at h
    split at h
    · cases h
    · rename_i xo hxo
      split at h
      · cases h
      · rename_i ca hca
        split at h
        · cases h
        · rename_i cb hcb
          split at h
          · cases h
          · rename_i qs hqs
            rw [ifK_eq] at h
            split at h
            · rename_i hck
              simp only [Bool.and_eq_true] at hck
              obtain ⟨⟨hnc, hnd⟩, hlt⟩ := hck
              cases h
              intro K ρb Hb hb cx rk xs κi κ hn hrd hcx hrk hxs hκ e H r hr ρ h E Ds hx hh he hm
              have hrd : K.rd = none := hrd.resolve_right (by simp [noR])
              exact range_ok (compC_ok hD hca) (compC_ok hD hcb) hnc hnd (opnd_ok hxo) (slPs_some hqs) (fun t ht => Nat.le_of_ble_eq_true (List.all_eq_true.1 hlt t (by simpa using ht))) K ρb Hb hb cx rk xs κi κ hn hrd hcx hrk hxs hκ e H r hr ρ h E Ds hx hh he hm
            · cases h
  | .scope _, ids, x, h => by simp [compC] at h
  | .label _, ids, x, h => by simp [compC] at h
  | .goto _, ids, x, h => by simp [compC] at h
  | .refuse _, ids, x, h => by simp [compC] at h
end Ry
end Go.TP
