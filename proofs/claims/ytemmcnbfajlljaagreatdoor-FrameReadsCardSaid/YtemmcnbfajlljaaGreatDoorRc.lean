/- The evaluator: states of loops, functions told by what they come to, what is left to show. -/
import Derived.Test.YtemmcnbfajlljaaGreatDoorRb
/-! Rzj. -/
namespace Go.TP
open Go
noncomputable section
namespace Ry
variable {P : Program}
/-- One value seen as another one. -/
def Fit (v w : AV) : Prop := ∀ ρ u, VR ρ v u → VR ρ w u
theorem Fit.rfl {v : AV} : Fit v v := fun _ _ h => h
theorem Fit.num {k : IntKind} {m n : Int} (h : m = n) : Fit (.I k m) (.X (.si k n)) := fun _ _ h' => by subst h; cases h'; exact .si
theorem Fit.si {k : IntKind} {m n : Int} (h : m = n) : Fit (.X (.si k m)) (.X (.si k n)) := fun _ _ h' => by subst h; exact h'
theorem Fit.bs {kn kn' : Bool} {l m : List Int} (h : l = m) : Fit (.X (.bs kn l)) (.X (.bs kn' m)) := fun _ _ h' => by subst h; cases h'; exact .bs
theorem Fit.str {kn : Bool} {s : List UInt8} {m : List Int} (h : intsZ s = m) : Fit (.X (.str s)) (.X (.bs kn m)) := fun _ _ h' => by
  subst h
  cases h'
  have := VR.bs (ρ := by assumption) (kn := kn) (l := intsZ s)
  rw [show (intsZ s).map (fun n => UInt8.ofNat n.toNat) = s from bytesZ_intsZ s] at this
  exact this
theorem Fit.S {b : Pth} {o n : Nat} {cp : Cp} {o' n' : Int} (ho : (o : Int) = o') (hn : (n : Int) = n') : Fit (.S b o n cp) (.X (.ss b o' n' none)) := fun ρ u h' => by
  subst ho hn
  cases h' with
  | S h1 h2 h3 =>
    rename_i m lo
    have := VR.ss (ρ := ρ) (b := b) (o := (o : Int)) (n := (n : Int)) (cq := none) (lo := lo) (og := o) (m := m) h1 (by omega) (fun _ => ⟨by omega, by simp⟩) (fun q hq => by cases hq) (by simpa using h3)
    simpa using this
theorem Fit.Su {b : Pth} {o n q : Nat} {o' n' : Int} (ho : (o : Int) = o') (hn : (n : Int) = n') : Fit (.S b o n (.un q)) (.X (.ss b o' n' (some q))) := fun ρ u h' => by
  subst ho hn
  cases h' with
  | S h1 h2 h3 =>
    rename_i m lo
    have := VR.ss (ρ := ρ) (b := b) (o := (o : Int)) (n := (n : Int)) (cq := some q) (lo := lo) (og := o) (m := m) h1 (by omega) (fun _ => ⟨by omega, by simp⟩) (fun q hq => by cases hq; exact h2) (by simpa using h3)
    simpa using this
theorem Fit.ss {b : Pth} {o n o' n' : Int} {cq cq' : Option Nat} (ho : o = o') (hn : n = n') (hc : cq' = none ∨ cq' = cq) : Fit (.X (.ss b o n cq)) (.X (.ss b o' n' cq')) := fun ρ u h' => by
  subst ho hn
  cases h' with
  | ss h1 h2 h3 h4 h5 => exact .ss h1 h2 h3 (fun q hq => by rcases hc with rfl | rfl; cases hq; exact h4 q hq) h5
inductive Fits : List AV → List AV → Prop
  | nil : Fits [] []
  | cons {v w : AV} {l m : List AV} : Fit v w → Fits l m → Fits (v :: l) (w :: m)
theorem Fits.ok {ρ : Rn} : ∀ {l m : List AV} {us : List Value}, Fits l m → VRs ρ l us → VRs ρ m us
  | _, _, _, .nil, h => h
  | _, _, _, .cons h1 h2, h => by
    cases h with
    | cons h3 h4 => exact .cons (h1 _ _ h3) (h2.ok h4)
theorem Fits.rfl : ∀ {l : List AV}, Fits l l
  | [] => .nil
  | _ :: _ => .cons Fit.rfl Fits.rfl
/-- The heap is as it is. -/
theorem StW.fit {H0 H : AH} {vs vs' : List AV} (h : Fits vs vs') : StW P H0 vs H vs' H := fun _ _ _ _ _ ρ _ _ _ _ h1 h2 h3 => ⟨ρ, h1, h2, h.ok h3, fun _ h => h⟩
/-! What was made meanwhile is forgotten. -/
/-- Only what lies below. -/
def cut (n : Nat) (ρ : Rn) : Rn := fun p => if num p < n then ρ p else none
theorem cut_le {n : Nat} {ρ : Rn} : Le (cut n ρ) ρ := fun b lo h => by
  unfold cut at h
  split at h
  · exact h
  · cases h
/-- A value that speaks of no block from n on, seen as another one. -/
def Low (n : Nat) (v w : AV) : Prop := ∀ ρ u, VR ρ v u → VR (cut n ρ) w u
inductive Lows (n : Nat) : List AV → List AV → Prop
  | nil : Lows n [] []
  | cons {v w : AV} {l m : List AV} : Low n v w → Lows n l m → Lows n (v :: l) (w :: m)
theorem Lows.ok {n : Nat} {ρ : Rn} : ∀ {l m : List AV} {us : List Value}, Lows n l m → VRs ρ l us → VRs (cut n ρ) m us
  | _, _, _, .nil, h => by cases h; exact .nil
  | _, _, _, .cons h1 h2, h => by
    cases h with
    | cons h3 h4 => exact .cons (h1 _ _ h3) (h2.ok h4)
theorem Low.fit {n : Nat} {v w x : AV} (h1 : Low n v w) (h2 : Fit w x) : Low n v x := fun ρ u h => h2 _ _ (h1 ρ u h)
/-- It speaks of no block at all. -/
def pureX : AV → Bool
  | .I _ _ => true
  | .B _ => true
  | .X (.str _) => true
  | .X (.flt _ _) => true
  | .X .nilp => true
  | .X .nils => true
  | .X .nilf => true
  | .X .nilm => true
  | .X .nili => true
  | .X .undef => true
  | .X .slz => true
  | .X (.si _ _) => true
  | .X (.bs _ _) => true
  | _ => false
theorem pureX_vr {v : AV} (h : pureX v = true) {ρ ρ' : Rn} {u : Value} (hv : VR ρ v u) : VR ρ' v u := by
  cases hv <;> first | (cases h; done) | constructor
def pureL (l : List AV) : Bool := List.rec true (fun v _ ih => Bool.rec false ih (pureX v)) l
theorem pureL_vrs {ρ ρ' : Rn} : ∀ {l : List AV} {us : List Value}, pureL l = true → VRs ρ l us → VRs ρ' l us
  | [], _, _, h => by cases h; exact .nil
  | v :: l, _, hp, h => by
    cases h with
    | cons h1 h2 =>
      have hp : Bool.rec (motive := fun _ => Bool) false (pureL l) (pureX v) = true := hp
      cases hx : pureX v with
      | false => rw [hx] at hp; cases hp
      | true => rw [hx] at hp; exact .cons (pureX_vr hx h1) (pureL_vrs hp h2)
theorem Low.pure {n : Nat} {v : AV} (h : pureX v = true) : Low n v v := fun _ _ hv => pureX_vr h hv
theorem cut_some {n : Nat} {ρ : Rn} {b : Pth} {lo : Lo} (hb : num b < n) (h : ρ b = some lo) : cut n ρ b = some lo := by unfold cut; rw [if_pos hb]; exact h
theorem Low.ptr {n : Nat} {b : Pth} {o : Nat} (hb : num b < n) : Low n (.P b o) (.P b o) := fun ρ u hv => by cases hv with | P h => exact .P (cut_some hb h)
theorem Low.sl {n : Nat} {b : Pth} {o l : Nat} {cp : Cp} (hb : num b < n) : Low n (.S b o l cp) (.S b o l cp) := fun ρ u hv => by cases hv with | S h h1 h2 => exact .S (cut_some hb h) h1 h2
theorem Low.ss {n : Nat} {b : Pth} {o l : Int} {cq : Option Nat} (hb : num b < n) : Low n (.X (.ss b o l cq)) (.X (.ss b o l cq)) := fun ρ u hv => by cases hv with | ss h h1 h2 h3 h4 => exact .ss (cut_some hb h) h1 h2 h3 h4
theorem Low.sp {n : Nat} {b : Pth} {o : Int} (hb : num b < n) : Low n (.X (.sp b o)) (.X (.sp b o)) := fun ρ u hv => by cases hv with | sp h h1 => exact .sp (cut_some hb h) h1
theorem Low.ifc {n t : Nat} {v w : AV} (h : Low n v w) : Low n (.X (.ifc t v)) (.X (.ifc t w)) := fun ρ u hv => by cases hv with | ifc h1 => exact .ifc (h _ _ h1)
theorem Low.agg {n : Nat} {l m : List AV} (h : Lows n l m) : Low n (.X (.agg l)) (.X (.agg m)) := fun ρ u hv => by cases hv with | agg h1 => exact .agg (h.ok h1)
def topT : PT AB → Option AB
  | .nil => none
  | .node v _ _ => v
def leftT : PT AB → PT AB
  | .nil => .nil
  | .node _ l _ => l
def rightT : PT AB → PT AB
  | .nil => .nil
  | .node _ _ r => r
/-- A block that there was first (B0), as it is (B), as it is seen (B'). -/
def chB (n : Nat) (v0 v : Option AB) : Option AB → Prop
  | none => True
  | some B' => match v0, v with
    | some (.cells _ _ s0 _), some (.cells T m s cs) => ∃ s' cs', B' = .cells T m s' cs' ∧ Lows n cs cs' ∧ (s' = s ∨ s0 < s')
    | _, _ => False
def chT (n : Nat) (t0 t : PT AB) : PT AB → Prop
  | .nil => True
  | .node v' l' r' => chB n (topT t0) (topT t) v' ∧ chT n (leftT t0) (leftT t) l' ∧ chT n (rightT t0) (rightT t) r'
theorem getT_top {t : PT AB} : topT t = getT t .z := by cases t <;> rfl
theorem getT_left {t : PT AB} {b : Pth} : getT (leftT t) b = getT t (.a b) := by cases t <;> simp [leftT, getT, getT_nil]
theorem getT_right {t : PT AB} {b : Pth} : getT (rightT t) b = getT t (.b b) := by cases t <;> simp [rightT, getT, getT_nil]
theorem chT_get {n : Nat} : ∀ {t' t0 t : PT AB}, chT n t0 t t' → ∀ {b : Pth} {B' : AB}, getT t' b = some B' →
    ∃ T0 m0 s0 cs0 T m s cs s' cs', getT t0 b = some (.cells T0 m0 s0 cs0) ∧ getT t b = some (.cells T m s cs) ∧ B' = .cells T m s' cs' ∧ Lows n cs cs' ∧ (s' = s ∨ s0 < s')
  | .nil, t0, t, _, b, B', h => by rw [getT_nil] at h; cases h
  | .node v' l' r', t0, t, ⟨h1, h2, h3⟩, b, B', h => by
    cases b with
    | z =>
      have h : v' = some B' := h
      subst h
      rw [getT_top, getT_top] at h1
      unfold chB at h1
      dsimp only at h1
      split at h1
      · rename_i e0 e1
        obtain ⟨s', cs', rfl, h5, h6⟩ := h1
        exact ⟨_, _, _, _, _, _, _, _, _, _, e0, e1, rfl, h5, h6⟩
      · exact h1.elim
    | a b => have := chT_get h2 (b := b) h; rwa [getT_left, getT_left] at this
    | b b => have := chT_get h3 (b := b) h; rwa [getT_right, getT_right] at this
theorem BR.low {n : Nat} {ρ : Rn} {h : Heap} {lo : Lo} {T : Nat} {m : Md} {s s' : Nat} {cs cs' : List AV} (hl : Lows n cs cs') (hb : BR ρ h lo (.cells T m s cs)) : BR (cut n ρ) h lo (.cells T m s' cs') := by
  cases m with
  | shut => obtain ⟨us, h1, h2⟩ := hb; exact ⟨us, hl.ok h1, h2⟩
  | op sz => obtain ⟨us, rest, h1, h2, h3, h4⟩ := hb; exact ⟨us, rest, hl.ok h1, h2, h3, h4⟩
  | ro => obtain ⟨h0, us, h1, h2⟩ := hb; exact ⟨h0, us, hl.ok h1, h2⟩
/-- The blocks are those that there were first; what else there is is forgotten. -/
theorem StW.back {H0 H H' : AH} {vs vs' : List AV} (hn : H'.next = H0.next) (hc : chT (num H0.next) H0.blocks H.blocks H'.blocks) (hv : Lows (num H0.next) vs vs') : StW P H0 vs H vs' H' := by
  intro ρb Hb hb ρ0 h0 ρ h us hh0 hx0 hh hx hvs
  have hlow : ∀ b lo, ρ0 b = some lo → num b < num H0.next := fun b lo hb => by
    by_cases hlt : num b < num H0.next
    · exact hlt
    · rw [(hh0.new b (by omega)).1] at hb; cases hb
  have hlowb : ∀ b B', getT H'.blocks b = some B' → num b < num H0.next := fun b B' hb => by
    obtain ⟨T0, m0, s0, cs0, _, _, _, _, _, _, h1, _⟩ := chT_get hc hb
    obtain ⟨lo, h2, _⟩ := hh0.blk b _ h1
    exact hlow b lo h2
  have hro : ∀ b, (getT H'.blocks b).isSome → RoB H b → RoB H' b := fun b hs ⟨T, s, cs, hr⟩ => by
    obtain ⟨B', hB'⟩ := Option.isSome_iff_exists.1 hs
    obtain ⟨_, _, _, _, _, _, _, _, _, _, _, k1, rfl, _⟩ := chT_get hc hB'
    rw [hr] at k1; cases k1
    exact ⟨_, _, _, hB'⟩
  refine ⟨cut (num H0.next) ρ, ⟨fun b B' hb => ?_, fun b b' lo lo' h1 h2 h3 h4 h5 => ?_, fun b hb => ?_, fun p hp => ?_⟩, ⟨fun b lo hb => ?_, hx.size, fun g hg hk => ?_, fun b lo T m s cs B' h1 h2 h3 => ?_, fun b lo h1 h2 => ?_, fun b lo h1 h2 h3 => ?_⟩, hv.ok hvs, fun Ds hm => ⟨hm.nd, hm.at_, fun D hD b lo h1 h2 => ?_⟩⟩
  · obtain ⟨T0, m0, s0, cs0, T, m, s, cs, s', cs', h1, h2, rfl, h3, h4⟩ := chT_get hc hb
    obtain ⟨lo, h5, h6⟩ := hh.blk b _ h2
    exact ⟨lo, cut_some (hlowb b _ hb) h5, h6.low h3⟩
  · obtain ⟨B1, hB1⟩ := Option.isSome_iff_exists.1 h1
    obtain ⟨B2, hB2⟩ := Option.isSome_iff_exists.1 h2
    obtain ⟨_, _, _, _, _, _, _, _, _, _, _, k1, _⟩ := chT_get hc hB1
    obtain ⟨_, _, _, _, _, _, _, _, _, _, _, k2, _⟩ := chT_get hc hB2
    exact (hh.inj b b' lo lo' (by rw [k1]; rfl) (by rw [k2]; rfl) (cut_le _ _ h3) (cut_le _ _ h4) h5).imp id fun ⟨r1, r2⟩ => ⟨hro b h1 r1, hro b' h2 r2⟩
  · rw [hn] at hb
    refine ⟨by unfold cut; rw [if_neg (by omega)], ?_⟩
    cases hg : getT H'.blocks b with
    | none => rfl
    | some B' => have := hlowb b B' hg; omega
  · obtain ⟨lo0, h1, _⟩ := hh0.glob p hp
    obtain ⟨lo, h2, h3⟩ := hh.glob p hp
    exact ⟨lo, cut_some (hlow p lo0 h1) h2, h3⟩
  · exact cut_some (hlow b lo (hx0.le b lo hb)) (hx.le b lo hb)
  · refine hx.fr g hg fun b lo h1 h2 h3 => ?_
    rcases hk b lo h1 h2 h3 with hk | hk
    case inr => exact .inr hk
    obtain ⟨T, m, s, cs, T', m', cs', k1, k2⟩ := hk
    obtain ⟨T0, m0, s0, cs0, T1, m1, s1, cs1, s', cs'', j1, j2, j3, j4, j5⟩ := chT_get hc k2
    cases j3
    rcases j5 with rfl | j5
    · exact .inl ⟨_, _, _, _, _, _, _, k1, j2⟩
    · obtain ⟨_, _, s2, _, q1, q2, _⟩ := hx0.mono b lo T m s cs _ h2 k1 j1
      cases q1
      omega
  · obtain ⟨T0, m0, s0, cs0, T1, m1, s1, cs1, s', cs'', j1, j2, rfl, j4, j5⟩ := chT_get hc h3
    obtain ⟨_, _, s3, _, q3, q4, q5⟩ := hx.mono b lo T m s cs _ h1 h2 j2
    cases q3
    refine ⟨_, _, _, _, rfl, ?_, q5⟩
    rcases j5 with rfl | j5
    · exact q4
    · obtain ⟨_, _, s2, _, q1, q2, _⟩ := hx0.mono b lo T m s cs _ h1 h2 j1
      cases q1
      omega
  · obtain ⟨B1, hB1⟩ := Option.isSome_iff_exists.1 h2
    obtain ⟨_, _, _, _, _, _, _, _, _, _, _, k1, _⟩ := chT_get hc hB1
    exact hx.nores b lo h1 (by rw [k1]; rfl)
  · obtain ⟨B1, hB1⟩ := Option.isSome_iff_exists.1 h3
    obtain ⟨_, _, _, _, _, _, _, _, _, _, _, k1, _⟩ := chT_get hc hB1
    exact hx.newb b lo h1 (cut_le _ _ h2) (by rw [k1]; rfl)
  · obtain ⟨B1, hB1⟩ := Option.isSome_iff_exists.1 h1
    obtain ⟨_, _, _, _, _, _, _, _, _, _, _, k1, _⟩ := chT_get hc hB1
    exact hm.free D hD b lo (by rw [k1]; rfl) (cut_le _ _ h2)
/-! Blocks that a loop made are known by other names. -/
/-- The new names begin with n0; each one's block is ahead known as that. -/
def sig : Pth → List (Pth × AB) → Pth → Option Pth
  | _, [], _ => none
  | n0, x :: l, p => if p = n0 then some x.1 else sig (Pth.succ n0) l p
def heapN : Pth → PT AB → List (Pth × AB) → AH
  | n0, t, [] => ⟨n0, t⟩
  | n0, t, x :: l => heapN (Pth.succ n0) (setT (some x.2) n0 t) l
def ren (n : Nat) (σ : Pth → Option Pth) (ρ : Rn) : Rn := fun p => if num p < n then ρ p else (σ p).bind ρ
def LowR (n : Nat) (σ : Pth → Option Pth) (v w : AV) : Prop := ∀ ρ u, VR ρ v u → VR (ren n σ ρ) w u
inductive LowRs (n : Nat) (σ : Pth → Option Pth) : List AV → List AV → Prop
  | nil : LowRs n σ [] []
  | cons {v w : AV} {l m : List AV} : LowR n σ v w → LowRs n σ l m → LowRs n σ (v :: l) (w :: m)
theorem LowRs.ok {n : Nat} {σ : Pth → Option Pth} {ρ : Rn} : ∀ {l m : List AV} {us : List Value}, LowRs n σ l m → VRs ρ l us → VRs (ren n σ ρ) m us
  | _, _, _, .nil, h => by cases h; exact .nil
  | _, _, _, .cons h1 h2, h => by
    cases h with
    | cons h3 h4 => exact .cons (h1 _ _ h3) (h2.ok h4)
theorem LowR.fit {n : Nat} {σ : Pth → Option Pth} {v w x : AV} (h1 : LowR n σ v w) (h2 : Fit w x) : LowR n σ v x := fun ρ u h => h2 _ _ (h1 ρ u h)
theorem LowR.fit' {n : Nat} {σ : Pth → Option Pth} {v w x : AV} (h1 : Fit v w) (h2 : LowR n σ w x) : LowR n σ v x := fun ρ u h => h2 _ _ (h1 ρ u h)
theorem LowR.pure {n : Nat} {σ : Pth → Option Pth} {v : AV} (h : pureX v = true) : LowR n σ v v := fun _ _ hv => pureX_vr h hv
theorem LowRs.pure {n : Nat} {σ : Pth → Option Pth} : ∀ {l : List AV}, (∀ v ∈ l, pureX v = true) → LowRs n σ l l
  | [], _ => .nil
  | v :: l, h => .cons (.pure (h v (List.mem_cons_self ..))) (LowRs.pure fun w hw => h w (List.mem_cons_of_mem _ hw))
theorem ren_old {n : Nat} {σ : Pth → Option Pth} {ρ : Rn} {b : Pth} {lo : Lo} (hb : num b < n) (h : ρ b = some lo) : ren n σ ρ b = some lo := by unfold ren; rw [if_pos hb]; exact h
theorem ren_new {n : Nat} {σ : Pth → Option Pth} {ρ : Rn} {b b' : Pth} {lo : Lo} (hb : n ≤ num b') (hs : σ b' = some b) (h : ρ b = some lo) : ren n σ ρ b' = some lo := by unfold ren; rw [if_neg (by omega), hs]; exact h
theorem LowR.ptr {n : Nat} {σ : Pth → Option Pth} {b : Pth} {o : Nat} (hb : num b < n) : LowR n σ (.P b o) (.P b o) := fun ρ u hv => by cases hv with | P h => exact .P (ren_old hb h)
theorem LowR.ptrN {n : Nat} {σ : Pth → Option Pth} {b b' : Pth} {o : Nat} (hb : n ≤ num b') (hs : σ b' = some b) : LowR n σ (.P b o) (.P b' o) := fun ρ u hv => by cases hv with | P h => exact .P (ren_new hb hs h)
theorem LowR.ss {n : Nat} {σ : Pth → Option Pth} {b : Pth} {o l : Int} {cq : Option Nat} (hb : num b < n) : LowR n σ (.X (.ss b o l cq)) (.X (.ss b o l cq)) := fun ρ u hv => by cases hv with | ss h h1 h2 h3 h4 => exact .ss (ren_old hb h) h1 h2 h3 h4
theorem LowR.ssN {n : Nat} {σ : Pth → Option Pth} {b b' : Pth} {o l : Int} {cq : Option Nat} (hb : n ≤ num b') (hs : σ b' = some b) : LowR n σ (.X (.ss b o l cq)) (.X (.ss b' o l cq)) := fun ρ u hv => by cases hv with | ss h h1 h2 h3 h4 => exact .ss (ren_new hb hs h) h1 h2 h3 h4
theorem LowR.sl {n : Nat} {σ : Pth → Option Pth} {b : Pth} {o l : Nat} {cp : Cp} (hb : num b < n) : LowR n σ (.S b o l cp) (.S b o l cp) := fun ρ u hv => by cases hv with | S h h1 h2 => exact .S (ren_old hb h) h1 h2
theorem LowR.slN {n : Nat} {σ : Pth → Option Pth} {b b' : Pth} {o l : Nat} {cp : Cp} (hb : n ≤ num b') (hs : σ b' = some b) : LowR n σ (.S b o l cp) (.S b' o l cp) := fun ρ u hv => by cases hv with | S h h1 h2 => exact .S (ren_new hb hs h) h1 h2
theorem LowR.ifc {n t : Nat} {σ : Pth → Option Pth} {v w : AV} (h : LowR n σ v w) : LowR n σ (.X (.ifc t v)) (.X (.ifc t w)) := fun ρ u hv => by cases hv with | ifc h1 => exact .ifc (h _ _ h1)
theorem LowR.agg {n : Nat} {σ : Pth → Option Pth} {l m : List AV} (h : LowRs n σ l m) : LowR n σ (.X (.agg l)) (.X (.agg m)) := fun ρ u hv => by cases hv with | agg h1 => exact .agg (h.ok h1)
/-- A block that there was first, as it is, as it is seen. -/
def chBR (n : Nat) (σ : Pth → Option Pth) (v0 v : Option AB) : Option AB → Prop
  | none => True
  | some B' => match v0, v with
    | some (.cells _ _ s0 _), some (.cells T m s cs) => ∃ s' cs', B' = .cells T m s' cs' ∧ LowRs n σ cs cs' ∧ (s' = s ∨ s0 < s')
    | _, _ => False
def chTR (n : Nat) (σ : Pth → Option Pth) (t0 t : PT AB) : PT AB → Prop
  | .nil => True
  | .node v' l' r' => chBR n σ (topT t0) (topT t) v' ∧ chTR n σ (leftT t0) (leftT t) l' ∧ chTR n σ (rightT t0) (rightT t) r'
theorem chTR_get {n : Nat} {σ : Pth → Option Pth} : ∀ {t' t0 t : PT AB}, chTR n σ t0 t t' → ∀ {b : Pth} {B' : AB}, getT t' b = some B' →
    ∃ T0 m0 s0 cs0 T m s cs s' cs', getT t0 b = some (.cells T0 m0 s0 cs0) ∧ getT t b = some (.cells T m s cs) ∧ B' = .cells T m s' cs' ∧ LowRs n σ cs cs' ∧ (s' = s ∨ s0 < s')
  | .nil, t0, t, _, b, B', h => by rw [getT_nil] at h; cases h
  | .node v' l' r', t0, t, ⟨h1, h2, h3⟩, b, B', h => by
    cases b with
    | z =>
      have h : v' = some B' := h
      subst h
      rw [getT_top, getT_top] at h1
      unfold chBR at h1
      dsimp only at h1
      split at h1
      · rename_i e0 e1
        obtain ⟨s', cs', rfl, h5, h6⟩ := h1
        exact ⟨_, _, _, _, _, _, _, _, _, _, e0, e1, rfl, h5, h6⟩
      · exact h1.elim
    | a b => have := chTR_get h2 (b := b) h; rwa [getT_left, getT_left] at this
    | b b => have := chTR_get h3 (b := b) h; rwa [getT_right, getT_right] at this
theorem BR.lowR {n : Nat} {σ : Pth → Option Pth} {ρ : Rn} {h : Heap} {lo : Lo} {T : Nat} {m : Md} {s s' : Nat} {cs cs' : List AV} (hl : LowRs n σ cs cs') (hb : BR ρ h lo (.cells T m s cs)) : BR (ren n σ ρ) h lo (.cells T m s' cs') := by
  cases m with
  | shut => obtain ⟨us, h1, h2⟩ := hb; exact ⟨us, hl.ok h1, h2⟩
  | op sz => obtain ⟨us, rest, h1, h2, h3, h4⟩ := hb; exact ⟨us, rest, hl.ok h1, h2, h3, h4⟩
  | ro => obtain ⟨h0, us, h1, h2⟩ := hb; exact ⟨h0, us, hl.ok h1, h2⟩
theorem heapN_next : ∀ {l : List (Pth × AB)} {n0 : Pth} {t : PT AB}, num (heapN n0 t l).next = num n0 + l.length
  | [], _, _ => rfl
  | x :: l, n0, t => by simp only [heapN, heapN_next, num_succ, List.length_cons]; omega
theorem heapN_get : ∀ {l : List (Pth × AB)} {n0 : Pth} {t : PT AB} {b : Pth} {B : AB}, getT (heapN n0 t l).blocks b = some B → getT t b = some B ∨ (num n0 ≤ num b ∧ num b < num n0 + l.length ∧ ∃ x ∈ l, sig n0 l b = some x.1 ∧ x.2 = B)
  | [], _, _, _, _, h => .inl h
  | x :: l, n0, t, b, B, h => by
    have h : getT (heapN (Pth.succ n0) (setT (some x.2) n0 t) l).blocks b = some B := h
    rcases heapN_get h with h | ⟨h1, h2, y, h3, h4, h5⟩
    · rw [getT_setT] at h
      split at h
      · rename_i he
        cases h
        exact .inr ⟨by rw [he]; omega, by rw [he]; simp, x, List.mem_cons_self .., by rw [sig, if_pos he], rfl⟩
      · exact .inl h
    · rw [num_succ] at h1 h2
      refine .inr ⟨by omega, by simp only [List.length_cons]; omega, y, List.mem_cons_of_mem _ h3, ?_, h5⟩
      rw [sig, if_neg (fun he => by rw [he] at h1; omega)]
      exact h4
theorem sig_some : ∀ {l : List (Pth × AB)} {n0 b p : Pth}, sig n0 l b = some p → num n0 ≤ num b ∧ num b < num n0 + l.length ∧ ∃ x ∈ l, x.1 = p
  | [], _, _, _, h => by cases h
  | x :: l, n0, b, p, h => by
    rw [sig] at h
    split at h
    · rename_i he
      cases h
      exact ⟨by rw [he]; omega, by rw [he]; simp, x, List.mem_cons_self .., rfl⟩
    · obtain ⟨h1, h2, y, h3, h4⟩ := sig_some h
      rw [num_succ] at h1 h2
      exact ⟨by omega, by simp only [List.length_cons]; omega, y, List.mem_cons_of_mem _ h3, h4⟩
theorem sig_inj : ∀ {l : List (Pth × AB)} {n0 b b' p : Pth}, (l.map (·.1)).Nodup → sig n0 l b = some p → sig n0 l b' = some p → b = b'
  | [], _, _, _, _, _, h, _ => by cases h
  | x :: l, n0, b, b', p, hn, h, h' => by
    obtain ⟨hn1, hn2⟩ := List.nodup_cons.1 hn
    rw [sig] at h h'
    split at h <;> split at h'
    · rename_i h1 h2; rw [h1, h2]
    · cases h
      obtain ⟨_, _, y, h3, h4⟩ := sig_some h'
      exact absurd (List.mem_map.2 ⟨y, h3, h4⟩) hn1
    · cases h'
      obtain ⟨_, _, y, h3, h4⟩ := sig_some h
      exact absurd (List.mem_map.2 ⟨y, h3, h4⟩) hn1
    · exact sig_inj hn2 h h'
/-- The blocks are those that there were first, and these that were made since, known by new names; what else there is is forgotten. -/
theorem StW.ren {H0 H H' : AH} {vs vs' : List AV} {t' : PT AB} (news : List (Pth × AB)) (hH : H' = heapN H0.next t' news) (hc : chTR (num H0.next) (sig H0.next news) H0.blocks H.blocks t')
    (hd : (news.map (·.1)).Nodup) (hl : ∀ x ∈ news, num H0.next ≤ num x.1 ∧ ∃ T m s cs s' cs', getT H.blocks x.1 = some (.cells T m s cs) ∧ x.2 = .cells T m s' cs' ∧ LowRs (num H0.next) (sig H0.next news) cs cs') (hv : LowRs (num H0.next) (sig H0.next news) vs vs') : StW P H0 vs H vs' H' := by
  subst hH
  intro ρb Hb hb ρ0 h0 ρ h us hh0 hx0 hh hx hvs
  have hlow : ∀ b lo, ρ0 b = some lo → num b < num H0.next := fun b lo hb => by
    by_cases hlt : num b < num H0.next
    · exact hlt
    · rw [(hh0.new b (by omega)).1] at hb; cases hb
  have hold : ∀ b B', getT t' b = some B' → num b < num H0.next := fun b B' hb => by
    obtain ⟨T0, m0, s0, cs0, _, _, _, _, _, _, h1, _⟩ := chTR_get hc hb
    obtain ⟨lo, h2, _⟩ := hh0.blk b _ h1
    exact hlow b lo h2
  -- each block that is seen: where it is
  have look : ∀ b B', getT (heapN H0.next t' news).blocks b = some B' → ∃ p T m s cs s' cs', getT H.blocks p = some (.cells T m s cs) ∧ B' = .cells T m s' cs' ∧ LowRs (num H0.next) (sig H0.next news) cs cs' ∧ (∀ lo, ρ p = some lo → Ry.ren (num H0.next) (sig H0.next news) ρ b = some lo) ∧ (∀ lo, Ry.ren (num H0.next) (sig H0.next news) ρ b = some lo → ρ p = some lo) ∧
      ((p = b ∧ num b < num H0.next ∧ getT t' b = some B') ∨ (num H0.next ≤ num b ∧ num H0.next ≤ num p ∧ sig H0.next news b = some p)) := by
    intro b B' hb
    rcases heapN_get hb with hb | ⟨h1, h2, x, h3, h4, rfl⟩
    · obtain ⟨T0, m0, s0, cs0, T, m, s, cs, s', cs', k1, k2, rfl, k3, k4⟩ := chTR_get hc hb
      have hlt := hold b _ hb
      exact ⟨b, T, m, s, cs, s', cs', k2, rfl, k3, fun lo hlo => ren_old hlt hlo, fun lo hlo => by unfold Ry.ren at hlo; rwa [if_pos hlt] at hlo, .inl ⟨rfl, hlt, hb⟩⟩
    · obtain ⟨k1, T, m, s, cs, s', cs', k2, k3, k4⟩ := hl x h3
      exact ⟨x.1, T, m, s, cs, s', cs', k2, k3, k4, fun lo hlo => ren_new h1 h4 hlo, fun lo hlo => by unfold Ry.ren at hlo; rwa [if_neg (by omega), h4] at hlo, .inr ⟨h1, k1, h4⟩⟩
  have pinj : ∀ b b' B B', getT (heapN H0.next t' news).blocks b = some B → getT (heapN H0.next t' news).blocks b' = some B' → ∀ p, ((p = b ∧ num b < num H0.next ∧ getT t' b = some B) ∨ (num H0.next ≤ num b ∧ num H0.next ≤ num p ∧ sig H0.next news b = some p)) → ((p = b' ∧ num b' < num H0.next ∧ getT t' b' = some B') ∨ (num H0.next ≤ num b' ∧ num H0.next ≤ num p ∧ sig H0.next news b' = some p)) → b = b' := by
    intro b b' B B' _ _ p h1 h2
    rcases h1 with ⟨rfl, k1, _⟩ | ⟨k1, k2, k3⟩ <;> rcases h2 with ⟨e, j1, _⟩ | ⟨j1, j2, j3⟩
    · exact e
    · omega
    · rw [← e] at j1; omega
    · exact sig_inj hd k3 j3
  have hro : ∀ b B' p T m s cs s' cs', getT (heapN H0.next t' news).blocks b = some B' → getT H.blocks p = some (.cells T m s cs) → B' = .cells T m s' cs' → RoB H p → RoB (heapN H0.next t' news) b := by
    rintro b B' p T m s cs s' cs' h1 h2 rfl ⟨T1, s1, cs1, hr⟩
    rw [hr] at h2; cases h2
    exact ⟨_, _, _, h1⟩
  refine ⟨Ry.ren (num H0.next) (sig H0.next news) ρ, ⟨fun b B' hb => ?_, fun b b' lo lo' h1 h2 h3 h4 h5 => ?_, fun b hb => ?_, fun p hp => ?_⟩, ⟨fun b lo hb => ?_, hx.size, fun g hg hk => ?_, fun b lo T m s cs B' h1 h2 h3 => ?_, fun b lo h1 h2 => ?_, fun b lo h1 h2 h3 => ?_⟩, hv.ok hvs, fun Ds hm => ⟨hm.nd, hm.at_, fun D hD b lo h1 h2 => ?_⟩⟩
  · obtain ⟨p, T, m, s, cs, s', cs', k1, rfl, k3, k4, _, _⟩ := look b B' hb
    obtain ⟨lo, k5, k6⟩ := hh.blk p _ k1
    exact ⟨lo, k4 lo k5, k6.lowR k3⟩
  · obtain ⟨B1, hB1⟩ := Option.isSome_iff_exists.1 h1
    obtain ⟨B2, hB2⟩ := Option.isSome_iff_exists.1 h2
    obtain ⟨p, T, m, s, cs, s', cs', k1, k2, k3, k4, k5, k6⟩ := look b B1 hB1
    obtain ⟨q, T2, m2, s2, cs2, s2', cs2', j1, j2, j3, j4, j5, j6⟩ := look b' B2 hB2
    rcases hh.inj p q lo lo' (by rw [k1]; rfl) (by rw [j1]; rfl) (k5 _ h3) (j5 _ h4) h5 with rfl | ⟨r1, r2⟩
    · exact .inl (pinj b b' B1 B2 hB1 hB2 p k6 j6)
    · exact .inr ⟨hro b B1 p T m s cs s' cs' hB1 k1 k2 r1, hro b' B2 q T2 m2 s2 cs2 s2' cs2' hB2 j1 j2 r2⟩
  · rw [heapN_next] at hb
    constructor
    · unfold Ry.ren
      rw [if_neg (by omega)]
      cases hg : sig H0.next news b with
      | none => rfl
      | some p => have := (sig_some hg).2.1; omega
    · cases hg : getT (heapN H0.next t' news).blocks b with
      | none => rfl
      | some B' =>
        rcases heapN_get hg with h1 | ⟨_, h2, _⟩
        · have := hold b _ h1; omega
        · omega
  · obtain ⟨lo0, h1, _⟩ := hh0.glob p hp
    obtain ⟨lo, h2, h3⟩ := hh.glob p hp
    exact ⟨lo, ren_old (hlow p lo0 h1) h2, h3⟩
  · exact ren_old (hlow b lo (hx0.le b lo hb)) (hx.le b lo hb)
  · refine hx.fr g hg fun b lo h1 h2 h3 => ?_
    rcases hk b lo h1 h2 h3 with hk | hk
    case inr => exact .inr hk
    obtain ⟨T, m, s, cs, T', m', cs', k1, k2⟩ := hk
    have hblt := hlow b lo (hx0.le b lo h2)
    rcases heapN_get k2 with k2 | ⟨h4, _⟩
    case inr => omega
    obtain ⟨T0, m0, s0, cs0, T1, m1, s1, cs1, s', cs'', j1, j2, j3, j4, j5⟩ := chTR_get hc k2
    cases j3
    rcases j5 with rfl | j5
    · exact .inl ⟨_, _, _, _, _, _, _, k1, j2⟩
    · obtain ⟨_, _, s2, _, q1, q2, _⟩ := hx0.mono b lo T m s cs _ h2 k1 j1
      cases q1
      omega
  · have hblt := hlow b lo (hx0.le b lo h1)
    rcases heapN_get h3 with h3 | ⟨h4, _⟩
    case inr => omega
    obtain ⟨T0, m0, s0, cs0, T1, m1, s1, cs1, s', cs'', j1, j2, rfl, j4, j5⟩ := chTR_get hc h3
    obtain ⟨_, _, s3, _, q3, q4, q5⟩ := hx.mono b lo T m s cs _ h1 h2 j2
    cases q3
    refine ⟨_, _, _, _, rfl, ?_, q5⟩
    rcases j5 with rfl | j5
    · exact q4
    · obtain ⟨_, _, s2, _, q1, q2, _⟩ := hx0.mono b lo T m s cs _ h1 h2 j1
      cases q1
      omega
  · obtain ⟨B1, hB1⟩ := Option.isSome_iff_exists.1 h2
    have hblt := hlow b lo (hx0.le b lo h1)
    obtain ⟨p, T, m, s, cs, s', cs', k1, k2, k3, k4, k5, k6⟩ := look b B1 hB1
    rcases k6 with ⟨rfl, _, _⟩ | ⟨k7, _, _⟩
    · exact hx.nores p lo h1 (by rw [k1]; rfl)
    · omega
  · obtain ⟨B1, hB1⟩ := Option.isSome_iff_exists.1 h3
    obtain ⟨p, T, m, s, cs, s', cs', k1, k2, k3, k4, k5, k6⟩ := look b B1 hB1
    have hp : ρb p = none := by
      rcases k6 with ⟨rfl, _, _⟩ | ⟨_, k7, _⟩
      · exact h1
      · cases hq : ρb p with
        | none => rfl
        | some lo' => have := hlow p lo' (hx0.le p lo' hq); omega
    exact hx.newb p lo hp (k5 lo h2) (by rw [k1]; rfl)
  · obtain ⟨B1, hB1⟩ := Option.isSome_iff_exists.1 h1
    obtain ⟨p, T, m, s, cs, s', cs', k1, k2, k3, k4, k5, k6⟩ := look b B1 hB1
    exact hm.free D hD p lo (by rw [k1]; rfl) (k5 lo h2)
/-- A function that is handed no memory and hands none out: what a run of it over an empty heap comes to. -/
theorem pure_ret (hm : P.follows .mixedOrders = true) {hook : Nat → Option (FD R)} (hH : HookOk P hook) {fuel : Fu} (hW : WOk P fuel) {n : Nat} (hn : slOk n = true) (hgn : P.globals.size < n) {depth f : Nat} {vs : List AV} (hp : pureL vs = true) {Q : AV → Prop}
    (h : Tr (call P hook fuel depth [] [] (.fn f) vs ⟨sl n, .nil⟩ (fun v _ => some (.leaf (pureX v = true ∧ Q v)))) tt) {ρ : Rn} {H : AH} {hp' : Heap} {us : List Value} (hh : HR P ρ H hp') (hv : VRs ρ vs us) {k : AV → AH → Option R} (hk : ∀ v, pureX v = true → Q v → ∃ v', Fit v v' ∧ Tr (k v' H) tt) :
    Enters P f ∧ Ret P f us hp' (Out P ρ H hp' k) := by
  have h0 : HR P (rho0 P n []) ⟨sl n, .nil⟩ hp' := hr_init (l := []) hn hgn (fun x hx => by cases hx)
  obtain ⟨h1, h2⟩ := retW_of hm hH hW h h0 (pureL_vrs hp hv)
  refine ⟨h1, h2.mono ?_⟩
  rintro u h' ⟨ρ', v, H', r, k1, k2, k3, k4⟩
  obtain ⟨hpv, hQ⟩ : pureX v = true ∧ Q v := k1
  obtain ⟨v', hf, hr⟩ := hk v hpv hQ
  have hsame : ∀ g, g < hp'.size → h'[g]? = hp'[g]? := fun g hg => k3.fr g hg fun b lo hs _ _ => by
    have hs : (getT (.nil : PT AB) b).isSome = true := hs
    rw [getT_nil] at hs; cases hs
  exact ⟨ρ, v', H, tt, hr, hh.away fun b lo hs hb => by
    obtain ⟨B, hB⟩ := Option.isSome_iff_exists.1 hs
    obtain ⟨lo', g1, g2⟩ := hh.blk b B hB
    rw [hb] at g1; cases g1
    exact hsame _ g2.lt, (Nx.refl _ _ _).away k3.size hsame, hf _ _ (pureX_vr hpv k4)⟩
end Ry
end
end Go.TP
/-! Rzk. -/
namespace Go.TP
open Go
noncomputable section
namespace Ry
/-- A plan: the end; both ways; the first alone; the second alone; behind a need; a round. -/
inductive Sh where
  | e
  | f (x y : Sh)
  | l (x : Sh)
  | r (x : Sh)
  | n (x : Sh)
  | b (x : Sh)
  | a (x y : Sh)
/-- What a plan leaves to show. -/
def obl : Sh → R → Prop
  | .e, t => match t with
    | .leaf p => p
    | _ => False
  | .f x y, t => match t with
    | .fork p a b => (p → obl x a) ∧ (¬ p → obl y b)
    | _ => False
  | .l x, t => match t with
    | .fork p a _ => p ∧ obl x a
    | _ => False
  | .r x, t => match t with
    | .fork p _ b => ¬ p ∧ obl x b
    | _ => False
  | .n x, t => match t with
    | .need p a => p ∧ obl x a
    | _ => False
  | .b x, t => match t with
    | .loop p i a => p ∧ ∀ g, i g → obl x (a g)
    | _ => False
  | .a x y, t => match t with
    | .also a b => obl x a ∧ obl y b
    | _ => False
theorem obl_holds : ∀ {s : Sh} {t : R}, obl s t → holds t
  | .e, .leaf _, h => h
  | .f _ _, .fork _ _ _, ⟨h1, h2⟩ => ⟨fun hp => obl_holds (h1 hp), fun hp => obl_holds (h2 hp)⟩
  | .l _, .fork _ _ _, ⟨hp, h⟩ => ⟨fun _ => obl_holds h, fun hn => absurd hp hn⟩
  | .r _, .fork _ _ _, ⟨hp, h⟩ => ⟨fun hn => absurd hn hp, fun _ => obl_holds h⟩
  | .n _, .need _ _, ⟨hp, h⟩ => ⟨hp, obl_holds h⟩
  | .b _, .loop _ _ _, ⟨hp, h⟩ => ⟨hp, fun g hg => obl_holds (h g hg)⟩
  | .a _ _, .also _ _, ⟨h1, h2⟩ => ⟨obl_holds h1, obl_holds h2⟩
theorem obl_tr {s : Sh} {x : Option R} (h : obl s (ofO x)) : Tr x tt := by
  have := obl_holds h
  rwa [ofO_tr (r := tt)] at this
end Ry
end
end Go.TP
/-! Rzl. -/
namespace Go.TP
open Go
noncomputable section
namespace Ry
variable {P : Program}
/-- What is known of the package's variables; where the blocks of the arguments lie. -/
def rho1 (P : Program) (los : List (Nat × Nat)) : Rn := fun p => if num p ≤ P.globals.size then some ⟨num p, 0, default, [], 0⟩ else match los.lookup (num p) with
  | some g => some ⟨g, 0, default, [], 0⟩
  | none => none
/-- Blocks: by number, where they begin, their cells. -/
def initA : List (Nat × Nat × List AV) → PT AB
  | [] => .nil
  | x :: l => setT (some (.cells x.2.1 .ro 0 x.2.2)) (sl x.1) (initA l)
theorem initA_get : ∀ (l : List (Nat × Nat × List AV)) (b : Pth) (B : AB), getT (initA l) b = some B → ∃ x ∈ l, b = sl x.1 ∧ B = .cells x.2.1 .ro 0 x.2.2
  | [], b, B, h => by simp [initA, getT_nil] at h
  | x :: l, b, B, h => by
    simp only [initA, getT_setT] at h
    split at h
    · rename_i hb
      cases h
      exact ⟨x, List.mem_cons_self .., hb, rfl⟩
    · obtain ⟨y, h1, h2⟩ := initA_get l b B h
      exact ⟨y, List.mem_cons_of_mem _ h1, h2⟩
theorem initA_ro {n : Nat} {l : List (Nat × Nat × List AV)} {b : Pth} (h : (getT (initA l) b).isSome) : RoB ⟨sl n, initA l⟩ b := by
  obtain ⟨B, hB⟩ := Option.isSome_iff_exists.1 h
  obtain ⟨x, h1, h2, rfl⟩ := initA_get l b B hB
  exact ⟨_, _, _, hB⟩
theorem hr_args {n : Nat} {los : List (Nat × Nat)} {l : List (Nat × Nat × List AV)} {h : Heap} (hn : slOk n = true) (hgn : P.globals.size < n) (hlos : ∀ p g, los.lookup p = some g → p < n)
    (hl : ∀ x ∈ l, slOk x.1 = true ∧ ∃ lo, rho1 P los (sl x.1) = some lo ∧ lo.g < h.size ∧ ∃ us, VRs (rho1 P los) x.2.2 us ∧ ∀ j u, us[j]? = some u → cel h lo.g (x.2.1 + j) = some u) : HR P (rho1 P los) ⟨sl n, initA l⟩ h := by
  have hnn : num (sl n) = n := Nat.eq_of_beq_eq_true hn
  have hlow : ∀ b lo, rho1 P los b = some lo → num b < n := fun b lo hb => by
    unfold rho1 at hb
    split at hb
    · omega
    · split at hb
      · rename_i g hg; exact hlos _ _ hg
      · cases hb
  refine ⟨fun b B hb => ?_, fun b b' lo lo' h1 h2 h3 h4 h5 => .inr ⟨initA_ro h1, initA_ro h2⟩, fun b hb => ?_, fun p hp => ⟨_, if_pos hp, rfl⟩⟩
  · obtain ⟨x, h1, rfl, rfl⟩ := initA_get l b B hb
    obtain ⟨g1, lo, g2, g3, us, g4, g5⟩ := hl x h1
    exact ⟨lo, g2, g3, us, g4, g5⟩
  · have hb : n ≤ num b := by have := hb; simp only [hnn] at this; exact this
    refine ⟨?_, ?_⟩
    · cases hg : rho1 P los b with
      | none => rfl
      | some lo => have := hlow b lo hg; omega
    · cases hg : getT (initA l) b with
      | none => rfl
      | some B =>
        obtain ⟨x, h1, rfl, rfl⟩ := initA_get l b B hg
        obtain ⟨_, lo, g2, _⟩ := hl x h1
        have := hlow _ lo g2
        omega
/-- Nothing that there was has turned. -/
theorem same_args {n : Nat} {los : List (Nat × Nat)} {l : List (Nat × Nat × List AV)} {ρ' : Rn} {H' : AH} {h h' : Heap} (hx : Nx (rho1 P los) ⟨sl n, initA l⟩ h ρ' H' h') : ∀ g, g < h.size → h'[g]? = h[g]? :=
  fun g hg => hx.fr g hg fun b lo hs hb hgb => .inr (initA_ro hs)
/-! Numbers in a row. -/
/-- Cells that are numbers that are not looked at. -/
def seqA (k : IntKind) (l : List Int) : List AV := l.map fun n => .X (.si k n)
theorem seqA_get {k : IntKind} {l : List Int} (i : Nat) : (seqA k l)[i]? = (l[i]?).map fun n => .X (.si k n) := by simp [seqA]
theorem seqA_length {k : IntKind} {l : List Int} : (seqA k l).length = l.length := by simp [seqA]
theorem isAt_seqA {k : IntKind} {l : List Int} {o : Int} : isAt (.int k) (seqA k l) o ↔ 0 ≤ o ∧ o < l.length := by
  unfold isAt
  simp only [seqA_get]
  constructor
  · rintro ⟨h0, v, h1, _⟩
    cases hl : l[o.toNat]? with
    | none => rw [hl] at h1; cases h1
    | some n => have := (List.getElem?_eq_some_iff.1 hl).1; omega
  · rintro ⟨h0, h1⟩
    have : o.toNat < l.length := by omega
    exact ⟨h0, _, by rw [List.getElem?_eq_getElem this]; rfl, _, .inr rfl⟩
theorem intAt_seqA {k : IntKind} {l : List Int} {o : Int} : intAt (seqA k l) o = l.getD o.toNat 0 := by
  unfold intAt
  rw [seqA_get, List.getD_eq_getElem?_getD]
  cases l[o.toNat]? <;> rfl
theorem partA_seqA {k : IntKind} {l : List Int} {o n : Int} : partA (seqA k l) o n = seqA k ((l.drop o.toNat).take n.toNat) := by
  simp [partA, seqA]
theorem areI_seqA {k : IntKind} {l : List Int} : areI k (seqA k l) := by
  intro v hv
  obtain ⟨n, _, rfl⟩ := List.mem_map.1 hv
  exact ⟨n, .inr rfl⟩
theorem map_intOf_seqA {k : IntKind} {l : List Int} : (seqA k l).map intOf = l := by
  simp [seqA, intOf, Function.comp_def]
theorem ones_seqA {k : IntKind} : ∀ {l : List Int}, ones (seqA k l) = true
  | [] => rfl
  | _ :: l => ones_seqA (l := l)
theorem seqA_vrs {ρ : Rn} {k : IntKind} : ∀ {l : List Int}, VRs ρ (seqA k l) (l.map (Value.int k))
  | [] => .nil
  | _ :: l => .cons .si (seqA_vrs (l := l))
end Ry
end
end Go.TP
/-! Rzm. -/
namespace Go.TP
open Go
noncomputable section
namespace Ry
variable {P : Program}
/-- A value that speaks of no memory. -/
def Pur (v : AV) : Prop := ∀ ρ ρ' u, VR ρ v u → VR ρ' v u
theorem Pur.x {v : AV} (h : pureX v = true) : Pur v := fun _ _ _ hv => pureX_vr h hv
inductive Purs : List AV → Prop
  | nil : Purs []
  | cons {v : AV} {l : List AV} : Pur v → Purs l → Purs (v :: l)
theorem Purs.ok {ρ ρ' : Rn} : ∀ {l : List AV} {us : List Value}, Purs l → VRs ρ l us → VRs ρ' l us
  | _, _, .nil, h => by cases h; exact .nil
  | _, _, .cons h1 h2, h => by
    cases h with
    | cons h3 h4 => exact .cons (h1 _ _ _ h3) (h2.ok h4)
theorem Pur.tup {l : List AV} (h : Purs l) : Pur (.X (.tup l)) := fun _ _ _ hv => by cases hv with | tup h1 => exact .tup (h.ok h1)
theorem Pur.agg {l : List AV} (h : Purs l) : Pur (.X (.agg l)) := fun _ _ _ hv => by cases hv with | agg h1 => exact .agg (h.ok h1)
theorem Fit.tup {l m : List AV} (h : Fits l m) : Fit (.X (.tup l)) (.X (.tup m)) := fun _ _ hv => by cases hv with | tup h1 => exact .tup (h.ok h1)
theorem Fit.agg {l m : List AV} (h : Fits l m) : Fit (.X (.agg l)) (.X (.agg m)) := fun _ _ hv => by cases hv with | agg h1 => exact .agg (h.ok h1)
theorem Fit.trans {v w x : AV} (h : Fit v w) (h' : Fit w x) : Fit v x := fun ρ u hv => h' ρ u (h ρ u hv)
/-- What a run over an empty heap comes to. -/
theorem pur_ret (hm : P.follows .mixedOrders = true) {hook : Nat → Option (FD R)} (hH : HookOk P hook) {fuel : Fu} (hW : WOk P fuel) {n : Nat} (hn : slOk n = true) (hgn : P.globals.size < n) {depth f : Nat} {vs : List AV} (hp : Purs vs) {Q : AV → Prop}
    (h : Tr (call P hook fuel depth [] [] (.fn f) vs ⟨sl n, .nil⟩ (fun v _ => some (.leaf (Pur v ∧ Q v)))) tt) {ρ : Rn} {H : AH} {hp' : Heap} {us : List Value} (hh : HR P ρ H hp') (hv : VRs ρ vs us) {k : AV → AH → Option R} (hk : ∀ v, Q v → ∃ v', Fit v v' ∧ Tr (k v' H) tt) :
    Enters P f ∧ Ret P f us hp' (Out P ρ H hp' k) := by
  have h0 : HR P (rho0 P n []) ⟨sl n, .nil⟩ hp' := hr_init (l := []) hn hgn (fun x hx => by cases hx)
  obtain ⟨h1, h2⟩ := retW_of hm hH hW h h0 (hp.ok hv)
  refine ⟨h1, h2.mono ?_⟩
  rintro u h' ⟨ρ', v, H', r, k1, k2, k3, k4⟩
  obtain ⟨hpv, hQ⟩ : Pur v ∧ Q v := k1
  obtain ⟨v', hf, hr⟩ := hk v hQ
  have hsame : ∀ g, g < hp'.size → h'[g]? = hp'[g]? := fun g hg => k3.fr g hg fun b lo hs _ _ => by
    have hs : (getT (.nil : PT AB) b).isSome = true := hs
    rw [getT_nil] at hs; cases hs
  exact ⟨ρ, v', H, tt, hr, hh.away fun b lo hs hb => by
    obtain ⟨B, hB⟩ := Option.isSome_iff_exists.1 hs
    obtain ⟨lo', g1, g2⟩ := hh.blk b B hB
    rw [hb] at g1; cases g1
    exact hsame _ g2.lt, (Nx.refl _ _ _).away k3.size hsame, hf _ _ (hpv _ _ _ k4)⟩
/-- The numbers that a slice shows. -/
def asL (k : IntKind) (H : AH) (v : AV) (κ : List Int → Option R) : Option R := match v with
  | .X .nils => κ []
  | .X .slz => κ []
  | .S _ _ 0 _ => κ []
  | .S b o (n + 1) _ => blk H b fun B => cellsB B fun T m _ cs => need (0 ≤ relO m T o ∧ relO m T o + ((n + 1 : Nat) : Int) ≤ cs.length ∧ areI k (partA cs (relO m T o) ((n + 1 : Nat) : Int))) (κ ((partA cs (relO m T o) ((n + 1 : Nat) : Int)).map intOf))
  | .X (.ss b o n _) => blk H b fun B => cellsB B fun T m _ cs => need (0 < n ∧ 0 ≤ relO m T o ∧ relO m T o + n ≤ cs.length ∧ areI k (partA cs (relO m T o) n)) (κ ((partA cs (relO m T o) n).map intOf))
  | _ => none
/-- Of such a slice: nothing is in it, or it lies somewhere and shows these numbers. -/
theorem asL_some {k : IntKind} {H : AH} {v : AV} {κ : List Int → Option R} {r : R} (h : Tr (asL k H v κ) r) : ∃ l, Tr (κ l) r ∧ ∀ ρ h u, HR P ρ H h → VR ρ v u →
    (l = [] ∧ ∃ A c, u = .slice A 0 c ∧ (A = none → c = 0) ∧ (∀ a, A = some a → a.spot = none)) ∨ (0 < l.length ∧ ∃ g o c, g < h.size ∧ l.length ≤ c ∧ u = .slice (some ⟨g, o, none⟩) l.length c ∧ ∀ (j : Nat) (z : Int), l[j]? = some z → cel h g (o + j) = some (.int k z)) := by
  have main : ∀ (b : Pth) (o n : Int), Tr (blk H b fun B => cellsB B fun T m _ cs => need (0 < n ∧ 0 ≤ relO m T o ∧ relO m T o + n ≤ cs.length ∧ areI k (partA cs (relO m T o) n)) (κ ((partA cs (relO m T o) n).map intOf))) r →
      ∃ l : List Int, Tr (κ l) r ∧ 0 < l.length ∧ l.length = n.toNat ∧ ∀ ρ h lo, HR P ρ H h → ρ b = some lo → lo.g < h.size ∧ ∀ (j : Nat) (z : Int), l[j]? = some z → cel h lo.g (o.toNat + j) = some (.int k z) := by
    intro b o n hr
    replace hr := blk_some hr
    obtain ⟨B, hB, hr⟩ := hr
    replace hr := cellsB_some hr
    obtain ⟨T, m, s, cs, rfl, hr⟩ := hr
    obtain ⟨⟨q1, q2, q3, q4⟩, hr⟩ := need_some hr
    rw [relO_eq] at q2 q3 q4 hr
    have hob : (o - (baseN m T : Int)).toNat + baseN m T = o.toNat := by omega
    generalize hrel : o - (baseN m T : Int) = o' at q2 q3 q4 hr hob
    have hlen : ((partA cs o' n).map intOf).length = n.toNat := by simp only [List.length_map, partA, List.length_take, List.length_drop]; omega
    refine ⟨_, hr, by omega, hlen, fun ρ h lo hh hlo => ?_⟩
    obtain ⟨lo', g1, g2⟩ := hh.blk b _ hB
    rw [hlo] at g1; cases g1
    obtain ⟨us, g3, g4⟩ := g2.readB
    refine ⟨g2.lt, fun j z hj => ?_⟩
    have hvs : VRs ρ (partA cs o' n) ((us.drop o'.toNat).take n.toNat) := (g3.drop _).take _
    have hints := areI_vals q4 hvs
    have hu : ((us.drop o'.toNat).take n.toNat)[j]? = some (.int k z) := by rw [hints, List.getElem?_map, hj]; rfl
    rw [List.getElem?_take] at hu
    split at hu
    · rw [List.getElem?_drop] at hu
      have := g4 _ _ hu
      rwa [show baseN m T + (o'.toNat + j) = o.toNat + j by omega] at this
    · cases hu
  unfold asL at h
  split at h
  · exact ⟨_, h, fun ρ hp u hh hv => .inl ⟨rfl, by cases hv; exact ⟨_, _, rfl, fun _ => rfl, fun a h => by cases h⟩⟩⟩
  · exact ⟨_, h, fun ρ hp u hh hv => .inl ⟨rfl, by cases hv; exact ⟨_, _, rfl, fun h => (by cases h), fun a h => by cases h; rfl⟩⟩⟩
  · exact ⟨_, h, fun ρ hp u hh hv => .inl ⟨rfl, by cases hv; exact ⟨_, _, rfl, fun h => (by cases h), fun a h => by cases h; rfl⟩⟩⟩
  · rename_i b o n cp
    have h' : Tr (blk H b fun B => cellsB B fun T m _ cs => need (0 < ((n + 1 : Nat) : Int) ∧ 0 ≤ relO m T (o : Int) ∧ relO m T (o : Int) + ((n + 1 : Nat) : Int) ≤ cs.length ∧ areI k (partA cs (relO m T (o : Int)) ((n + 1 : Nat) : Int))) (κ ((partA cs (relO m T (o : Int)) ((n + 1 : Nat) : Int)).map intOf))) r := by
      replace h := blk_some h
      obtain ⟨B, hB, h⟩ := h
      replace h := cellsB_some h
      obtain ⟨T, m, s, cs, rfl, h⟩ := h
      obtain ⟨⟨q1, q2, q3⟩, h⟩ := need_some h
      have hb : blk H b = fun (k : AB → Option R) => k (.cells T m s cs) := by
        obtain ⟨nx, t⟩ := H
        funext k
        show getK t b k = _
        rw [getK_eq, hB]; rfl
      rw [hb]
      refine ⟨⟨by omega, q1, q2, q3⟩, ?_⟩
      rw [ofO_tr (r := r)]
      exact h
    obtain ⟨l, k1, k2, k3, k4⟩ := main b o _ h'
    refine ⟨l, k1, fun ρ hp u hh hv => .inr ⟨k2, ?_⟩⟩
    cases hv with
    | S h1 h2 h3 =>
      rename_i m lo
      obtain ⟨k5, k6⟩ := k4 ρ hp _ hh h1
      have k3 : l.length = n + 1 := by omega
      exact ⟨lo.g, o, m, k5, by omega, by rw [k3], fun j z hj => by simpa using k6 j z hj⟩
  · rename_i b o n cq
    obtain ⟨l, k1, k2, k3, k4⟩ := main b o n h
    refine ⟨l, k1, fun ρ hp u hh hv => .inr ⟨k2, ?_⟩⟩
    cases hv with
    | ss h1 h2 h3 h4 h5 =>
      rename_i lo og m
      obtain ⟨k5, k6⟩ := k4 ρ hp _ hh h1
      obtain ⟨_, rfl⟩ := h3 (by omega)
      exact ⟨lo.g, o.toNat, m, k5, by omega, by rw [k3], k6⟩
  · cases h
/-- A function that reads a slice of numbers and hands out no memory: what a run of it comes to. -/
theorem read_ret (hm : P.follows .mixedOrders = true) {hook : Nat → Option (FD R)} (hH : HookOk P hook) {fuel : Fu} (hW : WOk P fuel) {n : Nat} (hn : slOk n = true) (hgn : P.globals.size + 1 < n) (hs1 : slOk (P.globals.size + 1) = true) {depth f : Nat} {k : IntKind} {l : List Int} {Q : AV → Prop}
    (h0 : l = [] → Tr (call P hook fuel depth [] [] (.fn f) [.X .nils] ⟨sl n, .nil⟩ (fun v _ => some (.leaf (Pur v ∧ Q v)))) tt ∧ Tr (call P hook fuel depth [] [] (.fn f) [.X .slz] ⟨sl n, .nil⟩ (fun v _ => some (.leaf (Pur v ∧ Q v)))) tt)
    (h : 0 < l.length → ∀ off : Nat, Tr (call P hook fuel depth [] [] (.fn f) [.X (.ss (sl (P.globals.size + 1)) off l.length none)] ⟨sl n, initA [(P.globals.size + 1, off, seqA k l)]⟩ (fun v _ => some (.leaf (Pur v ∧ Q v)))) tt)
    {ρ : Rn} {H : AH} {hp : Heap} {u : Value} (hh : HR P ρ H hp) (hv : (l = [] ∧ ∃ A c, u = .slice A 0 c ∧ (A = none → c = 0) ∧ (∀ a, A = some a → a.spot = none)) ∨ (0 < l.length ∧ ∃ g o c, g < hp.size ∧ l.length ≤ c ∧ u = .slice (some ⟨g, o, none⟩) l.length c ∧ ∀ (j : Nat) (z : Int), l[j]? = some z → cel hp g (o + j) = some (.int k z)))
    {κ : AV → AH → Option R} (hk : ∀ v, Q v → ∃ v', Fit v v' ∧ Tr (κ v' H) tt) : Enters P f ∧ Ret P f [u] hp (Out P ρ H hp κ) := by
  have fin : ∀ {ρ0 : Rn} {H0 : AH}, (∀ b, (getT H0.blocks b).isSome → RoB H0 b) → (Enters P f ∧ Ret P f [u] hp (Out P ρ0 H0 hp (fun v _ => some (.leaf (Pur v ∧ Q v))))) → Enters P f ∧ Ret P f [u] hp (Out P ρ H hp κ) := by
    rintro ρ0 H0 hro ⟨h1, h2⟩
    refine ⟨h1, h2.mono ?_⟩
    rintro u h' ⟨ρ', v, H', r, k1, k2, k3, k4⟩
    obtain ⟨hpv, hQ⟩ : Pur v ∧ Q v := k1
    obtain ⟨v', hf, hr⟩ := hk v hQ
    have hsame : ∀ g, g < hp.size → h'[g]? = hp[g]? := fun g hg => k3.fr g hg fun b lo hs _ _ => .inr (hro b hs)
    exact ⟨ρ, v', H, tt, hr, hh.away fun b lo hs hb => by
      obtain ⟨B, hB⟩ := Option.isSome_iff_exists.1 hs
      obtain ⟨lo', g1, g2⟩ := hh.blk b B hB
      rw [hb] at g1; cases g1
      exact hsame _ g2.lt, (Nx.refl _ _ _).away k3.size hsame, hf _ _ (hpv _ _ _ k4)⟩
  have hnil : ∀ b, (getT (.nil : PT AB) b).isSome → RoB ⟨sl n, .nil⟩ b := fun b hs => by rw [getT_nil] at hs; cases hs
  rcases hv with ⟨hl, A, c, rfl, hA, hA2⟩ | ⟨hl, g, o, c, hg, hle, rfl, hc⟩
  · obtain ⟨k1, k2⟩ := h0 hl
    have hr : HR P (rho0 P n []) ⟨sl n, .nil⟩ hp := hr_init (l := []) hn (by omega) (fun x hx => by cases hx)
    cases A with
    | none => obtain rfl := hA rfl; exact fin hnil (retW_of hm hH hW k1 hr (.cons .nils .nil))
    | some a =>
      obtain ⟨b, o, sp⟩ := a
      obtain rfl := hA2 _ rfl
      exact fin hnil (retW_of hm hH hW k2 hr (.cons .slz .nil))
  · have hsl : num (sl (P.globals.size + 1)) = P.globals.size + 1 := Nat.eq_of_beq_eq_true hs1
    have hρ : rho1 P [(P.globals.size + 1, g)] (sl (P.globals.size + 1)) = some ⟨g, 0, default, [], 0⟩ := by
      unfold rho1
      rw [hsl, if_neg (by omega)]
      simp [List.lookup]
    have hr : HR P (rho1 P [(P.globals.size + 1, g)]) ⟨sl n, initA [(P.globals.size + 1, o, seqA k l)]⟩ hp := by
      refine hr_args hn (by omega) (fun p g' hp => ?_) fun x hx => ?_
      · simp only [List.lookup] at hp
        split at hp
        · rename_i he; have := eq_of_beq he; omega
        · cases hp
      · obtain rfl := List.mem_singleton.1 hx
        refine ⟨hs1, _, hρ, hg, _, seqA_vrs, fun j u hu => ?_⟩
        rw [List.getElem?_map] at hu
        cases hj : l[j]? with
        | none => rw [hj] at hu; cases hu
        | some z => rw [hj] at hu; cases hu; exact hc j z hj
    refine fin (fun b hs => initA_ro hs) (retW_of hm hH hW (h hl o) hr (.cons ?_ .nil))
    have := VR.ss (ρ := rho1 P [(P.globals.size + 1, g)]) (b := sl (P.globals.size + 1)) (o := (o : Int)) (n := (l.length : Int)) (cq := none) (lo := ⟨g, 0, default, [], 0⟩) (og := o) (m := c) hρ (by omega) (fun _ => ⟨by omega, by simp⟩) (fun q hq => by cases hq) (by simpa using hle)
    simpa using this
end Ry
end
end Go.TP
/-! Rzn. -/
namespace Go.TP
open Go
noncomputable section
namespace Ry
variable {P : Program}
/-! New blocks: known by new names, beside what was known. -/
def renF (n : Nat) (σ : Pth → Option Pth) (ρ0 ρ : Rn) : Rn := fun p => if num p < n then ρ0 p else (σ p).bind ρ
def LowF (n0 : Pth) (news : List (Pth × AB)) (v w : AV) : Prop := ∀ ρ0 ρ u, VR ρ v u → VR (renF (num n0) (sig n0 news) ρ0 ρ) w u
inductive LowFs (n0 : Pth) (news : List (Pth × AB)) : List AV → List AV → Prop
  | nil : LowFs n0 news [] []
  | cons {v w : AV} {l m : List AV} : LowF n0 news v w → LowFs n0 news l m → LowFs n0 news (v :: l) (w :: m)
theorem LowFs.ok {n0 : Pth} {news : List (Pth × AB)} {ρ0 ρ : Rn} : ∀ {l m : List AV} {us : List Value}, LowFs n0 news l m → VRs ρ l us → VRs (renF (num n0) (sig n0 news) ρ0 ρ) m us
  | _, _, _, .nil, h => by cases h; exact .nil
  | _, _, _, .cons h1 h2, h => by
    cases h with
    | cons h3 h4 => exact .cons (h1 _ _ _ h3) (h2.ok h4)
theorem LowF.fit {n0 : Pth} {news : List (Pth × AB)} {v w x : AV} (h1 : LowF n0 news v w) (h2 : Fit w x) : LowF n0 news v x := fun ρ0 ρ u h => h2 _ _ (h1 ρ0 ρ u h)
theorem LowF.fit' {n0 : Pth} {news : List (Pth × AB)} {v w x : AV} (h1 : Fit v w) (h2 : LowF n0 news w x) : LowF n0 news v x := fun ρ0 ρ u h => h2 _ _ _ (h1 _ _ h)
theorem LowF.pur {n0 : Pth} {news : List (Pth × AB)} {v : AV} (h : Pur v) : LowF n0 news v v := fun _ _ _ hv => h _ _ _ hv
theorem LowF.pure {n0 : Pth} {news : List (Pth × AB)} {v : AV} (h : pureX v = true) : LowF n0 news v v := .pur (.x h)
theorem LowFs.pure {n0 : Pth} {news : List (Pth × AB)} : ∀ {l : List AV}, (∀ v ∈ l, pureX v = true) → LowFs n0 news l l
  | [], _ => .nil
  | v :: l, h => .cons (.pure (h v (List.mem_cons_self ..))) (LowFs.pure fun w hw => h w (List.mem_cons_of_mem _ hw))
theorem LowFs.purs {n0 : Pth} {news : List (Pth × AB)} : ∀ {l : List AV}, pureL l = true → LowFs n0 news l l
  | [], _ => .nil
  | v :: l, hp => by
    have hp : Bool.rec (motive := fun _ => Bool) false (pureL l) (pureX v) = true := hp
    cases hx : pureX v with
    | false => rw [hx] at hp; cases hp
    | true => rw [hx] at hp; exact .cons (.pure hx) (LowFs.purs hp)
theorem renF_new {n : Nat} {σ : Pth → Option Pth} {ρ0 ρ : Rn} {b b' : Pth} {lo : Lo} (hb : n ≤ num b') (hs : σ b' = some b) (h : ρ b = some lo) : renF n σ ρ0 ρ b' = some lo := by unfold renF; rw [if_neg (by omega), hs]; exact h
theorem LowF.ptr {n0 : Pth} {news : List (Pth × AB)} {b b' : Pth} {o : Nat} (hb : num n0 ≤ num b') (hs : sig n0 news b' = some b) : LowF n0 news (.P b o) (.P b' o) := fun ρ0 ρ u hv => by cases hv with | P h => exact .P (renF_new hb hs h)
theorem LowF.ss {n0 : Pth} {news : List (Pth × AB)} {b b' : Pth} {o l : Int} {cq : Option Nat} (hb : num n0 ≤ num b') (hs : sig n0 news b' = some b) : LowF n0 news (.X (.ss b o l cq)) (.X (.ss b' o l cq)) := fun ρ0 ρ u hv => by cases hv with | ss h h1 h2 h3 h4 => exact .ss (renF_new hb hs h) h1 h2 h3 h4
theorem LowF.sl {n0 : Pth} {news : List (Pth × AB)} {b b' : Pth} {o l : Nat} {cp : Cp} (hb : num n0 ≤ num b') (hs : sig n0 news b' = some b) : LowF n0 news (.S b o l cp) (.S b' o l cp) := fun ρ0 ρ u hv => by cases hv with | S h h1 h2 => exact .S (renF_new hb hs h) h1 h2
theorem LowF.ifc {n0 : Pth} {news : List (Pth × AB)} {t : Nat} {v w : AV} (h : LowF n0 news v w) : LowF n0 news (.X (.ifc t v)) (.X (.ifc t w)) := fun ρ0 ρ u hv => by cases hv with | ifc h1 => exact .ifc (h _ _ _ h1)
theorem LowF.agg {n0 : Pth} {news : List (Pth × AB)} {l m : List AV} (h : LowFs n0 news l m) : LowF n0 news (.X (.agg l)) (.X (.agg m)) := fun ρ0 ρ u hv => by cases hv with | agg h1 => exact .agg (h.ok h1)
theorem LowF.tup {n0 : Pth} {news : List (Pth × AB)} {l m : List AV} (h : LowFs n0 news l m) : LowF n0 news (.X (.tup l)) (.X (.tup m)) := fun ρ0 ρ u hv => by cases hv with | tup h1 => exact .tup (h.ok h1)
/-- A value and new blocks, wherever these shall be known: V is handed out, Ns are there. -/
def Mad (N : Nat) (v : AV) (H' : AH) (V : Pth → AV) (Ns : Pth → List AB) : Prop := ∀ n0, ∃ news : List (Pth × AB), news.map (·.2) = Ns n0 ∧ (news.map (·.1)).Nodup ∧
  (∀ x ∈ news, N ≤ num x.1 ∧ ∃ T m s cs s' cs', getT H'.blocks x.1 = some (.cells T m s cs) ∧ x.2 = .cells T m s' cs' ∧ LowFs n0 news cs cs') ∧ LowF n0 news v (V n0)
theorem Mad.pur {N : Nat} {v w : AV} {H' : AH} (h : Pur v) (hf : Fit v w) : Mad N v H' (fun _ => w) (fun _ => []) := fun _ => ⟨[], rfl, List.nodup_nil, fun _ hx => (by cases hx), (LowF.pur h).fit hf⟩
/-- Blocks laid behind those that there are. -/
def adds : AH → List AB → AH
  | H, [] => H
  | ⟨n, t⟩, B :: l => adds ⟨Pth.succ n, setT (some B) n t⟩ l
theorem heapN_adds : ∀ {l : List (Pth × AB)} {n0 : Pth} {t : PT AB}, heapN n0 t l = adds ⟨n0, t⟩ (l.map (·.2))
  | [], _, _ => rfl
  | _ :: l, _, _ => heapN_adds (l := l)
theorem heapN_keep : ∀ {l : List (Pth × AB)} {n0 : Pth} {t : PT AB} {b : Pth}, num b < num n0 → getT (heapN n0 t l).blocks b = getT t b
  | [], _, _, _, _ => rfl
  | x :: l, n0, t, b, h => by
    show getT (heapN (Pth.succ n0) (setT (some x.2) n0 t) l).blocks b = _
    rw [heapN_keep (by rw [num_succ]; omega), getT_setT, if_neg (fun he => by rw [he] at h; omega)]
/-- A function that turns nothing that there is, and what it makes. -/
theorem made_fin {ρ0 ρ : Rn} {H0 H : AH} {hp : Heap} {f : Nat} {us : List Value} {Q : AV → AH → Prop} {κ : AV → AH → Option R}
    (hro : ∀ b, (getT H0.blocks b).isSome → RoB H0 b) (h0 : HR P ρ0 H0 hp) (h : Enters P f ∧ Ret P f us hp (Out P ρ0 H0 hp (fun v H' => some (.leaf (Q v H'))))) (hh : HR P ρ H hp)
    (hk : ∀ v H', Q v H' → ∃ V Ns, Mad (num H0.next) v H' V Ns ∧ Tr (κ (V H.next) (adds H (Ns H.next))) tt) : Enters P f ∧ Ret P f us hp (Out P ρ H hp κ) := by
  refine ⟨h.1, h.2.mono ?_⟩
  rintro u h' ⟨ρ', v, H', r, k1, k2, k3, k4⟩
  obtain ⟨V, Ns, hm, hr⟩ := hk v H' k1
  obtain ⟨news, e1, hd, hl, hv⟩ := hm H.next
  have hsame : ∀ g, g < hp.size → h'[g]? = hp[g]? := fun g hg => k3.fr g hg fun b lo hs _ _ => .inr (hro b hs)
  have hH : adds H (Ns H.next) = heapN H.next H.blocks news := by rw [heapN_adds, e1]
  have hlow : ∀ b lo, ρ b = some lo → num b < num H.next := fun b lo hb => by
    by_cases hlt : num b < num H.next
    · exact hlt
    · rw [(hh.new b (by omega)).1] at hb; cases hb
  have hblow : ∀ b B, getT H.blocks b = some B → num b < num H.next := fun b B hb => let ⟨lo, h1, _⟩ := hh.blk b B hb; hlow b lo h1
  have hle : Le ρ (renF (num H.next) (sig H.next news) ρ ρ') := fun b lo hb => by unfold renF; rwa [if_pos (hlow b lo hb)]
  have hold : ∀ b lo, num b < num H.next → renF (num H.next) (sig H.next news) ρ ρ' b = some lo → ρ b = some lo := fun b lo hlt hb => by unfold renF at hb; rwa [if_pos hlt] at hb
  -- a new block lies where nothing was
  have hfresh : ∀ x ∈ news, ∀ lo, ρ' x.1 = some lo → hp.size ≤ lo.g := fun x hx lo hlo => by
    obtain ⟨q1, T, m, s, cs, s', cs', q2, _, _⟩ := hl x hx
    rcases k3.newb x.1 lo (h0.new x.1 q1).1 hlo (by rw [q2]; rfl) with q | ⟨b0, lo0, j1, j2, j3, j4⟩
    · exact q
    · exact absurd (hro b0 j1) j4
  have look : ∀ b B, getT (heapN H.next H.blocks news).blocks b = some B → (num b < num H.next ∧ getT H.blocks b = some B) ∨ (num H.next ≤ num b ∧ ∃ x ∈ news, sig H.next news b = some x.1 ∧ x.2 = B) := fun b B hb => by
    rcases heapN_get hb with h1 | ⟨h1, h2, x, h3, h4, h5⟩
    · exact .inl ⟨hblow b B h1, h1⟩
    · exact .inr ⟨h1, x, h3, h4, h5⟩
  have rnew : ∀ b lo, num H.next ≤ num b → renF (num H.next) (sig H.next news) ρ ρ' b = some lo → ∃ p, sig H.next news b = some p ∧ ρ' p = some lo := fun b lo hge hb => by
    unfold renF at hb
    rw [if_neg (by omega)] at hb
    cases hs : sig H.next news b with
    | none => rw [hs] at hb; cases hb
    | some p => rw [hs] at hb; exact ⟨p, rfl, hb⟩
  refine ⟨renF (num H.next) (sig H.next news) ρ ρ', V H.next, adds H (Ns H.next), tt, hr, ?_, ?_, hv _ _ _ k4⟩
  · rw [hH]
    refine ⟨fun b B hb => ?_, fun b b' lo lo' h1 h2 h3 h4 h5 => ?_, fun b hb => ?_, fun p hp => ?_⟩
    · rcases look b B hb with ⟨hlt, h1⟩ | ⟨hge, x, hx, h1, rfl⟩
      · obtain ⟨lo, g1, g2⟩ := hh.blk b B h1
        exact ⟨lo, hle _ _ g1, (g2.same (hsame _ g2.lt)).mono hle⟩
      · obtain ⟨q1, T, m, s, cs, s', cs', q2, q3, q4⟩ := hl x hx
        obtain ⟨lo, g1, g2⟩ := k2.blk x.1 _ q2
        refine ⟨lo, renF_new hge h1 g1, ?_⟩
        rw [q3]
        cases m with
        | shut => obtain ⟨us, h1, h2⟩ := g2; exact ⟨us, q4.ok h1, h2⟩
        | op sz => obtain ⟨us, rest, h1, h2, h3, h4⟩ := g2; exact ⟨us, rest, q4.ok h1, h2, h3, h4⟩
        | ro => obtain ⟨g0, us, h1, h2⟩ := g2; exact ⟨g0, us, q4.ok h1, h2⟩
    · obtain ⟨B1, hB1⟩ := Option.isSome_iff_exists.1 h1
      obtain ⟨B2, hB2⟩ := Option.isSome_iff_exists.1 h2
      rcases look b B1 hB1 with ⟨l1, i1⟩ | ⟨l1, x, hx, i1, i2⟩ <;> rcases look b' B2 hB2 with ⟨l2, j1⟩ | ⟨l2, y, hy, j1, j2⟩
      · refine (hh.inj b b' lo lo' (by rw [i1]; rfl) (by rw [j1]; rfl) (hold _ _ l1 h3) (hold _ _ l2 h4) h5).imp id fun ⟨⟨T, s, cs, r1⟩, ⟨T', s', cs', r2⟩⟩ => ⟨⟨T, s, cs, by rw [heapN_keep l1]; exact r1⟩, ⟨T', s', cs', by rw [heapN_keep l2]; exact r2⟩⟩
      · obtain ⟨p, g1, g2⟩ := rnew b' lo' l2 h4
        rw [j1] at g1; cases g1
        have := hfresh y hy lo' g2
        obtain ⟨lo1, g3, g4⟩ := hh.blk b _ i1
        rw [hold _ _ l1 h3] at g3; cases g3
        have := g4.lt
        omega
      · obtain ⟨p, g1, g2⟩ := rnew b lo l1 h3
        rw [i1] at g1; cases g1
        have := hfresh x hx lo g2
        obtain ⟨lo1, g3, g4⟩ := hh.blk b' _ j1
        rw [hold _ _ l2 h4] at g3; cases g3
        have := g4.lt
        omega
      · obtain ⟨p, g1, g2⟩ := rnew b lo l1 h3
        rw [i1] at g1; cases g1
        obtain ⟨p', g3, g4⟩ := rnew b' lo' l2 h4
        rw [j1] at g3; cases g3
        obtain ⟨_, T, m, s, cs, s', cs', q2, q3, _⟩ := hl x hx
        obtain ⟨_, T2, m2, s2, cs2, s2', cs2', w2, w3, _⟩ := hl y hy
        rcases k2.inj x.1 y.1 lo lo' (by rw [q2]; rfl) (by rw [w2]; rfl) g2 g4 h5 with he | ⟨⟨T3, s3, cs3, r1⟩, ⟨T4, s4, cs4, r2⟩⟩
        · exact .inl (sig_inj hd i1 (by rw [j1, he]))
        · rw [r1] at q2; cases q2
          rw [r2] at w2; cases w2
          subst i2 j2
          rw [q3] at hB1; rw [w3] at hB2
          exact .inr ⟨⟨_, _, _, hB1⟩, ⟨_, _, _, hB2⟩⟩
    · rw [heapN_next] at hb
      constructor
      · unfold renF
        rw [if_neg (by omega)]
        cases hg : sig H.next news b with
        | none => rfl
        | some p => have := (sig_some hg).2.1; omega
      · cases hg : getT (heapN H.next H.blocks news).blocks b with
        | none => rfl
        | some B =>
          rcases heapN_get hg with h1 | ⟨_, h2, _⟩
          · have := hblow b _ h1; omega
          · omega
    · obtain ⟨lo, h1, h2⟩ := hh.glob p hp
      exact ⟨lo, hle _ _ h1, h2⟩
  · rw [hH]
    refine ⟨hle, k3.size, fun g hg _ => hsame g hg, fun b lo T m s cs B' h1 h2 h3 => ?_, fun b lo h1 h2 => ?_, fun b lo h1 h2 h3 => ?_⟩
    · rw [heapN_keep (hlow b lo h1), h2] at h3
      cases h3
      exact ⟨_, _, _, _, rfl, Nat.le_refl _, Iff.rfl⟩
    · rwa [heapN_keep (hlow b lo h1)] at h2
    · by_cases hlt : num b < num H.next
      · rw [hold b lo hlt h2] at h1; cases h1
      · obtain ⟨p, g1, g2⟩ := rnew b lo (by omega) h2
        obtain ⟨_, _, x, hx, rfl⟩ := sig_some g1
        exact .inl (hfresh x hx lo g2)
end Ry
end
end Go.TP
