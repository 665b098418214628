/- Ry is sound, part 14: regions that draw their order. -/
import Derived.Test.YtnmdbemccdhdmaaGreatDoorRzd
namespace Go.TP
open Go
namespace Ry
variable {P : Program} {R : Type} {ops : Array Oper}
def MsOk (ops : Array Oper) (ms : List (Nat × Nat)) : Prop := ∀ j m, (j, m) ∈ ms → ∀ k, Nat.testBit m k = true → Anc ops k j
theorem find_bit {ms : List (Nat × Nat)} (hm : MsOk ops ms) {i k : Nat} (h : Nat.testBit (maskOf.find i ms) k = true) : Anc ops k i := by
  induction ms with
  | nil => simp [maskOf.find] at h
  | cons p ms ih =>
    obtain ⟨j, m⟩ := p
    simp only [maskOf.find] at h
    split at h
    · rename_i hb
      have := Nat.eq_of_beq_eq_true hb
      subst this
      exact hm j m (List.mem_cons_self ..) k h
    · exact ih (fun j m hj => hm j m (List.mem_cons_of_mem _ hj)) h
theorem maskOf_bit {ms : List (Nat × Nat)} (hm : MsOk ops ms) : ∀ {l : List Edge} {k : Nat}, Nat.testBit (maskOf ms l) k = true → ∃ e ∈ l, Region.binds .any e = true ∧ (k = e.on ∨ Anc ops k e.on)
  | [], k, h => by simp [maskOf] at h
  | e :: l, k, h => by
    unfold maskOf at h
    split at h
    · rename_i hb
      change Nat.testBit (((1 <<< e.on) ||| maskOf.find e.on ms) ||| maskOf ms l) k = true at h
      rw [Nat.testBit_or, Nat.testBit_or, Bool.or_eq_true, Bool.or_eq_true] at h
      rcases h with (h | h) | h
      · refine ⟨e, List.mem_cons_self .., hb, .inl ?_⟩
        rw [Nat.shiftLeft_eq, Nat.one_mul, Nat.testBit_two_pow] at h
        simpa [eq_comm] using h
      · exact ⟨e, List.mem_cons_self .., hb, .inr (find_bit hm h)⟩
      · obtain ⟨e', h1, h2⟩ := maskOf_bit hm h
        exact ⟨e', List.mem_cons_of_mem _ h1, h2⟩
    · obtain ⟨e', h1, h2⟩ := maskOf_bit hm h
      exact ⟨e', List.mem_cons_of_mem _ h1, h2⟩
theorem maskAt_bit {ms : List (Nat × Nat)} (hm : MsOk ops ms) {i k : Nat} (h : Nat.testBit (maskAt ops ms i) k = true) : Anc ops k i := by
  unfold maskAt at h
  split at h
  · rename_i o ho
    obtain ⟨e, h1, h2, h3⟩ := maskOf_bit hm h
    have h1 : e ∈ o.after := by simpa using h1
    rcases h3 with rfl | h3
    · exact .one ho h1 h2
    · exact .step h3 ho h1 h2
  · simp at h
theorem MsOk.next {ms : List (Nat × Nat)} (hm : MsOk ops ms) (s : Stp) : MsOk ops (msOf ops ms s) := by
  have h : ∀ i, MsOk ops ((i, maskAt ops ms i) :: ms) := by
    intro i j m hj k hk
    rcases List.mem_cons.1 hj with h | h
    · cases h; exact maskAt_bit hm hk
    · exact hm j m h k hk
  cases s with
  | pre _ => exact hm
  | take i => exact h i
  | eff i => exact h i
  | new i => exact h i
theorem chkLg_some {mask : Nat} {H : AH} : ∀ {lg : Lg} {k : Lg → Option R} {r : R}, chkLg mask H lg k = some r → ∃ lg', k lg' = some r ∧ (∀ x ∈ lg, Nat.testBit mask x.1 = false → x ∈ lg' ∧ ∃ T m cs, getT H.blocks x.2.1 = some (.cells T m x.2.2 cs))
  | [], k, r, h => ⟨[], h, fun x hx => by cases hx⟩
  | p :: lg, k, r, h => by
    have h : (Bool.rec (motive := fun _ => Option R) (blk H p.2.1 fun B => cellsB B fun _ _ st _ => ifK (Nat.beq p.2.2 st) (chkLg mask H lg fun lg => k (p :: lg)) none) (chkLg mask H lg k) (Nat.testBit mask p.1)) = some r := h
    cases hb : Nat.testBit mask p.1 with
    | true =>
      rw [hb] at h
      obtain ⟨lg', h1, h2⟩ := chkLg_some h
      refine ⟨lg', h1, fun x hx hf => ?_⟩
      rcases List.mem_cons.1 hx with rfl | hx
      · rw [hb] at hf; cases hf
      · exact h2 x hx hf
    | false =>
      rw [hb] at h
      replace h := blk_some h
      obtain ⟨B, hB, h⟩ := h
      replace h := cellsB_some h
      obtain ⟨T, m, st, cs, rfl, h⟩ := h
      rw [ifK_eq] at h
      split at h
      · rename_i he
        have he := Nat.eq_of_beq_eq_true he
        obtain ⟨lg', h1, h2⟩ := chkLg_some h
        refine ⟨p :: lg', h1, fun x hx hf => ?_⟩
        rcases List.mem_cons.1 hx with rfl | hx
        · exact ⟨List.mem_cons_self .., T, m, cs, by rw [he]; exact hB⟩
        · obtain ⟨h3, h4⟩ := h2 x hx hf
          exact ⟨List.mem_cons_of_mem _ h3, h4⟩
      · cases h
/-- The real log: which operation has read, which block, what it was. -/
abbrev Lr := List (Nat × Nat × Obj)
def Phi (ops : Array Oper) (lr : Lr) (L : Array Bool) (h : Heap) : Prop := ∀ x ∈ lr, Needs ops L x.1 → h[x.2.1]? = some x.2.2
def LgR (ops : Array Oper) (L : Array Bool) (lg : Lg) (lr : Lr) (ρ : Rn) (H : AH) (h : Heap) : Prop :=
  ∀ x ∈ lr, Needs ops L x.1 → h[x.2.1]? = some x.2.2 ∧ ∃ b st lo, (x.1, b, st) ∈ lg ∧ ρ b = some lo ∧ lo.g = x.2.1 ∧ ∃ T m cs, getT H.blocks b = some (.cells T m st cs)
theorem LgR.phi {L : Array Bool} {lg : Lg} {lr : Lr} {ρ : Rn} {H : AH} {h : Heap} (hl : LgR ops L lg lr ρ H h) : Phi ops lr L h := fun x hx hn => (hl x hx hn).1
/-- Whatever else has been, what isn't needed stays so. -/
theorem Needs.less {L : Array Bool} {i k : Nat} (h : Needs ops (L.setIfInBounds i true) k) : Needs ops L k := fun j o hj hd hl => h j o hj hd (getD_set_true hl)
theorem Needs.data {L : Array Bool} {i k : Nat} {o : Oper} (hi : ops[i]? = some o) (hd : isData o.op = true) (h : Needs ops L k) : Needs ops (L.setIfInBounds i true) k := by
  intro j o' hj hd' hl
  by_cases hij : i = j
  · subst hij
    rw [hi] at hj
    cases hj
    rw [hd] at hd'
    cases hd'
  · rw [getD_set_ne true hij] at hl
    exact h j o' hj hd' hl
theorem Phi.data {L : Array Bool} {i : Nat} {o : Oper} {lr : Lr} {h : Heap} (hi : ops[i]? = some o) (hd : isData o.op = true) (hp : Phi ops lr (L.setIfInBounds i true) h) : Phi ops lr L h := fun x hx hn => hp x hx (Needs.data hi hd hn)
/-- Behind an operation that does more than read: what may still be to come has still what it had. -/
theorem LgR.eff {L : Array Bool} {lg lg' : Lg} {lr : Lr} {ρ ρ' : Rn} {H H' : AH} {h h' : Heap} {i mask : Nat} {o : Oper} (hl : LgR ops L lg lr ρ H h) (hh : HR P ρ H h) (hx : Nx ρ H h ρ' H' h') (hi : ops[i]? = some o) (hd : isData o.op = false) (hsz : i < L.size)
    (hm : ∀ k, Nat.testBit mask k = true → Anc ops k i) (hc : ∀ x ∈ lg, Nat.testBit mask x.1 = false → x ∈ lg' ∧ ∃ T m cs, getT H'.blocks x.2.1 = some (.cells T m x.2.2 cs)) : LgR ops (L.setIfInBounds i true) lg' lr ρ' H' h' := by
  intro x hxr hn
  obtain ⟨h1, b, st, lo, h2, h3, h4, T, m, cs, h5⟩ := hl x hxr (Needs.less hn)
  have hbit : Nat.testBit mask x.1 = false := by
    cases hb : Nat.testBit mask x.1 with
    | false => rfl
    | true => exact absurd (hm x.1 hb) (hn i o hi hd (by simp [Array.getD_eq_getD_getElem?, hsz]))
  obtain ⟨k1, T', m', cs', k2⟩ := hc _ h2 hbit
  refine ⟨?_, b, st, lo, k1, hx.le _ _ h3, h4, T', m', cs', k2⟩
  rw [← h1]
  have hlt : x.2.1 < h.size := (Array.getElem?_eq_some_iff.1 h1).1
  refine hx.fr x.2.1 hlt fun b' lo' hs hb' hg' => ?_
  have : b' = b := hh.inj b' b lo' lo hs (by rw [h5]; rfl) hb' h3 (by rw [hg', h4])
  subst this
  exact ⟨T, m, st, cs, T', m', cs', h5, k2⟩
/-! An allocation that is pending. -/
def AgreeOn (E : Env) (xs : List Operand) (σ : Operand → Value) : Prop := ∀ x ∈ xs, ∀ u, ev E x = some u → σ x = u
/-- Operation o makes a block of these cells, whenever it comes; val: its value. -/
structure PRun (P : Program) (ρ : Rn) (E : Env) (o : Oper) (T : Nat) (mk : Pth → AV) (pc : List AV) (news : List Value) (val : Nat → Value) : Prop where
  cells : VRs ρ pc news
  run : ∀ σ, AgreeOn E o.op.operands.toList σ → ∀ w : World, (execOp σ { o with guard := none }).run P w = .ok (.value (val w.heap.size)) { w with heap := w.heap.push (.cells news.toArray T) }
  val : ∀ (ρ' : Rn) (b : Pth) (lo : Lo), ρ' b = some lo → VR ρ' (mk b) (val lo.g)
  quiet : ∀ (σ : Operand → Value) (w : World), ({ o with guard := none } : Oper).about P w σ = none
  nodefer : ∀ c, o.op ≠ .defer c
theorem AgreeOn.put {E : Env} {xs : List Operand} {σ : Operand → Value} {d : Option Nat} {v : Value} (h : AgreeOn (putE d v E) xs σ) (hd : ∀ x ∈ xs, ∀ t, x = .tmp t → d ≠ some t) : AgreeOn E xs σ := by
  intro x hx u hu
  refine h x hx u ?_
  cases d with
  | none => exact hu
  | some d =>
    cases x with
    | tmp t =>
      have hne : ¬ d = t := fun he => hd _ hx t rfl (by rw [he])
      simp only [putE, ev] at hu ⊢
      rw [look_cons, if_neg hne]
      exact hu
    | _ => exact hu
theorem PRun.put {ρ ρ' : Rn} {E : Env} {o : Oper} {T : Nat} {mk : Pth → AV} {pc : List AV} {news : List Value} {val : Nat → Value} (h : PRun P ρ E o T mk pc news val) (hl : Le ρ ρ') {d : Option Nat} {v : Value} (hd : ∀ x ∈ o.op.operands.toList, ∀ t, x = .tmp t → d ≠ some t) : PRun P ρ' (putE d v E) o T mk pc news val :=
  ⟨h.cells.mono hl, fun σ hA w => h.run σ (hA.put hd) w, h.val, h.quiet, h.nodefer⟩
theorem PRun.ef {ρ : Rn} {E : Env} {dst : Option Tmp} {op : Op} {ty : TypeId} {pos : String} {aft : Array Edge} {g : Option (Nat × Bool)} {T : Nat} {mk : Pth → AV} {pc : List AV} {news : List Value} {val : Nat → Value} (h : PRun P ρ E ⟨dst, op, ty, pos, aft, g⟩ T mk pc news val) (rd : Option Nat) (hp : Heap) :
    Ef P rd E hp ⟨dst, op, ty, pos, aft, none⟩ (fun u h' => u = val hp.size ∧ h' = hp.push (.cells news.toArray T)) := by
  refine ef_of_run (fun σ w _ _ => h.quiet σ w) h.nodefer fun σ w hA hw => ?_
  subst hw
  exact ⟨_, _, .inl (h.run σ (fun x _ u hu => hA x u hu) w), ⟨rfl, rfl⟩, rfl, rfl, rfl⟩
theorem newCells_ok {op : Op} {T : Nat} {mk : Pth → AV} {cells : EV → (List AV → Option R) → Option R} (hn : newCells P op = some (T, mk, cells)) {e : EV} {k : List AV → Option R} {r : R} (hr : cells e k = some r) :
    ∃ pc, k pc = some r ∧ ∀ ρ H h E, HR P ρ H h → ER ρ e E → ∀ dst ty pos aft g, ∃ news val, PRun P ρ E ⟨dst, op, ty, pos, aft, g⟩ T mk pc news val := by
  unfold newCells at hn
  split at hn
  · rename_i T'
    split at hn
    · rename_i z hz
      cases hn
      obtain ⟨zv, z1, zs, z2, z3⟩ := zero_cells hz
      refine ⟨_, hr, fun ρ H h E hh he dst ty pos aft g => ⟨zs, fun g => .pointer (some ⟨g, 0, none⟩), z3 ρ, fun σ _ w => ?_, fun ρ' b lo hb => .P hb, fun _ _ => rfl, fun _ hc => by cases hc⟩⟩
      simp [execOp, Instr.alloc, z1, z2, newVar, newRow, newObj, Sem.run, Result.andThen]
    · cases hn
  · rename_i t n ps
    split at hn
    · rename_i T' sz he
      split at hn
      · rename_i z hz
        split at hn
        · rename_i hc
          simp only [Bool.and_eq_true] at hc
          split at hn
          · rename_i l hl
            cases hn
            obtain ⟨cs, h1, h2, h3⟩ := parts_new he hz (Nat.eq_of_beq_eq_true hc.1) hl (show (repK (cellsOf z) n fun cs => partsK l cs e k) = some r from hr)
            refine ⟨cs, h1, fun ρ H h E hh hE dst ty pos aft g => ?_⟩
            obtain ⟨vs, h4, h5⟩ := h3 ρ H h E hh hE
            refine ⟨vs, fun g => .slice (some ⟨g, 0, none⟩) n n, h4, fun σ hA w => ?_, fun ρ' b lo hb => .S hb rfl (Nat.le_refl _), fun _ _ => rfl, fun _ hc => by cases hc⟩
            have := h5 (Nat.le_of_ble_eq_true hc.2) σ (fun q hq u hu => hA q.2 (by
              show q.2 ∈ (Op.buildSlice t n ps).operands.toList
              simp only [Op.operands]
              exact List.mem_map_of_mem hq) u hu) w
            simp only [execOp, Sem.run_bind, this, Result.andThen]
            rfl
          · cases hn
        · cases hn
      · cases hn
    · cases hn
  · cases hn
end Ry
end Go.TP
