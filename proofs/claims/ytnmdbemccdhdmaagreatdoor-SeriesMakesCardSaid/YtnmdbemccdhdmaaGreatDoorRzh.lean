/- Ry is sound, part 14e: ranges over functions: the machine's part; records of loops. -/
import Derived.Test.YtnmdbemccdhdmaaGreatDoorRze4
import Derived.RangeFuncLeaves
import Derived.RangeFuncRecord
namespace Go.TP
open Go
section
variable {P : Program} {K : Kt} {κ : List Item} {e : Env} {h : Heap}
theorem exitTo_none {id : Nat} {κ : List Item} (k : List Item) (hx : exitTo id κ = none) : exitTo id (κ ++ k) = exitTo id k := by
  induction κ with
  | nil => rfl
  | cons x κ ih =>
    cases x <;> simp only [List.cons_append, exitTo] at hx ⊢ <;> first
      | exact ih hx
      | (split at hx
         · cases hx
         · rename_i hh; rw [if_neg hh]; exact ih hx)
/-- A jump that leaves the round. -/
theorem Run.exitOut {id : Nat} (hx : exitTo id κ = none) (hq : ∀ a w, Fits K.n e a → a.defers = K.ds → Wk K h w → K.Q (.exit id) a w) : Run P K (.code (.exit id) :: κ) e h :=
  fun a w hf hd hw _ k _ _ => ⟨.exit id, a, w, hq a w hf hd hw, fun k' hk => .one (fenced_wd _ _ _) (stepR_exit ((exitTo_none k hx).trans hk)), fun _ hk => ⟨κ ++ k, (exitTo_none k hx).trans hk, .refl _⟩⟩
theorem RunA.rangeFunc {Q : Exit → Act → World → Prop} {a : Act} {w : World} {g : Operand} {ps : Array Tmp} {assign body : Code}
    (h : ∀ fn, ∃ (l : Nat) (mark : List Deferred) (w₁ : World) (d : Deferred) (w₁' : World) (f : FuncId) (args : Array Value) (w₂ : World), (Instr.enterLoop fn a.tmps ps assign body none).run P w = .ok (l, mark) w₁ ∧ (resolve a.eval (rangeCall g l) 0).run P w₁ = .ok d w₁' ∧
      (invoke d.target d.args).run P w₁' = .ok (.enter f args) w₂ ∧ CallsIn (Wd none) 0 P f args w₂ (fun en w₃ => ∃ v, en = .returned v ∧ ∃ jump w₄, (Instr.endLoop l).run P w₃ = .ok jump w₄ ∧ RunA P none Q ((jump.map Item.code).toList ++ κ) { a with defers := mark ++ a.defers } w₄)) :
    RunA P none Q (.code (.rangeFunc g ps assign body) :: κ) a w := by
  intro b k cs hb
  obtain ⟨l, mark, w₁, d, w₁', f, args, w₂, he, hres, hinv, hcall⟩ := h b.fn
  rw [← hb] at he
  have henter := stepR_rangeFunc (P := P) (b := b) (a := a) (k := κ ++ k) (cs := cs) (w := w) he hres hinv
  obtain ⟨e, w₃, fr, hR, hsteps, hfn, hleave⟩ := hcall.2 (b.atR { a with defers := mark ++ a.defers } (.inRangeFunc l :: (κ ++ k)) :: cs) (room_wd _ _)
  obtain ⟨v, rfl, jump, w₄, hend, hj⟩ := hR
  have sback : StepsIn (Machine.fenced P (Wd none)) P (lone (b.atR a (.code (.rangeFunc g ps assign body) :: (κ ++ k))) cs w) (lone (b.atR { a with defers := mark ++ a.defers } ((jump.map Item.code).toList ++ (κ ++ k))) cs w₄) := by
    refine .head (fenced_wd _ _ _) henter (StepsIn.trans hsteps (.head (fenced_wd _ _ _) ?_ (.one (fenced_wd _ _ _) (stepR_endRangeFunc hend))))
    rw [← finish_atR_inRangeFunc l v]; exact step_leave_returned hleave
  obtain ⟨x, a2, w5, hq, harr⟩ := hj b k cs hb
  exact ⟨x, a2, w5, hq, .of_steps sback (by rw [List.append_assoc] at harr; exact harr)⟩
end
/-- What a function's body must come to, where ranges over functions stand in it. -/
def KfM (P : Program) (fn : Func) (R : Value → Heap → Prop) (os : Os) (tape : Nat → Question → Nat) (out : Array (Nat × ByteArray)) : Kt :=
  ⟨fn.ntmps, none, os, tape, out, [], bodyPostM (Wd none) 0 P fn fun en w' => ∃ v, en = .returned v ∧ w'.os = os ∧ w'.tape = tape ∧ w'.output = out ∧ R v w'.heap⟩
theorem Ret.enterM {P : Program} {f : FuncId} {fn : Func} {c : Code} {args : List Value} {h : Heap} {R : Value → Heap → Prop} (hf : P.funcs[f]? = some fn) (hb : fn.body = some c)
    (hn : Nat.ble args.length fn.ntmps = true)
    (r : ∀ os tape out, Run P (KfM P fn R os tape out) [.code c] (argEnv 0 args) h) : Ret P f args h R := by
  intro w hw
  refine (callsIn_wide (n := 0)).1 (callsIn_of_wp_marks hf hb trivial ?_ rfl)
  intro b k cs hro _ _
  have hlen : args.length ≤ fn.ntmps := by simpa using hn
  refine r w.os w.tape w.output _ w ⟨?_, fun t v ht => ?_⟩ rfl ⟨hw, rfl, rfl, rfl⟩ b k cs hro
  · show _ = fn.ntmps
    simp; omega
  · obtain ⟨_, h2⟩ := look_argEnv args 0 t v ht
    simp only [Nat.sub_zero] at h2
    obtain ⟨h3, h4⟩ := List.getElem?_eq_some_iff.1 h2
    refine ⟨Nat.lt_of_lt_of_le h3 hlen, ?_⟩
    simp [Array.getD, h3, h4]
    intro hh; omega
namespace Ry
variable {P : Program} {R : Type}
/-- A function leaves: its marks are come to, one by one. -/
theorem leaves_marks {fn : Func} {tmps : Array Value} {R : Ending → World → Prop} : ∀ (Ds : List Nat) (w : World), Ds.Nodup → (∀ D ∈ Ds, w.heap[D]? = some (.deferred (some []))) →
    (∀ w' : World, w'.os = w.os → w'.tape = w.tape → w'.output = w.output → w'.heap.size = w.heap.size → (∀ g, g ∉ Ds → w'.heap[g]? = w.heap[g]?) → ∃ v, (results fn tmps).run P w' = .ok v w' ∧ R (.returned v) w') →
    LeavesInM (Wd none) 0 P fn tmps R (Ds.map mark) .returning w
  | [], w, _, _, h => h w rfl rfl rfl rfl fun _ _ => rfl
  | D :: Ds, w, hnd, hD, h => by
    obtain ⟨hn1, hn2⟩ := List.nodup_cons.1 hnd
    refine ⟨by simp, .inl ⟨D, _, rfl, run_takeDeferred (hD D (List.mem_cons_self ..)), ?_⟩⟩
    refine leaves_marks Ds _ hn2 (fun D' hD' => ?_) fun w' h1 h2 h3 h4 h5 => h w' h1 h2 h3 (by simpa [World.putObj] using h4) fun g hg => ?_
    · rw [World.putObj_heap_other (fun hh => hn1 (by rw [← hh]; exact hD'))]
      exact hD D' (List.mem_cons_of_mem _ hD')
    · rw [h5 g (fun hh => hg (List.mem_cons_of_mem _ hh)), World.putObj_heap_other (fun hh => hg (by rw [hh]; exact List.mem_cons_self ..))]
theorem loopB_some {B : AB} {k : Bool → Option Nat → Option R} {r : R} (h : loopB B k = some r) : ∃ on j, B = .loop on j ∧ k on j = some r := by
  cases B with
  | cells T m s cs => cases h
  | loop on j => exact ⟨on, j, rfl, h⟩
/-- A loop's record. -/
def LR (h : Heap) (lo : Lo) (st : LoopState) (pe : Option Code) : Prop := h[lo.g]? = some (.loop { lo.lp with state := st, pending := pe })
theorem BR.any {ρ : Rn} {h : Heap} {lo : Lo} {on : Bool} {j : Option Nat} (hb : BR ρ h lo (.loop on j)) : ∃ st pe, LR h lo st pe ∧ (on = true → st = .ready ∧ pe = none ∧ j = none) ∧ (∀ n, j = some n → st = .done ∧ ∃ c, Jr lo.ids n c ∧ pe = some c) := by
  cases on with
  | true => cases j with
    | none => exact ⟨_, _, hb, fun _ => ⟨rfl, rfl, rfl⟩, fun n hn => by cases hn⟩
    | some j => exact hb.elim
  | false => cases j with
    | none => exact ⟨_, _, hb, fun hh => (by cases hh), fun n hn => by cases hn⟩
    | some j => obtain ⟨c, h1, h2⟩ := hb; exact ⟨_, _, h2, fun hh => (by cases hh), fun n hn => by cases hn; exact ⟨rfl, c, h1, rfl⟩⟩
section
variable {ρ : Rn} {H : AH} {h : Heap}
/-- A loop's record is turned. -/
theorem hr_loop (hh : HR P ρ H h) {l : Pth} {on on' : Bool} {j j' : Option Nat} {lo : Lo} (hb : getT H.blocks l = some (.loop on j)) (hρ : ρ l = some lo) {ob : Obj} (hB : BR ρ (h.setIfInBounds lo.g ob) lo (.loop on' j')) :
    HR P ρ ⟨H.next, setT (some (.loop on' j')) l H.blocks⟩ (h.setIfInBounds lo.g ob) ∧ Nx ρ H h ρ ⟨H.next, setT (some (.loop on' j')) l H.blocks⟩ (h.setIfInBounds lo.g ob) := by
  have hget : ∀ b, getT (setT (some (AB.loop on' j')) l H.blocks) b = if b = l then some (.loop on' j') else getT H.blocks b := fun b => getT_setT _ _ _ _
  have hoth : ∀ g, g ≠ lo.g → (h.setIfInBounds lo.g ob)[g]? = h[g]? := fun g hg => by rw [Array.getElem?_setIfInBounds_ne (Ne.symm hg)]
  have hsome : ∀ b, (getT (setT (some (AB.loop on' j')) l H.blocks) b).isSome → (getT H.blocks b).isSome := fun b hs => by
    rw [hget] at hs
    by_cases he : b = l
    · rw [he, hb]; rfl
    · rw [if_neg he] at hs; exact hs
  refine ⟨⟨fun b B hB' => ?_, fun b b' l1 l2 h1 h2 h3 h4 h5 => hh.inj b b' l1 l2 (hsome b h1) (hsome b' h2) h3 h4 h5, fun b hn => ?_, hh.glob⟩, ⟨Le.refl _, by simp, fun g hg hk => ?_, fun b l1 T m s cs B' h1 h2 h3 => ?_, fun b l1 h1 h2 => hsome b h2, fun b l1 h1 h2 => by rw [h1] at h2; cases h2⟩⟩
  · rw [hget] at hB'
    by_cases he : b = l
    · rw [if_pos he] at hB'; cases hB'; rw [he]; exact ⟨lo, hρ, hB⟩
    · rw [if_neg he] at hB'
      obtain ⟨l1, h1, h2⟩ := hh.blk b B hB'
      refine ⟨l1, h1, h2.same (hoth _ fun hg => he ?_)⟩
      exact hh.inj b l l1 lo (by rw [hB']; rfl) (by rw [hb]; rfl) h1 hρ hg
  · obtain ⟨k1, k2⟩ := hh.new b hn
    refine ⟨k1, ?_⟩
    rw [hget, if_neg]
    · exact k2
    · intro he; subst he; rw [hb] at k2; cases k2
  · refine hoth g fun hgl => ?_
    obtain ⟨_, _, _, _, _, _, _, k1, _⟩ := hk l lo (by rw [hb]; rfl) hρ hgl.symm
    rw [hb] at k1
    cases k1
  · rw [hget] at h3
    by_cases he : b = l
    · rw [he, hb] at h2; cases h2
    · rw [if_neg he, h2] at h3; cases h3; exact ⟨_, _, _, _, rfl, Nat.le_refl _⟩
end
/-- The slots, with the arguments of a round. -/
def parE : Env → List Nat → List Value → Env
  | E, [], _ => E
  | E, _ :: _, [] => E
  | E, p :: ps, u :: us => parE ((p, u) :: E) ps us
theorem argsAt_ok : ∀ {ts : List (Slot R)} {vs : List AV} {e : EV} {k : EV → Option R} {r : R}, (∀ s ∈ ts, SlotOk s) → argsAt ts vs e k = some r →
    vs.length = ts.length ∧ ∃ e', k e' = some r ∧ ∀ ρ E us, ER ρ e E → VRs ρ vs us → ER ρ e' (parE E (ts.map Slot.p) us)
  | [], vs, e, k, r, _, h => by
    cases vs with
    | nil => exact ⟨rfl, e, h, fun ρ E us he _ => by cases us <;> exact he⟩
    | cons v vs => cases h
  | t :: ts, vs, e, k, r, hs, h => by
    cases vs with
    | nil => cases h
    | cons v vs =>
      have h : t.S (some v) e (fun e => argsAt ts vs e k) = some r := h
      rw [hs t (List.mem_cons_self ..)] at h
      obtain ⟨h1, e', h2, h3⟩ := argsAt_ok (fun s hm => hs s (List.mem_cons_of_mem _ hm)) h
      refine ⟨by simp [h1], e', h2, fun ρ E us he hv => ?_⟩
      cases hv with
      | cons hv1 hv2 => exact h3 ρ _ _ (he.put t.p hv1) hv2
theorem Fits.par {n : Nat} : ∀ {ts : List Nat} {us : List Value} {E : Env} {tmps : Array Value} {ds : List Deferred}, Fits n E ⟨tmps, ds⟩ → (∀ p ∈ ts, p < n) →
    Fits n (parE E ts us) ⟨(ts.zip us).foldl (fun t (x : Nat × Value) => t.setIfInBounds x.1 x.2) tmps, ds⟩
  | [], us, E, tmps, ds, hf, _ => by cases us <;> exact hf
  | t :: ts, us, E, tmps, ds, hf, hn => by
    cases us with
    | nil => exact hf
    | cons u us => exact Fits.par (ts := ts) (us := us) (hf.put (hn t (List.mem_cons_self ..)) u) fun p hp => hn p (List.mem_cons_of_mem _ hp)
theorem leaves_get {l : Pth} {k : AV → AH → Option R} : ∀ {m j n : Nat} {x : Cont R}, (leaves l k m j)[n]? = some x → x = leave l k (j + n)
  | 0, j, n, x, h => by simp [leaves] at h
  | m + 1, j, n, x, h => by
    cases n with
    | zero => simp [leaves] at h; exact h.symm
    | succ n =>
      simp only [leaves, List.getElem?_cons_succ] at h
      rw [leaves_get h, show j + 1 + n = j + (n + 1) by omega]
theorem slPs_some : ∀ {l : List Nat} {qs : List (Slot R)}, slPs l = some qs → qs.map Slot.p = l ∧ ∀ s ∈ qs, SlotOk s
  | [], qs, h => by cases h; exact ⟨rfl, fun s hs => by cases hs⟩
  | t :: l, qs, h => by
    unfold slPs at h
    replace h := slS_some h
    obtain ⟨s, hp, hs, h⟩ := h
    split at h
    · cases h
    · rename_i l' hl'
      cases h
      obtain ⟨h1, h2⟩ := slPs_some hl'
      refine ⟨by simp [hp, h1], fun s' hm => ?_⟩
      rcases List.mem_cons.1 hm with rfl | hm
      · exact hs
      · exact h2 s' hm
end Ry
end Go.TP
