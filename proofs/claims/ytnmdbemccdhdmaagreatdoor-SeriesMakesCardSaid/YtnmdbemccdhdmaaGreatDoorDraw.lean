/- The engine, part 6: regions that draw their order. Φ: what holds when just these operations have been. -/
import Derived.Test.YtnmdbemccdhdmaaGreatDoorCall
namespace Go.TP
open Go

theorem wpIn_false {P : Program} {F : Fence} {o : Oper} {a : Act} {w : World} {n : Nat} {next next' : Act → World → Prop} {Q : Exit → Act → World → Prop} (hn : ∀ a w, next a w → next' a w) (h : o.wpIn F n P a w next (fun _ _ _ => False)) : o.wpIn F n P a w next' Q := by
  have h := Oper.wpIn_mono hn h
  revert h
  unfold Oper.wpIn
  rintro ⟨h1, h2⟩
  refine ⟨h1, ?_⟩
  generalize (o.semAt F.round a.eval).run P w = r at *
  cases r with
  | ok x w' =>
    cases x <;> simp only [Oper.uponIn] at h2 ⊢ <;> first
      | exact h2
      | (refine ⟨h2.1, CallsIn.mono h2.2 fun en w'' he => ?_⟩
         cases en <;> first | exact he | exact he.elim | (obtain ⟨_, _, h3⟩ := he; exact h3.elim))
      | (refine ⟨h2.1, RoundIn.mono h2.2 fun en w'' he => ?_⟩
         cases en <;> first | exact he | exact he.elim | (obtain ⟨_, _, h3⟩ := he; exact h3.elim))
  | halt x w' => cases x <;> simp only [Oper.uponIn] at h2 ⊢ <;> exact h2

section
variable {P : Program} {rd : Option Nat} {ops : Array Oper} {Φ : Array Bool → Heap → Prop} {Ψ : Heap → Prop} {N : Act → World → Prop}
abbrev rdy (ops : Array Oper) (listed : Array Bool) : List Nat := Region.ready .any ops listed
def opW (P : Program) (rd : Option Nat) (ops : Array Oper) (i : Nat) (K : Act → World → Prop) (a : Act) (w : World) : Prop :=
  match ops[i]? with
  | none => K a w
  | some o => if Region.wanted o (yielded ops a.tmps) then o.wpIn (Wd rd) 0 P a w K (fun _ _ _ => False) else K (a.put o.dst undef) w
theorem opW_mono {i : Nat} {a : Act} {w : World} {K K' : Act → World → Prop} (hk : ∀ a w, K a w → K' a w) (h : opW P rd ops i K a w) : opW P rd ops i K' a w := by
  unfold opW at *
  split
  · exact hk _ _ (by simpa [*] using h)
  · rename_i o ho
    simp only [ho] at h
    split
    · rename_i hw; simp only [hw, if_true] at h; exact Oper.wpIn_mono hk h
    · rename_i hw; simp only [hw] at h; exact hk _ _ h
/-- The operations 'is', one behind the other, are all that is left, and the first of them comes behind all others. -/
def forced (ops : Array Oper) : Array Bool → List Nat → Bool
  | listed, [] => rdy ops listed == []
  | listed, i :: is => rdy ops listed == [i] && forced ops (listed.setIfInBounds i true) is
def tl (ops : Array Oper) (listed : Array Bool) (is : List Nat) : Bool :=
  forced ops listed is && match is with
    | [] => true
    | i :: _ => match ops[i]? with
      | some o => (List.range ops.size).all fun k => is.contains k || o.after.any fun e => Region.binds .any e && e.on == k
      | none => false
def AnyD (P : Program) (rd : Option Nat) (ops : Array Oper) (Φ : Array Bool → Heap → Prop) (N : Act → World → Prop) : Nat → Array Bool → Act → World → Prop
  | 0, listed, a, w => Φ listed w.heap ∧ rdy ops listed = [] ∧ N a w
  | f + 1, listed, a, w => Φ listed w.heap ∧ ((rdy ops listed = [] → N a w) ∧ (∀ i ∈ rdy ops listed, opW P rd ops i (AnyD P rd ops Φ N f (listed.setIfInBounds i true)) a w) ∨
      ∃ is l, tl ops listed is = true ∧ is ≠ [] ∧ is.length ≤ f + 1 ∧ is.map (ops[·]?) = l.map some ∧ WL P rd ops N l a w)
theorem AnyD.phi : ∀ {f : Nat} {listed : Array Bool} {a : Act} {w : World}, AnyD P rd ops Φ N f listed a w → Φ listed w.heap
  | 0, _, _, _, h => h.1
  | _ + 1, _, _, _, h => h.1
theorem AnyD.weak {Φ' : Array Bool → Heap → Prop} (hΦ : ∀ L h, Φ' L h → Φ L h) : ∀ {f : Nat} {listed : Array Bool} {a : Act} {w : World}, AnyD P rd ops Φ' N f listed a w → AnyD P rd ops Φ N f listed a w
  | 0, _, _, _, h => ⟨hΦ _ _ h.1, h.2⟩
  | f + 1, _, _, _, h => ⟨hΦ _ _ h.1, h.2.imp (fun h2 => ⟨h2.1, fun i hi => opW_mono (fun _ _ h3 => AnyD.weak hΦ h3) (h2.2 i hi)⟩) id⟩
/-- Does an operation only read? -/
def isData (op : Op) : Bool := match op with
  | .alloc _ | .box _ _ | .buildSlice _ _ _ | .store _ _ _ | .makeSlice _ _ _ => false
  | .call c => match c.callee with
    | .builtin .len | .builtin .cap | .builtin .min | .builtin .max => true
    | _ => false
  | _ => true
/-- k must come ahead of j. -/
inductive Anc (ops : Array Oper) : Nat → Nat → Prop where
  | one {j : Nat} {o : Oper} {e : Edge} : ops[j]? = some o → e ∈ o.after → Region.binds .any e = true → Anc ops e.on j
  | step {k j : Nat} {o : Oper} {e : Edge} : Anc ops k e.on → ops[j]? = some o → e ∈ o.after → Region.binds .any e = true → Anc ops k j
/-- No operation that must come behind k, and does more than read, has been. -/
def Needs (ops : Array Oper) (listed : Array Bool) (k : Nat) : Prop := ∀ j o, ops[j]? = some o → isData o.op = false → listed.getD j true = true → ¬ Anc ops k j
/-- What has been has all behind it that must come ahead of it. -/
def Closed (ops : Array Oper) (listed : Array Bool) : Prop := ∀ j o, ops[j]? = some o → listed.getD j true = true → ∀ e ∈ o.after, Region.binds .any e = true → listed.getD e.on true = true
theorem getD_set_self (l : Array Bool) (i : Nat) : (l.setIfInBounds i true).getD i true = true := by
  simp only [Array.getD_eq_getD_getElem?]
  by_cases h : i < l.size
  · simp [h]
  · simp [h]
theorem getD_set_true {l : Array Bool} {i j : Nat} (h : l.getD j true = true) : (l.setIfInBounds i true).getD j true = true := by
  by_cases hij : i = j
  · subst hij; exact getD_set_self _ _
  · rw [getD_set_ne true hij]; exact h
theorem Closed.start (n : Nat) (hn : n = ops.size) : Closed ops (Array.replicate n false) := by
  intro j o hj hl
  have := (Array.getElem?_eq_some_iff.1 hj).1
  simp [Array.getD_eq_getD_getElem?, hn, this] at hl
theorem rdy_after {listed : Array Bool} {i : Nat} {o : Oper} (hi : ops[i]? = some o) (hr : i ∈ rdy ops listed) : ∀ e ∈ o.after, Region.binds .any e = true → listed.getD e.on true = true := by
  intro e he hb
  obtain ⟨_, o', ho', hall⟩ := mem_ready.1 hr
  rw [hi] at ho'
  cases ho'
  have h1 := hall e he hb
  simp only [Array.getD_eq_getD_getElem?] at h1 ⊢
  revert h1
  cases listed[e.on]? <;> simp
theorem Closed.set {listed : Array Bool} {i : Nat} (hc : Closed ops listed) (hr : i ∈ rdy ops listed) : Closed ops (listed.setIfInBounds i true) := by
  intro j o hj hl e he hb
  by_cases hij : i = j
  · subst hij; exact getD_set_true (rdy_after hj hr e he hb)
  · rw [getD_set_ne true hij] at hl
    exact getD_set_true (hc j o hj hl e he hb)
theorem Closed.anc {listed : Array Bool} (hc : Closed ops listed) {k j : Nat} (ha : Anc ops k j) : listed.getD j true = true → listed.getD k true = true := by
  induction ha with
  | one hj he hb => exact fun hl => hc _ _ hj hl _ he hb
  | step _ hj he hb ih => exact fun hl => ih (hc _ _ hj hl _ he hb)
theorem needs_of {listed : Array Bool} {i : Nat} (hc : Closed ops listed) (hr : i ∈ rdy ops listed) : Needs ops (listed.setIfInBounds i true) i := by
  have hun : listed.getD i true = false := (mem_ready.1 hr).1
  have hno : ∀ j, listed.getD j true = true → ¬ Anc ops i j := fun j hl ha => by rw [hc.anc ha hl] at hun; cases hun
  intro j o hj _ hl ha
  by_cases hij : i = j
  · subst hij
    cases ha with
    | one hj he hb =>
      rename_i e
      have := rdy_after hj hr _ he hb
      rw [hun] at this
      cases this
    | step h1 hj he hb => exact hno _ (rdy_after hj hr _ he hb) h1
  · rw [getD_set_ne true hij] at hl
    exact hno j hl ha
theorem forced_any : ∀ (is : List Nat) (l : List Oper) (f : Nat) (listed : Array Bool) (a : Act) (w : World), forced ops listed is = true → is.length ≤ f → is.map (ops[·]?) = l.map some → WL P rd ops N l a w →
    wpAnyIn (Wd rd) 0 P .any ops (Exit.then N (fun _ _ _ => False)) f listed a w
  | [], l, f, listed, a, w, hf, _, hl, h => by
    have hr : rdy ops listed = [] := by simpa [forced] using hf
    have : l = [] := by cases l with | nil => rfl | cons _ _ => simp at hl
    subst this
    cases f with
    | zero => exact ⟨hr, h⟩
    | succ f => exact ⟨fun _ => h, fun i hi => (by rw [show Region.ready .any ops listed = [] from hr] at hi; cases hi)⟩
  | i :: is, l, f, listed, a, w, hf, hlen, hl, h => by
    cases l with
    | nil => simp at hl
    | cons o l =>
      cases f with
      | zero => simp at hlen
      | succ f =>
        simp only [forced, Bool.and_eq_true, beq_iff_eq] at hf
        simp only [List.map_cons, List.cons.injEq] at hl
        refine ⟨fun h0 => (by rw [show Region.ready .any ops listed = [i] from hf.1] at h0; cases h0), fun j hj => ?_⟩
        rw [show Region.ready .any ops listed = [i] from hf.1] at hj
        obtain rfl : j = i := by simpa using hj
        have ih := forced_any is l f (listed.setIfInBounds j true)
        unfold wpOpIn
        simp only [hl.1]
        simp only [WL] at h
        split
        · rename_i hw
          rw [if_pos hw] at h
          exact wpIn_false (fun a w h' => ih a w hf.2 (by simpa using hlen) hl.2 h') h
        · rename_i hw
          rw [if_neg hw] at h
          exact ⟨fun _ _ => trivial, ih _ _ hf.2 (by simpa using hlen) hl.2 h⟩
theorem AnyD.sound : ∀ (f : Nat) (listed : Array Bool) (a : Act) (w : World), AnyD P rd ops Φ N f listed a w → wpAnyIn (Wd rd) 0 P .any ops (Exit.then N (fun _ _ _ => False)) f listed a w := by
  intro f
  induction f with
  | zero => intro listed a w h; exact ⟨h.2.1, h.2.2⟩
  | succ f ih =>
    intro listed a w h
    rcases h.2 with h | ⟨is, l, h1, _, h3, h4, h5⟩
    · refine ⟨h.1, fun i hi => ?_⟩
      have := h.2 i hi
      unfold opW at this
      unfold wpOpIn
      split
      · rename_i hn; simp only [hn] at this; exact ih _ _ _ this
      · rename_i o ho
        simp only [ho] at this
        split
        · rename_i hw; simp only [hw, if_true] at this; exact wpIn_false (fun a w => ih _ a w) this
        · rename_i hw; simp only [hw] at this; exact ⟨fun _ _ => trivial, ih _ _ _ this⟩
    · have h1' : forced ops listed is = true := by
        unfold tl at h1
        simp only [Bool.and_eq_true] at h1
        exact h1.1
      exact forced_any is l (f + 1) listed a w h1' h3 h4 h5

/-- Operation o has the value v from this frame, in every heap of Ψ. -/
def YieldsD (P : Program) (rd : Option Nat) (ops : Array Oper) (Ψ : Heap → Prop) (o : Oper) (v : Value) (a : Act) : Prop :=
  ∀ w : World, Ψ w.heap → (Region.wanted o (yielded ops a.tmps) = true ∧ (o.semAt rd a.eval).run P w = .ok (.value v) w) ∨ (Region.wanted o (yielded ops a.tmps) = false ∧ v = undef)
theorem YieldsD.opW {i : Nat} {o : Oper} {v : Value} {a : Act} {w : World} {K : Act → World → Prop} (hi : ops[i]? = some o) (hy : YieldsD P rd ops Ψ o v a) (hΨ : Ψ w.heap) (h : K (a.put o.dst v) w) : opW P rd ops i K a w := by
  unfold TP.opW
  simp only [hi]
  rcases hy w hΨ with ⟨h1, h2⟩ | ⟨h1, rfl⟩
  · simp only [h1, if_true]
    refine ⟨fun _ _ => trivial, ?_⟩
    rw [show (Wd rd).round = rd from rfl, h2]
    exact h
  · simp only [h1, Bool.false_eq_true, if_false]; exact h
theorem semAt_put {o : Oper} {rd : Option Nat} (hs : ∀ cs b, o.op ≠ .select cs b) (hd : ∀ c, o.op ≠ .defer c) (a : Act) (dst : Option Tmp) (v : Value) (h : ∀ d, dst = some d → d ∉ o.looksAt ops) : o.semAt rd (a.put dst v).eval = o.semAt rd a.eval := by
  rw [Oper.semAt_eq rd _ o hd, Oper.semAt_eq rd _ o hd]
  exact execOp_put o hs a dst v h
theorem YieldsD.put {oi oj : Oper} {v u : Value} {a : Act} (hs : ∀ cs b, oi.op ≠ .select cs b) (hd : ∀ c, oi.op ≠ .defer c) (h3 : ∀ d, oj.dst = some d → d ∉ oi.looksAt ops) (hy : YieldsD P rd ops Ψ oi v a) : YieldsD P rd ops Ψ oi v (a.put oj.dst u) := by
  intro w hw
  rw [wanted_put oi a oj.dst u h3, semAt_put hs hd a oj.dst u h3]
  exact hy w hw
theorem opW_put {j : Nat} {oi oj : Oper} {v : Value} (hj : ops[j]? = some oj) (hap : oi.apart ops oj = true) (hsi : ∀ cs b, oi.op ≠ .select cs b) (hdi : ∀ c, oi.op ≠ .defer c) (hsj : ∀ cs b, oj.op ≠ .select cs b) (hdj : ∀ c, oj.op ≠ .defer c)
    {K : Act → World → Prop} {a : Act} {w : World} (hy : YieldsD P rd ops Ψ oi v a) (h : opW P rd ops j K (a.put oi.dst v) w) :
    opW P rd ops j (fun a' w' => YieldsD P rd ops Ψ oi v a' ∧ K (a'.put oi.dst v) w') a w := by
  obtain ⟨h1, h2, h3⟩ := Oper.apart_spec hap
  have keep : ∀ u, YieldsD P rd ops Ψ oi v (a.put oj.dst u) := fun u => hy.put hsi hdi h3
  unfold opW at *
  simp only [hj] at *
  rw [wanted_put oj a oi.dst v h1] at h
  split
  · rename_i hw
    simp only [hw, if_true] at h
    unfold Oper.wpIn at *
    refine ⟨fun _ _ => trivial, ?_⟩
    have h := h.2
    rw [show (Wd rd).round = rd from rfl, semAt_put hsj hdj a oi.dst v h1] at h
    rw [show (Wd rd).round = rd from rfl]
    have hse := Oper.semAt_eq rd a.eval oj hdj
    generalize (oj.semAt rd a.eval).run P w = r at *
    cases r with
    | ok x w' =>
      cases x <;> simp only [Oper.uponIn] at h ⊢
      case value u => exact ⟨keep u, by rw [← Act.put_comm a v u h2]; exact h⟩
      case skip => exact ⟨keep _, by rw [← Act.put_comm a v undef h2]; exact h⟩
      case defer d =>
        refine ⟨YieldsD.put (a := { a with defers := d :: a.defers }) hsi hdi h3 (fun w0 hw0 => hy w0 hw0), ?_⟩
        rw [← Act.put_comm _ v undef h2, ← Act.put_defers]
        exact h
      case enter f args =>
        refine ⟨h.1, CallsIn.mono h.2 fun e w'' he => ?_⟩
        cases e with
        | returned u => exact ⟨keep u, by rw [← Act.put_comm a v u h2]; exact he⟩
        | panicked c => exact he.elim
        | outgrown => obtain ⟨_, _, h'⟩ := he; exact h'.elim
      case row row args => exact ⟨h.1, RowsIn.mono h.2 fun u w'' he => ⟨keep u, by rw [← Act.put_comm a v u h2]; exact he⟩⟩
      case round l f tmps assign body =>
        refine ⟨h.1, RoundIn.mono h.2 fun e w'' he => ?_⟩
        cases e with
        | returned u => exact ⟨keep u, by rw [← Act.put_comm a v u h2]; exact he⟩
        | panicked c => exact he.elim
        | outgrown => obtain ⟨_, _, h'⟩ := he; exact h'.elim
    | halt x w' => cases x <;> simp only [Oper.uponIn] at h ⊢
  · rename_i hw
    simp only [hw] at h
    exact ⟨keep _, by rw [← Act.put_comm a v undef h2]; exact h⟩
theorem AnyD.first {i : Nat} {oi : Oper} {v : Value} (hi : ops[i]? = some oi) (hΨ : ∀ L h, Needs ops L i → Φ L h → Ψ h) (hdt : ∀ L h, Φ (L.setIfInBounds i true) h → Φ L h) (hsel : ∀ (j : Nat) (o : Oper), ops[j]? = some o → (∀ cs b, o.op ≠ .select cs b) ∧ (∀ c, o.op ≠ .defer c)) :
    ∀ (f : Nat) (listed : Array Bool) (a : Act) (w : World),
      (∀ j oj, ops[j]? = some oj → j ≠ i → listed.getD j true = false → (∀ e ∈ oj.after, Region.binds .any e = true → e.on ≠ i) → oi.apart ops oj = true) →
      i ∈ rdy ops listed → Closed ops listed → YieldsD P rd ops Ψ oi v a → AnyD P rd ops Φ N f (listed.setIfInBounds i true) (a.put oi.dst v) w → AnyD P rd ops Φ N (f + 1) listed a w := by
  intro f
  induction f with
  | zero =>
    intro listed a w _ hr hns hy H
    refine ⟨hdt _ _ H.phi, .inl ⟨fun h => (by rw [h] at hr; cases hr), fun j hj => ?_⟩⟩
    by_cases hji : j = i
    · subst hji; exact hy.opW hi (hΨ _ _ (needs_of hns hr) H.phi) H
    · have := ready_mono hj hji
      rw [show Region.ready .any ops (listed.setIfInBounds i true) = [] from H.2.1] at this
      cases this
  | succ f ih =>
    intro listed a w hfree hr hns hy H
    refine ⟨hdt _ _ H.phi, .inl ⟨fun h => (by rw [h] at hr; cases hr), fun j hj => ?_⟩⟩
    by_cases hji : j = i
    · subst hji; exact hy.opW hi (hΨ _ _ (needs_of hns hr) H.phi) H
    · obtain ⟨hjun, oj, hoj, hall⟩ := mem_ready.1 hj
      have hnot : ∀ e ∈ oj.after, Region.binds .any e = true → e.on ≠ i := fun e he hb heq => by
        have h1 := hall e he hb
        have h0 := (mem_ready.1 hr).1
        rw [heq] at h1
        rcases Nat.lt_or_ge i listed.size with h' | h'
        · simp [h'] at h0 h1; rw [h0] at h1; cases h1
        · simp [Array.getElem?_eq_none h'] at h1
      rcases H.2 with H2 | ⟨is, l, h1, hne, _, _, _⟩
      · have h1 := H2.2 j (ready_mono hj hji)
        have h2 := opW_put hoj (hfree j oj hoj hji hjun hnot) (hsel i oi hi).1 (hsel i oi hi).2 (hsel j oj hoj).1 (hsel j oj hoj).2 hy h1
        have hfree' : ∀ k ok, ops[k]? = some ok → k ≠ i → (listed.setIfInBounds j true).getD k true = false →
            (∀ e ∈ ok.after, Region.binds .any e = true → e.on ≠ i) → oi.apart ops ok = true := fun k ok hk hki hun hno => by
          refine hfree k ok hk hki ?_ hno
          by_cases hjk : j = k
          · subst hjk; exact hjun
          · rw [getD_set_ne true hjk] at hun; exact hun
        refine opW_mono (fun a' w' h3 => ih (listed.setIfInBounds j true) a' w' hfree' (ready_mono hr (Ne.symm hji)) (hns.set hj) h3.1 ?_) h2
        rw [Array.setIfInBounds_comm _ _ hji]
        exact h3.2
      · exfalso
        cases is with
        | nil => exact hne rfl
        | cons k is =>
          unfold tl at h1
          simp only [Bool.and_eq_true, forced, beq_iff_eq] at h1
          obtain ⟨⟨hk, hforce⟩, h1⟩ := h1
          have hjk := ready_mono hj hji
          rw [show Region.ready .any ops (listed.setIfInBounds i true) = [k] from hk] at hjk
          obtain rfl : j = k := by simpa using hjk
          rw [hoj] at h1
          simp only [List.all_eq_true, List.mem_range, Bool.or_eq_true] at h1
          have hi' := (Array.getElem?_eq_some_iff.1 hi).1
          rcases h1 i hi' with h | h
          · -- i is in the tail: but it has been listed
            have hin : i ∈ j :: is := by simpa using h
            have his : i ∈ is := by
              rcases List.mem_cons.1 hin with h | h
              · exact absurd h.symm hji
              · exact h
            have hlist : ∀ (is : List Nat) (L : Array Bool), L.getD i true = true → forced ops L is = true → i ∉ is := by
              intro is
              induction is with
              | nil => intro L _ _ hm; cases hm
              | cons m is ihm =>
                intro L hL hF hm
                simp only [forced, Bool.and_eq_true, beq_iff_eq] at hF
                rcases List.mem_cons.1 hm with hm | hm
                · subst hm
                  have hr' : i ∈ rdy ops L := by rw [hF.1]; simp
                  have := (mem_ready.1 hr').1
                  rw [hL] at this
                  cases this
                · refine ihm (L.setIfInBounds m true) ?_ hF.2 hm
                  by_cases hmi : m = i
                  · subst hmi
                    simp only [Array.getD_eq_getD_getElem?]
                    by_cases hlt : m < L.size
                    · simp [hlt]
                    · simp [hlt]
                  · rw [getD_set_ne true hmi]; exact hL
            refine hlist is _ ?_ hforce his
            rw [getD_set_ne true hji]
            simp only [Array.getD_eq_getD_getElem?]
            by_cases hlt : i < listed.size
            · simp [hlt]
            · simp [hlt]
          · rw [Array.any_eq_true'] at h
            obtain ⟨e, he, hb⟩ := h
            simp only [Bool.and_eq_true, beq_iff_eq] at hb
            exact hnot e he hb.1 hb.2
end

/-- A region that draws, so many operations to come; those that are listed have been. -/
def RunD (P : Program) (K : Kt) (ops : Array Oper) (Φ : Array Bool → Heap → Prop) (f : Nat) (listed : Array Bool) (κ : List Item) (e : Env) (h : Heap) : Prop :=
  okL K.n ops.toList = true → Closed ops listed → ∀ (a : Act) (w : World), Fits K.n e a → a.defers = K.ds → Wk K h w → AnyD P K.rd ops Φ (fun a' w' => RunA P K.rd K.Q κ a' w') f listed a w
/-- May operation i be taken now, and does its order not matter? -/
def tk (ops : Array Oper) (listed : Array Bool) (i : Nat) : Bool := Region.free .any ops listed i && (Region.ready .any ops listed).contains i
/-- Is i the only operation that may come now? -/
def lone_ (ops : Array Oper) (listed : Array Bool) (i : Nat) : Bool := Region.ready .any ops listed == [i]
def over (ops : Array Oper) (listed : Array Bool) : Bool := Region.ready .any ops listed == []
section
variable {P : Program} {K : Kt} {ops : Array Oper} {Φ : Array Bool → Heap → Prop} {f : Nat} {listed : Array Bool} {κ : List Item} {e : Env} {h : Heap} {i : Nat}
theorem okL_get {n : Nat} {j : Nat} {o : Oper} (hk : okL n ops.toList = true) (hj : ops[j]? = some o) : okOp n o = true := by
  unfold okL at hk
  rw [List.all_eq_true] at hk
  exact hk o (by rw [Array.mem_toList_iff]; exact Array.mem_of_getElem? hj)
theorem okOp_sel {n : Nat} {o : Oper} (hk : okOp n o = true) : (∀ cs b, o.op ≠ .select cs b) ∧ (∀ c, o.op ≠ .defer c) := by
  constructor
  · intro cs b hc; simp [okOp, hc] at hk
  · intro c hc; simp [okOp, hc] at hk
theorem Run.draw {id : Nat} {l : List Oper} (Φ : Array Bool → Heap → Prop) (hm : P.follows .mixedOrders = true) (hok : okL K.n l = true) (r : RunD P K l.toArray Φ l.length (Array.replicate l.length false) κ e h) : Run P K (.code (.region id l.toArray true) :: κ) e h :=
  fun a w hf hd hw => RunA.of_wp (N := fun a' w' => RunA P K.rd K.Q κ a' w')
    (wpIn_region_any hm (by
      have := AnyD.sound _ _ _ _ (r hok (Closed.start _ (by simp)) a { w with drawn := w.drawn + 1 } hf hd ⟨hw.heap, hw.os, hw.tape, hw.out⟩)
      simpa using this)) (fun _ _ h => h)
theorem RunD.take_ {o : Oper} {v : Value} (hdt : ∀ L h, Φ (L.setIfInBounds i true) h → Φ L h) (hc : tk ops listed i = true) (ho : ops[i]? = some o)
    (hy : okOp K.n o = true → ∀ a, Fits K.n e a → YieldsD P K.rd ops (fun h' => ∃ L, Needs ops L i ∧ Φ L h') o v a) (hput : ∀ a, okOp K.n o = true → Fits K.n e a → ∃ e', Fits K.n e' (a.put o.dst v) ∧ RunD P K ops Φ f (listed.setIfInBounds i true) κ e' h) : RunD P K ops Φ (f + 1) listed κ e h := by
  intro hk hcl a w hf hd hw
  have hko := okL_get hk ho
  have hc' : Region.free .any ops listed i = true ∧ (Region.ready .any ops listed).contains i = true := by simpa [tk] using hc
  obtain ⟨e', he', hr⟩ := hput a hko hf
  refine AnyD.first ho (fun L h h1 h2 => ⟨L, h1, h2⟩) hdt (fun j o' hj => okOp_sel (okL_get hk hj)) f listed a w (fun j oj h1 h2 h3 h4 => Region.free_spec ho hc'.1 j oj h1 h2 h3 h4) (by simpa using hc'.2) hcl (hy hko a hf) ?_
  refine hr hk (hcl.set (by simpa using hc'.2)) _ w he' ?_ hw
  cases o.dst <;> exact hd
theorem RunD.take {d : Nat} {op : Op} {ty : TypeId} {pos : String} {aft : Array Edge} {v : Value} (hdt : ∀ L h, Φ (L.setIfInBounds i true) h → Φ L h) (hc : tk ops listed i = true) (ho : ops[i]? = some ⟨some d, op, ty, pos, aft, none⟩) (hv : ∀ L h', Needs ops L i → Φ L h' → Ev P e h' ⟨some d, op, ty, pos, aft, none⟩ v)
    (r : RunD P K ops Φ f (listed.setIfInBounds i true) κ ((d, v) :: e) h) : RunD P K ops Φ (f + 1) listed κ e h :=
  RunD.take_ hdt hc ho (fun hk a hf w hw => .inl ⟨rfl, by rw [semAt_ok K.rd _ hk]; obtain ⟨L, hL, hw⟩ := hw; exact (hv _ _ hL hw a.eval w hf.agree rfl).1⟩) fun a hk hf => ⟨_, hf.put (okOp_dst hk rfl) v, r⟩
theorem RunD.on {d : Nat} {op : Op} {ty : TypeId} {pos : String} {aft : Array Edge} {v : Value} {j t : Nat} {want b : Bool} (hdt : ∀ L h, Φ (L.setIfInBounds i true) h → Φ L h) (hc : tk ops listed i = true) (ho : ops[i]? = some ⟨some d, op, ty, pos, aft, some (j, want)⟩) (hj : (ops[j]?).bind (·.dst) = some t) (hl : look e t = some (.bool b)) (hb : b = want)
    (hv : ∀ L h', Needs ops L i → Φ L h' → Ev P e h' ⟨some d, op, ty, pos, aft, none⟩ v) (r : RunD P K ops Φ f (listed.setIfInBounds i true) κ ((d, v) :: e) h) : RunD P K ops Φ (f + 1) listed κ e h := by
  refine RunD.take_ hdt hc ho (fun hk a hf w hw => .inl ⟨?_, ?_⟩) fun a hk hf => ⟨_, hf.put (okOp_dst hk rfl) v, r⟩
  · simp [Region.wanted, yielded_bool hf hj hl, hb]
  · rw [semAt_ok K.rd _ hk]
    obtain ⟨L, hL, hw⟩ := hw; exact (hv _ _ hL hw a.eval w hf.agree rfl).1
theorem RunD.off {d : Nat} {op : Op} {ty : TypeId} {pos : String} {aft : Array Edge} {j t : Nat} {want b : Bool} (hdt : ∀ L h, Φ (L.setIfInBounds i true) h → Φ L h) (hc : tk ops listed i = true) (ho : ops[i]? = some ⟨some d, op, ty, pos, aft, some (j, want)⟩) (hj : (ops[j]?).bind (·.dst) = some t) (hl : look e t = some (.bool b)) (hb : b = !want)
    (r : RunD P K ops Φ f (listed.setIfInBounds i true) κ ((d, undef) :: e) h) : RunD P K ops Φ (f + 1) listed κ e h :=
  RunD.take_ hdt hc ho (fun hk a hf w hw => .inr ⟨by simp [Region.wanted, yielded_bool hf hj hl, hb], rfl⟩) fun a hk hf => ⟨_, hf.put (okOp_dst hk rfl) undef, r⟩
theorem RunD.offu {d : Nat} {op : Op} {ty : TypeId} {pos : String} {aft : Array Edge} {j t : Nat} {want : Bool} (hdt : ∀ L h, Φ (L.setIfInBounds i true) h → Φ L h) (hc : tk ops listed i = true) (ho : ops[i]? = some ⟨some d, op, ty, pos, aft, some (j, want)⟩) (hj : (ops[j]?).bind (·.dst) = some t) (hl : look e t = some undef)
    (r : RunD P K ops Φ f (listed.setIfInBounds i true) κ ((d, undef) :: e) h) : RunD P K ops Φ (f + 1) listed κ e h :=
  RunD.take_ hdt hc ho (fun hk a hf w hw => .inr ⟨by simp [Region.wanted, yielded_undef hf hj hl], rfl⟩) fun a hk hf => ⟨_, hf.put (okOp_dst hk rfl) undef, r⟩
theorem RunD.split {x : Operand} {b : Bool} (_hx : ev e x = some (.bool b)) (r1 : b = true → RunD P K ops Φ f listed κ e h) (r2 : b = false → RunD P K ops Φ f listed κ e h) : RunD P K ops Φ f listed κ e h := by
  cases b
  · exact r2 rfl
  · exact r1 rfl
def putE (d : Option Nat) (v : Value) (e : Env) : Env := match d with
  | some d => (d, v) :: e
  | none => e
/-- The guard lets the operation be. -/
def GOn (ops : Array Oper) (e : Env) : Option (Nat × Bool) → Prop
  | none => True
  | some (j, want) => ∃ t, (ops[j]?).bind (·.dst) = some t ∧ look e t = some (.bool want)
theorem GOn.wanted {n : Nat} {a : Act} {d : Option Tmp} {op : Op} {ty : TypeId} {pos : String} {aft : Array Edge} {g : Option (Nat × Bool)} (hf : Fits n e a) (hg : GOn ops e g) : Region.wanted ⟨d, op, ty, pos, aft, g⟩ (yielded ops a.tmps) = true := by
  cases g with
  | none => rfl
  | some p =>
    obtain ⟨j, want⟩ := p
    obtain ⟨t, h1, h2⟩ := hg
    simp [Region.wanted, yielded_bool hf h1 h2]
/-- Operation k may be the next one. -/
def StepD (P : Program) (K : Kt) (ops : Array Oper) (Φ : Array Bool → Heap → Prop) (f : Nat) (listed : Array Bool) (κ : List Item) (e : Env) (h : Heap) (k : Nat) : Prop :=
  ∃ d op ty pos aft g R, ops[k]? = some ⟨d, op, ty, pos, aft, g⟩ ∧ GOn ops e g ∧ Ef P K.rd e h ⟨d, op, ty, pos, aft, none⟩ R ∧ ∀ v h', R v h' → RunD P K ops Φ f (listed.setIfInBounds k true) κ (putE d v e) h'
theorem RunD.effs (hΦ : Φ listed h) {l : List Nat} (hl : rdy ops listed = l) (hne : l ≠ []) (hs : ∀ k ∈ l, StepD P K ops Φ f listed κ e h k) : RunD P K ops Φ (f + 1) listed κ e h := by
  intro hk hcl a w hf hd hw
  have hΦ' : Φ listed w.heap := by rw [hw.heap]; exact hΦ
  refine ⟨hΦ', .inl ⟨fun h0 => absurd (hl.symm.trans h0) hne, fun k hk' => ?_⟩⟩
  obtain ⟨d, op, ty, pos, aft, g, R, ho, hg, hv, r⟩ := hs k (hl ▸ hk')
  have hko := okL_get hk ho
  have h' := hv a w hf.agree hw.heap (AnyD P K.rd ops Φ (fun a' w' => RunA P K.rd K.Q κ a' w') f (listed.setIfInBounds k true)) fun v w' hr h1 h2 h3 =>
    r v _ hr hk (hcl.set hk') _ w' (by
      cases d with
      | none => exact hf
      | some d => exact hf.put (okOp_dst hko rfl) v) (by cases d <;> exact hd) ⟨rfl, h1.trans hw.os, h2.trans hw.tape, h3.trans hw.out⟩
  unfold opW
  simp only [ho, hg.wanted hf, if_true]
  exact h'
theorem RunD.weak {Φ' : Array Bool → Heap → Prop} (hΦ : ∀ L h, Φ' L h → Φ L h) (r : RunD P K ops Φ' f listed κ e h) : RunD P K ops Φ f listed κ e h :=
  fun hk hcl a w hf hd hw => (r hk hcl a w hf hd hw).weak hΦ
theorem RunD.one {d : Nat} {op : Op} {ty : TypeId} {pos : String} {aft : Array Edge} {R : Value → Heap → Prop} (hΦ : Φ listed h) (hc : lone_ ops listed i = true) (ho : ops[i]? = some ⟨some d, op, ty, pos, aft, none⟩) (hv : Ef P K.rd e h ⟨some d, op, ty, pos, aft, none⟩ R)
    (r : ∀ v h', R v h' → RunD P K ops Φ f (listed.setIfInBounds i true) κ ((d, v) :: e) h') : RunD P K ops Φ (f + 1) listed κ e h :=
  RunD.effs hΦ (l := [i]) (by simpa [lone_] using hc) (by simp) fun k hk => by
    obtain rfl : k = i := by simpa using hk
    exact ⟨_, _, _, _, _, _, R, ho, trivial, hv, r⟩
theorem RunD.oneOn {d : Nat} {op : Op} {ty : TypeId} {pos : String} {aft : Array Edge} {R : Value → Heap → Prop} {j t : Nat} {want b : Bool} (hΦ : Φ listed h) (hc : lone_ ops listed i = true) (ho : ops[i]? = some ⟨some d, op, ty, pos, aft, some (j, want)⟩) (hj : (ops[j]?).bind (·.dst) = some t) (hl : look e t = some (.bool b)) (hb : b = want)
    (hv : Ef P K.rd e h ⟨some d, op, ty, pos, aft, none⟩ R) (r : ∀ v h', R v h' → RunD P K ops Φ f (listed.setIfInBounds i true) κ ((d, v) :: e) h') : RunD P K ops Φ (f + 1) listed κ e h :=
  RunD.effs hΦ (l := [i]) (by simpa [lone_] using hc) (by simp) fun k hk => by
    obtain rfl : k = i := by simpa using hk
    exact ⟨_, _, _, _, _, _, R, ho, ⟨t, hj, by rw [hl, hb]⟩, hv, r⟩
/-- Two operations may come now, in either order. -/
def both_ (ops : Array Oper) (listed : Array Bool) (i j : Nat) : Bool := Region.ready .any ops listed == [i, j]
theorem RunD.two {i j d d' : Nat} {op op' : Op} {ty ty' : TypeId} {pos pos' : String} {aft aft' : Array Edge} {R R' : Value → Heap → Prop} (hΦ : Φ listed h) (hc : both_ ops listed i j = true) (ho : ops[i]? = some ⟨some d, op, ty, pos, aft, none⟩) (ho' : ops[j]? = some ⟨some d', op', ty', pos', aft', none⟩)
    (hv : Ef P K.rd e h ⟨some d, op, ty, pos, aft, none⟩ R) (hv' : Ef P K.rd e h ⟨some d', op', ty', pos', aft', none⟩ R')
    (r : ∀ v h', R v h' → RunD P K ops Φ f (listed.setIfInBounds i true) κ ((d, v) :: e) h') (r' : ∀ v h', R' v h' → RunD P K ops Φ f (listed.setIfInBounds j true) κ ((d', v) :: e) h') : RunD P K ops Φ (f + 1) listed κ e h :=
  RunD.effs hΦ (l := [i, j]) (by simpa [both_] using hc) (by simp) fun k hk => by
    rcases List.mem_cons.1 hk with rfl | hk
    · exact ⟨_, _, _, _, _, _, R, ho, trivial, hv, r⟩
    · obtain rfl : k = j := by simpa using hk
      exact ⟨_, _, _, _, _, _, R', ho', trivial, hv', r'⟩
theorem RunD.store {op : Op} {ty : TypeId} {pos : String} {aft : Array Edge} {R : Value → Heap → Prop} (hΦ : Φ listed h) (hc : lone_ ops listed i = true) (ho : ops[i]? = some ⟨none, op, ty, pos, aft, none⟩) (hv : Ef P K.rd e h ⟨none, op, ty, pos, aft, none⟩ R)
    (r : ∀ v h', R v h' → RunD P K ops Φ f (listed.setIfInBounds i true) κ e h') : RunD P K ops Φ (f + 1) listed κ e h :=
  RunD.effs hΦ (l := [i]) (by simpa [lone_] using hc) (by simp) fun k hk => by
    obtain rfl : k = i := by simpa using hk
    exact ⟨_, _, _, _, _, _, R, ho, trivial, hv, r⟩
theorem RunD.done (hΦ : Φ listed h) (hc : over ops listed = true) (r : Run P K κ e h) : RunD P K ops Φ f listed κ e h := by
  intro _ _ a w hf hd hw
  have hc' : rdy ops listed = [] := by simpa [over] using hc
  have hΦ' : Φ listed w.heap := by rw [hw.heap]; exact hΦ
  cases f with
  | zero => exact ⟨hΦ', hc', r a w hf hd hw⟩
  | succ f => exact ⟨hΦ', .inl ⟨fun _ => r a w hf hd hw, fun j hj => (by rw [hc'] at hj; cases hj)⟩⟩
/-- What is left comes in one order. -/
theorem RunD.tail {l : List Oper} (is : List Nat) (hΦ : Φ listed h) (hc : tl ops listed is = true) (hne : is.length = f + 1) (hl : is.map (ops[·]?) = l.map some) (r : RunL P K ops l κ e h) : RunD P K ops Φ (f + 1) listed κ e h := by
  intro hk hcl a w hf hd hw
  have hΦ' : Φ listed w.heap := by rw [hw.heap]; exact hΦ
  refine ⟨hΦ', .inr ⟨is, l, hc, fun h0 => (by rw [h0] at hne; cases hne), Nat.le_of_eq hne, hl, r ?_ a w hf hd hw⟩⟩
  unfold okL
  rw [List.all_eq_true]
  intro o ho
  have : some o ∈ is.map (ops[·]?) := by rw [hl]; exact List.mem_map_of_mem ho
  obtain ⟨j, _, hj⟩ := List.mem_map.1 this
  exact okL_get hk hj
end
end Go.TP
