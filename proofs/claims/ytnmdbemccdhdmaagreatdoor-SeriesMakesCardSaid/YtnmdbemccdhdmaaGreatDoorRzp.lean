/- Ry is sound, part 14f: plans that are looked at on bits. -/
import Derived.Test.YtnmdbemccdhdmaaGreatDoorDraw
import Derived.Test.YtnmdbemccdhdmaaGreatDoorRy
namespace Go.TP
open Go
namespace Ry
variable {ops : Array Oper}
theorem natB_eq {β : Type} (n : Nat) (k : Nat → β) : natB n k = k n := by cases n <;> rfl
theorem tb_eq (m i : Nat) : tb m i = Nat.testBit m i := by
  rw [Nat.testBit_eq_decide_div_mod_eq]
  show Nat.beq (Nat.mod (m >>> i) 2) 1 = _
  rw [Nat.shiftRight_eq_div_pow]
  show Nat.beq (m / 2 ^ i % 2) 1 = _
  by_cases h : m / 2 ^ i % 2 = 1
  · simp [h]
  · simp only [h, decide_false]
    exact Bool.eq_false_iff.2 fun hh => h (Nat.eq_of_beq_eq_true hh)
theorem forceI_eq {β : Type} : ∀ (l : List OpI) (k : List OpI → β), forceI l k = k l
  | [], k => rfl
  | x :: l, k => by simp only [forceI, natB_eq, forceI_eq l]
theorem infL_get : ∀ (l : List Oper) (i : Nat), (infL ops l)[i]? = (l[i]?).map fun o => ⟨depN o.after.toList, o.dst, lookN (o.looksAt ops), kindN o⟩
  | [], i => by simp [infL]
  | o :: l, i => by cases i <;> simp [infL, infL_get l]
theorem depN_bit {l : List Edge} {i : Nat} : Nat.testBit (depN l) i = true ↔ ∃ e ∈ l, Region.binds .any e = true ∧ e.on = i := by
  induction l with
  | nil => simp [depN]
  | cons e l ih =>
    unfold depN
    split
    · rename_i hb
      change Nat.testBit ((1 <<< e.on) ||| depN l) i = true ↔ _
      rw [Nat.testBit_or, Bool.or_eq_true, ih, Nat.shiftLeft_eq, Nat.one_mul, Nat.testBit_two_pow]
      constructor
      · rintro (h | ⟨e', h1, h2⟩)
        · exact ⟨e, List.mem_cons_self .., hb, by simpa using h⟩
        · exact ⟨e', List.mem_cons_of_mem _ h1, h2⟩
      · rintro ⟨e', h1, h2, h3⟩
        rcases List.mem_cons.1 h1 with rfl | h1
        · exact .inl (by simpa using h3)
        · exact .inr ⟨e', h1, h2, h3⟩
    · rename_i hb
      rw [ih]
      constructor
      · rintro ⟨e', h1, h2⟩; exact ⟨e', List.mem_cons_of_mem _ h1, h2⟩
      · rintro ⟨e', h1, h2, h3⟩
        rcases List.mem_cons.1 h1 with rfl | h1
        · rw [hb] at h2; cases h2
        · exact ⟨e', h1, h2, h3⟩
theorem lookN_bit {l : List Nat} {t : Nat} : Nat.testBit (lookN l) t = true ↔ t ∈ l := by
  induction l with
  | nil => simp [lookN]
  | cons u l ih =>
    unfold lookN
    change Nat.testBit ((1 <<< u) ||| lookN l) t = true ↔ _
    rw [Nat.testBit_or, Bool.or_eq_true, ih, Nat.shiftLeft_eq, Nat.one_mul, Nat.testBit_two_pow]
    simp [eq_comm]
/-- What is told of an operation. -/
def infO (ops : Array Oper) (o : Oper) : OpI := ⟨depN o.after.toList, o.dst, lookN (o.looksAt ops), kindN o⟩
theorem info_get (i : Nat) : (infL ops ops.toList)[i]? = (ops[i]?).map (infO ops) := by
  rw [infL_get, Array.getElem?_toList]; rfl
/-- The bits say what is listed. -/
def Rel (ops : Array Oper) (L : Nat) (listed : Array Bool) : Prop := listed.size = ops.size ∧ ∀ j, Nat.testBit L j = listed.getD j false
theorem Rel.un {L : Nat} {listed : Array Bool} (h : Rel ops L listed) {j : Nat} (hj : j < ops.size) : listed.getD j true = Nat.testBit L j := by
  rw [h.2]
  have : j < listed.size := by rw [h.1]; exact hj
  simp [Array.getD, this]
theorem Rel.set {L : Nat} {listed : Array Bool} (h : Rel ops L listed) {i : Nat} (hi : i < ops.size) : Rel ops (Nat.lor L (Nat.shiftLeft 1 i)) (listed.setIfInBounds i true) := by
  refine ⟨by simp [h.1], fun j => ?_⟩
  change Nat.testBit (L ||| (1 <<< i)) j = _
  rw [Nat.testBit_or, Nat.shiftLeft_eq, Nat.one_mul, Nat.testBit_two_pow, h.2]
  by_cases hij : i = j
  · subst hij
    have : i < listed.size := by rw [h.1]; exact hi
    simp [Array.getD, this]
  · rw [getD_set_ne false hij]
    simp [hij]
theorem land_sub {a b : Nat} : Nat.beq (Nat.land a b) a = true ↔ ∀ i, Nat.testBit a i = true → Nat.testBit b i = true := by
  constructor
  · intro h i hi
    have h : a &&& b = a := Nat.eq_of_beq_eq_true h
    have := congrArg (fun n => Nat.testBit n i) h
    simp only [Nat.testBit_and, hi, Bool.true_and] at this
    exact this
  · intro h
    have : a &&& b = a := Nat.eq_of_testBit_eq fun i => by
      rw [Nat.testBit_and]
      cases ha : Nat.testBit a i with
      | false => rfl
      | true => rw [h i ha]; rfl
    change Nat.beq (a &&& b) a = true
    rw [this]
    exact Nat.beq_refl a
theorem rdy1_mem {L : Nat} {listed : Array Bool} (h : Rel ops L listed) {i : Nat} {o : Oper} (ho : ops[i]? = some o) : rdy1 L i (infO ops o) = true ↔ i ∈ rdy ops listed := by
  have hi := (Array.getElem?_eq_some_iff.1 ho).1
  unfold rdy1
  rw [tb_eq, Bool.and_eq_true, mem_ready, h.un hi, land_sub]
  simp only [Bool.not_eq_true']
  constructor
  · rintro ⟨h1, h2⟩
    refine ⟨h1, o, ho, fun e he hb => ?_⟩
    rw [← h.2]
    exact h2 _ (depN_bit.2 ⟨e, by simpa using he, hb, rfl⟩)
  · rintro ⟨h1, o', ho', h2⟩
    rw [ho] at ho'; cases ho'
    refine ⟨h1, fun j hj => ?_⟩
    obtain ⟨e, he, hb, rfl⟩ := depN_bit.1 hj
    rw [h.2]
    exact h2 e (by simpa using he) hb
theorem onlyB_spec {L : Nat} {ok : Nat → Bool} : ∀ {l : List OpI} {j : Nat}, onlyB L ok j l = true → ∀ i x, l[i]? = some x → rdy1 L (j + i) x = true → ok (j + i) = true
  | [], j, _, i, x, hx, _ => by simp at hx
  | y :: l, j, h, i, x, hx, hr => by
    simp only [onlyB, Bool.and_eq_true, Bool.or_eq_true, Bool.not_eq_true'] at h
    cases i with
    | zero =>
      simp at hx; subst hx
      rcases h.1 with h1 | h1
      · rw [Nat.add_zero] at hr; rw [hr] at h1; cases h1
      · exact h1
    | succ i =>
      have := onlyB_spec h.2 i x (by simpa using hx)
      rw [show Nat.succ j + i = j + (i + 1) by omega] at this
      exact this hr
theorem only_rdy {L : Nat} {listed : Array Bool} (h : Rel ops L listed) {ok : Nat → Bool} (ho : onlyB L ok 0 (infL ops ops.toList) = true) : ∀ i ∈ rdy ops listed, ok i = true := by
  intro i hi
  obtain ⟨_, o, hoi, _⟩ := mem_ready.1 hi
  have := onlyB_spec ho i (infO ops o) (by rw [info_get, hoi]; rfl)
  rw [Nat.zero_add] at this
  exact this ((rdy1_mem h hoi).2 hi)
theorem filter_one {f : Nat → Bool} {n i : Nat} (hi : i < n) (h : ∀ j < n, f j = true ↔ j = i) : (List.range n).filter f = [i] := by
  induction n with
  | zero => omega
  | succ n ih =>
    rw [List.range_succ, List.filter_append]
    by_cases hn : i = n
    · subst hn
      have h0 : (List.range i).filter f = [] := by
        rw [List.filter_eq_nil_iff]
        intro j hj hf
        have := List.mem_range.1 hj
        have := (h j (by omega)).1 hf
        omega
      rw [h0]
      simp [(h i (by omega)).2 rfl]
    · rw [ih (by omega) fun j hj => h j (by omega)]
      have : f n = false := Bool.eq_false_iff.2 fun hf => hn ((h n (by omega)).1 hf).symm
      simp [this]
theorem filter_two {f : Nat → Bool} {n i k : Nat} (hik : i < k) (hk : k < n) (h : ∀ j < n, f j = true ↔ j = i ∨ j = k) : (List.range n).filter f = [i, k] := by
  induction n with
  | zero => omega
  | succ n ih =>
    rw [List.range_succ, List.filter_append]
    by_cases hn : k = n
    · subst hn
      have h0 : (List.range k).filter f = [i] := filter_one hik fun j hj => by
        rw [h j (by omega)]
        constructor
        · rintro (h1 | h1)
          · exact h1
          · omega
        · exact .inl
      rw [h0]
      simp [(h k (by omega)).2 (.inr rfl)]
    · rw [ih (by omega) fun j hj => h j (by omega)]
      have : f n = false := Bool.eq_false_iff.2 fun hf => by
        rcases (h n (by omega)).1 hf with h1 | h1 <;> omega
      simp [this]
theorem mem_rdy_filter {listed : Array Bool} {j : Nat} (hj : j < ops.size) : j ∈ rdy ops listed ↔ (!listed.getD j true && ((ops[j]?).map (·.after.all fun e => !Region.binds .any e || listed.getD e.on false)).getD false) = true := by
  show j ∈ Region.ready .any ops listed ↔ _
  unfold Region.ready
  rw [List.mem_filter, List.mem_range]
  simp [hj]
theorem rdy_one {listed : Array Bool} {i : Nat} (hi : i ∈ rdy ops listed) (h : ∀ j ∈ rdy ops listed, j = i) : rdyB ops listed [i] = true := by
  have hlt : i < ops.size := by
    obtain ⟨_, o, ho, _⟩ := mem_ready.1 hi
    exact (Array.getElem?_eq_some_iff.1 ho).1
  have : Region.ready .any ops listed = [i] := filter_one hlt fun j hj => by
    rw [← mem_rdy_filter hj]
    exact ⟨h j, fun hh => by rw [hh]; exact hi⟩
  simp [rdyB, this]
theorem rdy_two {listed : Array Bool} {i k : Nat} (hne : i ≠ k) (hi : i ∈ rdy ops listed) (hk : k ∈ rdy ops listed) (h : ∀ j ∈ rdy ops listed, j = i ∨ j = k) : (rdyB ops listed [i, k] || rdyB ops listed [k, i]) = true := by
  have lt : ∀ {i}, i ∈ rdy ops listed → i < ops.size := fun {i} hi => by
    obtain ⟨_, o, ho, _⟩ := mem_ready.1 hi
    exact (Array.getElem?_eq_some_iff.1 ho).1
  rcases Nat.lt_or_gt_of_ne hne with hik | hik
  · have : Region.ready .any ops listed = [i, k] := filter_two hik (lt hk) fun j hj => by
      rw [← mem_rdy_filter hj]
      exact ⟨h j, fun hh => by rcases hh with hh | hh <;> rw [hh] <;> assumption⟩
    simp [rdyB, this]
  · have : Region.ready .any ops listed = [k, i] := filter_two hik (lt hi) fun j hj => by
      rw [← mem_rdy_filter hj]
      exact ⟨fun hh => (h j hh).symm, fun hh => by rcases hh with hh | hh <;> rw [hh] <;> assumption⟩
    simp [rdyB, this]
theorem pairB_spec {j : Nat} {x : OpI} : ∀ {l : List OpI} {i : Nat}, pairB j x i l = true → ∀ k y, l[k]? = some y → i + k = j ∨ ∀ t, y.dst = some t → (x.dst ≠ some t ∧ Nat.testBit x.look t = false) ∨ Nat.testBit x.dep (i + k) = true ∨ Nat.testBit y.dep j = true
  | [], i, _, k, y, hy => by simp at hy
  | z :: l, i, h, k, y, hy => by
    simp only [pairB, Bool.and_eq_true] at h
    cases k with
    | zero =>
      simp at hy; subst hy
      have h := h.1
      rw [Bool.or_eq_true] at h
      rcases h with h | h
      · exact .inl (Nat.eq_of_beq_eq_true h)
      · refine .inr fun t ht => ?_
        rw [ht] at h
        simp only [Bool.or_eq_true, Bool.and_eq_true, Bool.not_eq_true', tb_eq] at h
        rcases h with (h | h) | h
        · refine .inl ⟨fun hh => ?_, h.2⟩
          rw [hh] at h
          simp at h
        · exact .inr (.inl h)
        · exact .inr (.inr h)
    | succ k =>
      have := pairB_spec h.2 k y (by simpa using hy)
      rw [show Nat.succ i + k = i + (k + 1) by omega] at this
      exact this
theorem pairsB_spec {all : List OpI} : ∀ {l : List OpI} {j : Nat}, pairsB all j l = true → ∀ k x, l[k]? = some x → pairB (j + k) x 0 all = true
  | [], j, _, k, x, hx => by simp at hx
  | z :: l, j, h, k, x, hx => by
    simp only [pairsB, Bool.and_eq_true] at h
    cases k with
    | zero => simp at hx; subst hx; exact h.1
    | succ k =>
      have := pairsB_spec h.2 k x (by simpa using hx)
      rw [show Nat.succ j + k = j + (k + 1) by omega] at this
      exact this
/-- Two operations of which one writes where the other writes or looks are in an order. -/
theorem pairs_ok (hp : pairsB (infL ops ops.toList) 0 (infL ops ops.toList) = true) {i j : Nat} {oi oj : Oper} (hi : ops[i]? = some oi) (hj : ops[j]? = some oj) (hne : i ≠ j) {t : Nat} (ht : oi.dst = some t) (hc : oj.dst = some t ∨ t ∈ oj.looksAt ops) :
    (∃ e ∈ oj.after, Region.binds .any e = true ∧ e.on = i) ∨ ∃ e ∈ oi.after, Region.binds .any e = true ∧ e.on = j := by
  have h1 := pairsB_spec hp j (infO ops oj) (by rw [info_get, hj]; rfl)
  rw [Nat.zero_add] at h1
  have h2 := pairB_spec h1 i (infO ops oi) (by rw [info_get, hi]; rfl)
  rw [Nat.zero_add] at h2
  rcases h2 with h2 | h2
  · exact absurd h2 hne
  · rcases h2 t ht with ⟨h3, h4⟩ | h3 | h3
    · rcases hc with hc | hc
      · exact absurd hc h3
      · rw [show (infO ops oj).look = lookN (oj.looksAt ops) from rfl, lookN_bit.2 hc] at h4; cases h4
    · obtain ⟨e, he, hb⟩ := depN_bit.1 h3
      exact .inl ⟨e, by simpa using he, hb⟩
    · obtain ⟨e, he, hb⟩ := depN_bit.1 h3
      exact .inr ⟨e, by simpa using he, hb⟩
theorem free_of (hp : pairsB (infL ops ops.toList) 0 (infL ops ops.toList) = true) {listed : Array Bool} {i : Nat} (hi : i ∈ rdy ops listed) : tk ops listed i = true := by
  obtain ⟨hun, oi, hoi, hall⟩ := mem_ready.1 hi
  unfold tk
  rw [Bool.and_eq_true]
  refine ⟨?_, by simpa using hi⟩
  simp only [Region.free, hoi, List.all_eq_true, List.mem_range]
  intro j hj
  have hoj : ops[j]? = some ops[j] := Array.getElem?_eq_getElem hj
  rw [hoj]
  simp only [Bool.or_eq_true, beq_iff_eq]
  by_cases hji : j = i
  · exact .inl (.inl hji)
  · cases hl : listed.getD j true with
    | true => exact .inl (.inr rfl)
    | false =>
      refine .inr ?_
      by_cases hdep : (∃ e ∈ ops[j].after, Region.binds .any e = true ∧ e.on = i)
      · obtain ⟨e, he, hb1, hb2⟩ := hdep
        exact .inl (Array.any_eq_true'.2 ⟨e, he, by simp [hb1, hb2]⟩)
      · have hno : ¬ ∃ e ∈ oi.after, Region.binds .any e = true ∧ e.on = j := by
          rintro ⟨e, he, hb, rfl⟩
          have h1 := hall e he hb
          have : listed.getD e.on true = true := by
            simp only [Array.getD_eq_getD_getElem?] at h1 ⊢
            revert h1
            cases listed[e.on]? <;> simp
          rw [this] at hl; cases hl
        have key := fun {t : Nat} => pairs_ok (t := t) hp hoi hoj (Ne.symm hji)
        have key' := fun {t : Nat} => pairs_ok (t := t) hp hoj hoi hji
        refine .inr ?_
        unfold Oper.apart
        rw [Bool.and_eq_true]
        constructor
        · cases hd : oi.dst with
          | none => rfl
          | some d =>
            simp only [Bool.and_eq_true, Bool.not_eq_true', bne_iff_ne, ne_eq]
            constructor
            · rw [Bool.eq_false_iff]
              intro hc
              rcases key hd (.inr (by simpa using hc)) with h | h
              · exact hdep h
              · exact hno h
            · intro hc
              rcases key hd (.inl hc) with h | h
              · exact hdep h
              · exact hno h
        · cases hd : ops[j].dst with
          | none => rfl
          | some d =>
            simp only [Bool.not_eq_true']
            rw [Bool.eq_false_iff]
            intro hc
            rcases key' hd (.inr (by simpa using hc)) with h | h
            · exact hno h
            · exact hdep h
theorem kindN_1 {o : Oper} (h : kindN o = 1) : isData o.op = true ∧ o.dst.isSome = true := by
  unfold kindN at h
  split at h
  · rename_i hd
    split at h
    · rename_i h2; exact ⟨hd, h2⟩
    · cases h
  · split at h <;> cases h
theorem kindN_0 {o : Oper} (h : kindN o = 0 ∨ kindN o = 2) : isData o.op = false := by
  unfold kindN at h
  split at h
  · split at h <;> simp at h
  · rename_i hd; exact hd
theorem kindN_2 {o : Oper} (h : kindN o = 2) : (isNew o.op && o.guard.isNone && o.dst.isSome) = true := by
  unfold kindN at h
  split at h
  · split at h <;> cases h
  · split at h
    · rename_i h2; exact h2
    · cases h
theorem apM_ok {i p : Nat} {oi op : Oper} (hi : ops[i]? = some oi) (hp : ops[p]? = some op) (h : apM (infO ops oi) (infO ops op) = true) : apartB ops i p = true := by
  unfold apM at h
  unfold apartB
  rw [hi, hp]
  simp only [infO] at h ⊢
  cases hd : oi.dst with
  | none => rfl
  | some x =>
    rw [hd] at h
    simp only [Bool.and_eq_true, Bool.not_eq_true', tb_eq] at h
    simp only [Bool.and_eq_true, List.all_eq_true]
    refine ⟨h.1, fun z hz => ?_⟩
    cases z with
    | tmp t =>
      simp only [Bool.not_eq_true']
      rw [Bool.eq_false_iff]
      intro hh
      have := Nat.eq_of_beq_eq_true hh
      subst this
      have hl : x ∈ op.looksAt ops := by
        unfold Oper.looksAt
        refine List.mem_append_left _ (List.mem_filterMap.2 ⟨.tmp x, by simpa using hz, rfl⟩)
      rw [lookN_bit.2 hl] at h
      exact absurd h.2 (by simp)
    | _ => rfl
theorem chkM_ok (hp : pairsB (infL ops ops.toList) 0 (infL ops ops.toList) = true) : ∀ (pl : List Stp) (L : Nat) (listed : Array Bool) (pend : Option Nat), Rel ops L listed → chkM (infL ops ops.toList) L pend pl = true → chkPlan ops listed pend pl = true
  | [], L, listed, pend, hr, h => by
    simp only [chkM, Bool.and_eq_true] at h
    simp only [chkPlan, Bool.and_eq_true]
    refine ⟨h.1, ?_⟩
    have := only_rdy hr h.2
    have h0 : Region.ready .any ops listed = [] := List.eq_nil_iff_forall_not_mem.2 fun i hi => by have := this i hi; cases this
    simp [over, h0]
  | .take i :: l, L, listed, pend, hr, h => by
    simp only [chkM, Bool.and_eq_true, info_get, natB_eq] at h
    obtain ⟨h1, h2⟩ := h
    cases ho : ops[i]? with
    | none => rw [ho] at h1; cases h1
    | some o =>
      rw [ho] at h1
      simp only [Option.map_some, Bool.and_eq_true] at h1
      obtain ⟨⟨h3, h4⟩, h5⟩ := h1
      have hi := (Array.getElem?_eq_some_iff.1 ho).1
      have hm := (rdy1_mem hr ho).1 h4
      have hk := kindN_1 (Nat.eq_of_beq_eq_true h3)
      simp only [chkPlan, Bool.and_eq_true]
      refine ⟨⟨⟨?_, free_of hp hm⟩, ?_⟩, chkM_ok hp l _ _ _ (hr.set hi) h2⟩
      · simp only [dataAt, ho, Bool.and_eq_true]
        exact hk
      · cases pend with
        | none => rfl
        | some p =>
          simp only at h5
          cases hpo : ops[p]? with
          | none => rw [hpo] at h5; cases h5
          | some q =>
            rw [hpo] at h5
            have hap := apM_ok ho hpo h5
            simp only [Bool.and_eq_true]
            refine ⟨free_of hp ?_, hap⟩
            have hne : p ≠ i := by
              rintro rfl
              have h6 := hap
              unfold apartB at h6
              rw [ho] at h6
              obtain ⟨d, hd⟩ := Option.isSome_iff_exists.1 hk.2
              simp [hd] at h6
            obtain ⟨m1, o', m2, m3⟩ := mem_ready.1 hm
            refine mem_ready.2 ⟨by rw [getD_set_ne true hne]; exact m1, o', m2, fun e he hb => ?_⟩
            by_cases hpe : p = e.on
            · subst hpe
              have hlt : e.on < listed.size := by rw [hr.1]; exact (Array.getElem?_eq_some_iff.1 hpo).1
              simp [Array.getD, hlt]
            · rw [getD_set_ne false hpe]; exact m3 e he hb
  | .eff i :: l, L, listed, none, hr, h => by
    simp only [chkM, Bool.and_eq_true, info_get, natB_eq] at h
    obtain ⟨h1, h2⟩ := h
    cases ho : ops[i]? with
    | none => rw [ho] at h1; cases h1
    | some o =>
      rw [ho] at h1
      simp only [Option.map_some, Bool.and_eq_true, Bool.or_eq_true] at h1
      obtain ⟨⟨h3, h4⟩, h5⟩ := h1
      have hi := (Array.getElem?_eq_some_iff.1 ho).1
      have hm := (rdy1_mem hr ho).1 h4
      simp only [chkPlan, Bool.and_eq_true]
      refine ⟨⟨?_, rdy_one hm fun j hj => Nat.eq_of_beq_eq_true (only_rdy hr h5 j hj)⟩, chkM_ok hp l _ _ _ (hr.set hi) h2⟩
      simp only [effAt, ho]
      simp [kindN_0 (h3.imp (fun h => Nat.eq_of_beq_eq_true h) fun h => Nat.eq_of_beq_eq_true h)]
  | .eff i :: l, L, listed, some p, hr, h => by
    simp only [chkM, Bool.and_eq_true, info_get, natB_eq] at h
    obtain ⟨h1, h2⟩ := h
    cases ho : ops[i]? with
    | none => rw [ho] at h1; cases h1
    | some o =>
      cases hpo : ops[p]? with
      | none => rw [ho, hpo] at h1; cases h1
      | some q =>
        rw [ho, hpo] at h1
        simp only [Option.map_some, Bool.and_eq_true, Bool.or_eq_true, Bool.not_eq_true'] at h1
        obtain ⟨⟨⟨⟨⟨⟨h3, h4⟩, h4'⟩, hne⟩, h5⟩, h6⟩, h7⟩ := h1
        have hi := (Array.getElem?_eq_some_iff.1 ho).1
        have hpi := (Array.getElem?_eq_some_iff.1 hpo).1
        have hm := (rdy1_mem hr ho).1 h4
        have hmp := (rdy1_mem hr hpo).1 h4'
        have hne : i ≠ p := fun hh => by rw [hh] at hne; simp at hne
        have hrp := hr.set hpi
        have hmi : i ∈ rdy ops (listed.setIfInBounds p true) := ready_mono hm hne
        simp only [chkPlan, Bool.and_eq_true]
        refine ⟨⟨⟨⟨?_, rdy_two hne hm hmp fun j hj => ?_⟩, rdy_one hmi fun j hj => Nat.eq_of_beq_eq_true (only_rdy hrp h7 j hj)⟩, apM_ok ho hpo h6⟩, chkM_ok hp l _ _ _ (hr.set hi) h2⟩
        · simp only [effAt, ho]
          simp [kindN_0 (h3.imp (fun h => Nat.eq_of_beq_eq_true h) fun h => Nat.eq_of_beq_eq_true h)]
        · have := only_rdy hr h5 j hj
          simp only [Bool.or_eq_true] at this
          exact this.imp (fun h => Nat.eq_of_beq_eq_true h) fun h => Nat.eq_of_beq_eq_true h
  | .pre p :: l, L, listed, none, hr, h => by
    simp only [chkM, Bool.and_eq_true, info_get] at h
    obtain ⟨h1, h2⟩ := h
    cases hpo : ops[p]? with
    | none => rw [hpo] at h1; cases h1
    | some q =>
      rw [hpo] at h1
      simp only [chkPlan, Bool.and_eq_true]
      refine ⟨?_, chkM_ok hp l _ _ _ hr h2⟩
      simp only [newAt, hpo]
      exact kindN_2 (Nat.eq_of_beq_eq_true h1)
  | .pre p :: l, L, listed, some q, hr, h => by simp [chkM] at h
  | .new q :: l, L, listed, some p, hr, h => by
    simp only [chkM, Bool.and_eq_true, info_get, natB_eq] at h
    obtain ⟨⟨h0, h1⟩, h2⟩ := h
    have h0 := Nat.eq_of_beq_eq_true h0
    subst h0
    cases hpo : ops[p]? with
    | none => rw [hpo] at h1; cases h1
    | some q =>
      rw [hpo] at h1
      simp only [Option.map_some, Bool.and_eq_true] at h1
      have hpi := (Array.getElem?_eq_some_iff.1 hpo).1
      have hm := (rdy1_mem hr hpo).1 h1.1
      simp only [chkPlan, Bool.and_eq_true, beq_self_eq_true, true_and]
      exact ⟨rdy_one hm fun j hj => Nat.eq_of_beq_eq_true (only_rdy hr h1.2 j hj), chkM_ok hp l _ _ _ (hr.set hpi) h2⟩
  | .new q :: l, L, listed, none, hr, h => by simp [chkM] at h
theorem plan_ok {pl : List Stp} (h : (pairsB (infL ops ops.toList) 0 (infL ops ops.toList) && chkM (infL ops ops.toList) 0 none pl) = true) : chkPlan ops (Array.replicate ops.size false) none pl = true := by
  rw [Bool.and_eq_true] at h
  refine chkM_ok h.1 pl 0 _ none ⟨by simp, fun j => ?_⟩ h.2
  simp [Array.getD_eq_getD_getElem?, Array.getElem?_replicate]
  split <;> rfl
end Ry
end Go.TP
