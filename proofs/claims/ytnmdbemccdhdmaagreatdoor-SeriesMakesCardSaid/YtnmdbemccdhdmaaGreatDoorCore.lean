/- The engine, part 1: environments, runs of code on a heap, one rule for each form of code. Nothing of a program stands here. -/
import Derived.OrdersIn
import Derived.RangeFuncCalls
import Derived.KernelRfl
namespace Go.TP
open Go

abbrev Heap := Array Obj
abbrev Env := List (Nat × Value)

def look : Env → Nat → Option Value
  | [], _ => none
  | (t, v) :: e, u => bif Nat.beq t u then some v else look e u
def ev (e : Env) : Operand → Option Value
  | .tmp t => look e t
  | .const v => some v
  | .global g => some (.pointer (some ⟨g, 0, none⟩))
  | .func f => some (.func (.func f) #[] #[])
def evs (e : Env) : List Operand → Option (List Value)
  | [] => some []
  | x :: l => match ev e x, evs e l with
    | some v, some vs => some (v :: vs)
    | _, _ => none

/-- The frame has n slots; those that the environment names hold what it says. -/
structure Fits (n : Nat) (e : Env) (a : Act) : Prop where
  size : a.tmps.size = n
  get : ∀ t v, look e t = some v → t < n ∧ a.tmps.getD t undef = v

theorem look_cons {t u : Nat} {v : Value} {e : Env} : look ((t, v) :: e) u = if t = u then some v else look e u := by
  by_cases h : t = u
  · subst h; simp [look]
  · have h' : Nat.beq t u = false := by
      cases hb : Nat.beq t u
      · rfl
      · exact absurd (Nat.eq_of_beq_eq_true hb) h
    simp [look, h, h']

def Agree (e : Env) (ρ : Operand → Value) : Prop := ∀ x v, ev e x = some v → ρ x = v

theorem Fits.agree {n : Nat} {e : Env} {a : Act} (h : Fits n e a) : Agree e a.eval := by
  intro x v hx
  cases x with
  | tmp t => exact (h.get t v hx).2
  | const u => simpa [ev, Act.eval] using hx
  | global g => simpa [ev, Act.eval] using hx
  | func f => simpa [ev, Act.eval] using hx

theorem Agree.evs {e : Env} {ρ : Operand → Value} (h : Agree e ρ) : ∀ {l : List Operand} {vs : List Value}, evs e l = some vs → l.map ρ = vs
  | [], vs, hx => by simp [TP.evs] at hx; simp [hx]
  | x :: l, vs, hx => by
    simp only [TP.evs] at hx
    split at hx
    · rename_i v ws h1 h2
      cases hx
      simp [h x v h1, Agree.evs h h2]
    · cases hx

theorem Fits.put {n : Nat} {e : Env} {a : Act} (h : Fits n e a) {d : Nat} (hd : d < n) (v : Value) : Fits n ((d, v) :: e) (a.put (some d) v) := by
  refine ⟨by simp [Act.put, h.size], fun t u ht => ?_⟩
  rw [look_cons] at ht
  split at ht
  · rename_i heq
    subst heq
    cases ht
    exact ⟨hd, by simp [Act.put, Array.getD, h.size, hd]⟩
  · rename_i hne
    obtain ⟨h1, h2⟩ := h.get t u ht
    refine ⟨h1, ?_⟩
    rw [← h2]
    simp [Act.put, Array.getElem?_setIfInBounds_ne hne]

/-- e knows at least what E knows. -/
def Sub : Env → Env → Prop
  | [], _ => True
  | (t, v) :: E, e => look e t = some v ∧ Sub E e
theorem Sub.look {E e : Env} : Sub E e → ∀ {t v}, look E t = some v → look e t = some v := by
  induction E with
  | nil => intro _ t v h; cases h
  | cons p E ih =>
    obtain ⟨s, u⟩ := p
    rintro ⟨h1, h2⟩ t v h
    rw [look_cons] at h
    split at h
    · rename_i heq; subst heq; cases h; exact h1
    · exact ih h2 h
theorem Fits.sub {n : Nat} {E e : Env} {a : Act} (h : Fits n e a) (hs : Sub E e) : Fits n E a := ⟨h.size, fun t v ht => h.get t v (hs.look ht)⟩

/-- No limit on the functions, none on the depth; rd: the round of a range over a function. -/
def Wd (rd : Option Nat) : Fence := { fn := fun _ => True, depth := none, alive := false, round := rd }
theorem fenced_wd (P : Program) (m : Machine) (rd : Option Nat) : m.fenced P (Wd rd) := by
  intro g _
  exact ⟨fun h => by simp [Wd] at h, Or.inl trivial, fun _ _ => trivial, fun _ h => by simp [Wd] at h⟩
theorem room_wd (rd : Option Nat) (n : Nat) : (Wd rd).room n := fun _ h => by simp [Wd] at h
theorem callsWd {P : Program} {f : FuncId} {args : Array Value} {w : World} {R : Ending → World → Prop} {rd : Option Nat} {n : Nat} (h : Calls P f args w R) : CallsIn (Wd rd) n P f args w R := by
  cases rd with
  | none => exact callsIn_wide.2 h
  | some l => exact CallsIn.inRound l (callsIn_wide.2 h)

/-- Whatever stays as it is: the outside, the tape, what was printed. -/
structure Kt where
  n : Nat
  rd : Option Nat
  os : Os
  tape : Nat → Question → Nat
  out : Array (Nat × ByteArray)
  ds : List Deferred
  Q : Exit → Act → World → Prop
structure Wk (K : Kt) (h : Heap) (w : World) : Prop where
  heap : w.heap = h
  os : w.os = K.os
  tape : w.tape = K.tape
  out : w.output = K.out

def RunA (P : Program) (rd : Option Nat) (Q : Exit → Act → World → Prop) (κ : List Item) (a : Act) (w : World) : Prop :=
  ∀ (b : Frame) (k : List Item) (cs : List Frame), b.roundOf = rd →
    ∃ x a' w', Q x a' w' ∧ ArrivesIn (Machine.fenced P (Wd rd)) P (lone (b.atR a (κ ++ k)) cs w) b k cs x a' w'

theorem RunA.of_wp {P : Program} {rd : Option Nat} {Q : Exit → Act → World → Prop} {c : Code} {κ : List Item} {a : Act} {w : World} {N : Act → World → Prop}
    (h : c.wpIn (Wd rd) 0 P (Exit.then N (fun _ _ _ => False)) a w) (hN : ∀ a' w', N a' w' → RunA P rd Q κ a' w') : RunA P rd Q (.code c :: κ) a w := by
  intro b k cs hb
  obtain ⟨e, a1, w1, hq, harr⟩ := h b (κ ++ k) cs hb trivial (room_wd _ _)
  cases e with
  | normal =>
    obtain ⟨x, a2, w2, hq2, harr2⟩ := hN _ _ hq b k cs hb
    exact ⟨x, a2, w2, hq2, .of_steps harr harr2⟩
  | exit _ => exact hq.elim
  | goto _ => exact hq.elim
  | ret => exact hq.elim
  | panic _ => exact hq.elim
  | outgrown => exact hq.elim

theorem RunA.step {P : Program} {rd : Option Nat} {Q : Exit → Act → World → Prop} {κ κ' : List Item} {a a' : Act} {w w' : World}
    (hs : ∀ (b : Frame) (k : List Item) (cs : List Frame), b.roundOf = rd → step P (lone (b.atR a (κ ++ k)) cs w) = .next (lone (b.atR a' (κ' ++ k)) cs w'))
    (h : RunA P rd Q κ' a' w') : RunA P rd Q κ a w := fun b k cs hb =>
  let ⟨x, a2, w2, hq, harr⟩ := h b k cs hb
  ⟨x, a2, w2, hq, .of_steps (.one (fenced_wd _ _ _) (hs b k cs hb)) harr⟩

/-- From here on the code runs, whatever else the frame and the world hold. -/
def Run (P : Program) (K : Kt) (κ : List Item) (e : Env) (h : Heap) : Prop :=
  ∀ (a : Act) (w : World), Fits K.n e a → a.defers = K.ds → Wk K h w → RunA P K.rd K.Q κ a w

section rules
variable {P : Program} {K : Kt} {κ : List Item} {e : Env} {h : Heap}

theorem Run.sub {E : Env} (hs : Sub E e) (r : Run P K κ E h) : Run P K κ e h := fun a w hf hd hw => r a w (hf.sub hs) hd hw
theorem Run.seq {x y : Code} (r : Run P K (.code x :: .code y :: κ) e h) : Run P K (.code (.seq x y) :: κ) e h :=
  fun a w hf hd hw => RunA.step (κ' := .code x :: .code y :: κ) (fun _ _ _ _ => stepR_seq) (r a w hf hd hw)
theorem Run.skip (r : Run P K κ e h) : Run P K (.code .skip :: κ) e h :=
  fun a w hf hd hw => RunA.step (κ' := κ) (fun _ _ _ _ => stepR_skip) (r a w hf hd hw)
theorem Run.block {id : Nat} {c : Code} (r : Run P K (.code c :: .inBlock id :: κ) e h) : Run P K (.code (.block id c) :: κ) e h :=
  fun a w hf hd hw => RunA.step (κ' := .code c :: .inBlock id :: κ) (fun _ _ _ _ => stepR_block) (r a w hf hd hw)
theorem Run.inBlock {id : Nat} (r : Run P K κ e h) : Run P K (.inBlock id :: κ) e h :=
  fun a w hf hd hw => RunA.step (κ' := κ) (fun _ _ _ _ => stepR_inBlock) (r a w hf hd hw)
theorem Run.loop {c : Code} (r : Run P K (.code c :: .inLoop c :: κ) e h) : Run P K (.code (.loop c) :: κ) e h :=
  fun a w hf hd hw => RunA.step (κ' := .code c :: .inLoop c :: κ) (fun _ _ _ _ => stepR_loop) (r a w hf hd hw)
theorem Run.inLoop {c : Code} (r : Run P K (.code c :: .inLoop c :: κ) e h) : Run P K (.inLoop c :: κ) e h :=
  fun a w hf hd hw => RunA.step (κ' := .code c :: .inLoop c :: κ) (fun _ _ _ _ => stepR_inLoop) (r a w hf hd hw)
theorem Run.cond {c : Operand} {x y : Code} {t : Bool} (hc : ev e c = some (.bool t)) (r : Run P K (.code (if t then x else y) :: κ) e h) :
    Run P K (.code (.cond c x y) :: κ) e h :=
  fun a w hf hd hw => RunA.step (κ' := .code (if t then x else y) :: κ) (fun _ _ _ _ => stepR_cond (hf.agree c _ hc)) (r a w hf hd hw)
theorem Run.yes {c : Operand} {x y : Code} {t : Bool} (hc : ev e c = some (.bool t)) (ht : t = true) (r : Run P K (.code x :: κ) e h) : Run P K (.code (.cond c x y) :: κ) e h :=
  Run.cond hc (by subst ht; exact r)
theorem Run.no {c : Operand} {x y : Code} {t : Bool} (hc : ev e c = some (.bool t)) (ht : t = false) (r : Run P K (.code y :: κ) e h) : Run P K (.code (.cond c x y) :: κ) e h :=
  Run.cond hc (by subst ht; exact r)
theorem Run.iff {c : Operand} {x y : Code} {t : Bool} (hc : ev e c = some (.bool t)) (r1 : t = true → Run P K (.code x :: κ) e h) (r2 : t = false → Run P K (.code y :: κ) e h) :
    Run P K (.code (.cond c x y) :: κ) e h := by
  cases t
  · exact Run.no hc rfl (r2 rfl)
  · exact Run.yes hc rfl (r1 rfl)
theorem exitTo_append {id : Nat} {κ κ' : List Item} (k : List Item) (hx : exitTo id κ = some κ') : exitTo id (κ ++ k) = some (κ' ++ k) := by
  induction κ with
  | nil => simp [exitTo] at hx
  | cons x κ ih =>
    cases x <;> simp only [List.cons_append, exitTo] at hx ⊢ <;> first
      | exact ih hx
      | (split at hx
         · cases hx; rename_i hh; rw [if_pos hh]
         · rename_i hh; rw [if_neg hh]; exact ih hx)
theorem Run.exit {id : Nat} {κ' : List Item} (hx : exitTo id κ = some κ') (r : Run P K κ' e h) : Run P K (.code (.exit id) :: κ) e h :=
  fun a w hf hd hw => RunA.step (κ' := κ') (fun _ k _ _ => stepR_exit (exitTo_append k hx)) (r a w hf hd hw)
theorem Run.nil (hq : ∀ a w, Fits K.n e a → a.defers = K.ds → Wk K h w → K.Q .normal a w) : Run P K [] e h :=
  fun a w hf hd hw _ _ _ _ => ⟨.normal, a, w, hq a w hf hd hw, .refl _⟩
theorem Run.ret (hq : ∀ a w, Fits K.n e a → a.defers = K.ds → Wk K h w → K.Q .ret a w) : Run P K (.code .ret :: κ) e h :=
  fun a w hf hd hw _ k _ _ => ⟨.ret, a, w, hq a w hf hd hw,
    fun hn => ⟨_, .one (fenced_wd _ _ _) (stepR_ret hn)⟩, fun _ => ⟨κ ++ k, .refl _⟩⟩
end rules

/-! ### Operations -/
def okOp (n : Nat) (o : Oper) : Bool :=
  (match o.dst with | some d => Nat.blt d n | none => true) && (match o.op with | .defer _ => false | .select .. => false | _ => true)
def okL (n : Nat) (l : List Oper) : Bool := l.all (okOp n)

def WL (P : Program) (rd : Option Nat) (ops : Array Oper) (N : Act → World → Prop) : List Oper → Act → World → Prop
  | [], a, w => N a w
  | o :: l, a, w => if Region.wanted o (yielded ops a.tmps) then o.wpIn (Wd rd) 0 P a w (WL P rd ops N l) (fun _ _ _ => False) else WL P rd ops N l (a.put o.dst undef) w

theorem WL.sound {P : Program} {rd : Option Nat} {ops : Array Oper} {N : Act → World → Prop} (l : List Oper) : ∀ (k : Nat), (∀ j, l[j]? = ops[k + j]?) →
    ∀ a w, WL P rd ops N l a w → wpOpsIn (Wd rd) 0 P ops (Exit.then N (fun _ _ _ => False)) (List.range' k l.length) a w := by
  induction l with
  | nil => intro k _ a w h; simpa [wpOpsIn, WL, Exit.then] using h
  | cons o l ih =>
    intro k hl a w h
    have h0 : ops[k]? = some o := by simpa using (hl 0).symm
    have hl' : ∀ j, l[j]? = ops[k + 1 + j]? := fun j => by have := hl (j + 1); simpa [Nat.add_assoc, Nat.add_comm 1 j] using this
    simp only [List.length_cons, List.range'_succ, wpOpsIn, h0]
    simp only [WL] at h
    split
    · rename_i hw
      rw [if_pos hw] at h
      have h := Oper.wpIn_mono (K' := wpOpsIn (Wd rd) 0 P ops (Exit.then N (fun _ _ _ => False)) (List.range' (k + 1) l.length)) (fun a w => ih (k + 1) hl' a w) h
      revert h
      unfold Oper.wpIn
      rintro ⟨h1, h2⟩
      refine ⟨h1, ?_⟩
      generalize (o.semAt (Wd rd).round a.eval).run P w = r at *
      cases r with
      | ok x w' =>
        cases x <;> simp only [Oper.uponIn] at h2 ⊢ <;> first
          | exact h2
          | (refine ⟨h2.1, CallsIn.mono h2.2 fun en w'' he => ?_⟩
             cases en <;> first | exact he | exact he.elim | (obtain ⟨_, _, h3⟩ := he; exact h3.elim))
          | (refine ⟨h2.1, RoundIn.mono h2.2 fun en w'' he => ?_⟩
             cases en <;> first | exact he | exact he.elim | (obtain ⟨_, _, h3⟩ := he; exact h3.elim))
      | halt x w' => cases x <;> simp only [Oper.uponIn] at h2 ⊢ <;> exact h2
    · rename_i hw
      rw [if_neg hw] at h
      exact ⟨fun _ _ => trivial, ih (k + 1) hl' _ _ h⟩

/-- The rest of a region: the operations l, then κ. -/
def RunL (P : Program) (K : Kt) (ops : Array Oper) (l : List Oper) (κ : List Item) (e : Env) (h : Heap) : Prop :=
  okL K.n l = true → ∀ (a : Act) (w : World), Fits K.n e a → a.defers = K.ds → Wk K h w → WL P K.rd ops (fun a' w' => RunA P K.rd K.Q κ a' w') l a w

section opsrules
variable {P : Program} {K : Kt} {κ : List Item} {e : Env} {h : Heap} {ops : Array Oper} {l : List Oper}

theorem Run.region {id : Nat} (hok : okL K.n l = true) (r : RunL P K l.toArray l κ e h) : Run P K (.code (.region id l.toArray false) :: κ) e h :=
  fun a w hf hd hw => RunA.of_wp (N := fun a' w' => RunA P K.rd K.Q κ a' w')
    (wpIn_region (by
      have := WL.sound (ops := l.toArray) l 0 (by simp) a w (r hok a w hf hd hw)
      rw [List.range_eq_range']
      simpa using this)) (fun _ _ h => h)
theorem RunL.nil (r : Run P K κ e h) : RunL P K ops [] κ e h := fun _ a w hf hd hw => r a w hf hd hw

/-- Operation o, met with e and h, has the value v, and nothing turns. -/
def Ev (P : Program) (e : Env) (h : Heap) (o : Oper) (v : Value) : Prop :=
  ∀ (ρ : Operand → Value) (w : World), Agree e ρ → w.heap = h → (execOp ρ o).run P w = .ok (.value v) w ∧ o.about P w ρ = none
/-- Operation o, met with e and h: what may come of it. -/
def Ef (P : Program) (rd : Option Nat) (e : Env) (h : Heap) (o : Oper) (R : Value → Heap → Prop) : Prop :=
  ∀ (a : Act) (w : World), Agree e a.eval → w.heap = h → ∀ next : Act → World → Prop,
    (∀ v w', R v w'.heap → w'.os = w.os → w'.tape = w.tape → w'.output = w.output → next (a.put o.dst v) w') → o.wpIn (Wd rd) 0 P a w next (fun _ _ _ => False)

theorem okL_cons {n : Nat} {o : Oper} (hk : okL n (o :: l) = true) : okOp n o = true ∧ okL n l = true := by simpa [okL] using hk
theorem semAt_ok {n : Nat} {o : Oper} (rd : Option Nat) (ρ : Operand → Value) (hk : okOp n o = true) : o.semAt rd ρ = execOp ρ o := by
  refine Oper.semAt_eq rd ρ o fun c hc => ?_
  simp [okOp, hc] at hk
theorem okOp_dst {n d : Nat} {o : Oper} (hk : okOp n o = true) (hd : o.dst = some d) : d < n := by
  simp [okOp, hd, Nat.blt] at hk
  omega

theorem RunL.p {d : Nat} {op : Op} {ty : TypeId} {pos : String} {aft : Array Edge} {v : Value} (hv : Ev P e h ⟨some d, op, ty, pos, aft, none⟩ v)
    (r : RunL P K ops l κ ((d, v) :: e) h) : RunL P K ops (⟨some d, op, ty, pos, aft, none⟩ :: l) κ e h := by
  intro hk a w hf hd hw
  obtain ⟨k1, k2⟩ := okL_cons hk
  obtain ⟨h1, h2⟩ := hv a.eval w hf.agree hw.heap
  simp only [WL, Region.wanted, if_true]
  refine ⟨fun _ _ => trivial, ?_⟩
  rw [show (Wd K.rd).round = K.rd from rfl, semAt_ok K.rd _ k1, h1]
  exact r k2 _ w (hf.put (okOp_dst k1 rfl) v) hd hw
theorem RunL.x {d : Nat} {op : Op} {ty : TypeId} {pos : String} {aft : Array Edge} {R : Value → Heap → Prop} (hv : Ef P K.rd e h ⟨some d, op, ty, pos, aft, none⟩ R)
    (r : ∀ v h', R v h' → RunL P K ops l κ ((d, v) :: e) h') : RunL P K ops (⟨some d, op, ty, pos, aft, none⟩ :: l) κ e h := by
  intro hk a w hf hd hw
  obtain ⟨k1, k2⟩ := okL_cons hk
  simp only [WL, Region.wanted, if_true]
  exact hv a w hf.agree hw.heap _ fun v w' hr h1 h2 h3 => r v _ hr k2 _ w' (hf.put (okOp_dst k1 rfl) v) hd ⟨rfl, h1.trans hw.os, h2.trans hw.tape, h3.trans hw.out⟩
theorem RunL.y {op : Op} {ty : TypeId} {pos : String} {aft : Array Edge} {R : Value → Heap → Prop} (hv : Ef P K.rd e h ⟨none, op, ty, pos, aft, none⟩ R)
    (r : ∀ v h', R v h' → RunL P K ops l κ e h') : RunL P K ops (⟨none, op, ty, pos, aft, none⟩ :: l) κ e h := by
  intro hk a w hf hd hw
  obtain ⟨_, k2⟩ := okL_cons hk
  simp only [WL, Region.wanted, if_true]
  exact hv a w hf.agree hw.heap _ fun v w' hr h1 h2 h3 => r v _ hr k2 _ w' hf hd ⟨rfl, h1.trans hw.os, h2.trans hw.tape, h3.trans hw.out⟩

theorem slot_of {n : Nat} {a : Act} {t : Nat} {v : Value} (hf : Fits n e a) (hl : look e t = some v) : a.tmps[t]? = some v := by
  obtain ⟨h1, h2⟩ := hf.get t v hl
  have : t < a.tmps.size := by rw [hf.size]; exact h1
  rw [Array.getElem?_eq_getElem this]
  simpa [Array.getD, this] using h2
theorem yielded_bool {n : Nat} {a : Act} {j t : Nat} {b : Bool} (hf : Fits n e a) (hj : (ops[j]?).bind (·.dst) = some t) (hl : look e t = some (.bool b)) : yielded ops a.tmps j = some b := by
  simp [yielded, hj, slot_of hf hl]
theorem yielded_undef {n : Nat} {a : Act} {j t : Nat} (hf : Fits n e a) (hj : (ops[j]?).bind (·.dst) = some t) (hl : look e t = some undef) : yielded ops a.tmps j = none := by
  simp [yielded, hj, slot_of hf hl, undef]
/-- The guard holds. -/
theorem RunL.on {d : Option Nat} {op : Op} {ty : TypeId} {pos : String} {aft : Array Edge} {j t : Nat} {want b : Bool} (hj : (ops[j]?).bind (·.dst) = some t) (hl : look e t = some (.bool b)) (hb : b = want)
    (r : RunL P K ops (⟨d, op, ty, pos, aft, none⟩ :: l) κ e h) : RunL P K ops (⟨d, op, ty, pos, aft, some (j, want)⟩ :: l) κ e h := by
  intro hk a w hf hd hw
  have hk' : okL K.n (⟨d, op, ty, pos, aft, none⟩ :: l) = true := by simpa [okL, okOp] using hk
  have := r hk' a w hf hd hw
  simp only [WL, Region.wanted, if_true] at this
  have hy := yielded_bool hf hj hl
  subst hb
  simp only [WL, Region.wanted, hy, beq_self_eq_true, if_true]
  exact this
/-- The guard doesn't hold. -/
theorem RunL.off {d : Nat} {op : Op} {ty : TypeId} {pos : String} {aft : Array Edge} {j t : Nat} {want b : Bool} (hj : (ops[j]?).bind (·.dst) = some t) (hl : look e t = some (.bool b)) (hb : b = !want)
    (r : RunL P K ops l κ ((d, undef) :: e) h) : RunL P K ops (⟨some d, op, ty, pos, aft, some (j, want)⟩ :: l) κ e h := by
  intro hk a w hf hd hw
  obtain ⟨k1, k2⟩ := okL_cons hk
  have hy := yielded_bool hf hj hl
  have hn : Region.wanted ⟨some d, op, ty, pos, aft, some (j, want)⟩ (yielded ops a.tmps) = false := by
    simp [Region.wanted, hy, hb]
  simp only [WL, hn, Bool.false_eq_true, if_false]
  exact r k2 _ w (hf.put (okOp_dst k1 rfl) undef) hd hw
theorem RunL.offu {d : Nat} {op : Op} {ty : TypeId} {pos : String} {aft : Array Edge} {j t : Nat} {want : Bool} (hj : (ops[j]?).bind (·.dst) = some t) (hl : look e t = some undef)
    (r : RunL P K ops l κ ((d, undef) :: e) h) : RunL P K ops (⟨some d, op, ty, pos, aft, some (j, want)⟩ :: l) κ e h := by
  intro hk a w hf hd hw
  obtain ⟨k1, k2⟩ := okL_cons hk
  have hy := yielded_undef hf hj hl
  have hn : Region.wanted ⟨some d, op, ty, pos, aft, some (j, want)⟩ (yielded ops a.tmps) = false := by
    simp [Region.wanted, hy]
  simp only [WL, hn, Bool.false_eq_true, if_false]
  exact r k2 _ w (hf.put (okOp_dst k1 rfl) undef) hd hw
/-- A test that isn't decided: both ways. -/
theorem RunL.split {x : Operand} {b : Bool} (_hx : ev e x = some (.bool b)) (r1 : b = true → RunL P K ops l κ e h) (r2 : b = false → RunL P K ops l κ e h) : RunL P K ops l κ e h := by
  cases b
  · exact r2 rfl
  · exact r1 rfl
end opsrules

/-! ### Calls -/
/-- Function f, called so on a heap, returns: what may come of it. -/
def Ret (P : Program) (f : FuncId) (args : List Value) (h : Heap) (R : Value → Heap → Prop) : Prop :=
  ∀ w : World, w.heap = h → Calls P f args.toArray w fun en w' => ∃ v, en = .returned v ∧ w'.os = w.os ∧ w'.tape = w.tape ∧ w'.output = w.output ∧ R v w'.heap
theorem Ret.mono {P : Program} {f : FuncId} {args : List Value} {h : Heap} {R R' : Value → Heap → Prop} (hr : Ret P f args h R) (hi : ∀ v h', R v h' → R' v h') : Ret P f args h R' :=
  fun w hw => (hr w hw).mono fun _ _ ⟨v, h1, h2, h3, h4, h5⟩ => ⟨v, h1, h2, h3, h4, hi _ _ h5⟩

def Enters (P : Program) (f : FuncId) : Prop := ∀ (args : Array Value) (w : World), (callFunc f args).run P w = .ok (.enter f args) w

theorem Enters.of {P : Program} {f : FuncId} {fn : Func} {c : Code} (hf : P.funcs[f]? = some fn) (hname : (fn.name == "runtime.NumGoroutine") = false) (hb : fn.body = some c) : Enters P f := by
  intro args w
  have hname' : ¬ fn.name = "runtime.NumGoroutine" := by simpa using hname
  simp [callFunc, program, Sem.run, hf, hname', hb]
def argEnv (k : Nat) : List Value → Env
  | [] => []
  | v :: l => (k, v) :: argEnv (k + 1) l
theorem look_argEnv (l : List Value) : ∀ (k t : Nat) (v : Value), look (argEnv k l) t = some v → k ≤ t ∧ l[t - k]? = some v := by
  induction l with
  | nil => intro k t v h; cases h
  | cons x l ih =>
    intro k t v h
    simp only [argEnv] at h
    rw [look_cons] at h
    split at h
    · rename_i heq; subst heq; cases h; simp
    · rename_i hne
      obtain ⟨h1, h2⟩ := ih (k + 1) t v h
      refine ⟨by omega, ?_⟩
      rw [show t - k = (t - (k + 1)) + 1 by omega]
      simpa using h2

/-- What a function's body must come to. -/
def Kf (P : Program) (fn : Func) (R : Value → Heap → Prop) (os : Os) (tape : Nat → Question → Nat) (out : Array (Nat × ByteArray)) : Kt :=
  ⟨fn.ntmps, none, os, tape, out, [], bodyPost P fn fun en w' => ∃ v, en = .returned v ∧ w'.os = os ∧ w'.tape = tape ∧ w'.output = out ∧ R v w'.heap⟩
theorem Ret.enter {P : Program} {f : FuncId} {fn : Func} {c : Code} {args : List Value} {h : Heap} {R : Value → Heap → Prop} (hf : P.funcs[f]? = some fn) (hb : fn.body = some c)
    (hn : Nat.ble args.length fn.ntmps = true)
    (r : ∀ os tape out, Run P (Kf P fn R os tape out) [.code c] (argEnv 0 args) h) : Ret P f args h R := by
  intro w hw
  refine calls_of_wp hf hb ?_
  refine (wpIn_wide (n := 0)).1 ?_
  intro b k cs hro _ _
  have hlen : args.length ≤ fn.ntmps := by simpa using hn
  refine r w.os w.tape w.output _ w ⟨?_, fun t v ht => ?_⟩ rfl ⟨hw, rfl, rfl, rfl⟩ b k cs hro
  · show _ = fn.ntmps
    simp; omega
  · obtain ⟨_, h2⟩ := look_argEnv args 0 t v ht
    simp only [Nat.sub_zero] at h2
    obtain ⟨h3, h4⟩ := List.getElem?_eq_some_iff.1 h2
    refine ⟨Nat.lt_of_lt_of_le h3 hlen, ?_⟩
    simp [Array.getD, h3, h4]
    intro hh; omega

section ends
variable {P : Program} {os : Os} {tape : Nat → Question → Nat} {out : Array (Nat × ByteArray)} {fn : Func} {κ : List Item} {e : Env} {h : Heap} {R : Value → Heap → Prop}
/-- What a function hands back, off its named slots. -/
def outs (e : Env) : List ResultVar → Option (List Value)
  | [] => some []
  | .tmp t :: l => match look e t, outs e l with
    | some v, some vs => some (v :: vs)
    | _, _ => none
  | .cell _ _ :: _ => none
def shut : List Value → Value
  | [v] => v
  | l => .tuple l.toArray
theorem results_outs (P : Program) (g : ResultVar → Sem Value) (hg : ∀ t v, look e t = some v → g (.tmp t) = Pure.pure v) (w : World) : ∀ (rs : List ResultVar) (vs : List Value), outs e rs = some vs →
    (rs.mapM g).run P w = .ok vs w
  | [], vs, hx => by simp only [outs] at hx; cases hx; rfl
  | .tmp t :: rs, vs, hx => by
    simp only [outs] at hx
    split at hx
    · rename_i v ws h1 h2
      cases hx
      have ih := results_outs P g hg w rs ws h2
      simp only [List.mapM_cons, hg t v h1, Sem.run_bind]
      show ((Sem.run P (List.mapM g rs) w).andThen fun a_1 w' => Sem.run P (Pure.pure (v :: a_1)) w') = _
      rw [ih]
      rfl
    · cases hx
  | .cell _ _ :: rs, vs, hx => by simp [outs] at hx
theorem results_of {a : Act} {n : Nat} (hf : Fits n e a) {rs : List ResultVar} {vs : List Value} (hfn : fn.results = rs.toArray) (hx : outs e rs = some vs) (w : World) :
    (results fn a.tmps).run P w = .ok (shut vs) w := by
  unfold results
  rw [hfn, List.mapM_toArray]
  simp only [map_eq_pure_bind, bind_assoc, pure_bind]
  rw [Sem.run_bind, results_outs P _ (fun t v ht => congrArg Pure.pure (hf.get t v ht).2) w rs vs hx]
  cases vs with
  | nil => rfl
  | cons v vs => cases vs with
    | nil => rfl
    | cons u us => rfl
theorem Run.give {rs : List ResultVar} {vs : List Value} (hfn : fn.results = rs.toArray) (hx : outs e rs = some vs) (hR : R (shut vs) h) :
    Run P (Kf P fn R os tape out) (.code .ret :: κ) e h :=
  Run.ret fun a w hf hd hw => ⟨hd, _, results_of hf hfn hx w, _, rfl, hw.os, hw.tape, hw.out, by rw [hw.heap]; exact hR⟩
theorem Run.fall {rs : List ResultVar} {vs : List Value} (hfn : fn.results = rs.toArray) (hx : outs e rs = some vs) (hR : R (shut vs) h) :
    Run P (Kf P fn R os tape out) [] e h :=
  Run.nil fun a w hf hd hw => ⟨hd, _, results_of hf hfn hx w, _, rfl, hw.os, hw.tape, hw.out, by rw [hw.heap]; exact hR⟩
end ends

/-! ### Loops and joins -/
theorem Run.rounds {P : Program} {K : Kt} {κ : List Item} {e : Env} {h : Heap} {c : Code} {α : Type} (I : α → Heap → Prop) (E : α → Env) (μ : α → Nat) (x0 : α) (h0 : I x0 h) (hE : Sub (E x0) e)
    (round : ∀ x h, I x h → (∀ y h', I y h' → μ y < μ x → Run P K (.inLoop c :: κ) (E y) h') → Run P K (.code c :: .inLoop c :: κ) (E x) h) :
    Run P K (.code (.loop c) :: κ) e h := by
  have key : ∀ (m : Nat) x h, μ x = m → I x h → Run P K (.code c :: .inLoop c :: κ) (E x) h := by
    intro m
    induction m using Nat.strongRecOn with
    | _ m ih =>
      intro x h hm hI
      exact round x h hI fun y h' hy hlt => Run.inLoop (ih (μ y) (hm ▸ hlt) y h' rfl hy)
  exact Run.sub hE (Run.loop (key _ x0 h rfl h0))
theorem Run.join {P : Program} {K : Kt} {x : Item} {κ : List Item} {e : Env} {h : Heap} {α : Type} (I : α → Heap → Prop) (E : α → Env)
    (rest : ∀ x h, I x h → Run P K κ (E x) h) (first : (∀ x h, I x h → Run P K κ (E x) h) → Run P K (x :: κ) e h) : Run P K (x :: κ) e h := first rest
end Go.TP
