/- What one function of the program does: environments, runs of code, operations, calls, regions that draw their order. -/
import Derived.OrdersIn
import Derived.RangeFuncCalls
import Derived.KernelRfl
import Derived.Laws.Bits
import Derived.Laws.Cells
import Derived.Laws.Entries
import Derived.Laws.Build
import Derived.Tactics
import Derived.Laws.Small
import Derived.Laws.Pointers
import Derived.WideLaws
import Derived.Maps.AppendAt
import Derived.Deep.AppendSrc
import Derived.Deep.Upon
import Derived.Great.BuildSlice
/-! Core. -/
namespace Go.TP
open Go

abbrev Heap := Array Obj
abbrev Env := List (Nat × Value)

def look : Env → Nat → Option Value
  | [], _ => none
  | (t, v) :: e, u => bif Nat.beq t u then some v else look e u
def ev (e : Env) : Operand → Option Value
  | .tmp t => look e t
  | .const v => some v
  | .global g => some (.pointer (some ⟨g, 0, none⟩))
  | .func f => some (.func (.func f) #[] #[])
def evs (e : Env) : List Operand → Option (List Value)
  | [] => some []
  | x :: l => match ev e x, evs e l with
    | some v, some vs => some (v :: vs)
    | _, _ => none

/-- The frame has n slots; those that the environment names hold what it says. -/
structure Fits (n : Nat) (e : Env) (a : Act) : Prop where
  size : a.tmps.size = n
  get : ∀ t v, look e t = some v → t < n ∧ a.tmps.getD t undef = v

theorem look_cons {t u : Nat} {v : Value} {e : Env} : look ((t, v) :: e) u = if t = u then some v else look e u := by
  by_cases h : t = u
  · subst h; simp [look]
  · have h' : Nat.beq t u = false := by
      cases hb : Nat.beq t u
      · rfl
      · exact absurd (Nat.eq_of_beq_eq_true hb) h
    simp [look, h, h']

def Agree (e : Env) (ρ : Operand → Value) : Prop := ∀ x v, ev e x = some v → ρ x = v

theorem Fits.agree {n : Nat} {e : Env} {a : Act} (h : Fits n e a) : Agree e a.eval := by
  intro x v hx
  cases x with
  | tmp t => exact (h.get t v hx).2
  | const u => simpa [ev, Act.eval] using hx
  | global g => simpa [ev, Act.eval] using hx
  | func f => simpa [ev, Act.eval] using hx

theorem Agree.evs {e : Env} {ρ : Operand → Value} (h : Agree e ρ) : ∀ {l : List Operand} {vs : List Value}, evs e l = some vs → l.map ρ = vs
  | [], vs, hx => by simp [TP.evs] at hx; simp [hx]
  | x :: l, vs, hx => by
    simp only [TP.evs] at hx
    split at hx
    · rename_i v ws h1 h2
      cases hx
      simp [h x v h1, Agree.evs h h2]
    · cases hx

theorem Fits.put {n : Nat} {e : Env} {a : Act} (h : Fits n e a) {d : Nat} (hd : d < n) (v : Value) : Fits n ((d, v) :: e) (a.put (some d) v) := by
  refine ⟨by simp [Act.put, h.size], fun t u ht => ?_⟩
  rw [look_cons] at ht
  split at ht
  · rename_i heq
    subst heq
    cases ht
    exact ⟨hd, by simp [Act.put, Array.getD, h.size, hd]⟩
  · rename_i hne
    obtain ⟨h1, h2⟩ := h.get t u ht
    refine ⟨h1, ?_⟩
    rw [← h2]
    simp [Act.put, Array.getElem?_setIfInBounds_ne hne]

/-- e knows at least what E knows. -/
def Sub : Env → Env → Prop
  | [], _ => True
  | (t, v) :: E, e => look e t = some v ∧ Sub E e
theorem Sub.look {E e : Env} : Sub E e → ∀ {t v}, look E t = some v → look e t = some v := by
  induction E with
  | nil => intro _ t v h; cases h
  | cons p E ih =>
    obtain ⟨s, u⟩ := p
    rintro ⟨h1, h2⟩ t v h
    rw [look_cons] at h
    split at h
    · rename_i heq; subst heq; cases h; exact h1
    · exact ih h2 h
theorem Fits.sub {n : Nat} {E e : Env} {a : Act} (h : Fits n e a) (hs : Sub E e) : Fits n E a := ⟨h.size, fun t v ht => h.get t v (hs.look ht)⟩

/-- No limit on the functions, none on the depth; rd: the round of a range over a function. -/
def Wd (rd : Option Nat) : Fence := { fn := fun _ => True, depth := none, alive := false, round := rd }
theorem fenced_wd (P : Program) (m : Machine) (rd : Option Nat) : m.fenced P (Wd rd) := by
  intro g _
  exact ⟨fun h => by simp [Wd] at h, Or.inl trivial, fun _ _ => trivial, fun _ h => by simp [Wd] at h⟩
theorem room_wd (rd : Option Nat) (n : Nat) : (Wd rd).room n := fun _ h => by simp [Wd] at h
theorem callsWd {P : Program} {f : FuncId} {args : Array Value} {w : World} {R : Ending → World → Prop} {rd : Option Nat} {n : Nat} (h : Calls P f args w R) : CallsIn (Wd rd) n P f args w R := by
  cases rd with
  | none => exact callsIn_wide.2 h
  | some l => exact CallsIn.inRound l (callsIn_wide.2 h)

/-- Whatever stays as it is: the outside, the tape, what was printed. -/
structure Kt where
  n : Nat
  rd : Option Nat
  os : Os
  tape : Nat → Question → Nat
  out : Array (Nat × ByteArray)
  ds : List Deferred
  Q : Exit → Act → World → Prop
structure Wk (K : Kt) (h : Heap) (w : World) : Prop where
  heap : w.heap = h
  os : w.os = K.os
  tape : w.tape = K.tape
  out : w.output = K.out

def RunA (P : Program) (rd : Option Nat) (Q : Exit → Act → World → Prop) (κ : List Item) (a : Act) (w : World) : Prop :=
  ∀ (b : Frame) (k : List Item) (cs : List Frame), b.roundOf = rd →
    ∃ x a' w', Q x a' w' ∧ ArrivesIn (Machine.fenced P (Wd rd)) P (lone (b.atR a (κ ++ k)) cs w) b k cs x a' w'

theorem RunA.of_wp {P : Program} {rd : Option Nat} {Q : Exit → Act → World → Prop} {c : Code} {κ : List Item} {a : Act} {w : World} {N : Act → World → Prop}
    (h : c.wpIn (Wd rd) 0 P (Exit.then N (fun _ _ _ => False)) a w) (hN : ∀ a' w', N a' w' → RunA P rd Q κ a' w') : RunA P rd Q (.code c :: κ) a w := by
  intro b k cs hb
  obtain ⟨e, a1, w1, hq, harr⟩ := h b (κ ++ k) cs hb trivial (room_wd _ _)
  cases e with
  | normal =>
    obtain ⟨x, a2, w2, hq2, harr2⟩ := hN _ _ hq b k cs hb
    exact ⟨x, a2, w2, hq2, .of_steps harr harr2⟩
  | exit _ => exact hq.elim
  | goto _ => exact hq.elim
  | ret => exact hq.elim
  | panic _ => exact hq.elim
  | outgrown => exact hq.elim

theorem RunA.step {P : Program} {rd : Option Nat} {Q : Exit → Act → World → Prop} {κ κ' : List Item} {a a' : Act} {w w' : World}
    (hs : ∀ (b : Frame) (k : List Item) (cs : List Frame), b.roundOf = rd → step P (lone (b.atR a (κ ++ k)) cs w) = .next (lone (b.atR a' (κ' ++ k)) cs w'))
    (h : RunA P rd Q κ' a' w') : RunA P rd Q κ a w := fun b k cs hb =>
  let ⟨x, a2, w2, hq, harr⟩ := h b k cs hb
  ⟨x, a2, w2, hq, .of_steps (.one (fenced_wd _ _ _) (hs b k cs hb)) harr⟩

/-- From here on the code runs, whatever else the frame and the world hold. -/
def Run (P : Program) (K : Kt) (κ : List Item) (e : Env) (h : Heap) : Prop :=
  ∀ (a : Act) (w : World), Fits K.n e a → a.defers = K.ds → Wk K h w → RunA P K.rd K.Q κ a w

section rules
variable {P : Program} {K : Kt} {κ : List Item} {e : Env} {h : Heap}

theorem Run.sub {E : Env} (hs : Sub E e) (r : Run P K κ E h) : Run P K κ e h := fun a w hf hd hw => r a w (hf.sub hs) hd hw
theorem Run.seq {x y : Code} (r : Run P K (.code x :: .code y :: κ) e h) : Run P K (.code (.seq x y) :: κ) e h :=
  fun a w hf hd hw => RunA.step (κ' := .code x :: .code y :: κ) (fun _ _ _ _ => stepR_seq) (r a w hf hd hw)
theorem Run.skip (r : Run P K κ e h) : Run P K (.code .skip :: κ) e h :=
  fun a w hf hd hw => RunA.step (κ' := κ) (fun _ _ _ _ => stepR_skip) (r a w hf hd hw)
theorem Run.block {id : Nat} {c : Code} (r : Run P K (.code c :: .inBlock id :: κ) e h) : Run P K (.code (.block id c) :: κ) e h :=
  fun a w hf hd hw => RunA.step (κ' := .code c :: .inBlock id :: κ) (fun _ _ _ _ => stepR_block) (r a w hf hd hw)
theorem Run.inBlock {id : Nat} (r : Run P K κ e h) : Run P K (.inBlock id :: κ) e h :=
  fun a w hf hd hw => RunA.step (κ' := κ) (fun _ _ _ _ => stepR_inBlock) (r a w hf hd hw)
theorem Run.loop {c : Code} (r : Run P K (.code c :: .inLoop c :: κ) e h) : Run P K (.code (.loop c) :: κ) e h :=
  fun a w hf hd hw => RunA.step (κ' := .code c :: .inLoop c :: κ) (fun _ _ _ _ => stepR_loop) (r a w hf hd hw)
theorem Run.inLoop {c : Code} (r : Run P K (.code c :: .inLoop c :: κ) e h) : Run P K (.inLoop c :: κ) e h :=
  fun a w hf hd hw => RunA.step (κ' := .code c :: .inLoop c :: κ) (fun _ _ _ _ => stepR_inLoop) (r a w hf hd hw)
theorem Run.cond {c : Operand} {x y : Code} {t : Bool} (hc : ev e c = some (.bool t)) (r : Run P K (.code (if t then x else y) :: κ) e h) :
    Run P K (.code (.cond c x y) :: κ) e h :=
  fun a w hf hd hw => RunA.step (κ' := .code (if t then x else y) :: κ) (fun _ _ _ _ => stepR_cond (hf.agree c _ hc)) (r a w hf hd hw)
theorem Run.yes {c : Operand} {x y : Code} {t : Bool} (hc : ev e c = some (.bool t)) (ht : t = true) (r : Run P K (.code x :: κ) e h) : Run P K (.code (.cond c x y) :: κ) e h :=
  Run.cond hc (by subst ht; exact r)
theorem Run.no {c : Operand} {x y : Code} {t : Bool} (hc : ev e c = some (.bool t)) (ht : t = false) (r : Run P K (.code y :: κ) e h) : Run P K (.code (.cond c x y) :: κ) e h :=
  Run.cond hc (by subst ht; exact r)
theorem Run.iff {c : Operand} {x y : Code} {t : Bool} (hc : ev e c = some (.bool t)) (r1 : t = true → Run P K (.code x :: κ) e h) (r2 : t = false → Run P K (.code y :: κ) e h) :
    Run P K (.code (.cond c x y) :: κ) e h := by
  cases t
  · exact Run.no hc rfl (r2 rfl)
  · exact Run.yes hc rfl (r1 rfl)
theorem exitTo_append {id : Nat} {κ κ' : List Item} (k : List Item) (hx : exitTo id κ = some κ') : exitTo id (κ ++ k) = some (κ' ++ k) := by
  induction κ with
  | nil => simp [exitTo] at hx
  | cons x κ ih =>
    cases x <;> simp only [List.cons_append, exitTo] at hx ⊢ <;> first
      | exact ih hx
      | (split at hx
         · cases hx; rename_i hh; rw [if_pos hh]
         · rename_i hh; rw [if_neg hh]; exact ih hx)
theorem Run.exit {id : Nat} {κ' : List Item} (hx : exitTo id κ = some κ') (r : Run P K κ' e h) : Run P K (.code (.exit id) :: κ) e h :=
  fun a w hf hd hw => RunA.step (κ' := κ') (fun _ k _ _ => stepR_exit (exitTo_append k hx)) (r a w hf hd hw)
theorem Run.nil (hq : ∀ a w, Fits K.n e a → a.defers = K.ds → Wk K h w → K.Q .normal a w) : Run P K [] e h :=
  fun a w hf hd hw _ _ _ _ => ⟨.normal, a, w, hq a w hf hd hw, .refl _⟩
theorem Run.ret (hq : ∀ a w, Fits K.n e a → a.defers = K.ds → Wk K h w → K.Q .ret a w) : Run P K (.code .ret :: κ) e h :=
  fun a w hf hd hw _ k _ _ => ⟨.ret, a, w, hq a w hf hd hw,
    fun hn => ⟨_, .one (fenced_wd _ _ _) (stepR_ret hn)⟩, fun _ => ⟨κ ++ k, .refl _⟩⟩
end rules

/-! ### Operations -/
def okOp (n : Nat) (o : Oper) : Bool :=
  (match o.dst with | some d => Nat.blt d n | none => true) && (match o.op with | .defer _ => false | .select .. => false | _ => true)
def okL (n : Nat) (l : List Oper) : Bool := l.all (okOp n)

def WL (P : Program) (rd : Option Nat) (ops : Array Oper) (N : Act → World → Prop) : List Oper → Act → World → Prop
  | [], a, w => N a w
  | o :: l, a, w => if Region.wanted o (yielded ops a.tmps) then o.wpIn (Wd rd) 0 P a w (WL P rd ops N l) (fun _ _ _ => False) else WL P rd ops N l (a.put o.dst undef) w

theorem WL.sound {P : Program} {rd : Option Nat} {ops : Array Oper} {N : Act → World → Prop} (l : List Oper) : ∀ (k : Nat), (∀ j, l[j]? = ops[k + j]?) →
    ∀ a w, WL P rd ops N l a w → wpOpsIn (Wd rd) 0 P ops (Exit.then N (fun _ _ _ => False)) (List.range' k l.length) a w := by
  induction l with
  | nil => intro k _ a w h; simpa [wpOpsIn, WL, Exit.then] using h
  | cons o l ih =>
    intro k hl a w h
    have h0 : ops[k]? = some o := by simpa using (hl 0).symm
    have hl' : ∀ j, l[j]? = ops[k + 1 + j]? := fun j => by have := hl (j + 1); simpa [Nat.add_assoc, Nat.add_comm 1 j] using this
    simp only [List.length_cons, List.range'_succ, wpOpsIn, h0]
    simp only [WL] at h
    split
    · rename_i hw
      rw [if_pos hw] at h
      have h := Oper.wpIn_mono (K' := wpOpsIn (Wd rd) 0 P ops (Exit.then N (fun _ _ _ => False)) (List.range' (k + 1) l.length)) (fun a w => ih (k + 1) hl' a w) h
      revert h
      unfold Oper.wpIn
      rintro ⟨h1, h2⟩
      refine ⟨h1, ?_⟩
      generalize (o.semAt (Wd rd).round a.eval).run P w = r at *
      cases r with
      | ok x w' =>
        cases x <;> simp only [Oper.uponIn] at h2 ⊢ <;> first
          | exact h2
          | (refine ⟨h2.1, CallsIn.mono h2.2 fun en w'' he => ?_⟩
             cases en <;> first | exact he | exact he.elim | (obtain ⟨_, _, h3⟩ := he; exact h3.elim))
          | (refine ⟨h2.1, RoundIn.mono h2.2 fun en w'' he => ?_⟩
             cases en <;> first | exact he | exact he.elim | (obtain ⟨_, _, h3⟩ := he; exact h3.elim))
      | halt x w' => cases x <;> simp only [Oper.uponIn] at h2 ⊢ <;> exact h2
    · rename_i hw
      rw [if_neg hw] at h
      exact ⟨fun _ _ => trivial, ih (k + 1) hl' _ _ h⟩

/-- The rest of a region: the operations l, then κ. -/
def RunL (P : Program) (K : Kt) (ops : Array Oper) (l : List Oper) (κ : List Item) (e : Env) (h : Heap) : Prop :=
  okL K.n l = true → ∀ (a : Act) (w : World), Fits K.n e a → a.defers = K.ds → Wk K h w → WL P K.rd ops (fun a' w' => RunA P K.rd K.Q κ a' w') l a w

section opsrules
variable {P : Program} {K : Kt} {κ : List Item} {e : Env} {h : Heap} {ops : Array Oper} {l : List Oper}

theorem Run.region {id : Nat} (hok : okL K.n l = true) (r : RunL P K l.toArray l κ e h) : Run P K (.code (.region id l.toArray false) :: κ) e h :=
  fun a w hf hd hw => RunA.of_wp (N := fun a' w' => RunA P K.rd K.Q κ a' w')
    (wpIn_region (by
      have := WL.sound (ops := l.toArray) l 0 (by simp) a w (r hok a w hf hd hw)
      rw [List.range_eq_range']
      simpa using this)) (fun _ _ h => h)
theorem RunL.nil (r : Run P K κ e h) : RunL P K ops [] κ e h := fun _ a w hf hd hw => r a w hf hd hw

/-- Operation o, met with e and h, has the value v, and nothing turns. -/
def Ev (P : Program) (e : Env) (h : Heap) (o : Oper) (v : Value) : Prop :=
  ∀ (ρ : Operand → Value) (w : World), Agree e ρ → w.heap = h → (execOp ρ o).run P w = .ok (.value v) w ∧ o.about P w ρ = none
/-- Operation o, met with e and h: what may come of it. -/
def Ef (P : Program) (rd : Option Nat) (e : Env) (h : Heap) (o : Oper) (R : Value → Heap → Prop) : Prop :=
  ∀ (a : Act) (w : World), Agree e a.eval → w.heap = h → ∀ next : Act → World → Prop,
    (∀ v w', R v w'.heap → w'.os = w.os → w'.tape = w.tape → w'.output = w.output → next (a.put o.dst v) w') → o.wpIn (Wd rd) 0 P a w next (fun _ _ _ => False)

theorem okL_cons {n : Nat} {o : Oper} (hk : okL n (o :: l) = true) : okOp n o = true ∧ okL n l = true := by simpa [okL] using hk
theorem semAt_ok {n : Nat} {o : Oper} (rd : Option Nat) (ρ : Operand → Value) (hk : okOp n o = true) : o.semAt rd ρ = execOp ρ o := by
  refine Oper.semAt_eq rd ρ o fun c hc => ?_
  simp [okOp, hc] at hk
theorem okOp_dst {n d : Nat} {o : Oper} (hk : okOp n o = true) (hd : o.dst = some d) : d < n := by
  simp [okOp, hd, Nat.blt] at hk
  omega

theorem RunL.p {d : Nat} {op : Op} {ty : TypeId} {pos : String} {aft : Array Edge} {v : Value} (hv : Ev P e h ⟨some d, op, ty, pos, aft, none⟩ v)
    (r : RunL P K ops l κ ((d, v) :: e) h) : RunL P K ops (⟨some d, op, ty, pos, aft, none⟩ :: l) κ e h := by
  intro hk a w hf hd hw
  obtain ⟨k1, k2⟩ := okL_cons hk
  obtain ⟨h1, h2⟩ := hv a.eval w hf.agree hw.heap
  simp only [WL, Region.wanted, if_true]
  refine ⟨fun _ _ => trivial, ?_⟩
  rw [show (Wd K.rd).round = K.rd from rfl, semAt_ok K.rd _ k1, h1]
  exact r k2 _ w (hf.put (okOp_dst k1 rfl) v) hd hw
theorem RunL.x {d : Nat} {op : Op} {ty : TypeId} {pos : String} {aft : Array Edge} {R : Value → Heap → Prop} (hv : Ef P K.rd e h ⟨some d, op, ty, pos, aft, none⟩ R)
    (r : ∀ v h', R v h' → RunL P K ops l κ ((d, v) :: e) h') : RunL P K ops (⟨some d, op, ty, pos, aft, none⟩ :: l) κ e h := by
  intro hk a w hf hd hw
  obtain ⟨k1, k2⟩ := okL_cons hk
  simp only [WL, Region.wanted, if_true]
  exact hv a w hf.agree hw.heap _ fun v w' hr h1 h2 h3 => r v _ hr k2 _ w' (hf.put (okOp_dst k1 rfl) v) hd ⟨rfl, h1.trans hw.os, h2.trans hw.tape, h3.trans hw.out⟩
theorem RunL.y {op : Op} {ty : TypeId} {pos : String} {aft : Array Edge} {R : Value → Heap → Prop} (hv : Ef P K.rd e h ⟨none, op, ty, pos, aft, none⟩ R)
    (r : ∀ v h', R v h' → RunL P K ops l κ e h') : RunL P K ops (⟨none, op, ty, pos, aft, none⟩ :: l) κ e h := by
  intro hk a w hf hd hw
  obtain ⟨_, k2⟩ := okL_cons hk
  simp only [WL, Region.wanted, if_true]
  exact hv a w hf.agree hw.heap _ fun v w' hr h1 h2 h3 => r v _ hr k2 _ w' hf hd ⟨rfl, h1.trans hw.os, h2.trans hw.tape, h3.trans hw.out⟩

theorem slot_of {n : Nat} {a : Act} {t : Nat} {v : Value} (hf : Fits n e a) (hl : look e t = some v) : a.tmps[t]? = some v := by
  obtain ⟨h1, h2⟩ := hf.get t v hl
  have : t < a.tmps.size := by rw [hf.size]; exact h1
  rw [Array.getElem?_eq_getElem this]
  simpa [Array.getD, this] using h2
theorem yielded_bool {n : Nat} {a : Act} {j t : Nat} {b : Bool} (hf : Fits n e a) (hj : (ops[j]?).bind (·.dst) = some t) (hl : look e t = some (.bool b)) : yielded ops a.tmps j = some b := by
  simp [yielded, hj, slot_of hf hl]
theorem yielded_undef {n : Nat} {a : Act} {j t : Nat} (hf : Fits n e a) (hj : (ops[j]?).bind (·.dst) = some t) (hl : look e t = some undef) : yielded ops a.tmps j = none := by
  simp [yielded, hj, slot_of hf hl, undef]
/-- The guard holds. -/
theorem RunL.on {d : Option Nat} {op : Op} {ty : TypeId} {pos : String} {aft : Array Edge} {j t : Nat} {want b : Bool} (hj : (ops[j]?).bind (·.dst) = some t) (hl : look e t = some (.bool b)) (hb : b = want)
    (r : RunL P K ops (⟨d, op, ty, pos, aft, none⟩ :: l) κ e h) : RunL P K ops (⟨d, op, ty, pos, aft, some (j, want)⟩ :: l) κ e h := by
  intro hk a w hf hd hw
  have hk' : okL K.n (⟨d, op, ty, pos, aft, none⟩ :: l) = true := by simpa [okL, okOp] using hk
  have := r hk' a w hf hd hw
  simp only [WL, Region.wanted, if_true] at this
  have hy := yielded_bool hf hj hl
  subst hb
  simp only [WL, Region.wanted, hy, beq_self_eq_true, if_true]
  exact this
/-- The guard doesn't hold. -/
theorem RunL.off {d : Nat} {op : Op} {ty : TypeId} {pos : String} {aft : Array Edge} {j t : Nat} {want b : Bool} (hj : (ops[j]?).bind (·.dst) = some t) (hl : look e t = some (.bool b)) (hb : b = !want)
    (r : RunL P K ops l κ ((d, undef) :: e) h) : RunL P K ops (⟨some d, op, ty, pos, aft, some (j, want)⟩ :: l) κ e h := by
  intro hk a w hf hd hw
  obtain ⟨k1, k2⟩ := okL_cons hk
  have hy := yielded_bool hf hj hl
  have hn : Region.wanted ⟨some d, op, ty, pos, aft, some (j, want)⟩ (yielded ops a.tmps) = false := by
    simp [Region.wanted, hy, hb]
  simp only [WL, hn, Bool.false_eq_true, if_false]
  exact r k2 _ w (hf.put (okOp_dst k1 rfl) undef) hd hw
theorem RunL.offu {d : Nat} {op : Op} {ty : TypeId} {pos : String} {aft : Array Edge} {j t : Nat} {want : Bool} (hj : (ops[j]?).bind (·.dst) = some t) (hl : look e t = some undef)
    (r : RunL P K ops l κ ((d, undef) :: e) h) : RunL P K ops (⟨some d, op, ty, pos, aft, some (j, want)⟩ :: l) κ e h := by
  intro hk a w hf hd hw
  obtain ⟨k1, k2⟩ := okL_cons hk
  have hy := yielded_undef hf hj hl
  have hn : Region.wanted ⟨some d, op, ty, pos, aft, some (j, want)⟩ (yielded ops a.tmps) = false := by
    simp [Region.wanted, hy]
  simp only [WL, hn, Bool.false_eq_true, if_false]
  exact r k2 _ w (hf.put (okOp_dst k1 rfl) undef) hd hw
/-- A test that isn't decided: both ways. -/
theorem RunL.split {x : Operand} {b : Bool} (_hx : ev e x = some (.bool b)) (r1 : b = true → RunL P K ops l κ e h) (r2 : b = false → RunL P K ops l κ e h) : RunL P K ops l κ e h := by
  cases b
  · exact r2 rfl
  · exact r1 rfl
end opsrules

/-! ### Calls -/
/-- Function f, called so on a heap, returns: what may come of it. -/
def Ret (P : Program) (f : FuncId) (args : List Value) (h : Heap) (R : Value → Heap → Prop) : Prop :=
  ∀ w : World, w.heap = h → Calls P f args.toArray w fun en w' => ∃ v, en = .returned v ∧ w'.os = w.os ∧ w'.tape = w.tape ∧ w'.output = w.output ∧ R v w'.heap
theorem Ret.mono {P : Program} {f : FuncId} {args : List Value} {h : Heap} {R R' : Value → Heap → Prop} (hr : Ret P f args h R) (hi : ∀ v h', R v h' → R' v h') : Ret P f args h R' :=
  fun w hw => (hr w hw).mono fun _ _ ⟨v, h1, h2, h3, h4, h5⟩ => ⟨v, h1, h2, h3, h4, hi _ _ h5⟩

def Enters (P : Program) (f : FuncId) : Prop := ∀ (args : Array Value) (w : World), (callFunc f args).run P w = .ok (.enter f args) w

theorem Enters.of {P : Program} {f : FuncId} {fn : Func} {c : Code} (hf : P.funcs[f]? = some fn) (hname : (fn.name == "runtime.NumGoroutine") = false) (hb : fn.body = some c) : Enters P f := by
  intro args w
  have hname' : ¬ fn.name = "runtime.NumGoroutine" := by simpa using hname
  simp [callFunc, program, Sem.run, hf, hname', hb]
def argEnv (k : Nat) : List Value → Env
  | [] => []
  | v :: l => (k, v) :: argEnv (k + 1) l
theorem look_argEnv (l : List Value) : ∀ (k t : Nat) (v : Value), look (argEnv k l) t = some v → k ≤ t ∧ l[t - k]? = some v := by
  induction l with
  | nil => intro k t v h; cases h
  | cons x l ih =>
    intro k t v h
    simp only [argEnv] at h
    rw [look_cons] at h
    split at h
    · rename_i heq; subst heq; cases h; simp
    · rename_i hne
      obtain ⟨h1, h2⟩ := ih (k + 1) t v h
      refine ⟨by omega, ?_⟩
      rw [show t - k = (t - (k + 1)) + 1 by omega]
      simpa using h2

/-- What a function's body must come to. -/
def Kf (P : Program) (fn : Func) (R : Value → Heap → Prop) (os : Os) (tape : Nat → Question → Nat) (out : Array (Nat × ByteArray)) : Kt :=
  ⟨fn.ntmps, none, os, tape, out, [], bodyPost P fn fun en w' => ∃ v, en = .returned v ∧ w'.os = os ∧ w'.tape = tape ∧ w'.output = out ∧ R v w'.heap⟩
theorem Ret.enter {P : Program} {f : FuncId} {fn : Func} {c : Code} {args : List Value} {h : Heap} {R : Value → Heap → Prop} (hf : P.funcs[f]? = some fn) (hb : fn.body = some c)
    (hn : Nat.ble args.length fn.ntmps = true)
    (r : ∀ os tape out, Run P (Kf P fn R os tape out) [.code c] (argEnv 0 args) h) : Ret P f args h R := by
  intro w hw
  refine calls_of_wp hf hb ?_
  refine (wpIn_wide (n := 0)).1 ?_
  intro b k cs hro _ _
  have hlen : args.length ≤ fn.ntmps := by simpa using hn
  refine r w.os w.tape w.output _ w ⟨?_, fun t v ht => ?_⟩ rfl ⟨hw, rfl, rfl, rfl⟩ b k cs hro
  · show _ = fn.ntmps
    simp; omega
  · obtain ⟨_, h2⟩ := look_argEnv args 0 t v ht
    simp only [Nat.sub_zero] at h2
    obtain ⟨h3, h4⟩ := List.getElem?_eq_some_iff.1 h2
    refine ⟨Nat.lt_of_lt_of_le h3 hlen, ?_⟩
    simp [Array.getD, h3, h4]
    intro hh; omega

section ends
variable {P : Program} {os : Os} {tape : Nat → Question → Nat} {out : Array (Nat × ByteArray)} {fn : Func} {κ : List Item} {e : Env} {h : Heap} {R : Value → Heap → Prop}
/-- What a function hands back, off its named slots. -/
def outs (e : Env) : List ResultVar → Option (List Value)
  | [] => some []
  | .tmp t :: l => match look e t, outs e l with
    | some v, some vs => some (v :: vs)
    | _, _ => none
  | .cell _ _ :: _ => none
def shut : List Value → Value
  | [v] => v
  | l => .tuple l.toArray
theorem results_outs (P : Program) (g : ResultVar → Sem Value) (hg : ∀ t v, look e t = some v → g (.tmp t) = Pure.pure v) (w : World) : ∀ (rs : List ResultVar) (vs : List Value), outs e rs = some vs →
    (rs.mapM g).run P w = .ok vs w
  | [], vs, hx => by simp only [outs] at hx; cases hx; rfl
  | .tmp t :: rs, vs, hx => by
    simp only [outs] at hx
    split at hx
    · rename_i v ws h1 h2
      cases hx
      have ih := results_outs P g hg w rs ws h2
      simp only [List.mapM_cons, hg t v h1, Sem.run_bind]
      show ((Sem.run P (List.mapM g rs) w).andThen fun a_1 w' => Sem.run P (Pure.pure (v :: a_1)) w') = _
      rw [ih]
      rfl
    · cases hx
  | .cell _ _ :: rs, vs, hx => by simp [outs] at hx
theorem results_of {a : Act} {n : Nat} (hf : Fits n e a) {rs : List ResultVar} {vs : List Value} (hfn : fn.results = rs.toArray) (hx : outs e rs = some vs) (w : World) :
    (results fn a.tmps).run P w = .ok (shut vs) w := by
  unfold results
  rw [hfn, List.mapM_toArray]
  simp only [map_eq_pure_bind, bind_assoc, pure_bind]
  rw [Sem.run_bind, results_outs P _ (fun t v ht => congrArg Pure.pure (hf.get t v ht).2) w rs vs hx]
  cases vs with
  | nil => rfl
  | cons v vs => cases vs with
    | nil => rfl
    | cons u us => rfl
theorem Run.give {rs : List ResultVar} {vs : List Value} (hfn : fn.results = rs.toArray) (hx : outs e rs = some vs) (hR : R (shut vs) h) :
    Run P (Kf P fn R os tape out) (.code .ret :: κ) e h :=
  Run.ret fun a w hf hd hw => ⟨hd, _, results_of hf hfn hx w, _, rfl, hw.os, hw.tape, hw.out, by rw [hw.heap]; exact hR⟩
theorem Run.fall {rs : List ResultVar} {vs : List Value} (hfn : fn.results = rs.toArray) (hx : outs e rs = some vs) (hR : R (shut vs) h) :
    Run P (Kf P fn R os tape out) [] e h :=
  Run.nil fun a w hf hd hw => ⟨hd, _, results_of hf hfn hx w, _, rfl, hw.os, hw.tape, hw.out, by rw [hw.heap]; exact hR⟩
end ends

/-! ### Loops and joins -/
theorem Run.rounds {P : Program} {K : Kt} {κ : List Item} {e : Env} {h : Heap} {c : Code} {α : Type} (I : α → Heap → Prop) (E : α → Env) (μ : α → Nat) (x0 : α) (h0 : I x0 h) (hE : Sub (E x0) e)
    (round : ∀ x h, I x h → (∀ y h', I y h' → μ y < μ x → Run P K (.inLoop c :: κ) (E y) h') → Run P K (.code c :: .inLoop c :: κ) (E x) h) :
    Run P K (.code (.loop c) :: κ) e h := by
  have key : ∀ (m : Nat) x h, μ x = m → I x h → Run P K (.code c :: .inLoop c :: κ) (E x) h := by
    intro m
    induction m using Nat.strongRecOn with
    | _ m ih =>
      intro x h hm hI
      exact round x h hI fun y h' hy hlt => Run.inLoop (ih (μ y) (hm ▸ hlt) y h' rfl hy)
  exact Run.sub hE (Run.loop (key _ x0 h rfl h0))
theorem Run.join {P : Program} {K : Kt} {x : Item} {κ : List Item} {e : Env} {h : Heap} {α : Type} (I : α → Heap → Prop) (E : α → Env)
    (rest : ∀ x h, I x h → Run P K κ (E x) h) (first : (∀ x h, I x h → Run P K κ (E x) h) → Run P K (x :: κ) e h) : Run P K (x :: κ) e h := first rest
end Go.TP
/-! Ops. -/
namespace Go.TP
open Go

def cel (h : Heap) (b o : Nat) : Option Value :=
  match h[b]? with
  | some (.cells c _ _) => c[o]?
  | _ => none
theorem cell_cel {w : World} {h : Heap} (hw : w.heap = h) (b o : Nat) : w.cell? ⟨b, o, none⟩ = cel h b o := by
  subst hw
  unfold World.cell? cel
  cases w.heap[b]? with
  | none => rfl
  | some x => cases x <;> rfl
theorem addr_add (b o n : Nat) : (⟨b, o, none⟩ : Addr).add n = ⟨b, o + n, none⟩ := by
  unfold Addr.add
  split
  · rename_i hn; simp [hn]
  · rfl

/-! ### What is asked of the program's types: closed facts -/
def foB (P : Program) (s i off : Nat) : Bool :=
  match P.underlying s with
  | some (.struct fs) => match fs[i]? with
    | some f => f.offset == off && (match P.info? f.type with | some inf => inf.size != 0 | none => false)
    | none => false
  | _ => false
/-- Field i of struct type s lies so many cells behind its beginning. -/
def Fo (P : Program) (s i off : Nat) : Prop := foB P s i off = true
def oneB (P : Program) (t : Nat) : Bool :=
  match P.underlying t, P.info? t with
  | some (.struct _), _ => false
  | some (.array _ _), _ => false
  | some _, some inf => inf.size == 1
  | _, _ => false
/-- A type of one cell. -/
def One (P : Program) (t : Nat) : Prop := oneB P t = true
def aggB (P : Program) (t n : Nat) : Bool :=
  match P.underlying t, P.info? t with
  | some (.struct _), some inf => inf.size == n
  | some (.array _ _), some inf => inf.size == n
  | _, _ => false
/-- A struct or an array of n cells. -/
def Agg (P : Program) (t n : Nat) : Prop := aggB P t n = true
def slcB (P : Program) (t e size : Nat) : Bool :=
  match P.underlying t, P.info? e with
  | some (.slice e'), some inf => e' == e && inf.size == size
  | _, _ => false
/-- A slice type: its elements' type, of so many cells. -/
def Slc (P : Program) (t e size : Nat) : Prop := slcB P t e size = true
def intB (P : Program) (t : Nat) (k : IntKind) : Bool :=
  match P.underlying t with
  | some (.int k') => k' == k
  | _ => false
def Itk (P : Program) (t : Nat) (k : IntKind) : Prop := intB P t k = true
def someB (P : Program) (t : Nat) : Bool := (P.underlying t).isSome
def Tyk (P : Program) (t : Nat) : Prop := someB P t = true
def strB (P : Program) (t : Nat) : Bool := match P.underlying t with | some .string => true | _ => false
def Str (P : Program) (t : Nat) : Prop := strB P t = true
def concB (P : Program) (t : Nat) : Bool := match P.underlying t with | some (.interface _) => false | some _ => true | none => false
def Conc (P : Program) (t : Nat) : Prop := concB P t = true
/-- A type's zero value, its size in cells, its bytes. -/
def Inf (P : Program) (t : Nat) (z : Value) (size bytes : Nat) : Prop := (P.info? t).map (fun i => (i.zero, i.size, i.bytes)) = some (some z, size, bytes)

section
variable {P : Program}
theorem Fo.spec {s i off : Nat} (hf : Fo P s i off) : ∃ fs f inf, P.underlying s = some (.struct fs) ∧ fs[i]? = some f ∧ f.offset = off ∧ P.info? f.type = some inf ∧ inf.size ≠ 0 := by
  unfold Fo foB at hf
  split at hf
  · rename_i fs h1
    split at hf
    · rename_i f h2
      simp only [Bool.and_eq_true, beq_iff_eq] at hf
      obtain ⟨h3, h4⟩ := hf
      split at h4
      · rename_i inf h5; exact ⟨fs, f, inf, h1, h2, h3, h5, by simpa using h4⟩
      · cases h4
    · cases hf
  · cases hf
theorem One.spec {t : Nat} (ho : One P t) (w : World) : (isAgg t).run P w = .ok false w ∧ (sizeOf t).run P w = .ok 1 w := by
  unfold One oneB at ho
  split at ho
  · cases ho
  · cases ho
  · rename_i d inf h0 h1 h2 h3
    have h4 : inf.size = 1 := by simpa using ho
    constructor
    · unfold isAgg
      rw [Sem.run_bind, run_underlying h2]
      cases d <;> first | rfl | exact (h0 _ rfl).elim | exact (h1 _ _ rfl).elim
    · simp [sizeOf, typeInfo, h3, h4]
  · cases ho
theorem Agg.spec {t n : Nat} (ho : Agg P t n) (w : World) : (isAgg t).run P w = .ok true w ∧ (sizeOf t).run P w = .ok n w := by
  unfold Agg aggB at ho
  split at ho
  · rename_i fs inf h2 h3
    have h4 : inf.size = n := by simpa using ho
    exact ⟨by simp [isAgg, run_underlying h2], by simp [sizeOf, typeInfo, h3, h4]⟩
  · rename_i a b inf h2 h3
    have h4 : inf.size = n := by simpa using ho
    exact ⟨by simp [isAgg, run_underlying h2], by simp [sizeOf, typeInfo, h3, h4]⟩
  · cases ho
theorem Slc.spec {t e size : Nat} (ho : Slc P t e size) : P.underlying t = some (.slice e) ∧ ∃ inf, P.info? e = some inf ∧ inf.size = size := by
  unfold Slc slcB at ho
  split at ho
  · rename_i e' inf h2 h3
    simp only [Bool.and_eq_true, beq_iff_eq] at ho
    exact ⟨ho.1 ▸ h2, inf, h3, ho.2⟩
  · cases ho
theorem Itk.spec {t : Nat} {k : IntKind} (ho : Itk P t k) : P.underlying t = some (.int k) := by
  unfold Itk intB at ho
  split at ho
  · rename_i k' h2
    have : k' = k := by simpa using ho
    rw [h2, this]
  · cases ho
theorem Str.spec {t : Nat} (ho : Str P t) : P.underlying t = some .string := by
  unfold Str strB at ho
  split at ho
  · assumption
  · cases ho
theorem Inf.spec {t : Nat} {z : Value} {size bytes : Nat} (hi : Inf P t z size bytes) : ∃ i, P.info? t = some i ∧ i.zero = some z ∧ i.size = size ∧ i.bytes = bytes := by
  obtain ⟨i, h1, h2⟩ := Option.map_eq_some_iff.1 hi
  simp only [Prod.mk.injEq] at h2
  exact ⟨i, h1, h2.1, h2.2.1, h2.2.2⟩
end

/-! ### The rules -/
section
variable {P : Program} {e : Env} {h : Heap} {d : Option Tmp} {ty : TypeId} {pos : String} {aft : Array Edge} {g : Option (Nat × Bool)}

theorem o_mv {x : Operand} {v : Value} (hx : ev e x = some v) : Ev P e h ⟨d, .move x, ty, pos, aft, g⟩ v :=
  fun ρ w hA _ => ⟨by simp [execOp, hA x v hx], rfl⟩
theorem o_as {x : Operand} {v : Value} (hx : ev e x = some v) : Ev P e h ⟨d, .assign x, ty, pos, aft, g⟩ v :=
  fun ρ w hA _ => ⟨by simp [execOp, hA x v hx], rfl⟩
theorem o_pt {c x y : Operand} {b : Bool} {v : Value} (hc : ev e c = some (.bool b)) (hb : b = true) (hx : ev e x = some v) : Ev P e h ⟨d, .pick c x y, ty, pos, aft, g⟩ v :=
  fun ρ w hA _ => ⟨by simp [execOp, hA c _ hc, hA x v hx, asBool, hb], rfl⟩
theorem o_pf {c x y : Operand} {b : Bool} {v : Value} (hc : ev e c = some (.bool b)) (hb : b = false) (hy : ev e y = some v) : Ev P e h ⟨d, .pick c x y, ty, pos, aft, g⟩ v :=
  fun ρ w hA _ => ⟨by simp [execOp, hA c _ hc, hA y v hy, asBool, hb], rfl⟩
theorem o_nc {x : Operand} {a : Addr} (hx : ev e x = some (.pointer (some a))) : Ev P e h ⟨d, .nilCheck x, ty, pos, aft, g⟩ (.pointer (some a)) :=
  fun ρ w hA _ => ⟨by simp [execOp, hA x _ hx], rfl⟩
theorem o_nci {x : Operand} {t : TypeId} {v : Value} (hx : ev e x = some (.iface t v)) : Ev P e h ⟨d, .nilCheck x, ty, pos, aft, g⟩ (.iface t v) :=
  fun ρ w hA _ => ⟨by simp [execOp, hA x _ hx], rfl⟩
theorem o_ex {x : Operand} {vs : Array Value} {i : Nat} {v : Value} (hx : ev e x = some (.tuple vs)) (hi : vs[i]? = some v) : Ev P e h ⟨d, .extract x i, ty, pos, aft, g⟩ v :=
  fun ρ w hA _ => ⟨by simp [execOp, hA x _ hx, Instr.extract, hi], rfl⟩
theorem o_fa {s i off b o : Nat} {x : Operand} (hf : Fo P s i off) (hx : ev e x = some (.pointer (some ⟨b, o, none⟩))) : Ev P e h ⟨d, .fieldAddr s x i, ty, pos, aft, g⟩ (.pointer (some ⟨b, o + off, none⟩)) := by
  intro ρ w hA _
  obtain ⟨fs, f, inf, h1, h2, h3, h4, h5⟩ := hf.spec
  refine ⟨?_, rfl⟩
  simp [execOp, hA x _ hx, Instr.fieldAt, run_underlying h1, h2, Instr.sureAddr, fieldPlace, sizeOf, typeInfo, h4, h5, h3, addr_add]
theorem o_ld {t b o : Nat} {x : Operand} {v : Value} (ht : One P t) (hx : ev e x = some (.pointer (some ⟨b, o, none⟩))) (hc : cel h b o = some v) : Ev P e h ⟨d, .load t x, ty, pos, aft, g⟩ v := by
  intro ρ w hA hw
  refine ⟨?_, rfl⟩
  simp [execOp, hA x _ hx, Instr.loadAt, Instr.sureAddr, loadVar, (ht.spec w).1, load, Sem.run, cell_cel hw, hc]
theorem o_lda {t n b o : Nat} {x : Operand} {vs : List Value} (ht : Agg P t n) (hx : ev e x = some (.pointer (some ⟨b, o, none⟩))) (hn : vs.length = n) (hc : ∀ j v, vs[j]? = some v → cel h b (o + j) = some v) :
    Ev P e h ⟨d, .load t x, ty, pos, aft, g⟩ (.agg vs.toArray) := by
  intro ρ w hA hw
  refine ⟨?_, rfl⟩
  subst hn
  have hl := run_loadCells_list (P := P) (w := w) ⟨b, o, none⟩ vs (fun j v hv => by rw [addr_add, cell_cel hw]; exact hc j v hv)
  simp [execOp, hA x _ hx, Instr.loadAt, Instr.sureAddr, loadVar, (ht.spec w).1, (ht.spec w).2, hl]

/-! whole numbers -/
theorem binOp_int_other {op : BinOp} {t : TypeId} {k : IntKind} {m n : Int} {w : World} (x y : Operand) (h1 : op ≠ .shl) (h2 : op ≠ .shr) :
    (do eqGuard op t x y (.int k m) (.int k n); binOp op t (.int k m) (.int k n) : Sem Value).run P w =
      (match op with
        | .add | .sub | .mul => Op.intArith op k m n
        | .quo | .rem => Op.intDiv op k m n
        | .and | .or | .xor | .andNot => Op.intBits op k m n
        | _ => Op.intCmp op m n : Sem Value).run P w := by
  cases op <;> first | exact absurd rfl h1 | exact absurd rfl h2 | simp [eqGuard, binOp]
variable {x y : Operand} {t u : TypeId} {k : IntKind} {m n : Int}
theorem o_add (hx : ev e x = some (.int k m)) (hy : ev e y = some (.int k n)) : Ev P e h ⟨d, .binOp .add t x y u, ty, pos, aft, g⟩ (.int k (k.wrap (m + n))) :=
  fun ρ w hA _ => ⟨by simp [execOp, hA x _ hx, hA y _ hy, eqGuard, binOp, Op.intArith], rfl⟩
theorem o_sub (hx : ev e x = some (.int k m)) (hy : ev e y = some (.int k n)) : Ev P e h ⟨d, .binOp .sub t x y u, ty, pos, aft, g⟩ (.int k (k.wrap (m - n))) :=
  fun ρ w hA _ => ⟨by simp [execOp, hA x _ hx, hA y _ hy, eqGuard, binOp, Op.intArith], rfl⟩
theorem o_mul (hx : ev e x = some (.int k m)) (hy : ev e y = some (.int k n)) : Ev P e h ⟨d, .binOp .mul t x y u, ty, pos, aft, g⟩ (.int k (k.wrap (m * n))) :=
  fun ρ w hA _ => ⟨by simp [execOp, hA x _ hx, hA y _ hy, eqGuard, binOp, Op.intArith], rfl⟩
theorem wrap_in (k : IntKind) {z : Int} (h1 : k.min ≤ z) (h2 : z ≤ k.max) : k.wrap z = z := by
  cases k <;> simp [IntKind.wrap, IntKind.min, IntKind.max, IntKind.bits, IntKind.signed] at * <;> omega
theorem wrap64 {z : Int} (h1 : -9223372036854775808 ≤ z) (h2 : z ≤ 9223372036854775807) : IntKind.i64.wrap z = z := by
  simp [IntKind.wrap, IntKind.bits, IntKind.signed]; omega
/-- int's sum within its bounds. -/
theorem o_addi {r : Int} (hx : ev e x = some (.int .i64 m)) (hy : ev e y = some (.int .i64 n)) (hr : m + n = r) (hb : -9223372036854775808 ≤ r ∧ r ≤ 9223372036854775807) : Ev P e h ⟨d, .binOp .add t x y u, ty, pos, aft, g⟩ (.int .i64 r) := by
  have := o_add (P := P) (h := h) (d := d) (ty := ty) (pos := pos) (aft := aft) (g := g) (t := t) (u := u) hx hy
  rwa [hr, wrap64 hb.1 hb.2] at this
theorem o_subi {r : Int} (hx : ev e x = some (.int .i64 m)) (hy : ev e y = some (.int .i64 n)) (hr : m - n = r) (hb : -9223372036854775808 ≤ r ∧ r ≤ 9223372036854775807) : Ev P e h ⟨d, .binOp .sub t x y u, ty, pos, aft, g⟩ (.int .i64 r) := by
  have := o_sub (P := P) (h := h) (d := d) (ty := ty) (pos := pos) (aft := aft) (g := g) (t := t) (u := u) hx hy
  rwa [hr, wrap64 hb.1 hb.2] at this
theorem o_muli {r : Int} (hx : ev e x = some (.int .i64 m)) (hy : ev e y = some (.int .i64 n)) (hr : m * n = r) (hb : -9223372036854775808 ≤ r ∧ r ≤ 9223372036854775807) : Ev P e h ⟨d, .binOp .mul t x y u, ty, pos, aft, g⟩ (.int .i64 r) := by
  have := o_mul (P := P) (h := h) (d := d) (ty := ty) (pos := pos) (aft := aft) (g := g) (t := t) (u := u) hx hy
  rwa [hr, wrap64 hb.1 hb.2] at this
theorem o_quo (hx : ev e x = some (.int k m)) (hy : ev e y = some (.int k n)) (hn : n ≠ 0) : Ev P e h ⟨d, .binOp .quo t x y u, ty, pos, aft, g⟩ (.int k (k.wrap (m.tdiv n))) :=
  fun ρ w hA _ => ⟨by simp [execOp, hA x _ hx, hA y _ hy, eqGuard, binOp, Op.intDiv, hn], rfl⟩
theorem o_rem (hx : ev e x = some (.int k m)) (hy : ev e y = some (.int k n)) (hn : n ≠ 0) : Ev P e h ⟨d, .binOp .rem t x y u, ty, pos, aft, g⟩ (.int k (m.tmod n)) :=
  fun ρ w hA _ => ⟨by simp [execOp, hA x _ hx, hA y _ hy, eqGuard, binOp, Op.intDiv, hn], rfl⟩
/-- The bits of two numbers together. -/
def bitOp (op : BinOp) (k : IntKind) (m n : Int) : Int :=
  let a := BitVec.ofInt k.bits m
  let b := BitVec.ofInt k.bits n
  k.wrap ((match op with | .and => a &&& b | .or => a ||| b | .xor => a ^^^ b | _ => a &&& ~~~b).toNat : Int)
theorem o_and (hx : ev e x = some (.int k m)) (hy : ev e y = some (.int k n)) : Ev P e h ⟨d, .binOp .and t x y u, ty, pos, aft, g⟩ (.int k (bitOp .and k m n)) :=
  fun ρ w hA _ => ⟨by simp [execOp, hA x _ hx, hA y _ hy, eqGuard, binOp, Op.intBits, bitOp], rfl⟩
theorem o_or (hx : ev e x = some (.int k m)) (hy : ev e y = some (.int k n)) : Ev P e h ⟨d, .binOp .or t x y u, ty, pos, aft, g⟩ (.int k (bitOp .or k m n)) :=
  fun ρ w hA _ => ⟨by simp [execOp, hA x _ hx, hA y _ hy, eqGuard, binOp, Op.intBits, bitOp], rfl⟩
theorem o_xor (hx : ev e x = some (.int k m)) (hy : ev e y = some (.int k n)) : Ev P e h ⟨d, .binOp .xor t x y u, ty, pos, aft, g⟩ (.int k (bitOp .xor k m n)) :=
  fun ρ w hA _ => ⟨by simp [execOp, hA x _ hx, hA y _ hy, eqGuard, binOp, Op.intBits, bitOp], rfl⟩
theorem o_andNot (hx : ev e x = some (.int k m)) (hy : ev e y = some (.int k n)) : Ev P e h ⟨d, .binOp .andNot t x y u, ty, pos, aft, g⟩ (.int k (bitOp .andNot k m n)) :=
  fun ρ w hA _ => ⟨by simp [execOp, hA x _ hx, hA y _ hy, eqGuard, binOp, Op.intBits, bitOp], rfl⟩
variable {k' : IntKind}
theorem o_shl (hx : ev e x = some (.int k m)) (hy : ev e y = some (.int k' n)) (hn : 0 ≤ n) : Ev P e h ⟨d, .binOp .shl t x y u, ty, pos, aft, g⟩ (.int k (k.wrap (m * 2 ^ (min n.toNat k.bits)))) :=
  fun ρ w hA _ => ⟨by simp [execOp, hA x _ hx, hA y _ hy, eqGuard, binOp, Op.shift, show ¬ n < 0 by omega], rfl⟩
theorem o_shr (hx : ev e x = some (.int k m)) (hy : ev e y = some (.int k' n)) (hn : 0 ≤ n) : Ev P e h ⟨d, .binOp .shr t x y u, ty, pos, aft, g⟩ (.int k (m.fdiv (2 ^ (min n.toNat k.bits)))) :=
  fun ρ w hA _ => ⟨by simp [execOp, hA x _ hx, hA y _ hy, eqGuard, binOp, Op.shift, show ¬ n < 0 by omega], rfl⟩
theorem o_lss (hx : ev e x = some (.int k m)) (hy : ev e y = some (.int k n)) : Ev P e h ⟨d, .binOp .lss t x y u, ty, pos, aft, g⟩ (.bool (decide (m < n))) :=
  fun ρ w hA _ => ⟨by simp [execOp, hA x _ hx, hA y _ hy, eqGuard, binOp, Op.intCmp], rfl⟩
theorem o_leq (hx : ev e x = some (.int k m)) (hy : ev e y = some (.int k n)) : Ev P e h ⟨d, .binOp .leq t x y u, ty, pos, aft, g⟩ (.bool (decide (m ≤ n))) :=
  fun ρ w hA _ => ⟨by simp [execOp, hA x _ hx, hA y _ hy, eqGuard, binOp, Op.intCmp], rfl⟩
theorem o_gtr (hx : ev e x = some (.int k m)) (hy : ev e y = some (.int k n)) : Ev P e h ⟨d, .binOp .gtr t x y u, ty, pos, aft, g⟩ (.bool (decide (n < m))) :=
  fun ρ w hA _ => ⟨by simp [execOp, hA x _ hx, hA y _ hy, eqGuard, binOp, Op.intCmp], rfl⟩
theorem o_geq (hx : ev e x = some (.int k m)) (hy : ev e y = some (.int k n)) : Ev P e h ⟨d, .binOp .geq t x y u, ty, pos, aft, g⟩ (.bool (decide (n ≤ m))) :=
  fun ρ w hA _ => ⟨by simp [execOp, hA x _ hx, hA y _ hy, eqGuard, binOp, Op.intCmp], rfl⟩
theorem o_eql (hx : ev e x = some (.int k m)) (hy : ev e y = some (.int k n)) : Ev P e h ⟨d, .binOp .eql t x y u, ty, pos, aft, g⟩ (.bool (decide (m = n))) :=
  fun ρ w hA _ => ⟨by simp [execOp, hA x _ hx, hA y _ hy, eqGuard, binOp, Op.intCmp]; rfl, rfl⟩
theorem o_neq (hx : ev e x = some (.int k m)) (hy : ev e y = some (.int k n)) : Ev P e h ⟨d, .binOp .neq t x y u, ty, pos, aft, g⟩ (.bool (decide (m ≠ n))) :=
  fun ρ w hA _ => ⟨by simp [execOp, hA x _ hx, hA y _ hy, eqGuard, binOp, Op.intCmp, bne]; rfl, rfl⟩
theorem o_not {b : Bool} (hx : ev e x = some (.bool b)) : Ev P e h ⟨d, .unOp .not t x, ty, pos, aft, g⟩ (.bool (!b)) :=
  fun ρ w hA _ => ⟨by simp [execOp, hA x _ hx, Op.unary], rfl⟩
theorem o_neg (hx : ev e x = some (.int k m)) : Ev P e h ⟨d, .unOp .neg t x, ty, pos, aft, g⟩ (.int k (k.wrap (0 - m))) :=
  fun ρ w hA _ => ⟨by simp [execOp, hA x _ hx, Op.unary, Op.intArith], rfl⟩
theorem o_com (hx : ev e x = some (.int k m)) : Ev P e h ⟨d, .unOp .xor t x, ty, pos, aft, g⟩ (.int k (bitOp .xor k (if k.signed then -1 else k.max) m)) :=
  fun ρ w hA _ => ⟨by simp [execOp, hA x _ hx, Op.unary, Op.intBits, bitOp], rfl⟩
theorem o_cv {src dst : TypeId} (hs : Tyk P src) (ht : Itk P dst k') (hx : ev e x = some (.int k m)) : Ev P e h ⟨d, .convert src dst x, ty, pos, aft, g⟩ (.int k' (k'.wrap m)) := by
  intro ρ w hA _
  refine ⟨?_, rfl⟩
  obtain ⟨ds, h1⟩ := Option.isSome_iff_exists.1 hs
  simp [execOp, hA x _ hx, convert, run_underlying h1, run_underlying ht.spec, Conv.intToInt]
/-- Any two-sided operation, by what it comes to. -/
theorem o_bin {op : BinOp} {vx vy v : Value} (hx : ev e x = some vx) (hy : ev e y = some vy) (hg : ∀ w : World, (eqGuard op t x y vx vy).run P w = .ok () w) (hb : ∀ w : World, (binOp op t vx vy).run P w = .ok v w) :
    Ev P e h ⟨d, .binOp op t x y u, ty, pos, aft, g⟩ v := by
  intro ρ w hA _
  refine ⟨?_, rfl⟩
  simp only [execOp, hA x _ hx, hA y _ hy, Sem.run_bind, hg, hb, Result.andThen]
  rfl
theorem o_beq {a b : Bool} (ht : P.underlying t = some .bool) (hx : ev e x = some (.bool a)) (hy : ev e y = some (.bool b)) : Ev P e h ⟨d, .binOp .eql t x y u, ty, pos, aft, g⟩ (.bool (a == b)) :=
  o_bin hx hy (fun _ => rfl) fun w => run_eql_bool w t a b ht
theorem o_bne {a b : Bool} (ht : P.underlying t = some .bool) (hx : ev e x = some (.bool a)) (hy : ev e y = some (.bool b)) : Ev P e h ⟨d, .binOp .neq t x y u, ty, pos, aft, g⟩ (.bool (!(a == b))) :=
  o_bin hx hy (fun _ => rfl) fun w => run_neq_bool w t a b ht
def ptrB (P : Program) (t : Nat) : Bool := match P.underlying t with | some (.pointer _) => true | _ => false
/-- A pointer type. -/
def Ptr (P : Program) (t : Nat) : Prop := ptrB P t = true
theorem Ptr.spec (hp : Ptr P t) : P.underlying t = some (.pointer (P.pointee t)) := by
  unfold Ptr ptrB at hp
  unfold Program.pointee
  split at hp
  · rename_i e' he; simp [he]
  · cases hp
def ifcB (P : Program) (t : Nat) : Bool := match P.underlying t with | some (.interface _) => true | _ => false
def Ifc (P : Program) (t : Nat) : Prop := ifcB P t = true
theorem Ifc.spec (hp : Ifc P t) : P.underlying t = some (.interface (P.methodsAt t)) := by
  unfold Ifc ifcB at hp
  unfold Program.methodsAt
  split at hp
  · rename_i e' he; simp [he]
  · cases hp
/-- A pointer against nil: is it nil? -/
theorem o_peq {p : Option Addr} (ht : Ptr P t) (hx : ev e x = some (.pointer p)) (hy : ev e y = some (.pointer none)) : Ev P e h ⟨d, .binOp .eql t x y u, ty, pos, aft, g⟩ (.bool p.isNone) :=
  o_bin hx hy (fun _ => rfl) fun w => run_eql_pointer_nil w t p ht.spec
theorem o_pne {p : Option Addr} (ht : Ptr P t) (hx : ev e x = some (.pointer p)) (hy : ev e y = some (.pointer none)) : Ev P e h ⟨d, .binOp .neq t x y u, ty, pos, aft, g⟩ (.bool (!p.isNone)) :=
  o_bin hx hy (fun _ => rfl) fun w => run_neq_pointer_nil w t p ht.spec
def isNil : Value → Bool
  | .nilIface => true
  | _ => false
def isIface : Value → Bool
  | .nilIface => true
  | .iface _ _ => true
  | _ => false
/-- An interface value against the literal nil. -/
theorem o_ieq {v : Value} (ht : Ifc P t) (hv : isIface v = true) (hx : ev e x = some v) : Ev P e h ⟨d, .binOp .eql t x (.const .nilIface) u, ty, pos, aft, g⟩ (.bool (isNil v)) := by
  cases v with
  | nilIface => exact o_bin hx rfl (fun w => by simp [eqGuard]) fun w => run_eql_nil_nil w t ht.spec
  | iface _ _ => exact o_bin hx rfl (fun _ => rfl) fun w => run_eql_held_nil w t _ _ ht.spec
  | _ => simp [isIface] at hv
theorem o_ine {v : Value} (ht : Ifc P t) (hv : isIface v = true) (hx : ev e x = some v) : Ev P e h ⟨d, .binOp .neq t x (.const .nilIface) u, ty, pos, aft, g⟩ (.bool (!isNil v)) := by
  cases v with
  | nilIface => exact o_bin hx rfl (fun w => by simp [eqGuard]) fun w => run_neq_nil_nil w t ht.spec
  | iface _ _ => exact o_bin hx rfl (fun _ => rfl) fun w => run_neq_held_nil w t _ _ ht.spec
  | _ => simp [isIface] at hv
theorem o_seq {a b : ByteArray} (hx : ev e x = some (.string a)) (hy : ev e y = some (.string b)) : Ev P e h ⟨d, .binOp .eql t x y u, ty, pos, aft, g⟩ (.bool (a.toList == b.toList)) :=
  fun ρ w hA _ => ⟨by simp [execOp, hA x _ hx, hA y _ hy, eqGuard, binOp, Op.stringOp], rfl⟩
theorem o_sne {a b : ByteArray} (hx : ev e x = some (.string a)) (hy : ev e y = some (.string b)) : Ev P e h ⟨d, .binOp .neq t x y u, ty, pos, aft, g⟩ (.bool (!(a.toList == b.toList))) :=
  fun ρ w hA _ => ⟨by simp [execOp, hA x _ hx, hA y _ hy, eqGuard, binOp, Op.stringOp], rfl⟩
theorem o_sadd {a b : ByteArray} (hx : ev e x = some (.string a)) (hy : ev e y = some (.string b)) (hn : (a.size : Int) + b.size ≤ 9223372036854775807) : Ev P e h ⟨d, .binOp .add t x y u, ty, pos, aft, g⟩ (.string (a ++ b)) := by
  refine o_bin hx hy (fun _ => rfl) fun w => ?_
  have : ¬ ((a.size + b.size : Nat) : Int) > IntKind.i64.max := by simp [IntKind.max, IntKind.bits, IntKind.signed]; omega
  simp only [binOp, Op.stringOp, if_neg this]
  rfl
theorem o_mi {v : Value} (ht : Conc P t) (hx : ev e x = some v) : Ev P e h ⟨d, .makeInterface t x, ty, pos, aft, g⟩ (.iface t v) := by
  intro ρ w hA _
  refine ⟨?_, rfl⟩
  unfold Conc concB at ht
  split at ht
  · cases ht
  · rename_i d' hd' hne
    simp only [execOp, hA x _ hx, Instr.makeInterface, Sem.run_bind, run_underlying hne, Result.andThen]
    cases d' <;> first | rfl | exact (hd' _ rfl).elim
  · cases ht
theorem o_mf {fn : Fn} {first captured : Array Operand} {fs cs : List Value} (hf : evs e first.toList = some fs) (hc : evs e captured.toList = some cs) : Ev P e h ⟨d, .makeFunc fn first captured, ty, pos, aft, g⟩ (.func fn fs.toArray cs.toArray) := by
  intro ρ w hA _
  refine ⟨?_, rfl⟩
  have h1 : first.map ρ = fs.toArray := by rw [← hA.evs hf, ← Array.toList_map, Array.toArray_toList]
  have h2 : captured.map ρ = cs.toArray := by rw [← hA.evs hc, ← Array.toList_map, Array.toArray_toList]
  simp [execOp, Instr.makeFunc, h1, h2]
/-- A field of a struct by value. -/
theorem o_fd1 {s i off : Nat} {cs : Array Value} {v : Value} (hs : Fo P s i off) (h1 : ∀ w : World, ∀ fs f, P.underlying s = some (.struct fs) → fs[i]? = some f → (isAgg f.type).run P w = .ok false w) (hx : ev e x = some (.agg cs)) (hv : cs[off]? = some v) :
    Ev P e h ⟨d, .field s x i, ty, pos, aft, g⟩ v := by
  intro ρ w hA _
  refine ⟨?_, rfl⟩
  obtain ⟨fs, f, inf, h2, h3, h4, _, _⟩ := hs.spec
  simp [execOp, hA x _ hx, Instr.field, run_underlying h2, h3, part, asAgg, h1 w fs f h2 h3, h4, hv]
/-- A builtin function that leaves the heap alone. -/
theorem resolve_builtin (b : Builtin) (args : Array Operand) (at_ : Array TypeId) (ty : TypeId) : ∃ cs, ∀ ρ, resolve ρ ⟨.builtin b, args, at_⟩ ty = (pure { target := .builtin b at_ ty cs, args := args.map ρ } : Sem Deferred) := ⟨_, fun _ => rfl⟩
theorem o_bi {b : Builtin} {args : Array Operand} {at_ : Array TypeId} {vals : List Value} {v : Value} (hargs : evs e args.toList = some vals) (hr : ∀ (w : World) cs, (builtin b at_ ty cs vals.toArray).run P w = .ok (.value v) w) :
    Ev P e h ⟨d, .call ⟨.builtin b, args, at_⟩, ty, pos, aft, g⟩ v := by
  intro ρ w hA _
  obtain ⟨cs, h1⟩ := resolve_builtin b args at_ ty
  have h2 : args.map ρ = vals.toArray := by rw [← hA.evs hargs, ← Array.toList_map, Array.toArray_toList]
  refine ⟨?_, ?_⟩
  · simp only [execOp, h1, h2]
    exact hr w cs
  · simp only [Oper.about, h1]
    rfl
/-- len -/
theorem o_len_s {s : ByteArray} (ht : Str P t) (hx : ev e x = some (.string s)) : Ev P e h ⟨d, .call ⟨.builtin .len, #[x], #[t]⟩, ty, pos, aft, g⟩ (.int .i64 (s.size : Nat)) :=
  o_bi (vals := [.string s]) (by simp [evs, hx]) fun w cs => by simp [builtin, Builtin.len_, run_underlying ht.spec, goInt]
theorem run_len_sl {v : Value} {n : Nat} (ht : ∃ e', P.underlying t = some (.slice e')) (hv : ∃ A c, v = .slice A n c) (w : World) : (Builtin.len_ #[t] ty #[v]).run P w = .ok (.int .i64 n) w := by
  obtain ⟨e', h1⟩ := ht
  obtain ⟨A, c, rfl⟩ := hv
  simp [Builtin.len_, run_underlying h1, goInt]
def slcTB (P : Program) (t : Nat) : Bool := match P.underlying t with | some (.slice _) => true | _ => false
/-- A slice type. -/
def SlcT (P : Program) (t : Nat) : Prop := slcTB P t = true
theorem SlcT.spec (hp : SlcT P t) : ∃ e', P.underlying t = some (.slice e') := by
  unfold SlcT slcTB at hp
  split at hp
  · exact ⟨_, ‹_›⟩
  · cases hp
/-- The number of elements that a slice value shows. -/
def sn : Value → Nat
  | .slice _ n _ => n
  | _ => 0
def sb : Value → Nat
  | .slice (some a) _ _ => a.block
  | _ => 0
def so : Value → Nat
  | .slice (some a) _ _ => a.off
  | _ => 0
def sc : Value → Nat
  | .slice _ _ c => c
  | _ => 0
def isSlice : Value → Bool
  | .slice none n _ => n == 0
  | .slice (some a) _ _ => a.spot.isNone
  | _ => false
theorem o_len {v : Value} (ht : SlcT P t) (hv : isSlice v = true) (hx : ev e x = some v) : Ev P e h ⟨d, .call ⟨.builtin .len, #[x], #[t]⟩, ty, pos, aft, g⟩ (.int .i64 (sn v : Nat)) := by
  refine o_bi (vals := [v]) (by simp [evs, hx]) fun w cs => ?_
  have : ∃ A c, v = .slice A (sn v) c := by
    cases v with
    | slice A n c => exact ⟨_, _, rfl⟩
    | _ => simp [isSlice] at hv
  simp only [builtin, Sem.run_bind, run_len_sl ht.spec this w]
  rfl
/-- The address of an element. -/
theorem o_ia {t el size i : Nat} {v : Value} (ht : Slc P t el size) (hv : isSlice v = true) (hx : ev e x = some v) (hy : ev e y = some (.int k m)) (hm : m = (i : Nat)) (hi : i < sn v) :
    Ev P e h ⟨d, .indexAddr t x y, ty, pos, aft, g⟩ (.pointer (some ⟨sb v, so v + i * size, none⟩)) := by
  intro ρ w hA _
  refine ⟨?_, rfl⟩
  obtain ⟨h1, inf, h2, h3⟩ := ht.spec
  cases v with
  | slice a n c =>
    cases a with
    | none => simp [isSlice] at hv; simp [sn, hv] at hi
    | some a =>
      obtain ⟨b, o, sp⟩ := a
      have hsp : sp = none := by simpa [isSlice] using hv
      subst hsp
      simp only [sn] at hi
      subst hm
      have hr : (Instr.indexAt t (.slice (some ⟨b, o, none⟩) n c) (.int k (i : Nat))).run P w = .ok (.pointer (some ⟨b, o + i * size, none⟩)) w := by
        simp [Instr.indexAt, asIntOf, run_underlying h1, sizeOf, typeInfo, h2, h3, addr_add, hi]
      simp only [execOp, hA x _ hx, hA y _ hy, Sem.run_bind, hr]
      rfl
  | _ => simp [isSlice] at hv
/-- A byte of a string. -/
theorem o_ixs {s : ByteArray} {i : Nat} {b : UInt8} (ht : Str P t) (hx : ev e x = some (.string s)) (hy : ev e y = some (.int k m)) (hm : m = (i : Nat)) (hi : s[i]? = some b) :
    Ev P e h ⟨d, .index t x y, ty, pos, aft, g⟩ (.int .u8 b.toNat) := by
  intro ρ w hA _
  refine ⟨?_, rfl⟩
  subst hm
  simp [execOp, hA x _ hx, hA y _ hy, Instr.index, asIntOf, run_underlying ht.spec, hi]
theorem o_max {at_ : Array TypeId} (hx : ev e x = some (.int k m)) (hy : ev e y = some (.int k' n)) : Ev P e h ⟨d, .call ⟨.builtin .max, #[x, y], at_⟩, ty, pos, aft, g⟩ (.int k (max m n)) :=
  o_bi (vals := [.int k m, .int k' n]) (by simp [evs, hx, hy]) fun w cs => by
    have : max m n = if n > m then n else m := by rw [Int.max_def]; split <;> split <;> omega
    simp [builtin, Builtin.max_, Builtin.max2, this]
theorem o_min {at_ : Array TypeId} (hx : ev e x = some (.int k m)) (hy : ev e y = some (.int k' n)) : Ev P e h ⟨d, .call ⟨.builtin .min, #[x, y], at_⟩, ty, pos, aft, g⟩ (.int k (min m n)) :=
  o_bi (vals := [.int k m, .int k' n]) (by simp [evs, hx, hy]) fun w cs => by
    have : min m n = if n < m then n else m := by rw [Int.min_def]; split <;> split <;> omega
    simp [builtin, Builtin.min_, Builtin.min2, this]
end
end Go.TP
/-! Col. -/
namespace Go.TP
open Go

/-- A colour: a depth, and a path. (0, []) is what is read alone. -/
abbrev Col := Nat × List Nat
abbrev Cm := Nat → Col
def ro : Col := (0, [])

/-- From (c, h) to (c', h'): blocks of colours in S, and new ones, alone have turned; new ones have colours of a depth below n. -/
structure Mod (n : Nat) (S : Col → Prop) (c : Cm) (h : Heap) (c' : Cm) (h' : Heap) : Prop where
  size : h.size ≤ h'.size
  col : ∀ b, b < h.size → c' b = c b
  same : ∀ b, b < h.size → ¬ S (c b) → h'[b]? = h[b]?
  lvl : ∀ b, h.size ≤ b → b < h'.size → (c' b).1 < n
def none_ : Col → Prop := fun _ => False
def only (π : Col) : Col → Prop := fun ρ => ρ = π
/-- A colour and all that lie under it. -/
def under (π : Col) : Col → Prop := fun ρ => ρ.1 = π.1 ∧ π.2 <:+ ρ.2

section
variable {n n' : Nat} {S S' : Col → Prop} {c c' c1 c2 : Cm} {h h' h1 h2 : Heap}
theorem Mod.refl (n : Nat) (S : Col → Prop) (c : Cm) (h : Heap) : Mod n S c h c h := ⟨Nat.le_refl _, fun _ _ => rfl, fun _ _ _ => rfl, fun _ h1 h2 => by omega⟩
theorem Mod.trans (x : Mod n S c h c1 h1) (y : Mod n S' c1 h1 c2 h2) (hS : ∀ b, b < h.size → S' (c b) → S (c b)) : Mod n S c h c2 h2 := by
  refine ⟨Nat.le_trans x.size y.size, fun b hb => (y.col b (Nat.lt_of_lt_of_le hb x.size)).trans (x.col b hb), fun b hb hn => ?_, fun b hb hb2 => ?_⟩
  · rw [y.same b (Nat.lt_of_lt_of_le hb x.size) (fun h' => hn (hS b hb (x.col b hb ▸ h'))), x.same b hb hn]
  · rcases Nat.lt_or_ge b h1.size with hlt | hge
    · rw [y.col b hlt]; exact x.lvl b hb hlt
    · exact y.lvl b hge hb2
theorem Mod.weak (x : Mod n S c h c' h') (hn : n ≤ n') (hS : ∀ π, S π → S' π) : Mod n' S' c h c' h' :=
  ⟨x.size, x.col, fun b hb hh => x.same b hb (fun h' => hh (hS _ h')), fun b h1 h2 => Nat.lt_of_lt_of_le (x.lvl b h1 h2) hn⟩
theorem Mod.cel (x : Mod n S c h c' h') {b o : Nat} {v : Value} (hv : cel h b o = some v) (hS : ¬ S (c b)) : TP.cel h' b o = some v := by
  have hb : b < h.size := by
    unfold TP.cel at hv
    split at hv
    · rename_i heq; exact (Array.getElem?_eq_some_iff.1 heq).1
    · cases hv
  unfold TP.cel at hv ⊢
  rw [x.same b hb hS]
  exact hv
theorem cel_lt {b o : Nat} {v : Value} (hv : cel h b o = some v) : b < h.size := by
  unfold TP.cel at hv
  split at hv
  · rename_i heq; exact (Array.getElem?_eq_some_iff.1 heq).1
  · cases hv
end

/-- Every block of colour π has then colour ρ. -/
def Turn (c c' : Cm) (π ρ : Col) : Prop := ∀ b, c b = π → c' b = ρ

/-! ### Facts -/
/-- A block known whole. -/
structure Bk (c : Cm) (π : Col) (h : Heap) (b : Nat) (T : TypeId) (cs : List Value) : Prop where
  col : c b = π
  get : h[b]? = some (.cells cs.toArray T (0, 0))
/-- A slice value: its elements' cells. -/
structure Sl (c : Cm) (π : Col) (h : Heap) (sz : Nat) (v : Value) (cs : List Value) : Prop where
  is : isSlice v = true
  len : cs.length = sn v * sz
  cap : sn v ≤ sc v
  bd : sn v ≤ 68719476736
  col : cs ≠ [] → c (sb v) = π
  get : ∀ j u, cs[j]? = some u → cel h (sb v) (so v + j) = some u
/-- A slice that is being built: nil, or at the head of a block of its own. -/
structure Ow (c : Cm) (π : Col) (h : Heap) (T : TypeId) (sz : Nat) (v : Value) (cs : List Value) : Prop where
  len : cs.length = sn v * sz
  bd : sn v ≤ 68719476736
  ex : (v = .slice none 0 0 ∧ cs = []) ∨ ∃ g cap cur, v = .slice (some ⟨g, 0, none⟩) (sn v) cap ∧ c g = π ∧ h[g]? = some (.cells cur T (0, 0)) ∧ sn v ≤ cap ∧ cap ≤ maxLen ∧ cur.size = cap * sz ∧ cur.toList.take (sn v * sz) = cs

section
variable {n : Nat} {S : Col → Prop} {c c' : Cm} {h h' : Heap} {π ρ : Col} {b sz : Nat} {T : TypeId} {v : Value} {cs : List Value}
theorem Bk.lt (f : Bk c π h b T cs) : b < h.size := (Array.getElem?_eq_some_iff.1 f.get).1
theorem Bk.step (f : Bk c π h b T cs) (x : Mod n S c h c' h') (hS : ¬ S π) : Bk c' π h' b T cs :=
  ⟨(x.col b f.lt).trans f.col, (x.same b f.lt (f.col ▸ hS)).trans f.get⟩
theorem Bk.turn (f : Bk c π h b T cs) (t : Turn c c' π ρ) : Bk c' ρ h b T cs := ⟨t b f.col, f.get⟩
theorem Bk.cel (f : Bk c π h b T cs) (j : Nat) : TP.cel h b j = cs[j]? := by simp [TP.cel, f.get]
theorem Sl.lt (f : Sl c π h sz v cs) (hc : cs ≠ []) : sb v < h.size := by
  cases cs with
  | nil => exact absurd rfl hc
  | cons u cs => exact cel_lt (f.get 0 u rfl)
theorem Sl.step (f : Sl c π h sz v cs) (x : Mod n S c h c' h') (hS : ¬ S π) : Sl c' π h' sz v cs :=
  ⟨f.is, f.len, f.cap, f.bd, fun hc => (x.col _ (f.lt hc)).trans (f.col hc), fun j u hu => x.cel (f.get j u hu) (f.col (by intro h0; rw [h0] at hu; cases hu) ▸ hS)⟩
theorem Sl.turn (f : Sl c π h sz v cs) (t : Turn c c' π ρ) : Sl c' ρ h sz v cs := ⟨f.is, f.len, f.cap, f.bd, fun hc => t _ (f.col hc), f.get⟩
theorem Sl.nil (c : Cm) (π : Col) (h : Heap) (sz : Nat) : Sl c π h sz (.slice none 0 0) [] := ⟨rfl, by simp [sn], by simp [sn], by simp [sn], fun h => absurd rfl h, fun j u hu => by cases hu⟩
theorem Ow.step (f : Ow c π h T sz v cs) (x : Mod n S c h c' h') (hS : ¬ S π) : Ow c' π h' T sz v cs := by
  refine ⟨f.len, f.bd, f.ex.imp id ?_⟩
  rintro ⟨g, cap, cur, h1, h2, h3, h4⟩
  have hg := (Array.getElem?_eq_some_iff.1 h3).1
  exact ⟨g, cap, cur, h1, (x.col g hg).trans h2, (x.same g hg (h2 ▸ hS)).trans h3, h4⟩
theorem Ow.turn (f : Ow c π h T sz v cs) (t : Turn c c' π ρ) : Ow c' ρ h T sz v cs :=
  ⟨f.len, f.bd, f.ex.imp id fun ⟨g, cap, cur, h1, h2, h3⟩ => ⟨g, cap, cur, h1, t g h2, h3⟩⟩
theorem Ow.nil (c : Cm) (π : Col) (h : Heap) (T : TypeId) (sz : Nat) : Ow c π h T sz (.slice none 0 0) [] := ⟨by simp [sn], by simp [sn], .inl ⟨rfl, rfl⟩⟩
theorem Ow.is (f : Ow c π h T sz v cs) : isSlice v = true := by
  rcases f.ex with ⟨rfl, _⟩ | ⟨g, cap, cur, h1, _⟩
  · rfl
  · rw [h1]; rfl
theorem Ow.sl (f : Ow c π h T sz v cs) : Sl c π h sz v cs := by
  rcases f.ex with ⟨rfl, rfl⟩ | ⟨g, cap, cur, h1, h2, h3, h4, h5, h6, h7⟩
  · exact Sl.nil _ _ _ _
  · have e1 : sb v = g := by rw [h1]; rfl
    have e2 : so v = 0 := by rw [h1]; rfl
    have e3 : sc v = cap := by rw [h1]; rfl
    refine ⟨f.is, f.len, by omega, f.bd, fun _ => e1 ▸ h2, fun j u hu => ?_⟩
    rw [e1, e2]
    simp only [cel, h3, Nat.zero_add]
    rw [← h7, List.getElem?_take] at hu
    split at hu
    · simpa using hu
    · cases hu
theorem Bk.sl (f : Bk c π h b T cs) (hn : cs.length = n * sz) (hb : n ≤ 68719476736) : Sl c π h sz (.slice (some ⟨b, 0, none⟩) n n) cs :=
  ⟨rfl, by simpa [sn] using hn, Nat.le_refl _, hb, fun _ => f.col, fun j u hu => by simpa [so, sb, f.cel] using hu⟩
theorem Bk.ow (f : Bk c π h b T cs) (hn : cs.length = n * sz) (hb : n ≤ 68719476736) : Ow c π h T sz (.slice (some ⟨b, 0, none⟩) n n) cs :=
  ⟨by simpa [sn] using hn, hb, .inr ⟨b, n, cs.toArray, rfl, f.col, f.get, Nat.le_refl _, by simp only [maxLen]; omega, by simpa using hn, by simp [sn, ← hn]⟩⟩
end
end Go.TP
/-! Glob. -/
namespace Go.TP
open Go
structure Gb (c : Cm) (h : Heap) (b : Nat) (cs : List Value) : Prop where
  col : c b = ro
  get : ∀ j u, cs[j]? = some u → cel h b j = some u
theorem Gb.step {n : Nat} {S : Col → Prop} {c c' : Cm} {h h' : Heap} {b : Nat} {u : Value} {cs : List Value} (g : Gb c h b (u :: cs)) (x : Mod n S c h c' h') (hS : ¬ S ro) : Gb c' h' b (u :: cs) :=
  ⟨(x.col b (cel_lt (g.get 0 u rfl))).trans g.col, fun j v hv => x.cel (g.get j v hv) (g.col ▸ hS)⟩
def behindsL : List Value := [.int .i64 0, .int .i64 3, .int .i64 6, .int .i64 9, .int .i64 12, .int .i64 18, .int .i64 25, .int .i64 56, .int .i64 64]
def bruijnL : List Value := [.int .u8 0, .int .u8 1, .int .u8 56, .int .u8 2, .int .u8 57, .int .u8 49, .int .u8 28, .int .u8 3, .int .u8 61, .int .u8 58, .int .u8 42, .int .u8 50, .int .u8 38, .int .u8 29, .int .u8 17, .int .u8 4, .int .u8 62, .int .u8 47, .int .u8 59, .int .u8 36, .int .u8 45, .int .u8 43, .int .u8 51, .int .u8 22, .int .u8 53, .int .u8 39, .int .u8 33, .int .u8 30, .int .u8 24, .int .u8 18, .int .u8 12, .int .u8 5, .int .u8 63, .int .u8 55, .int .u8 48, .int .u8 27, .int .u8 60, .int .u8 41, .int .u8 37, .int .u8 16, .int .u8 46, .int .u8 35, .int .u8 44, .int .u8 21, .int .u8 52, .int .u8 32, .int .u8 23, .int .u8 11, .int .u8 54, .int .u8 26, .int .u8 40, .int .u8 15, .int .u8 34, .int .u8 20, .int .u8 31, .int .u8 10, .int .u8 25, .int .u8 14, .int .u8 19, .int .u8 9, .int .u8 13, .int .u8 8, .int .u8 7, .int .u8 6]
structure Gl (c : Cm) (h : Heap) : Prop where
  behinds : Gb c h 2 behindsL
  bruijn : Gb c h 3 bruijnL
theorem Gl.step {n : Nat} {S : Col → Prop} {c c' : Cm} {h h' : Heap} (g : Gl c h) (x : Mod n S c h c' h') (hS : ¬ S ro) : Gl c' h' := ⟨g.behinds.step x hS, g.bruijn.step x hS⟩
end Go.TP
/-! Mem. -/
namespace Go.TP
open Go

/-- What holds of the whole heap at depth n. -/
structure St (n : Nat) (c : Cm) (h : Heap) : Prop where
  pos : 1 ≤ n
  lvl : ∀ b, b < h.size → (c b).1 < n
  gl : Gl c h
/-- A body at depth n, begun at (c0, h0), has come to (c, h): of old blocks those of S alone have turned. -/
structure Tr (n : Nat) (S : Col → Prop) (c0 : Cm) (h0 : Heap) (c : Cm) (h : Heap) : Prop where
  m : Mod (n + 1) (fun π => S π ∨ n ≤ π.1) c0 h0 c h
  st : St (n + 1) c h
  st0 : St n c0 h0
  nro : ¬ S ro
section
variable {n : Nat} {S S1 : Col → Prop} {c0 c c1 : Cm} {h0 h h1 : Heap}
theorem St.up (s : St n c h) : St (n + 1) c h := ⟨by omega, fun b hb => Nat.lt_succ_of_lt (s.lvl b hb), s.gl⟩
theorem Tr.start (s : St n c h) (hn : ¬ S ro) : Tr n S c h c h := ⟨Mod.refl _ _ _ _, s.up, s, hn⟩
theorem Tr.step (t : Tr n S c0 h0 c h) (x : Mod (n + 1) S1 c h c1 h1) (hS : ∀ π, S1 π → S π ∨ n ≤ π.1) : Tr n S c0 h0 c1 h1 := by
  have hro : ¬ S1 ro := fun hh => by
    rcases hS _ hh with h' | h'
    · exact t.nro h'
    · have := t.st0.pos; simp [ro] at h'; omega
  refine ⟨t.m.trans x fun b hb hh => hS _ hh, ⟨t.st.pos, fun b hb => ?_, t.st.gl.step x hro⟩, t.st0, t.nro⟩
  rcases Nat.lt_or_ge b h.size with hlt | hge
  · rw [x.col b hlt]; exact t.st.lvl b hlt
  · exact x.lvl b hge hb
/-- Nothing old has turned. -/
theorem Tr.pure (t : Tr n S c0 h0 c h) (x : Mod (n + 1) none_ c h c1 h1) : Tr n S c0 h0 c1 h1 := t.step x fun _ hh => hh.elim
/-- A local of this body has turned. -/
theorem Tr.loc {l : List Nat} (t : Tr n S c0 h0 c h) (x : Mod (n + 1) (only (n, l)) c h c1 h1) : Tr n S c0 h0 c1 h1 := t.step x fun π hh => .inr (by rw [show π = (n, l) from hh]; exact Nat.le_refl _)
/-- What the body may turn has turned. -/
theorem Tr.may (t : Tr n S c0 h0 c h) (x : Mod (n + 1) S1 c h c1 h1) (hS : ∀ π, S1 π → S π) : Tr n S c0 h0 c1 h1 := t.step x fun π hh => .inl (hS π hh)

/-- The end of a body: its locals' colours are given up. L: locals that live on, and their new colours. -/
def dn (n : Nat) : List (Col × Col) → Col → Col
  | [], π => if π.1 < n then π else (0, [0])
  | (π', ρ) :: L, π => if π = π' then ρ else dn n L π
def rec_ (h0 : Heap) (n : Nat) (L : List (Col × Col)) (c : Cm) : Cm := fun b => if b < h0.size then c b else dn n L (c b)
def okDn (n : Nat) : List (Col × Col) → Prop
  | [] => True
  | (_, ρ) :: L => ρ.1 < n ∧ okDn n L
theorem dn_lt (hn : 1 ≤ n) : ∀ {L : List (Col × Col)}, okDn n L → ∀ π, (dn n L π).1 < n
  | [], _, π => by
    simp only [dn]
    split
    · assumption
    · exact hn
  | (π', ρ) :: L, hk, π => by
    simp only [dn]
    split
    · exact hk.1
    · exact dn_lt hn hk.2 π
theorem Tr.out (t : Tr n S c0 h0 c h) (L : List (Col × Col)) (hL : okDn n L) : Mod n S c0 h0 (rec_ h0 n L c) h := by
  refine ⟨t.m.size, fun b hb => ?_, fun b hb hn => t.m.same b hb ?_, fun b hb hb2 => ?_⟩
  · simp only [rec_, if_pos hb]; exact t.m.col b hb
  · rintro (h' | h')
    · exact hn h'
    · have := t.st0.lvl b hb; omega
  · simp only [rec_, if_neg (show ¬ b < h0.size by omega)]; exact dn_lt t.st0.pos hL _
/-- A colour that stays. -/
theorem Tr.keep (_t : Tr n S c0 h0 c h) (L : List (Col × Col)) {π : Col} (hd : dn n L π = π) : Turn c (rec_ h0 n L c) π π := by
  intro b hb
  unfold rec_
  split
  · exact hb
  · rw [hb, hd]
/-- A local's new colour. -/
theorem Tr.turn (t : Tr n S c0 h0 c h) (L : List (Col × Col)) {π ρ : Col} (hp : n ≤ π.1) (hd : dn n L π = ρ) : Turn c (rec_ h0 n L c) π ρ := by
  intro b hb
  unfold rec_
  split
  · rename_i hlt
    have h1 := t.st0.lvl b hlt
    rw [← t.m.col b hlt, hb] at h1
    omega
  · rw [hb, hd]
theorem dn_ro {L : List (Col × Col)} (hn : 1 ≤ n) (h : ∀ p ∈ L, n ≤ p.1.1) : dn n L ro = ro := by
  induction L with
  | nil => simp only [dn]; rw [if_pos (show ro.1 < n from hn)]
  | cons p L ih =>
    obtain ⟨π', ρ⟩ := p
    simp only [dn]
    have := h (π', ρ) (List.mem_cons_self ..)
    rw [if_neg (by intro h'; rw [← h'] at this; simp [ro] at this; omega)]
    exact ih fun q hq => h q (List.mem_cons_of_mem _ hq)
theorem dn_old {L : List (Col × Col)} {π : Col} (hp : π.1 < n) (h : ∀ p ∈ L, n ≤ p.1.1) : dn n L π = π := by
  induction L with
  | nil => simp only [dn]; rw [if_pos hp]
  | cons p L ih =>
    obtain ⟨π', ρ⟩ := p
    simp only [dn]
    have := h (π', ρ) (List.mem_cons_self ..)
    rw [if_neg (by intro h'; rw [← h'] at this; simp at this; omega)]
    exact ih fun q hq => h q (List.mem_cons_of_mem _ hq)
end

/-! ### Colours that differ -/
theorem nonly {π ρ : Col} (h : π ≠ ρ) : ¬ only ρ π := h
theorem loc_ne {n : Nat} {l l' : List Nat} (h : l ≠ l') : ((n, l) : Col) ≠ (n, l') := fun e => h (Prod.mk.inj e).2
theorem ro_loc {n : Nat} {l : List Nat} (h : 1 ≤ n) : ro ≠ (n, l) := fun e => by
  have h1 : (0 : Nat) = n := congrArg Prod.fst e
  omega
theorem old_loc {n : Nat} {π : Col} {l : List Nat} (h : π.1 < n) : π ≠ (n, l) := fun e => by
  rw [e] at h
  exact Nat.lt_irrefl _ h

/-! ### Making -/
section
variable {P : Program} {rd : Option Nat} {e : Env} {h : Heap} {d : Option Tmp} {ty : TypeId} {pos : String} {aft : Array Edge}
theorem Mod.push (n : Nat) (c : Cm) (h : Heap) (o : Obj) {π : Col} (hπ : π.1 < n) : Mod n none_ c h (fun b => if b = h.size then π else c b) (h.push o) := by
  refine ⟨by simp, fun b hb => if_neg (by omega), fun b hb _ => ?_, fun b hb hb2 => ?_⟩
  · rw [Array.getElem?_push, if_neg (by omega)]
  · have : b = h.size := by simp at hb2; omega
    simp [this, hπ]
theorem Bk.push (c : Cm) (h : Heap) (cs : List Value) (T : TypeId) (π : Col) : Bk (fun b => if b = h.size then π else c b) π (h.push (.cells cs.toArray T)) h.size T cs :=
  ⟨if_pos rfl, by simp⟩
/-- What comes of a new block. -/
def New (n : Nat) (c : Cm) (h : Heap) (π : Col) (T : TypeId) (cs : List Value) (mk : Nat → Value) (v : Value) (h' : Heap) : Prop :=
  ∃ b c', v = mk b ∧ Mod n none_ c h c' h' ∧ Bk c' π h' b T cs
def asPtr (b : Nat) : Value := .pointer (some ⟨b, 0, none⟩)
def asRow (k : Nat) (b : Nat) : Value := .slice (some ⟨b, 0, none⟩) k k
theorem ef_of_run {o : Oper} {R : Value → Heap → Prop} (hab : ∀ (ρ : Operand → Value) (w : World), Agree e ρ → w.heap = h → o.about P w ρ = none) (hd : ∀ c, o.op ≠ .defer c)
    (hr : ∀ (ρ : Operand → Value) (w : World), Agree e ρ → w.heap = h → ∃ v w', ((execOp ρ o).run P w = .ok (.value v) w' ∨ (v = undef ∧ (execOp ρ o).run P w = .ok .skip w')) ∧ R v w'.heap ∧ w'.os = w.os ∧ w'.tape = w.tape ∧ w'.output = w.output) :
    Ef P rd e h o R := by
  intro a w hA hw next hn
  refine ⟨fun f hf => (by rw [hab _ w hA hw] at hf; cases hf), ?_⟩
  obtain ⟨v, w', h1, h2, h3, h4, h5⟩ := hr a.eval w hA hw
  rw [show (Wd rd).round = rd from rfl, Oper.semAt_eq rd _ o hd]
  rcases h1 with h1 | ⟨rfl, h1⟩
  · rw [h1]; exact hn v w' h2 h3 h4 h5
  · rw [h1]; exact hn undef w' h2 h3 h4 h5
theorem e_al {T size bytes : Nat} {z : Value} {cs : List Value} (hi : Inf P T z size bytes) (hz : z.cells = cs.toArray) (n : Nat) (c : Cm) (π : Col) (hπ : π.1 < n) : Ef P rd e h ⟨d, .alloc T, ty, pos, aft, none⟩ (New n c h π T cs asPtr) := by
  obtain ⟨i, h1, h2, h3, h4⟩ := hi.spec
  refine ef_of_run (fun _ _ _ _ => rfl) (fun _ hc => by cases hc) fun ρ w hA hw => ?_
  refine ⟨.pointer (some ⟨w.heap.size, 0, none⟩), { w with heap := w.heap.push (.cells z.cells T) }, .inl ?_, ?_, rfl, rfl, rfl⟩
  · simp [execOp, Instr.alloc, zeroValue, typeInfo, h1, h2, newVar, newRow, newObj, Sem.run]
  · subst hw
    refine ⟨_, _, rfl, Mod.push n c _ _ hπ, ?_⟩
    rw [hz]
    exact Bk.push c _ cs T π
theorem e_bx {T : TypeId} {x : Operand} {u : Value} {cs : List Value} (hx : ev e x = some u) (hu : u.cells = cs.toArray) (n : Nat) (c : Cm) (π : Col) (hπ : π.1 < n) : Ef P rd e h ⟨d, .box T x, ty, pos, aft, none⟩ (New n c h π T cs asPtr) := by
  refine ef_of_run (fun _ _ _ _ => rfl) (fun _ hc => by cases hc) fun ρ w hA hw => ?_
  refine ⟨.pointer (some ⟨w.heap.size, 0, none⟩), { w with heap := w.heap.push (.cells u.cells T) }, .inl ?_, ?_, rfl, rfl, rfl⟩
  · simp [execOp, hA x _ hx, Instr.box, newVar, newRow, newObj, Sem.run]
  · subst hw
    refine ⟨_, _, rfl, Mod.push n c _ _ hπ, ?_⟩
    rw [hu]
    exact Bk.push c _ cs T π
theorem fill_dense (size : Nat) : ∀ (us : List Value) (i0 : Nat) (zs : Array Value), (∀ u ∈ us, u.cells.size = size) → (i0 + us.length) * size = zs.size →
    Instr.fill (fun i => some (i * size, size)) zs ((us.zipIdx i0).map fun p => (p.2, p.1)) = some (zs.toList.take (i0 * size) ++ us.flatMap (·.cells.toList)).toArray := by
  have key : ∀ (l : List Value) (k j : Nat) (zs : Array Value), k + j + l.length ≤ zs.size → ((l.zipIdx j).foldl (fun cs (p : Value × Nat) => cs.setIfInBounds (k + p.2) p.1) zs) = (zs.toList.take (k + j) ++ l ++ zs.toList.drop (k + j + l.length)).toArray := by
    intro l
    induction l with
    | nil => intro k j zs hk; simp
    | cons y l ih =>
      intro k j zs hk
      simp only [List.length_cons] at hk
      rw [List.zipIdx_cons, List.foldl_cons, ih k (j + 1) _ (by simp; omega)]
      congr 1
      have hlt : k + j < zs.toList.length := by simp; omega
      simp only [Array.toList_setIfInBounds]
      rw [show k + (j + 1) = (k + j) + 1 by omega, List.take_succ_eq_append_getElem (by simpa using hlt)]
      rw [List.drop_set_of_lt (by omega), List.take_set_of_le (Nat.le_refl _)]
      simp only [List.getElem_set_self, List.append_assoc, List.cons_append, List.nil_append, List.length_cons]
      rw [show k + j + 1 + l.length = k + j + (l.length + 1) by omega]
  intro us
  induction us with
  | nil =>
    intro i0 zs _ hz
    simp only [List.length_nil, Nat.add_zero] at hz
    simp [Instr.fill, hz, List.take_of_length_le]
  | cons u us ih =>
    intro i0 zs hu hz
    have hus := hu u (List.mem_cons_self ..)
    simp only [List.length_cons] at hz
    have hfit : i0 * size + size + us.length * size = zs.size := by rw [← hz, show i0 + (us.length + 1) = i0 + 1 + us.length by omega, Nat.add_mul, Nat.add_mul, Nat.one_mul]
    rw [List.zipIdx_cons, List.map_cons]
    simp only [Instr.fill]
    rw [if_neg (by simp [hus]; omega)]
    have hk := key u.cells.toList (i0 * size) 0 zs (by simp [hus]; omega)
    have he : u.cells.zipIdx.foldl (fun cs (x : Value × Nat) => cs.setIfInBounds (i0 * size + x.2) x.1) zs = (zs.toList.take (i0 * size) ++ u.cells.toList ++ zs.toList.drop (i0 * size + size)).toArray := by
      rw [← Array.foldl_toList, Array.toList_zipIdx, hk]
      simp [hus]
    have he' : Array.foldl (fun cs (x : Value × Nat) => match x with | (c, j) => cs.setIfInBounds (i0 * size + j) c) zs u.cells.zipIdx = (zs.toList.take (i0 * size) ++ u.cells.toList ++ zs.toList.drop (i0 * size + size)).toArray := he
    rw [he', ih (i0 + 1) _ (fun x hx => hu x (List.mem_cons_of_mem _ hx)) (by
      rw [show i0 + 1 + us.length = i0 + (us.length + 1) by omega, hz]
      simp [hus]
      omega)]
    congr 2
    have hl : (zs.toList.take (i0 * size) ++ u.cells.toList).length = (i0 + 1) * size := by simp [hus, Nat.add_mul]; omega
    rw [show (zs.toList.take (i0 * size) ++ u.cells.toList ++ zs.toList.drop (i0 * size + size)).toArray.toList = zs.toList.take (i0 * size) ++ u.cells.toList ++ zs.toList.drop (i0 * size + size) from rfl, ← hl, List.take_left]
    simp
theorem one_cells {u : Value} (h : u.oneCell' = true) : u.cells = #[u] := by cases u <;> first | rfl | (simp [Value.oneCell'] at h)
/-- A slice of values that stand there. -/
theorem e_bs {t el size bytes len : Nat} {z : Value} {parts : Array (Nat × Operand)} {xs : List Operand} {us cs : List Value} (ht : Slc P t el size) (hi : Inf P el z size bytes) (hz : z.cells.size = size)
    (hs : Nat.ble (len * size) 16777216 = true) (hp : Nat.ble 1 (len * size) = true) (hparts : parts.toList = (xs.zipIdx).map fun p => (p.2, p.1)) (hx : evs e xs = some us) (hlen : us.length = len) (hu : ∀ u ∈ us, u.cells.size = size) (hcs : us.flatMap (·.cells.toList) = cs)
    (n : Nat) (c : Cm) (π : Col) (hπ : π.1 < n) : Ef P rd e h ⟨d, .buildSlice t len parts, ty, pos, aft, none⟩ (New n c h π el cs (asRow len)) := by
  obtain ⟨i, h1, h2, h3, h4⟩ := hi.spec
  obtain ⟨h5, inf, h6, h7⟩ := ht.spec
  refine ef_of_run (fun _ _ _ _ => rfl) (fun _ hc => by cases hc) fun ρ w hA hw => ?_
  subst h3
  have hsm : len * i.size ≤ 16777216 := by simpa using hs
  have hpo : 1 ≤ len * i.size := by simpa using hp
  have hm : (parts.map fun (i, x) => (i, ρ x)).toList = (us.zipIdx).map fun p => (p.2, p.1) := by
    rw [Array.toList_map, hparts, ← hA.evs hx, List.zipIdx_map, List.map_map, List.map_map]
    rfl
  have hb := run_buildSlice (P := P) w t el len (parts.map fun (i, x) => (i, ρ x)) cs.toArray i z h5 h1 h2 (by omega) (by omega) (by
    rw [hm, fill_dense i.size us 0 _ hu (by simp [hlen])]
    simp [hcs])
  refine ⟨.slice (some ⟨w.heap.size, 0, none⟩) len len, w.alloc (.cells cs.toArray el), .inl ?_, ?_, rfl, rfl, rfl⟩
  · simp only [execOp, Sem.run_bind, hb, Result.andThen]
    rfl
  · subst hw
    exact ⟨_, _, rfl, Mod.push n c _ _ hπ, Bk.push c _ cs el π⟩
end

/-! ### Storing -/
def hset (h : Heap) (b o : Nat) (v : Value) : Heap := h.modify b fun
  | .cells c el fr => .cells (c.setIfInBounds o v) el fr
  | x => x
section
variable {P : Program} {rd : Option Nat} {e : Env} {h : Heap} {ty : TypeId} {pos : String} {aft : Array Edge} {c : Cm} {π : Col} {b : Nat} {T : TypeId} {cs : List Value}
theorem hset_other {h : Heap} {b o k : Nat} {v : Value} (hk : k ≠ b) : (hset h b o v)[k]? = h[k]? := by
  unfold hset
  rw [Array.getElem?_modify, if_neg (by omega)]
theorem hset_size (h : Heap) (b o : Nat) (v : Value) : (hset h b o v).size = h.size := by simp [hset]
theorem hset_same {h : Heap} {b o : Nat} {v : Value} {cur : Array Value} {T : TypeId} {fr : Nat × Nat} (hb : h[b]? = some (.cells cur T fr)) : (hset h b o v)[b]? = some (.cells (cur.setIfInBounds o v) T fr) := by
  unfold hset
  rw [Array.getElem?_modify, if_pos rfl, hb]
  rfl
theorem Mod.hset (n : Nat) (c : Cm) (h : Heap) (b o : Nat) (v : Value) : Mod n (only (c b)) c h c (hset h b o v) := by
  refine ⟨by rw [hset_size]; exact Nat.le_refl _, fun _ _ => rfl, fun k hk hn => hset_other fun hkb => hn (by rw [hkb]; rfl), fun k h1 h2 => ?_⟩
  rw [hset_size] at h2
  omega
theorem run_store_bk {w : World} {b o : Nat} {v : Value} {cur : Array Value} {T : TypeId} (hb : w.heap[b]? = some (.cells cur T (0, 0))) (ho : o < cur.size) (h1 : v.oneCell' = true) :
    (store ⟨b, o, none⟩ v).run P w = .ok () { w with heap := hset w.heap b o v } := by
  have hc : w.cell? ⟨b, o, none⟩ = some cur[o] := by rw [cell_cel rfl]; simp [cel, hb, ho]
  rw [run_store P w _ v .plain h1, hc]
  have hf : w.frozen? ⟨b, o, none⟩ = false := by simp [World.frozen?, hb]
  simp only [hf, Bool.false_eq_true, if_false]
  rfl
/-- One cell of a block known whole. -/
theorem e_st {t o : Nat} {x y : Operand} {u : Value} (ht : One P t) (hx : ev e x = some (.pointer (some ⟨b, o, none⟩))) (hy : ev e y = some u) (f : Bk c π h b T cs) (ho : Nat.blt o cs.length = true) (h1 : u.oneCell' = true) (n : Nat) :
    Ef P rd e h ⟨none, .store t x y, ty, pos, aft, none⟩ (fun _ h' => Mod n (only π) c h c h' ∧ Bk c π h' b T (cs.set o u)) := by
  refine ef_of_run (fun _ _ _ _ => rfl) (fun _ hc => by cases hc) fun ρ w hA hw => ?_
  subst hw
  have ho' : o < cs.length := Nat.le_of_ble_eq_true ho
  refine ⟨undef, { w with heap := hset w.heap b o u }, .inr ⟨rfl, ?_⟩, ⟨f.col ▸ Mod.hset n c w.heap b o u, f.col, ?_⟩, rfl, rfl, rfl⟩
  · have hc1 : u.cells = #[u] := by cases u <;> first | rfl | (simp [Value.oneCell'] at h1)
    simp [execOp, hA x _ hx, hA y _ hy, Instr.storeAt, Instr.sureAddr, storeVar, (ht.spec w).2, hc1, storeCells, addr_add, run_store_bk f.get (by simpa using ho') h1]
  · rw [hset_same f.get]
    simp
end
end Go.TP
/-! Call. -/
namespace Go.TP
open Go

section
variable {P : Program} {K : Kt} {κ : List Item} {e : Env} {h : Heap} {ops : Array Oper} {l : List Oper} {d : Nat} {ty : TypeId} {pos : String} {aft : Array Edge} {x : Operand} {v : Value}
theorem mv (hx : ev e x = some v) (r : RunL P K ops l κ ((d, v) :: e) h) : RunL P K ops (⟨some d, .move x, ty, pos, aft, none⟩ :: l) κ e h := RunL.p (o_mv hx) r
theorem as_ (hx : ev e x = some v) (r : RunL P K ops l κ ((d, v) :: e) h) : RunL P K ops (⟨some d, .assign x, ty, pos, aft, none⟩ :: l) κ e h := RunL.p (o_as hx) r
/-- A region, and what stands behind it. -/
theorem sr {id : Nat} {y : Code} (hok : okL K.n l = true) (r : RunL P K l.toArray l (.code y :: κ) e h) : Run P K (.code (.seq (.region id l.toArray false) y) :: κ) e h := Run.seq (Run.region hok r)
end

section
variable {P : Program} {e : Env} {h : Heap} {d : Option Tmp} {ty : TypeId} {pos : String} {aft : Array Edge} {g : Option (Nat × Bool)} {c : Cm} {π ρ : Col} {b o : Nat} {T t : TypeId} {cs vs : List Value} {x y : Operand} {u v : Value}
/-- One cell of a block known whole. -/
theorem o_ldb (ht : One P t) (hx : ev e x = some (.pointer (some ⟨b, o, none⟩))) (f : Bk c π h b T cs) (ho : cs[o]? = some u) : Ev P e h ⟨d, .load t x, ty, pos, aft, g⟩ u :=
  o_ld ht hx (by rw [f.cel]; exact ho)
/-- Some cells of a block known whole. -/
theorem o_ldba {m : Nat} (ht : Agg P t m) (hx : ev e x = some (.pointer (some ⟨b, o, none⟩))) (f : Bk c π h b T cs) (hv : (cs.drop o).take m = vs) (hl : vs.length = m) : Ev P e h ⟨d, .load t x, ty, pos, aft, g⟩ (.agg vs.toArray) :=
  o_lda ht hx hl fun j v hj => by
    rw [f.cel]
    rw [← hv, List.getElem?_take] at hj
    split at hj
    · simpa using hj
    · cases hj
/-- One cell of a slice. -/
theorem o_lds {sz j : Nat} (ht : One P t) (f : Sl c π h sz v cs) (hx : ev e x = some (.pointer (some ⟨sb v, o, none⟩))) (ho : o = so v + j) (hj : cs[j]? = some u) : Ev P e h ⟨d, .load t x, ty, pos, aft, g⟩ u :=
  o_ld ht hx (by rw [ho]; exact f.get j u hj)
/-- Some cells of a slice. -/
theorem o_ldsa {sz j m : Nat} (ht : Agg P t m) (f : Sl c π h sz v cs) (hx : ev e x = some (.pointer (some ⟨sb v, o, none⟩))) (ho : o = so v + j) (hv : (cs.drop j).take m = vs) (hl : vs.length = m) : Ev P e h ⟨d, .load t x, ty, pos, aft, g⟩ (.agg vs.toArray) :=
  o_lda ht hx hl fun k w hk => by
    rw [ho, Nat.add_assoc]
    refine f.get (j + k) w ?_
    rw [← hv, List.getElem?_take] at hk
    split at hk
    · simpa using hk
    · cases hk
end

section
variable {P : Program} {rd : Option Nat} {e : Env} {h : Heap} {d : Option Tmp} {ty : TypeId} {pos : String} {aft : Array Edge} {c : Cm} {π ρ : Col} {b : Nat} {T : TypeId} {cs ds : List Value} {x y : Operand} {u v : Value}
theorem run_stores_bk {T : TypeId} {b : Nat} : ∀ (us : List Value) (o : Nat) (k : Nat) (cur : List Value) (w : World), w.heap[b]? = some (.cells cur.toArray T (0, 0)) → o + k + us.length ≤ cur.length → (∀ u ∈ us, u.oneCell' = true) →
    ∃ h', (storeCells ⟨b, o, none⟩ us k).run P w = .ok () { w with heap := h' } ∧ h'.size = w.heap.size ∧ (∀ i, i ≠ b → h'[i]? = w.heap[i]?) ∧ h'[b]? = some (.cells (cur.take (o + k) ++ us ++ cur.drop (o + k + us.length)).toArray T (0, 0)) := by
  intro us
  induction us with
  | nil => intro o k cur w hb _ _; exact ⟨w.heap, rfl, rfl, fun _ _ => rfl, by simpa using hb⟩
  | cons u us ih =>
    intro o k cur w hb hl h1
    simp only [List.length_cons] at hl
    have hs := run_store_bk (P := P) (w := w) (b := b) (o := o + k) (v := u) hb (by simp; omega) (h1 u (List.mem_cons_self ..))
    have hb' : ({ w with heap := hset w.heap b (o + k) u } : World).heap[b]? = some (.cells (cur.set (o + k) u).toArray T (0, 0)) := by
      show (hset w.heap b (o + k) u)[b]? = _
      rw [hset_same hb]
      simp
    obtain ⟨h', e1, e2, e3, e4⟩ := ih o (k + 1) (cur.set (o + k) u) { w with heap := hset w.heap b (o + k) u } hb' (by simp; omega) (fun x hx => h1 x (List.mem_cons_of_mem _ hx))
    refine ⟨h', ?_, e2.trans (hset_size ..), fun i hi => (e3 i hi).trans (hset_other hi), ?_⟩
    · simp only [storeCells, addr_add, Sem.run_bind, hs, Result.andThen]
      exact e1
    · rw [e4]
      congr 3
      have hlt : o + k < cur.length := by omega
      rw [show o + (k + 1) = (o + k) + 1 by omega, List.take_succ_eq_append_getElem (by simpa using hlt), List.drop_set_of_lt (by omega), List.take_set_of_le (Nat.le_refl _)]
      simp only [List.getElem_set_self, List.append_assoc, List.cons_append, List.nil_append, List.length_cons]
      rw [show o + k + 1 + us.length = o + k + (us.length + 1) by omega]
/-- A struct into a block known whole. -/
theorem e_sta {t m o : Nat} {us : List Value} (ht : Agg P t m) (hx : ev e x = some (.pointer (some ⟨b, o, none⟩))) (hy : ev e y = some (.agg us.toArray)) (f : Bk c π h b T cs) (hm : us.length = m) (ho : Nat.ble (o + us.length) cs.length = true) (h1 : ∀ u ∈ us, u.oneCell' = true) (n : Nat) :
    Ef P rd e h ⟨none, .store t x y, ty, pos, aft, none⟩ (fun _ h' => Mod n (only π) c h c h' ∧ Bk c π h' b T (cs.take o ++ us ++ cs.drop (o + us.length))) := by
  refine ef_of_run (fun _ _ _ _ => rfl) (fun _ hc => by cases hc) fun ρ w hA hw => ?_
  subst hw
  obtain ⟨h', e1, e2, e3, e4⟩ := run_stores_bk (P := P) us o 0 cs w f.get (by simpa using ho) h1
  refine ⟨undef, { w with heap := h' }, .inr ⟨rfl, ?_⟩, ⟨⟨Nat.le_of_eq e2.symm, fun _ _ => rfl, fun i _ hi => e3 i fun hib => hi (by rw [hib]; exact f.col), fun i h1 h2 => ?_⟩, f.col, ?_⟩, rfl, rfl, rfl⟩
  · have hc1 : (Value.agg us.toArray).cells.size = m := by simp [Value.cells, hm]
    simp only [execOp, hA x _ hx, hA y _ hy, Instr.storeAt, Instr.sureAddr, storeVar, Sem.run_bind, Sem.run_pure, Result.andThen, hc1]
    simp [(ht.spec w).2, Value.cells, e1]
  · have h2' : i < h'.size := h2
    rw [e2] at h2'
    omega
  · simpa using e4

theorem Ow.owns {w : World} {sz : Nat} (f : Ow c π w.heap T sz v cs) : w.ownsRow 0 T sz v (sn v) cs := by
  refine ⟨f.len, f.ex.imp (fun ⟨h1, h2⟩ => ⟨h1, by rw [h1]; rfl⟩) ?_⟩
  rintro ⟨g, cap, cur, h1, h2, h3, h4, h5, h6, h7⟩
  exact ⟨g, cap, cur, h1, Nat.zero_le _, h3, h4, h5, h6, h7⟩
/-- append(x, y...) onto a slice that is being built. -/
theorem e_app {t el sz bytes : Nat} {z : Value} (ht : Slc P t el sz) (hi : Inf P el z sz bytes) (hz : z.cells.size = sz) (hp : Nat.ble 1 sz = true) (hby : Nat.ble bytes 2048 = true)
    (hx : ev e x = some v) (hy : ev e y = some u) (f : Ow c π h el sz v cs) (s : Sl c ρ h sz u ds) (h1 : ∀ x ∈ ds, x.oneCell' = true) (hb : sn v + sn u ≤ 68719476736) (n : Nat) (hπ : π.1 < n) :
    Ef P rd e h ⟨d, .call ⟨.builtin .append, #[x, y], #[t, t]⟩, ty, pos, aft, none⟩ (fun v' h' => ∃ c', Mod n (only π) c h c' h' ∧ Ow c' π h' el sz v' (cs ++ ds) ∧ sn v' = sn v + sn u) := by
  obtain ⟨i, h2, h3, h4, h5⟩ := hi.spec
  obtain ⟨h6, inf, h7, h8⟩ := ht.spec
  obtain ⟨tc, htc⟩ := resolve_builtin .append #[x, y] #[t, t] ty
  have hp' : 1 ≤ sz := by simpa using hp
  have hby' : bytes ≤ 2048 := by simpa using hby
  have hbb : (sn v + sn u) * bytes ≤ 140737488355328 := by
    have : (sn v + sn u) * bytes ≤ 68719476736 * 2048 := Nat.mul_le_mul hb hby'
    omega
  refine ef_of_run (fun ρ _ _ _ => by simp only [Oper.about, htc]; rfl) (fun _ hc => by cases hc) fun ρ w hA hw => ?_
  subst hw
  have hown := f.owns
  have key : ∃ v' w', (Builtin.append_ #[t, t] ty #[v, u]).run P w = .ok v' w' ∧ w'.ownsRow 0 el sz v' (sn v + sn u) (cs ++ ds) ∧ w.grownBy w' v.ownBlock ∧ (v'.ownBlock = v.ownBlock ∨ v'.ownBlock = some w.heap.size) ∧ sn v' = sn v + sn u := by
    cases u with
    | slice A m cap =>
      cases A with
      | none =>
        have hm : m = 0 := by simpa [isSlice] using s.is
        subst hm
        have hd : ds = [] := List.eq_nil_of_length_eq_zero (by simpa [sn] using s.len)
        subst hd
        have hv : ∃ A cap, v = .slice A (sn v) cap ∧ sn v ≤ cap := by
          rcases f.ex with ⟨rfl, _⟩ | ⟨g, cap, cur, hv, _, _, hle, _⟩
          · exact ⟨none, 0, rfl, Nat.le_refl _⟩
          · exact ⟨_, cap, hv, hle⟩
        obtain ⟨A, cap', hv, hle⟩ := hv
        refine ⟨v, w, ?_, by simpa [sn] using hown, ⟨rfl, rfl, rfl, Nat.le_refl _, fun _ _ _ => rfl⟩, .inl rfl, by simp [sn]⟩
        rw [hv]
        exact run_append_nothing w t t ty el i h6 h2 A _ cap' hle _ (Src.ofNil w h6 cap)
      | some a =>
        obtain ⟨ab, ao, sp⟩ := a
        have hsp : sp = none := by simpa [isSlice] using s.is
        subst hsp
        obtain ⟨v', w', e1, e2, e3, _, e5⟩ := run_append_own_at (P := P) w 0 t ty el i z sz bytes h6 h2 h3 h4 h5 hz hp' v (sn v) cs hown ⟨ab, ao, none⟩ m cap ds s.len (fun j q hq => by rw [addr_add, cell_cel rfl]; exact s.get j q hq) h1 (by simp only [maxLen]; have hb' : sn v + m ≤ 68719476736 := hb; omega) hbb (Nat.zero_le _)
        refine ⟨v', w', e1, e2, e3, e5, ?_⟩
        rcases e2.2 with ⟨hv, hn⟩ | ⟨g, cap', cur, hv, _⟩
        · rw [hv, ← hn]; rfl
        · rw [hv]; rfl
    | _ => exact absurd s.is (by simp [isSlice])
  obtain ⟨v', w', e1, e2, e3, e4, e5⟩ := key
  have hargs : (#[x, y] : Array Operand).map ρ = #[v, u] := by simp [hA x _ hx, hA y _ hy]
  refine ⟨v', w', .inl ?_, ⟨fun b => if b < w.heap.size then c b else π, ⟨e3.size, fun b hb => if_pos hb, fun b hb hn => e3.block b hb fun hbv => hn ?_, fun b hb _ => by rw [if_neg (by omega)]; exact hπ⟩, ⟨?_, ?_, ?_⟩, e5⟩, e3.os, e3.tape, e3.output⟩
  · simp only [execOp, htc, hargs, Sem.run_bind, Sem.run_pure, Result.andThen, invoke, builtin, e1]
  · rcases f.ex with ⟨rfl, _⟩ | ⟨g, cap, cur, hv, hg, _⟩
    · cases hbv
    · rw [hv] at hbv
      cases hbv
      exact hg
  · rw [e5]; exact e2.1
  · rw [e5]; exact hb
  · rw [e5]
    rcases e2.2 with ⟨hv, hn⟩ | ⟨g, cap, cur, hv, _, hg, hrest⟩
    · exact .inl ⟨hv, List.eq_nil_of_length_eq_zero (by rw [e2.1, hn, Nat.zero_mul])⟩
    · refine .inr ⟨g, cap, cur, hv, ?_, hg, hrest⟩
      rw [hv] at e4
      rcases e4 with e4 | e4
      · rcases f.ex with ⟨rfl, _⟩ | ⟨g', cap', cur', hv', hg', hh', _⟩
        · cases e4
        · rw [hv'] at e4
          have : g = g' := by simpa [Value.ownBlock] using e4
          subst this
          rw [if_pos (Array.getElem?_eq_some_iff.1 hh').1]
          exact hg'
      · have : g = w.heap.size := by simpa [Value.ownBlock] using e4
        rw [if_neg (by omega)]
end

/-! ### Calls -/
section
variable {P : Program} {rd : Option Nat} {e : Env} {h : Heap} {d : Option Tmp} {ty : TypeId} {pos : String} {aft : Array Edge}
theorem ef_of_enter {o : Oper} {f : FuncId} {vals : List Value} {R : Value → Heap → Prop} (hd : ∀ c, o.op ≠ .defer c)
    (he : ∀ (ρ : Operand → Value) (w : World), Agree e ρ → w.heap = h → (execOp ρ o).run P w = .ok (.enter f vals.toArray) w) (hr : Ret P f vals h R) : Ef P rd e h o R := by
  intro a w hA hw next hn
  refine ⟨fun _ _ => trivial, ?_⟩
  rw [show (Wd rd).round = rd from rfl, Oper.semAt_eq rd _ o hd, he _ w hA hw]
  refine ⟨fun hh => by simp [Wd] at hh, callsWd ((hr w hw).mono ?_)⟩
  rintro en w' ⟨v, rfl, h1, h2, h3, h4⟩
  exact hn v w' h4 h1 h2 h3
/-- A call of a function by its name. -/
theorem e_call {f : FuncId} {args : Array Operand} {ts : Array TypeId} {vals : List Value} {R : Value → Heap → Prop} (hf : Enters P f) (ha : evs e args.toList = some vals) (hr : Ret P f vals h R) :
    Ef P rd e h ⟨d, .call ⟨.value (.func f), args, ts⟩, ty, pos, aft, none⟩ R :=
  ef_of_enter (fun _ hc => by cases hc) (fun ρ w hA _ => by
    have h2 : args.map ρ = vals.toArray := by rw [← hA.evs ha, ← Array.toList_map, Array.toArray_toList]
    have h3 : ρ (.func f) = .func (.func f) #[] #[] := hA _ _ rfl
    simp only [execOp, resolve, h2, h3, Deferred.ofValue, Sem.run_bind, Sem.run_pure, Result.andThen, invoke]
    simpa using hf vals.toArray w) hr
/-- A call of a function value. -/
theorem e_callv {f : FuncId} {x : Operand} {args : Array Operand} {ts : Array TypeId} {vals : List Value} {first cap : List Value} {R : Value → Heap → Prop} (hf : Enters P f) (hx : ev e x = some (.func (.func f) first.toArray cap.toArray)) (ha : evs e args.toList = some vals) (hr : Ret P f (first ++ vals ++ cap) h R) :
    Ef P rd e h ⟨d, .call ⟨.value x, args, ts⟩, ty, pos, aft, none⟩ R :=
  ef_of_enter (fun _ hc => by cases hc) (fun ρ w hA _ => by
    have h2 : args.map ρ = vals.toArray := by rw [← hA.evs ha, ← Array.toList_map, Array.toArray_toList]
    have h3 : ρ x = .func (.func f) first.toArray cap.toArray := hA _ _ hx
    have h4 : first.toArray ++ vals.toArray ++ cap.toArray = (first ++ vals ++ cap).toArray := by simp
    simp only [execOp, resolve, h2, h3, Deferred.ofValue, Sem.run_bind, Sem.run_pure, Result.andThen, invoke]
    rw [h4]
    exact hf _ w) hr
/-- A method called on an interface value. -/
def Mth (P : Program) (t : TypeId) (name : String) (f : FuncId) : Prop := ∀ (b : Nat) (w : World), (method (P.types.size + Made.depth) t (.pointer (some ⟨b, 0, none⟩)) name).run P w = .ok (f, .pointer (some ⟨b, 0, none⟩)) w
theorem e_inv {f : FuncId} {x : Operand} {t : TypeId} {b : Nat} {name : String} {args : Array Operand} {ts : Array TypeId} {vals : List Value} {R : Value → Heap → Prop} (hm : Mth P t name f) (hf : Enters P f) (hx : ev e x = some (.iface t (.pointer (some ⟨b, 0, none⟩)))) (ha : evs e args.toList = some vals)
    (hr : Ret P f (.pointer (some ⟨b, 0, none⟩) :: vals) h R) : Ef P rd e h ⟨d, .call ⟨.invoke x name, args, ts⟩, ty, pos, aft, none⟩ R :=
  ef_of_enter (fun _ hc => by cases hc) (fun ρ w hA _ => by
    have h2 : args.map ρ = vals.toArray := by rw [← hA.evs ha, ← Array.toList_map, Array.toArray_toList]
    have h3 : ρ x = .iface t (.pointer (some ⟨b, 0, none⟩)) := hA _ _ hx
    have h5 : (#[Value.iface t (.pointer (some ⟨b, 0, none⟩))] ++ vals.toArray).extract 1 (#[Value.iface t (.pointer (some ⟨b, 0, none⟩))] ++ vals.toArray).size = vals.toArray := by simp
    have h6 : #[Value.pointer (some ⟨b, 0, none⟩)] ++ vals.toArray = (Value.pointer (some ⟨b, 0, none⟩) :: vals).toArray := by simp
    simp only [execOp, resolve, h2, h3, Sem.run_bind, Sem.run_pure, Result.andThen, invoke]
    rw [show (#[Value.iface t (.pointer (some ⟨b, 0, none⟩))] ++ vals.toArray)[0]? = some (Value.iface t (.pointer (some ⟨b, 0, none⟩))) by simp]
    simp only [h5, callMethod, program, Sem.run_bind, Sem.run, Result.andThen, hm b w, h6]
    exact hf _ w) hr
end
end Go.TP
/-! Draw. -/
namespace Go.TP
open Go

theorem wpIn_false {P : Program} {F : Fence} {o : Oper} {a : Act} {w : World} {n : Nat} {next next' : Act → World → Prop} {Q : Exit → Act → World → Prop} (hn : ∀ a w, next a w → next' a w) (h : o.wpIn F n P a w next (fun _ _ _ => False)) : o.wpIn F n P a w next' Q := by
  have h := Oper.wpIn_mono hn h
  revert h
  unfold Oper.wpIn
  rintro ⟨h1, h2⟩
  refine ⟨h1, ?_⟩
  generalize (o.semAt F.round a.eval).run P w = r at *
  cases r with
  | ok x w' =>
    cases x <;> simp only [Oper.uponIn] at h2 ⊢ <;> first
      | exact h2
      | (refine ⟨h2.1, CallsIn.mono h2.2 fun en w'' he => ?_⟩
         cases en <;> first | exact he | exact he.elim | (obtain ⟨_, _, h3⟩ := he; exact h3.elim))
      | (refine ⟨h2.1, RoundIn.mono h2.2 fun en w'' he => ?_⟩
         cases en <;> first | exact he | exact he.elim | (obtain ⟨_, _, h3⟩ := he; exact h3.elim))
  | halt x w' => cases x <;> simp only [Oper.uponIn] at h2 ⊢ <;> exact h2

section
variable {P : Program} {rd : Option Nat} {ops : Array Oper} {Φ : Array Bool → Heap → Prop} {Ψ : Heap → Prop} {N : Act → World → Prop}
abbrev rdy (ops : Array Oper) (listed : Array Bool) : List Nat := Region.ready .any ops listed
def opW (P : Program) (rd : Option Nat) (ops : Array Oper) (i : Nat) (K : Act → World → Prop) (a : Act) (w : World) : Prop :=
  match ops[i]? with
  | none => K a w
  | some o => if Region.wanted o (yielded ops a.tmps) then o.wpIn (Wd rd) 0 P a w K (fun _ _ _ => False) else K (a.put o.dst undef) w
theorem opW_mono {i : Nat} {a : Act} {w : World} {K K' : Act → World → Prop} (hk : ∀ a w, K a w → K' a w) (h : opW P rd ops i K a w) : opW P rd ops i K' a w := by
  unfold opW at *
  split
  · exact hk _ _ (by simpa [*] using h)
  · rename_i o ho
    simp only [ho] at h
    split
    · rename_i hw; simp only [hw, if_true] at h; exact Oper.wpIn_mono hk h
    · rename_i hw; simp only [hw] at h; exact hk _ _ h
/-- The operations 'is', one behind the other, are all that is left, and the first of them comes behind all others. -/
def forced (ops : Array Oper) : Array Bool → List Nat → Bool
  | listed, [] => rdy ops listed == []
  | listed, i :: is => rdy ops listed == [i] && forced ops (listed.setIfInBounds i true) is
def tl (ops : Array Oper) (listed : Array Bool) (is : List Nat) : Bool :=
  forced ops listed is && match is with
    | [] => true
    | i :: _ => match ops[i]? with
      | some o => (List.range ops.size).all fun k => is.contains k || o.after.any fun e => Region.binds .any e && e.on == k
      | none => false
def AnyD (P : Program) (rd : Option Nat) (ops : Array Oper) (Φ : Array Bool → Heap → Prop) (N : Act → World → Prop) : Nat → Array Bool → Act → World → Prop
  | 0, listed, a, w => Φ listed w.heap ∧ rdy ops listed = [] ∧ N a w
  | f + 1, listed, a, w => Φ listed w.heap ∧ ((rdy ops listed = [] → N a w) ∧ (∀ i ∈ rdy ops listed, opW P rd ops i (AnyD P rd ops Φ N f (listed.setIfInBounds i true)) a w) ∨
      ∃ is l, tl ops listed is = true ∧ is ≠ [] ∧ is.length ≤ f + 1 ∧ is.map (ops[·]?) = l.map some ∧ WL P rd ops N l a w)
theorem AnyD.phi : ∀ {f : Nat} {listed : Array Bool} {a : Act} {w : World}, AnyD P rd ops Φ N f listed a w → Φ listed w.heap
  | 0, _, _, _, h => h.1
  | _ + 1, _, _, _, h => h.1
theorem AnyD.weak {Φ' : Array Bool → Heap → Prop} (hΦ : ∀ L h, Φ' L h → Φ L h) : ∀ {f : Nat} {listed : Array Bool} {a : Act} {w : World}, AnyD P rd ops Φ' N f listed a w → AnyD P rd ops Φ N f listed a w
  | 0, _, _, _, h => ⟨hΦ _ _ h.1, h.2⟩
  | f + 1, _, _, _, h => ⟨hΦ _ _ h.1, h.2.imp (fun h2 => ⟨h2.1, fun i hi => opW_mono (fun _ _ h3 => AnyD.weak hΦ h3) (h2.2 i hi)⟩) id⟩
/-- Does an operation only read? -/
def isData (op : Op) : Bool := match op with
  | .alloc _ | .box _ _ | .buildSlice _ _ _ | .store _ _ _ | .makeSlice _ _ _ => false
  | .call c => match c.callee with
    | .builtin .len | .builtin .cap | .builtin .min | .builtin .max => true
    | _ => false
  | _ => true
/-- k must come ahead of j. -/
inductive Anc (ops : Array Oper) : Nat → Nat → Prop where
  | one {j : Nat} {o : Oper} {e : Edge} : ops[j]? = some o → e ∈ o.after → Region.binds .any e = true → Anc ops e.on j
  | step {k j : Nat} {o : Oper} {e : Edge} : Anc ops k e.on → ops[j]? = some o → e ∈ o.after → Region.binds .any e = true → Anc ops k j
/-- No operation that must come behind k, and does more than read, has been. -/
def Needs (ops : Array Oper) (listed : Array Bool) (k : Nat) : Prop := ∀ j o, ops[j]? = some o → isData o.op = false → listed.getD j true = true → ¬ Anc ops k j
/-- What has been has all behind it that must come ahead of it. -/
def Closed (ops : Array Oper) (listed : Array Bool) : Prop := ∀ j o, ops[j]? = some o → listed.getD j true = true → ∀ e ∈ o.after, Region.binds .any e = true → listed.getD e.on true = true
theorem getD_set_self (l : Array Bool) (i : Nat) : (l.setIfInBounds i true).getD i true = true := by
  simp only [Array.getD_eq_getD_getElem?]
  by_cases h : i < l.size
  · simp [h]
  · simp [h]
theorem getD_set_true {l : Array Bool} {i j : Nat} (h : l.getD j true = true) : (l.setIfInBounds i true).getD j true = true := by
  by_cases hij : i = j
  · subst hij; exact getD_set_self _ _
  · rw [getD_set_ne true hij]; exact h
theorem Closed.start (n : Nat) (hn : n = ops.size) : Closed ops (Array.replicate n false) := by
  intro j o hj hl
  have := (Array.getElem?_eq_some_iff.1 hj).1
  simp [Array.getD_eq_getD_getElem?, hn, this] at hl
theorem rdy_after {listed : Array Bool} {i : Nat} {o : Oper} (hi : ops[i]? = some o) (hr : i ∈ rdy ops listed) : ∀ e ∈ o.after, Region.binds .any e = true → listed.getD e.on true = true := by
  intro e he hb
  obtain ⟨_, o', ho', hall⟩ := mem_ready.1 hr
  rw [hi] at ho'
  cases ho'
  have h1 := hall e he hb
  simp only [Array.getD_eq_getD_getElem?] at h1 ⊢
  revert h1
  cases listed[e.on]? <;> simp
theorem Closed.set {listed : Array Bool} {i : Nat} (hc : Closed ops listed) (hr : i ∈ rdy ops listed) : Closed ops (listed.setIfInBounds i true) := by
  intro j o hj hl e he hb
  by_cases hij : i = j
  · subst hij; exact getD_set_true (rdy_after hj hr e he hb)
  · rw [getD_set_ne true hij] at hl
    exact getD_set_true (hc j o hj hl e he hb)
theorem Closed.anc {listed : Array Bool} (hc : Closed ops listed) {k j : Nat} (ha : Anc ops k j) : listed.getD j true = true → listed.getD k true = true := by
  induction ha with
  | one hj he hb => exact fun hl => hc _ _ hj hl _ he hb
  | step _ hj he hb ih => exact fun hl => ih (hc _ _ hj hl _ he hb)
theorem needs_of {listed : Array Bool} {i : Nat} (hc : Closed ops listed) (hr : i ∈ rdy ops listed) : Needs ops (listed.setIfInBounds i true) i := by
  have hun : listed.getD i true = false := (mem_ready.1 hr).1
  have hno : ∀ j, listed.getD j true = true → ¬ Anc ops i j := fun j hl ha => by rw [hc.anc ha hl] at hun; cases hun
  intro j o hj _ hl ha
  by_cases hij : i = j
  · subst hij
    cases ha with
    | one hj he hb =>
      rename_i e
      have := rdy_after hj hr _ he hb
      rw [hun] at this
      cases this
    | step h1 hj he hb => exact hno _ (rdy_after hj hr _ he hb) h1
  · rw [getD_set_ne true hij] at hl
    exact hno j hl ha
theorem forced_any : ∀ (is : List Nat) (l : List Oper) (f : Nat) (listed : Array Bool) (a : Act) (w : World), forced ops listed is = true → is.length ≤ f → is.map (ops[·]?) = l.map some → WL P rd ops N l a w →
    wpAnyIn (Wd rd) 0 P .any ops (Exit.then N (fun _ _ _ => False)) f listed a w
  | [], l, f, listed, a, w, hf, _, hl, h => by
    have hr : rdy ops listed = [] := by simpa [forced] using hf
    have : l = [] := by cases l with | nil => rfl | cons _ _ => simp at hl
    subst this
    cases f with
    | zero => exact ⟨hr, h⟩
    | succ f => exact ⟨fun _ => h, fun i hi => (by rw [show Region.ready .any ops listed = [] from hr] at hi; cases hi)⟩
  | i :: is, l, f, listed, a, w, hf, hlen, hl, h => by
    cases l with
    | nil => simp at hl
    | cons o l =>
      cases f with
      | zero => simp at hlen
      | succ f =>
        simp only [forced, Bool.and_eq_true, beq_iff_eq] at hf
        simp only [List.map_cons, List.cons.injEq] at hl
        refine ⟨fun h0 => (by rw [show Region.ready .any ops listed = [i] from hf.1] at h0; cases h0), fun j hj => ?_⟩
        rw [show Region.ready .any ops listed = [i] from hf.1] at hj
        obtain rfl : j = i := by simpa using hj
        have ih := forced_any is l f (listed.setIfInBounds j true)
        unfold wpOpIn
        simp only [hl.1]
        simp only [WL] at h
        split
        · rename_i hw
          rw [if_pos hw] at h
          exact wpIn_false (fun a w h' => ih a w hf.2 (by simpa using hlen) hl.2 h') h
        · rename_i hw
          rw [if_neg hw] at h
          exact ⟨fun _ _ => trivial, ih _ _ hf.2 (by simpa using hlen) hl.2 h⟩
theorem AnyD.sound : ∀ (f : Nat) (listed : Array Bool) (a : Act) (w : World), AnyD P rd ops Φ N f listed a w → wpAnyIn (Wd rd) 0 P .any ops (Exit.then N (fun _ _ _ => False)) f listed a w := by
  intro f
  induction f with
  | zero => intro listed a w h; exact ⟨h.2.1, h.2.2⟩
  | succ f ih =>
    intro listed a w h
    rcases h.2 with h | ⟨is, l, h1, _, h3, h4, h5⟩
    · refine ⟨h.1, fun i hi => ?_⟩
      have := h.2 i hi
      unfold opW at this
      unfold wpOpIn
      split
      · rename_i hn; simp only [hn] at this; exact ih _ _ _ this
      · rename_i o ho
        simp only [ho] at this
        split
        · rename_i hw; simp only [hw, if_true] at this; exact wpIn_false (fun a w => ih _ a w) this
        · rename_i hw; simp only [hw] at this; exact ⟨fun _ _ => trivial, ih _ _ _ this⟩
    · have h1' : forced ops listed is = true := by
        unfold tl at h1
        simp only [Bool.and_eq_true] at h1
        exact h1.1
      exact forced_any is l (f + 1) listed a w h1' h3 h4 h5

/-- Operation o has the value v from this frame, in every heap of Ψ. -/
def YieldsD (P : Program) (rd : Option Nat) (ops : Array Oper) (Ψ : Heap → Prop) (o : Oper) (v : Value) (a : Act) : Prop :=
  ∀ w : World, Ψ w.heap → (Region.wanted o (yielded ops a.tmps) = true ∧ (o.semAt rd a.eval).run P w = .ok (.value v) w) ∨ (Region.wanted o (yielded ops a.tmps) = false ∧ v = undef)
theorem YieldsD.opW {i : Nat} {o : Oper} {v : Value} {a : Act} {w : World} {K : Act → World → Prop} (hi : ops[i]? = some o) (hy : YieldsD P rd ops Ψ o v a) (hΨ : Ψ w.heap) (h : K (a.put o.dst v) w) : opW P rd ops i K a w := by
  unfold TP.opW
  simp only [hi]
  rcases hy w hΨ with ⟨h1, h2⟩ | ⟨h1, rfl⟩
  · simp only [h1, if_true]
    refine ⟨fun _ _ => trivial, ?_⟩
    rw [show (Wd rd).round = rd from rfl, h2]
    exact h
  · simp only [h1, Bool.false_eq_true, if_false]; exact h
theorem semAt_put {o : Oper} {rd : Option Nat} (hs : ∀ cs b, o.op ≠ .select cs b) (hd : ∀ c, o.op ≠ .defer c) (a : Act) (dst : Option Tmp) (v : Value) (h : ∀ d, dst = some d → d ∉ o.looksAt ops) : o.semAt rd (a.put dst v).eval = o.semAt rd a.eval := by
  rw [Oper.semAt_eq rd _ o hd, Oper.semAt_eq rd _ o hd]
  exact execOp_put o hs a dst v h
theorem YieldsD.put {oi oj : Oper} {v u : Value} {a : Act} (hs : ∀ cs b, oi.op ≠ .select cs b) (hd : ∀ c, oi.op ≠ .defer c) (h3 : ∀ d, oj.dst = some d → d ∉ oi.looksAt ops) (hy : YieldsD P rd ops Ψ oi v a) : YieldsD P rd ops Ψ oi v (a.put oj.dst u) := by
  intro w hw
  rw [wanted_put oi a oj.dst u h3, semAt_put hs hd a oj.dst u h3]
  exact hy w hw
theorem opW_put {j : Nat} {oi oj : Oper} {v : Value} (hj : ops[j]? = some oj) (hap : oi.apart ops oj = true) (hsi : ∀ cs b, oi.op ≠ .select cs b) (hdi : ∀ c, oi.op ≠ .defer c) (hsj : ∀ cs b, oj.op ≠ .select cs b) (hdj : ∀ c, oj.op ≠ .defer c)
    {K : Act → World → Prop} {a : Act} {w : World} (hy : YieldsD P rd ops Ψ oi v a) (h : opW P rd ops j K (a.put oi.dst v) w) :
    opW P rd ops j (fun a' w' => YieldsD P rd ops Ψ oi v a' ∧ K (a'.put oi.dst v) w') a w := by
  obtain ⟨h1, h2, h3⟩ := Oper.apart_spec hap
  have keep : ∀ u, YieldsD P rd ops Ψ oi v (a.put oj.dst u) := fun u => hy.put hsi hdi h3
  unfold opW at *
  simp only [hj] at *
  rw [wanted_put oj a oi.dst v h1] at h
  split
  · rename_i hw
    simp only [hw, if_true] at h
    unfold Oper.wpIn at *
    refine ⟨fun _ _ => trivial, ?_⟩
    have h := h.2
    rw [show (Wd rd).round = rd from rfl, semAt_put hsj hdj a oi.dst v h1] at h
    rw [show (Wd rd).round = rd from rfl]
    have hse := Oper.semAt_eq rd a.eval oj hdj
    generalize (oj.semAt rd a.eval).run P w = r at *
    cases r with
    | ok x w' =>
      cases x <;> simp only [Oper.uponIn] at h ⊢
      case value u => exact ⟨keep u, by rw [← Act.put_comm a v u h2]; exact h⟩
      case skip => exact ⟨keep _, by rw [← Act.put_comm a v undef h2]; exact h⟩
      case defer d =>
        refine ⟨YieldsD.put (a := { a with defers := d :: a.defers }) hsi hdi h3 (fun w0 hw0 => hy w0 hw0), ?_⟩
        rw [← Act.put_comm _ v undef h2, ← Act.put_defers]
        exact h
      case enter f args =>
        refine ⟨h.1, CallsIn.mono h.2 fun e w'' he => ?_⟩
        cases e with
        | returned u => exact ⟨keep u, by rw [← Act.put_comm a v u h2]; exact he⟩
        | panicked c => exact he.elim
        | outgrown => obtain ⟨_, _, h'⟩ := he; exact h'.elim
      case row row args => exact ⟨h.1, RowsIn.mono h.2 fun u w'' he => ⟨keep u, by rw [← Act.put_comm a v u h2]; exact he⟩⟩
      case round l f tmps assign body =>
        refine ⟨h.1, RoundIn.mono h.2 fun e w'' he => ?_⟩
        cases e with
        | returned u => exact ⟨keep u, by rw [← Act.put_comm a v u h2]; exact he⟩
        | panicked c => exact he.elim
        | outgrown => obtain ⟨_, _, h'⟩ := he; exact h'.elim
    | halt x w' => cases x <;> simp only [Oper.uponIn] at h ⊢
  · rename_i hw
    simp only [hw] at h
    exact ⟨keep _, by rw [← Act.put_comm a v undef h2]; exact h⟩
theorem AnyD.first {i : Nat} {oi : Oper} {v : Value} (hi : ops[i]? = some oi) (hΨ : ∀ L h, Needs ops L i → Φ L h → Ψ h) (hdt : ∀ L h, Φ (L.setIfInBounds i true) h → Φ L h) (hsel : ∀ (j : Nat) (o : Oper), ops[j]? = some o → (∀ cs b, o.op ≠ .select cs b) ∧ (∀ c, o.op ≠ .defer c)) :
    ∀ (f : Nat) (listed : Array Bool) (a : Act) (w : World),
      (∀ j oj, ops[j]? = some oj → j ≠ i → listed.getD j true = false → (∀ e ∈ oj.after, Region.binds .any e = true → e.on ≠ i) → oi.apart ops oj = true) →
      i ∈ rdy ops listed → Closed ops listed → YieldsD P rd ops Ψ oi v a → AnyD P rd ops Φ N f (listed.setIfInBounds i true) (a.put oi.dst v) w → AnyD P rd ops Φ N (f + 1) listed a w := by
  intro f
  induction f with
  | zero =>
    intro listed a w _ hr hns hy H
    refine ⟨hdt _ _ H.phi, .inl ⟨fun h => (by rw [h] at hr; cases hr), fun j hj => ?_⟩⟩
    by_cases hji : j = i
    · subst hji; exact hy.opW hi (hΨ _ _ (needs_of hns hr) H.phi) H
    · have := ready_mono hj hji
      rw [show Region.ready .any ops (listed.setIfInBounds i true) = [] from H.2.1] at this
      cases this
  | succ f ih =>
    intro listed a w hfree hr hns hy H
    refine ⟨hdt _ _ H.phi, .inl ⟨fun h => (by rw [h] at hr; cases hr), fun j hj => ?_⟩⟩
    by_cases hji : j = i
    · subst hji; exact hy.opW hi (hΨ _ _ (needs_of hns hr) H.phi) H
    · obtain ⟨hjun, oj, hoj, hall⟩ := mem_ready.1 hj
      have hnot : ∀ e ∈ oj.after, Region.binds .any e = true → e.on ≠ i := fun e he hb heq => by
        have h1 := hall e he hb
        have h0 := (mem_ready.1 hr).1
        rw [heq] at h1
        rcases Nat.lt_or_ge i listed.size with h' | h'
        · simp [h'] at h0 h1; rw [h0] at h1; cases h1
        · simp [Array.getElem?_eq_none h'] at h1
      rcases H.2 with H2 | ⟨is, l, h1, hne, _, _, _⟩
      · have h1 := H2.2 j (ready_mono hj hji)
        have h2 := opW_put hoj (hfree j oj hoj hji hjun hnot) (hsel i oi hi).1 (hsel i oi hi).2 (hsel j oj hoj).1 (hsel j oj hoj).2 hy h1
        have hfree' : ∀ k ok, ops[k]? = some ok → k ≠ i → (listed.setIfInBounds j true).getD k true = false →
            (∀ e ∈ ok.after, Region.binds .any e = true → e.on ≠ i) → oi.apart ops ok = true := fun k ok hk hki hun hno => by
          refine hfree k ok hk hki ?_ hno
          by_cases hjk : j = k
          · subst hjk; exact hjun
          · rw [getD_set_ne true hjk] at hun; exact hun
        refine opW_mono (fun a' w' h3 => ih (listed.setIfInBounds j true) a' w' hfree' (ready_mono hr (Ne.symm hji)) (hns.set hj) h3.1 ?_) h2
        rw [Array.setIfInBounds_comm _ _ hji]
        exact h3.2
      · exfalso
        cases is with
        | nil => exact hne rfl
        | cons k is =>
          unfold tl at h1
          simp only [Bool.and_eq_true, forced, beq_iff_eq] at h1
          obtain ⟨⟨hk, hforce⟩, h1⟩ := h1
          have hjk := ready_mono hj hji
          rw [show Region.ready .any ops (listed.setIfInBounds i true) = [k] from hk] at hjk
          obtain rfl : j = k := by simpa using hjk
          rw [hoj] at h1
          simp only [List.all_eq_true, List.mem_range, Bool.or_eq_true] at h1
          have hi' := (Array.getElem?_eq_some_iff.1 hi).1
          rcases h1 i hi' with h | h
          · -- i is in the tail: but it has been listed
            have hin : i ∈ j :: is := by simpa using h
            have his : i ∈ is := by
              rcases List.mem_cons.1 hin with h | h
              · exact absurd h.symm hji
              · exact h
            have hlist : ∀ (is : List Nat) (L : Array Bool), L.getD i true = true → forced ops L is = true → i ∉ is := by
              intro is
              induction is with
              | nil => intro L _ _ hm; cases hm
              | cons m is ihm =>
                intro L hL hF hm
                simp only [forced, Bool.and_eq_true, beq_iff_eq] at hF
                rcases List.mem_cons.1 hm with hm | hm
                · subst hm
                  have hr' : i ∈ rdy ops L := by rw [hF.1]; simp
                  have := (mem_ready.1 hr').1
                  rw [hL] at this
                  cases this
                · refine ihm (L.setIfInBounds m true) ?_ hF.2 hm
                  by_cases hmi : m = i
                  · subst hmi
                    simp only [Array.getD_eq_getD_getElem?]
                    by_cases hlt : m < L.size
                    · simp [hlt]
                    · simp [hlt]
                  · rw [getD_set_ne true hmi]; exact hL
            refine hlist is _ ?_ hforce his
            rw [getD_set_ne true hji]
            simp only [Array.getD_eq_getD_getElem?]
            by_cases hlt : i < listed.size
            · simp [hlt]
            · simp [hlt]
          · rw [Array.any_eq_true'] at h
            obtain ⟨e, he, hb⟩ := h
            simp only [Bool.and_eq_true, beq_iff_eq] at hb
            exact hnot e he hb.1 hb.2
end

/-- A region that draws, so many operations to come; those that are listed have been. -/
def RunD (P : Program) (K : Kt) (ops : Array Oper) (Φ : Array Bool → Heap → Prop) (f : Nat) (listed : Array Bool) (κ : List Item) (e : Env) (h : Heap) : Prop :=
  okL K.n ops.toList = true → Closed ops listed → ∀ (a : Act) (w : World), Fits K.n e a → a.defers = K.ds → Wk K h w → AnyD P K.rd ops Φ (fun a' w' => RunA P K.rd K.Q κ a' w') f listed a w
/-- May operation i be taken now, and does its order not matter? -/
def tk (ops : Array Oper) (listed : Array Bool) (i : Nat) : Bool := Region.free .any ops listed i && (Region.ready .any ops listed).contains i
/-- Is i the only operation that may come now? -/
def lone_ (ops : Array Oper) (listed : Array Bool) (i : Nat) : Bool := Region.ready .any ops listed == [i]
def over (ops : Array Oper) (listed : Array Bool) : Bool := Region.ready .any ops listed == []
section
variable {P : Program} {K : Kt} {ops : Array Oper} {Φ : Array Bool → Heap → Prop} {f : Nat} {listed : Array Bool} {κ : List Item} {e : Env} {h : Heap} {i : Nat}
theorem okL_get {n : Nat} {j : Nat} {o : Oper} (hk : okL n ops.toList = true) (hj : ops[j]? = some o) : okOp n o = true := by
  unfold okL at hk
  rw [List.all_eq_true] at hk
  exact hk o (by rw [Array.mem_toList_iff]; exact Array.mem_of_getElem? hj)
theorem okOp_sel {n : Nat} {o : Oper} (hk : okOp n o = true) : (∀ cs b, o.op ≠ .select cs b) ∧ (∀ c, o.op ≠ .defer c) := by
  constructor
  · intro cs b hc; simp [okOp, hc] at hk
  · intro c hc; simp [okOp, hc] at hk
theorem Run.draw {id : Nat} {l : List Oper} (Φ : Array Bool → Heap → Prop) (hm : P.follows .mixedOrders = true) (hok : okL K.n l = true) (r : RunD P K l.toArray Φ l.length (Array.replicate l.length false) κ e h) : Run P K (.code (.region id l.toArray true) :: κ) e h :=
  fun a w hf hd hw => RunA.of_wp (N := fun a' w' => RunA P K.rd K.Q κ a' w')
    (wpIn_region_any hm (by
      have := AnyD.sound _ _ _ _ (r hok (Closed.start _ (by simp)) a { w with drawn := w.drawn + 1 } hf hd ⟨hw.heap, hw.os, hw.tape, hw.out⟩)
      simpa using this)) (fun _ _ h => h)
theorem RunD.take_ {o : Oper} {v : Value} (hdt : ∀ L h, Φ (L.setIfInBounds i true) h → Φ L h) (hc : tk ops listed i = true) (ho : ops[i]? = some o)
    (hy : okOp K.n o = true → ∀ a, Fits K.n e a → YieldsD P K.rd ops (fun h' => ∃ L, Needs ops L i ∧ Φ L h') o v a) (hput : ∀ a, okOp K.n o = true → Fits K.n e a → ∃ e', Fits K.n e' (a.put o.dst v) ∧ RunD P K ops Φ f (listed.setIfInBounds i true) κ e' h) : RunD P K ops Φ (f + 1) listed κ e h := by
  intro hk hcl a w hf hd hw
  have hko := okL_get hk ho
  have hc' : Region.free .any ops listed i = true ∧ (Region.ready .any ops listed).contains i = true := by simpa [tk] using hc
  obtain ⟨e', he', hr⟩ := hput a hko hf
  refine AnyD.first ho (fun L h h1 h2 => ⟨L, h1, h2⟩) hdt (fun j o' hj => okOp_sel (okL_get hk hj)) f listed a w (fun j oj h1 h2 h3 h4 => Region.free_spec ho hc'.1 j oj h1 h2 h3 h4) (by simpa using hc'.2) hcl (hy hko a hf) ?_
  refine hr hk (hcl.set (by simpa using hc'.2)) _ w he' ?_ hw
  cases o.dst <;> exact hd
theorem RunD.take {d : Nat} {op : Op} {ty : TypeId} {pos : String} {aft : Array Edge} {v : Value} (hdt : ∀ L h, Φ (L.setIfInBounds i true) h → Φ L h) (hc : tk ops listed i = true) (ho : ops[i]? = some ⟨some d, op, ty, pos, aft, none⟩) (hv : ∀ L h', Needs ops L i → Φ L h' → Ev P e h' ⟨some d, op, ty, pos, aft, none⟩ v)
    (r : RunD P K ops Φ f (listed.setIfInBounds i true) κ ((d, v) :: e) h) : RunD P K ops Φ (f + 1) listed κ e h :=
  RunD.take_ hdt hc ho (fun hk a hf w hw => .inl ⟨rfl, by rw [semAt_ok K.rd _ hk]; obtain ⟨L, hL, hw⟩ := hw; exact (hv _ _ hL hw a.eval w hf.agree rfl).1⟩) fun a hk hf => ⟨_, hf.put (okOp_dst hk rfl) v, r⟩
theorem RunD.on {d : Nat} {op : Op} {ty : TypeId} {pos : String} {aft : Array Edge} {v : Value} {j t : Nat} {want b : Bool} (hdt : ∀ L h, Φ (L.setIfInBounds i true) h → Φ L h) (hc : tk ops listed i = true) (ho : ops[i]? = some ⟨some d, op, ty, pos, aft, some (j, want)⟩) (hj : (ops[j]?).bind (·.dst) = some t) (hl : look e t = some (.bool b)) (hb : b = want)
    (hv : ∀ L h', Needs ops L i → Φ L h' → Ev P e h' ⟨some d, op, ty, pos, aft, none⟩ v) (r : RunD P K ops Φ f (listed.setIfInBounds i true) κ ((d, v) :: e) h) : RunD P K ops Φ (f + 1) listed κ e h := by
  refine RunD.take_ hdt hc ho (fun hk a hf w hw => .inl ⟨?_, ?_⟩) fun a hk hf => ⟨_, hf.put (okOp_dst hk rfl) v, r⟩
  · simp [Region.wanted, yielded_bool hf hj hl, hb]
  · rw [semAt_ok K.rd _ hk]
    obtain ⟨L, hL, hw⟩ := hw; exact (hv _ _ hL hw a.eval w hf.agree rfl).1
theorem RunD.off {d : Nat} {op : Op} {ty : TypeId} {pos : String} {aft : Array Edge} {j t : Nat} {want b : Bool} (hdt : ∀ L h, Φ (L.setIfInBounds i true) h → Φ L h) (hc : tk ops listed i = true) (ho : ops[i]? = some ⟨some d, op, ty, pos, aft, some (j, want)⟩) (hj : (ops[j]?).bind (·.dst) = some t) (hl : look e t = some (.bool b)) (hb : b = !want)
    (r : RunD P K ops Φ f (listed.setIfInBounds i true) κ ((d, undef) :: e) h) : RunD P K ops Φ (f + 1) listed κ e h :=
  RunD.take_ hdt hc ho (fun hk a hf w hw => .inr ⟨by simp [Region.wanted, yielded_bool hf hj hl, hb], rfl⟩) fun a hk hf => ⟨_, hf.put (okOp_dst hk rfl) undef, r⟩
theorem RunD.offu {d : Nat} {op : Op} {ty : TypeId} {pos : String} {aft : Array Edge} {j t : Nat} {want : Bool} (hdt : ∀ L h, Φ (L.setIfInBounds i true) h → Φ L h) (hc : tk ops listed i = true) (ho : ops[i]? = some ⟨some d, op, ty, pos, aft, some (j, want)⟩) (hj : (ops[j]?).bind (·.dst) = some t) (hl : look e t = some undef)
    (r : RunD P K ops Φ f (listed.setIfInBounds i true) κ ((d, undef) :: e) h) : RunD P K ops Φ (f + 1) listed κ e h :=
  RunD.take_ hdt hc ho (fun hk a hf w hw => .inr ⟨by simp [Region.wanted, yielded_undef hf hj hl], rfl⟩) fun a hk hf => ⟨_, hf.put (okOp_dst hk rfl) undef, r⟩
theorem RunD.split {x : Operand} {b : Bool} (_hx : ev e x = some (.bool b)) (r1 : b = true → RunD P K ops Φ f listed κ e h) (r2 : b = false → RunD P K ops Φ f listed κ e h) : RunD P K ops Φ f listed κ e h := by
  cases b
  · exact r2 rfl
  · exact r1 rfl
def putE (d : Option Nat) (v : Value) (e : Env) : Env := match d with
  | some d => (d, v) :: e
  | none => e
/-- The guard lets the operation be. -/
def GOn (ops : Array Oper) (e : Env) : Option (Nat × Bool) → Prop
  | none => True
  | some (j, want) => ∃ t, (ops[j]?).bind (·.dst) = some t ∧ look e t = some (.bool want)
theorem GOn.wanted {n : Nat} {a : Act} {d : Option Tmp} {op : Op} {ty : TypeId} {pos : String} {aft : Array Edge} {g : Option (Nat × Bool)} (hf : Fits n e a) (hg : GOn ops e g) : Region.wanted ⟨d, op, ty, pos, aft, g⟩ (yielded ops a.tmps) = true := by
  cases g with
  | none => rfl
  | some p =>
    obtain ⟨j, want⟩ := p
    obtain ⟨t, h1, h2⟩ := hg
    simp [Region.wanted, yielded_bool hf h1 h2]
/-- Operation k may be the next one. -/
def StepD (P : Program) (K : Kt) (ops : Array Oper) (Φ : Array Bool → Heap → Prop) (f : Nat) (listed : Array Bool) (κ : List Item) (e : Env) (h : Heap) (k : Nat) : Prop :=
  ∃ d op ty pos aft g R, ops[k]? = some ⟨d, op, ty, pos, aft, g⟩ ∧ GOn ops e g ∧ Ef P K.rd e h ⟨d, op, ty, pos, aft, none⟩ R ∧ ∀ v h', R v h' → RunD P K ops Φ f (listed.setIfInBounds k true) κ (putE d v e) h'
theorem RunD.effs (hΦ : Φ listed h) {l : List Nat} (hl : rdy ops listed = l) (hne : l ≠ []) (hs : ∀ k ∈ l, StepD P K ops Φ f listed κ e h k) : RunD P K ops Φ (f + 1) listed κ e h := by
  intro hk hcl a w hf hd hw
  have hΦ' : Φ listed w.heap := by rw [hw.heap]; exact hΦ
  refine ⟨hΦ', .inl ⟨fun h0 => absurd (hl.symm.trans h0) hne, fun k hk' => ?_⟩⟩
  obtain ⟨d, op, ty, pos, aft, g, R, ho, hg, hv, r⟩ := hs k (hl ▸ hk')
  have hko := okL_get hk ho
  have h' := hv a w hf.agree hw.heap (AnyD P K.rd ops Φ (fun a' w' => RunA P K.rd K.Q κ a' w') f (listed.setIfInBounds k true)) fun v w' hr h1 h2 h3 =>
    r v _ hr hk (hcl.set hk') _ w' (by
      cases d with
      | none => exact hf
      | some d => exact hf.put (okOp_dst hko rfl) v) (by cases d <;> exact hd) ⟨rfl, h1.trans hw.os, h2.trans hw.tape, h3.trans hw.out⟩
  unfold opW
  simp only [ho, hg.wanted hf, if_true]
  exact h'
theorem RunD.weak {Φ' : Array Bool → Heap → Prop} (hΦ : ∀ L h, Φ' L h → Φ L h) (r : RunD P K ops Φ' f listed κ e h) : RunD P K ops Φ f listed κ e h :=
  fun hk hcl a w hf hd hw => (r hk hcl a w hf hd hw).weak hΦ
theorem RunD.one {d : Nat} {op : Op} {ty : TypeId} {pos : String} {aft : Array Edge} {R : Value → Heap → Prop} (hΦ : Φ listed h) (hc : lone_ ops listed i = true) (ho : ops[i]? = some ⟨some d, op, ty, pos, aft, none⟩) (hv : Ef P K.rd e h ⟨some d, op, ty, pos, aft, none⟩ R)
    (r : ∀ v h', R v h' → RunD P K ops Φ f (listed.setIfInBounds i true) κ ((d, v) :: e) h') : RunD P K ops Φ (f + 1) listed κ e h :=
  RunD.effs hΦ (l := [i]) (by simpa [lone_] using hc) (by simp) fun k hk => by
    obtain rfl : k = i := by simpa using hk
    exact ⟨_, _, _, _, _, _, R, ho, trivial, hv, r⟩
theorem RunD.oneOn {d : Nat} {op : Op} {ty : TypeId} {pos : String} {aft : Array Edge} {R : Value → Heap → Prop} {j t : Nat} {want b : Bool} (hΦ : Φ listed h) (hc : lone_ ops listed i = true) (ho : ops[i]? = some ⟨some d, op, ty, pos, aft, some (j, want)⟩) (hj : (ops[j]?).bind (·.dst) = some t) (hl : look e t = some (.bool b)) (hb : b = want)
    (hv : Ef P K.rd e h ⟨some d, op, ty, pos, aft, none⟩ R) (r : ∀ v h', R v h' → RunD P K ops Φ f (listed.setIfInBounds i true) κ ((d, v) :: e) h') : RunD P K ops Φ (f + 1) listed κ e h :=
  RunD.effs hΦ (l := [i]) (by simpa [lone_] using hc) (by simp) fun k hk => by
    obtain rfl : k = i := by simpa using hk
    exact ⟨_, _, _, _, _, _, R, ho, ⟨t, hj, by rw [hl, hb]⟩, hv, r⟩
/-- Two operations may come now, in either order. -/
def both_ (ops : Array Oper) (listed : Array Bool) (i j : Nat) : Bool := Region.ready .any ops listed == [i, j]
theorem RunD.two {i j d d' : Nat} {op op' : Op} {ty ty' : TypeId} {pos pos' : String} {aft aft' : Array Edge} {R R' : Value → Heap → Prop} (hΦ : Φ listed h) (hc : both_ ops listed i j = true) (ho : ops[i]? = some ⟨some d, op, ty, pos, aft, none⟩) (ho' : ops[j]? = some ⟨some d', op', ty', pos', aft', none⟩)
    (hv : Ef P K.rd e h ⟨some d, op, ty, pos, aft, none⟩ R) (hv' : Ef P K.rd e h ⟨some d', op', ty', pos', aft', none⟩ R')
    (r : ∀ v h', R v h' → RunD P K ops Φ f (listed.setIfInBounds i true) κ ((d, v) :: e) h') (r' : ∀ v h', R' v h' → RunD P K ops Φ f (listed.setIfInBounds j true) κ ((d', v) :: e) h') : RunD P K ops Φ (f + 1) listed κ e h :=
  RunD.effs hΦ (l := [i, j]) (by simpa [both_] using hc) (by simp) fun k hk => by
    rcases List.mem_cons.1 hk with rfl | hk
    · exact ⟨_, _, _, _, _, _, R, ho, trivial, hv, r⟩
    · obtain rfl : k = j := by simpa using hk
      exact ⟨_, _, _, _, _, _, R', ho', trivial, hv', r'⟩
theorem RunD.store {op : Op} {ty : TypeId} {pos : String} {aft : Array Edge} {R : Value → Heap → Prop} (hΦ : Φ listed h) (hc : lone_ ops listed i = true) (ho : ops[i]? = some ⟨none, op, ty, pos, aft, none⟩) (hv : Ef P K.rd e h ⟨none, op, ty, pos, aft, none⟩ R)
    (r : ∀ v h', R v h' → RunD P K ops Φ f (listed.setIfInBounds i true) κ e h') : RunD P K ops Φ (f + 1) listed κ e h :=
  RunD.effs hΦ (l := [i]) (by simpa [lone_] using hc) (by simp) fun k hk => by
    obtain rfl : k = i := by simpa using hk
    exact ⟨_, _, _, _, _, _, R, ho, trivial, hv, r⟩
theorem RunD.done (hΦ : Φ listed h) (hc : over ops listed = true) (r : Run P K κ e h) : RunD P K ops Φ f listed κ e h := by
  intro _ _ a w hf hd hw
  have hc' : rdy ops listed = [] := by simpa [over] using hc
  have hΦ' : Φ listed w.heap := by rw [hw.heap]; exact hΦ
  cases f with
  | zero => exact ⟨hΦ', hc', r a w hf hd hw⟩
  | succ f => exact ⟨hΦ', .inl ⟨fun _ => r a w hf hd hw, fun j hj => (by rw [hc'] at hj; cases hj)⟩⟩
/-- What is left comes in one order. -/
theorem RunD.tail {l : List Oper} (is : List Nat) (hΦ : Φ listed h) (hc : tl ops listed is = true) (hne : is.length = f + 1) (hl : is.map (ops[·]?) = l.map some) (r : RunL P K ops l κ e h) : RunD P K ops Φ (f + 1) listed κ e h := by
  intro hk hcl a w hf hd hw
  have hΦ' : Φ listed w.heap := by rw [hw.heap]; exact hΦ
  refine ⟨hΦ', .inr ⟨is, l, hc, fun h0 => (by rw [h0] at hne; cases hne), Nat.le_of_eq hne, hl, r ?_ a w hf hd hw⟩⟩
  unfold okL
  rw [List.all_eq_true]
  intro o ho
  have : some o ∈ is.map (ops[·]?) := by rw [hl]; exact List.mem_map_of_mem ho
  obtain ⟨j, _, hj⟩ := List.mem_map.1 this
  exact okL_get hk hj
end
end Go.TP
/-! Sp. -/
namespace Go.TP
open Go

theorem bnot_t {b : Bool} (h : (!b) = true) : b = false := by cases b <;> simp_all
theorem bnot_f {b : Bool} (h : (!b) = false) : b = true := by cases b <;> simp_all
/-- The element at a place; d: there is none. -/
def nd {α : Type} (d : α) (xs : List α) (k : Nat) : α := xs.getD k d
theorem drop_getD {α : Type} {xs : List α} {k : Nat} (d : α) (h : k < xs.length) : xs.drop k = nd d xs k :: xs.drop (k + 1) := by
  unfold nd
  rw [List.drop_eq_getElem_cons h, List.getD_eq_getElem?_getD, List.getElem?_eq_getElem h]
  rfl
theorem take_getD {α : Type} {xs : List α} {k : Nat} (d : α) (h : k < xs.length) : xs.take (k + 1) = xs.take k ++ [nd d xs k] := by
  unfold nd
  rw [List.take_succ_eq_append_getElem h, List.getD_eq_getElem?_getD, List.getElem?_eq_getElem h]
  rfl
def ints (k : IntKind) (xs : List Int) : List Value := xs.map fun x => .int k x
def spCells (s : Int × Int) : List Value := [.int .i64 s.1, .int .i64 s.2]
def spans (xs : List (Int × Int)) : List Value := xs.flatMap spCells
section
variable {k : IntKind} {xs ys : List Int} {ss ts : List (Int × Int)} {i : Nat} {c : Cm} {π : Col} {h : Heap} {v : Value} {T sz : Nat} {cs : List Value}
theorem ints_length : (ints k xs).length = xs.length := by simp [ints]
theorem ints_append : ints k (xs ++ ys) = ints k xs ++ ints k ys := by simp [ints]
theorem ints_get (hi : i < xs.length) : (ints k xs)[i * 1]? = some (.int k (nd 0 xs i)) := by
  unfold nd
  rw [Nat.mul_one, ints, List.getElem?_map, List.getElem?_eq_getElem hi, List.getD_eq_getElem?_getD, List.getElem?_eq_getElem hi]
  rfl
theorem ints_ones (k : IntKind) (xs : List Int) : ∀ x ∈ ints k xs, x.oneCell' = true := by
  intro x hx
  obtain ⟨y, _, rfl⟩ := List.mem_map.1 hx
  rfl
theorem spans_length : (spans ss).length = ss.length * 2 := by
  induction ss with
  | nil => rfl
  | cons s ss ih =>
    have : (spans (s :: ss)).length = 2 + (spans ss).length := by simp [spans, spCells]; omega
    rw [this, ih, List.length_cons]; omega
theorem spans_append : spans (ss ++ ts) = spans ss ++ spans ts := by simp [spans]
theorem spans_get (hi : i < ss.length) : ((spans ss).drop (i * 2)).take 2 = [.int .i64 (nd (0, 0) ss i).1, .int .i64 (nd (0, 0) ss i).2] := by
  unfold nd
  induction ss generalizing i with
  | nil => cases hi
  | cons s ss ih =>
    cases i with
    | zero => rfl
    | succ i =>
      have h1 : spans (s :: ss) = [.int .i64 s.1, .int .i64 s.2] ++ spans ss := rfl
      rw [h1, show (i + 1) * 2 = 2 + i * 2 by omega, ← List.drop_drop]
      have := ih (i := i) (by simpa using hi)
      simpa using this
theorem spans_ones (ss : List (Int × Int)) : ∀ x ∈ spans ss, x.oneCell' = true := by
  intro x hx
  obtain ⟨s, _, hs⟩ := List.mem_flatMap.1 hx
  simp [spCells] at hs
  rcases hs with rfl | rfl <;> rfl
theorem Sl.len_ints (f : Sl c π h 1 v (ints k xs)) : sn v = xs.length := by have := f.len; rw [ints_length] at this; omega
theorem Ow.len_ints (f : Ow c π h T 1 v (ints k xs)) : sn v = xs.length := by have := f.len; rw [ints_length] at this; omega
theorem Sl.len_spans (f : Sl c π h 2 v (spans ss)) : sn v = ss.length := by have := f.len; rw [spans_length] at this; omega
theorem Ow.len_spans (f : Ow c π h T 2 v (spans ss)) : sn v = ss.length := by have := f.len; rw [spans_length] at this; omega
theorem Sl.lt_len {m : Nat} (_f : Sl c π h sz v cs) (he : sn v = m) (hi : i < m) : i < sn v := by omega
theorem Sl.bd_ints (f : Sl c π h 1 v (ints k xs)) : xs.length ≤ 68719476736 := f.len_ints ▸ f.bd
theorem Sl.bd_spans (f : Sl c π h 2 v (spans ss)) : ss.length ≤ 68719476736 := f.len_spans ▸ f.bd
theorem isSlice_one (h : isSlice v = true) : v.oneCell' = true := by cases v <;> first | rfl | (simp [isSlice] at h)
theorem Ow.lenle (f : Ow c π h T sz v cs) : sn v ≤ 68719476736 := f.bd
end
section
variable {P : Program} {e : Env} {h : Heap} {d : Option Tmp} {ty : TypeId} {pos : String} {aft : Array Edge} {g : Option (Nat × Bool)} {x : Operand} {t : TypeId} {v : Value}
theorem o_lenx {c : Cm} {π : Col} {sz m : Nat} {cs : List Value} (ht : SlcT P t) (f : Sl c π h sz v cs) (hx : ev e x = some v) (he : sn v = m) : Ev P e h ⟨d, .call ⟨.builtin .len, #[x], #[t]⟩, ty, pos, aft, g⟩ (.int .i64 (m : Nat)) := he ▸ o_len ht f.is hx
theorem o_len0 (ht : SlcT P t) (hx : ev e x = some (.slice none 0 0)) : Ev P e h ⟨d, .call ⟨.builtin .len, #[x], #[t]⟩, ty, pos, aft, g⟩ (.int .i64 0) := o_len ht rfl hx
theorem o_lenr {b n : Nat} (ht : SlcT P t) (hx : ev e x = some (.slice (some ⟨b, 0, none⟩) n n)) : Ev P e h ⟨d, .call ⟨.builtin .len, #[x], #[t]⟩, ty, pos, aft, g⟩ (.int .i64 (n : Nat)) := o_len ht rfl hx
def fxB (P : Program) (t i : Nat) : Bool :=
  match P.underlying t with
  | some (.struct fs) => match fs[i]? with
    | some f => match P.underlying f.type with
      | some (.struct _) => false
      | some (.array _ _) => false
      | some _ => true
      | none => false
    | none => true
  | _ => true
theorem fx_of {t i : Nat} (hb : fxB P t i = true) : ∀ (w : World) (fs : Array Field) (f : Field), P.underlying t = some (.struct fs) → fs[i]? = some f → (isAgg f.type).run P w = .ok false w := by
  intro w fs f h1 h2
  unfold fxB at hb
  rw [h1] at hb
  simp only [h2] at hb
  unfold isAgg
  cases hu : P.underlying f.type with
  | none => rw [hu] at hb; cases hb
  | some dd =>
    rw [hu] at hb
    rw [Sem.run_bind, run_underlying hu]
    cases dd <;> first | rfl | cases hb

def arrB (P : Program) (t n el sz : Nat) : Bool :=
  match P.underlying t, P.info? el with
  | some (.array n' e'), some inf => n' == n && e' == el && inf.size == sz
  | _, _ => false
/-- An array type. -/
def Arr (P : Program) (t n el sz : Nat) : Prop := arrB P t n el sz = true
/-- The address of an array's element. -/
theorem o_iaa {t n el sz i b o : Nat} {y : Operand} {k : IntKind} {m : Int} (ht : Arr P t n el sz) (hx : ev e x = some (.pointer (some ⟨b, o, none⟩))) (hy : ev e y = some (.int k m)) (hm : m = (i : Nat)) (hi : i < n) :
    Ev P e h ⟨d, .indexAddr t x y, ty, pos, aft, g⟩ (.pointer (some ⟨b, o + i * sz, none⟩)) := by
  intro ρ w hA _
  refine ⟨?_, rfl⟩
  unfold Arr arrB at ht
  split at ht
  · rename_i n' e' inf h1 h2
    simp only [Bool.and_eq_true, beq_iff_eq] at ht
    obtain ⟨⟨rfl, rfl⟩, h3⟩ := ht
    subst hm
    have hr : (Instr.indexAt t (.pointer (some ⟨b, o, none⟩)) (.int k (i : Nat))).run P w = .ok (.pointer (some ⟨b, o + i * sz, none⟩)) w := by
      simp [Instr.indexAt, asIntOf, run_underlying h1, sizeOf, typeInfo, h2, h3, addr_add, hi, Instr.sureAddr]
    simp only [execOp, hA x _ hx, hA y _ hy, Sem.run_bind, hr]
    rfl
  · cases ht

/-! ### A struct that is built -/
def fill2 (places : List (Nat × Nat)) : List Value → List (Nat × List Value) → Option (List Value)
  | cells, [] => some cells
  | cells, (i, us) :: rest =>
    match places[i]? with
    | none => none
    | some (off, size) => if us.length = size ∧ off + us.length ≤ cells.length then fill2 places (cells.take off ++ us ++ cells.drop (off + us.length)) rest else none
def CellsOf : List Value → List (List Value) → Prop
  | [], [] => True
  | u :: us, cs :: css => u.cells = cs.toArray ∧ CellsOf us css
  | _, _ => False
theorem foldl_splice (off : Nat) : ∀ (us : List Value) (j : Nat) (zs : Array Value), off + j + us.length ≤ zs.size → (us.zipIdx j).foldl (fun cs (p : Value × Nat) => cs.setIfInBounds (off + p.2) p.1) zs = (zs.toList.take (off + j) ++ us ++ zs.toList.drop (off + j + us.length)).toArray := by
  intro us
  induction us with
  | nil => intro j zs _; simp
  | cons y us ih =>
    intro j zs hk
    simp only [List.length_cons] at hk
    rw [List.zipIdx_cons, List.foldl_cons, ih (j + 1) _ (by simp; omega)]
    congr 1
    have hlt : off + j < zs.toList.length := by simp; omega
    simp only [Array.toList_setIfInBounds]
    rw [show off + (j + 1) = (off + j) + 1 by omega, List.take_succ_eq_append_getElem (by simpa using hlt)]
    rw [List.drop_set_of_lt (by omega), List.take_set_of_le (Nat.le_refl _)]
    simp only [List.getElem_set_self, List.append_assoc, List.cons_append, List.nil_append, List.length_cons]
    rw [show off + j + 1 + us.length = off + j + (us.length + 1) by omega]
theorem fill_fill2 (places : Array (Nat × Nat)) : ∀ (is : List Nat) (us : List Value) (css : List (List Value)) (zs cs : List Value), CellsOf us css → fill2 places.toList zs (is.zip css) = some cs → is.length = us.length → Instr.fill (places[·]?) zs.toArray (is.zip us) = some cs.toArray
  | [], [], [], zs, cs, _, hf, _ => by simp [fill2] at hf; simp [Instr.fill, hf]
  | i :: is, u :: us, us' :: css, zs, cs, hc, hf, hl => by
    obtain ⟨h1, h2⟩ := hc
    simp only [List.zip_cons_cons, fill2] at hf
    simp only [List.zip_cons_cons, Instr.fill]
    cases hp : places[i]? with
    | none => rw [Array.getElem?_toList, hp] at hf; cases hf
    | some q =>
      obtain ⟨off, size⟩ := q
      rw [Array.getElem?_toList, hp] at hf
      simp only at hf ⊢
      split at hf
      · rename_i hk
        have hsz : u.cells.size = us'.length := by rw [h1]; simp
        rw [if_neg (by simp [hsz, hk.1]; omega)]
        have he : Array.foldl (fun cs (x : Value × Nat) => match x with | (c, j) => cs.setIfInBounds (off + j) c) zs.toArray u.cells.zipIdx = (zs.take off ++ us' ++ zs.drop (off + us'.length)).toArray := by
          have h0 := foldl_splice off us' 0 zs.toArray (by simpa using hk.2)
          simp only [Nat.add_zero] at h0
          rw [h1, ← Array.foldl_toList, Array.toList_zipIdx]
          exact h0
        rw [he]
        exact fill_fill2 places is us css _ cs h2 hf (by simpa using hl)
      · cases hf
  | [], [], _ :: _, _, _, hc, _, _ => hc.elim
  | [], _ :: _, _, _, _, _, _, hl => by simp at hl
  | _ :: _, [], _, _, _, _, _, hl => by simp at hl
  | _ :: _, _ :: _, [], _, _, hc, _, _ => hc.elim
/-- Where a struct's fields lie. -/
def Bd (P : Program) (t : Nat) (places : List (Nat × Nat)) : Prop :=
  (match P.underlying t with
  | some (.struct fs) => some (fs.toList.map fun f => (f.offset, (P.info? f.type).map (·.size)))
  | _ => none) = some (places.map fun p => (p.1, some p.2))
theorem run_places (w : World) : ∀ (fs : List Field) (places : List (Nat × Nat)), fs.map (fun f => (f.offset, (P.info? f.type).map (·.size))) = places.map (fun p => (p.1, some p.2)) →
    (fs.mapM fun f => do Pure.pure (f.offset, ← sizeOf f.type) : Sem (List (Nat × Nat))).run P w = .ok places w
  | [], [], _ => rfl
  | [], _ :: _, h => by cases h
  | _ :: _, [], h => by cases h
  | f :: fs, p :: ps, h => by
    simp only [List.map_cons, List.cons.injEq, Prod.mk.injEq] at h
    obtain ⟨⟨h1, h2⟩, h3⟩ := h
    obtain ⟨i, h4, h5⟩ := Option.map_eq_some_iff.1 h2
    have ih := run_places w fs ps h3
    have hso : (sizeOf f.type).run P w = .ok p.2 w := by simp [sizeOf, typeInfo, h4, h5]
    simp only [List.mapM_cons, Sem.run_bind, hso, ih, Result.andThen, Sem.run_pure, h1]
theorem o_bd {t size bytes : Nat} {zs cs : List Value} {places : List (Nat × Nat)} {is : List Nat} {xs : List Operand} {us : List Value} {css : List (List Value)} {parts : Array (Nat × Operand)} (hb : Bd P t places) (hi : Inf P t (.agg zs.toArray) size bytes)
    (hparts : parts.toList = is.zip xs) (hlen : is.length = us.length) (hx : evs e xs = some us) (hc : CellsOf us css) (hf : fill2 places zs (is.zip css) = some cs) : Ev P e h ⟨d, .build t parts, ty, pos, aft, g⟩ (.agg cs.toArray) := by
  intro ρ w hA _
  refine ⟨?_, rfl⟩
  obtain ⟨i, h1, h2, h3, h4⟩ := hi.spec
  unfold Bd at hb
  split at hb
  · rename_i fs hu
    have hpl := run_places (P := P) w fs.toList places (by simpa using hb)
    have hm : (parts.map fun (i, x) => (i, ρ x)).toList = is.zip us := by
      rw [Array.toList_map, hparts, ← hA.evs hx, List.zip_map_right]
      rfl
    have hfill := fill_fill2 places.toArray is us css zs cs hc (by simpa using hf) hlen
    have hpl' : (fs.mapM fun f => do Pure.pure (f.offset, ← sizeOf f.type) : Sem (Array (Nat × Nat))).run P w = .ok places.toArray w := by
      rw [← Array.toArray_toList (xs := fs), List.mapM_toArray]
      simp only [map_eq_pure_bind, Sem.run_bind, hpl, Result.andThen, Sem.run_pure]
    have hz : (zeroValue t).run P w = .ok (.agg zs.toArray) w := by simp [zeroValue, typeInfo, h1, h2]
    simp only [execOp, Instr.build, Sem.run_bind, hz, run_underlying hu, hpl', Result.andThen, Value.cells, hm, hfill, Sem.run_pure]
  · cases hb
end
end Go.TP
