/- The engine, part 4: operations that make or turn memory; calls; what a function's body has turned so far. -/
import Derived.Test.YtnmdbemccdhdmaaGreatDoorGlob
import Derived.Great.BuildSlice
namespace Go.TP
open Go

/-- What holds of the whole heap at depth n. -/
structure St (n : Nat) (c : Cm) (h : Heap) : Prop where
  pos : 1 ≤ n
  lvl : ∀ b, b < h.size → (c b).1 < n
  gl : Gl c h
/-- A body at depth n, begun at (c0, h0), has come to (c, h): of old blocks those of S alone have turned. -/
structure Tr (n : Nat) (S : Col → Prop) (c0 : Cm) (h0 : Heap) (c : Cm) (h : Heap) : Prop where
  m : Mod (n + 1) (fun π => S π ∨ n ≤ π.1) c0 h0 c h
  st : St (n + 1) c h
  st0 : St n c0 h0
  nro : ¬ S ro
section
variable {n : Nat} {S S1 : Col → Prop} {c0 c c1 : Cm} {h0 h h1 : Heap}
theorem St.up (s : St n c h) : St (n + 1) c h := ⟨by omega, fun b hb => Nat.lt_succ_of_lt (s.lvl b hb), s.gl⟩
theorem Tr.start (s : St n c h) (hn : ¬ S ro) : Tr n S c h c h := ⟨Mod.refl _ _ _ _, s.up, s, hn⟩
theorem Tr.step (t : Tr n S c0 h0 c h) (x : Mod (n + 1) S1 c h c1 h1) (hS : ∀ π, S1 π → S π ∨ n ≤ π.1) : Tr n S c0 h0 c1 h1 := by
  have hro : ¬ S1 ro := fun hh => by
    rcases hS _ hh with h' | h'
    · exact t.nro h'
    · have := t.st0.pos; simp [ro] at h'; omega
  refine ⟨t.m.trans x fun b hb hh => hS _ hh, ⟨t.st.pos, fun b hb => ?_, t.st.gl.step x hro⟩, t.st0, t.nro⟩
  rcases Nat.lt_or_ge b h.size with hlt | hge
  · rw [x.col b hlt]; exact t.st.lvl b hlt
  · exact x.lvl b hge hb
/-- Nothing old has turned. -/
theorem Tr.pure (t : Tr n S c0 h0 c h) (x : Mod (n + 1) none_ c h c1 h1) : Tr n S c0 h0 c1 h1 := t.step x fun _ hh => hh.elim
/-- A local of this body has turned. -/
theorem Tr.loc {l : List Nat} (t : Tr n S c0 h0 c h) (x : Mod (n + 1) (only (n, l)) c h c1 h1) : Tr n S c0 h0 c1 h1 := t.step x fun π hh => .inr (by rw [show π = (n, l) from hh]; exact Nat.le_refl _)
/-- What the body may turn has turned. -/
theorem Tr.may (t : Tr n S c0 h0 c h) (x : Mod (n + 1) S1 c h c1 h1) (hS : ∀ π, S1 π → S π) : Tr n S c0 h0 c1 h1 := t.step x fun π hh => .inl (hS π hh)

/-- The end of a body: its locals' colours are given up. L: locals that live on, and their new colours. -/
def dn (n : Nat) : List (Col × Col) → Col → Col
  | [], π => if π.1 < n then π else (0, [0])
  | (π', ρ) :: L, π => if π = π' then ρ else dn n L π
def rec_ (h0 : Heap) (n : Nat) (L : List (Col × Col)) (c : Cm) : Cm := fun b => if b < h0.size then c b else dn n L (c b)
def okDn (n : Nat) : List (Col × Col) → Prop
  | [] => True
  | (_, ρ) :: L => ρ.1 < n ∧ okDn n L
theorem dn_lt (hn : 1 ≤ n) : ∀ {L : List (Col × Col)}, okDn n L → ∀ π, (dn n L π).1 < n
  | [], _, π => by
    simp only [dn]
    split
    · assumption
    · exact hn
  | (π', ρ) :: L, hk, π => by
    simp only [dn]
    split
    · exact hk.1
    · exact dn_lt hn hk.2 π
theorem Tr.out (t : Tr n S c0 h0 c h) (L : List (Col × Col)) (hL : okDn n L) : Mod n S c0 h0 (rec_ h0 n L c) h := by
  refine ⟨t.m.size, fun b hb => ?_, fun b hb hn => t.m.same b hb ?_, fun b hb hb2 => ?_⟩
  · simp only [rec_, if_pos hb]; exact t.m.col b hb
  · rintro (h' | h')
    · exact hn h'
    · have := t.st0.lvl b hb; omega
  · simp only [rec_, if_neg (show ¬ b < h0.size by omega)]; exact dn_lt t.st0.pos hL _
/-- A colour that stays. -/
theorem Tr.keep (_t : Tr n S c0 h0 c h) (L : List (Col × Col)) {π : Col} (hd : dn n L π = π) : Turn c (rec_ h0 n L c) π π := by
  intro b hb
  unfold rec_
  split
  · exact hb
  · rw [hb, hd]
/-- A local's new colour. -/
theorem Tr.turn (t : Tr n S c0 h0 c h) (L : List (Col × Col)) {π ρ : Col} (hp : n ≤ π.1) (hd : dn n L π = ρ) : Turn c (rec_ h0 n L c) π ρ := by
  intro b hb
  unfold rec_
  split
  · rename_i hlt
    have h1 := t.st0.lvl b hlt
    rw [← t.m.col b hlt, hb] at h1
    omega
  · rw [hb, hd]
theorem dn_ro {L : List (Col × Col)} (hn : 1 ≤ n) (h : ∀ p ∈ L, n ≤ p.1.1) : dn n L ro = ro := by
  induction L with
  | nil => simp only [dn]; rw [if_pos (show ro.1 < n from hn)]
  | cons p L ih =>
    obtain ⟨π', ρ⟩ := p
    simp only [dn]
    have := h (π', ρ) (List.mem_cons_self ..)
    rw [if_neg (by intro h'; rw [← h'] at this; simp [ro] at this; omega)]
    exact ih fun q hq => h q (List.mem_cons_of_mem _ hq)
theorem dn_old {L : List (Col × Col)} {π : Col} (hp : π.1 < n) (h : ∀ p ∈ L, n ≤ p.1.1) : dn n L π = π := by
  induction L with
  | nil => simp only [dn]; rw [if_pos hp]
  | cons p L ih =>
    obtain ⟨π', ρ⟩ := p
    simp only [dn]
    have := h (π', ρ) (List.mem_cons_self ..)
    rw [if_neg (by intro h'; rw [← h'] at this; simp at this; omega)]
    exact ih fun q hq => h q (List.mem_cons_of_mem _ hq)
end

/-! ### Colours that differ -/
theorem nonly {π ρ : Col} (h : π ≠ ρ) : ¬ only ρ π := h
theorem loc_ne {n : Nat} {l l' : List Nat} (h : l ≠ l') : ((n, l) : Col) ≠ (n, l') := fun e => h (Prod.mk.inj e).2
theorem ro_loc {n : Nat} {l : List Nat} (h : 1 ≤ n) : ro ≠ (n, l) := fun e => by
  have h1 : (0 : Nat) = n := congrArg Prod.fst e
  omega
theorem old_loc {n : Nat} {π : Col} {l : List Nat} (h : π.1 < n) : π ≠ (n, l) := fun e => by
  rw [e] at h
  exact Nat.lt_irrefl _ h

/-! ### Making -/
section
variable {P : Program} {rd : Option Nat} {e : Env} {h : Heap} {d : Option Tmp} {ty : TypeId} {pos : String} {aft : Array Edge}
theorem Mod.push (n : Nat) (c : Cm) (h : Heap) (o : Obj) {π : Col} (hπ : π.1 < n) : Mod n none_ c h (fun b => if b = h.size then π else c b) (h.push o) := by
  refine ⟨by simp, fun b hb => if_neg (by omega), fun b hb _ => ?_, fun b hb hb2 => ?_⟩
  · rw [Array.getElem?_push, if_neg (by omega)]
  · have : b = h.size := by simp at hb2; omega
    simp [this, hπ]
theorem Bk.push (c : Cm) (h : Heap) (cs : List Value) (T : TypeId) (π : Col) : Bk (fun b => if b = h.size then π else c b) π (h.push (.cells cs.toArray T)) h.size T cs :=
  ⟨if_pos rfl, by simp⟩
/-- What comes of a new block. -/
def New (n : Nat) (c : Cm) (h : Heap) (π : Col) (T : TypeId) (cs : List Value) (mk : Nat → Value) (v : Value) (h' : Heap) : Prop :=
  ∃ b c', v = mk b ∧ Mod n none_ c h c' h' ∧ Bk c' π h' b T cs
def asPtr (b : Nat) : Value := .pointer (some ⟨b, 0, none⟩)
def asRow (k : Nat) (b : Nat) : Value := .slice (some ⟨b, 0, none⟩) k k
theorem ef_of_run {o : Oper} {R : Value → Heap → Prop} (hab : ∀ (ρ : Operand → Value) (w : World), Agree e ρ → w.heap = h → o.about P w ρ = none) (hd : ∀ c, o.op ≠ .defer c)
    (hr : ∀ (ρ : Operand → Value) (w : World), Agree e ρ → w.heap = h → ∃ v w', ((execOp ρ o).run P w = .ok (.value v) w' ∨ (v = undef ∧ (execOp ρ o).run P w = .ok .skip w')) ∧ R v w'.heap ∧ w'.os = w.os ∧ w'.tape = w.tape ∧ w'.output = w.output) :
    Ef P rd e h o R := by
  intro a w hA hw next hn
  refine ⟨fun f hf => (by rw [hab _ w hA hw] at hf; cases hf), ?_⟩
  obtain ⟨v, w', h1, h2, h3, h4, h5⟩ := hr a.eval w hA hw
  rw [show (Wd rd).round = rd from rfl, Oper.semAt_eq rd _ o hd]
  rcases h1 with h1 | ⟨rfl, h1⟩
  · rw [h1]; exact hn v w' h2 h3 h4 h5
  · rw [h1]; exact hn undef w' h2 h3 h4 h5
theorem e_al {T size bytes : Nat} {z : Value} {cs : List Value} (hi : Inf P T z size bytes) (hz : z.cells = cs.toArray) (n : Nat) (c : Cm) (π : Col) (hπ : π.1 < n) : Ef P rd e h ⟨d, .alloc T, ty, pos, aft, none⟩ (New n c h π T cs asPtr) := by
  obtain ⟨i, h1, h2, h3, h4⟩ := hi.spec
  refine ef_of_run (fun _ _ _ _ => rfl) (fun _ hc => by cases hc) fun ρ w hA hw => ?_
  refine ⟨.pointer (some ⟨w.heap.size, 0, none⟩), { w with heap := w.heap.push (.cells z.cells T) }, .inl ?_, ?_, rfl, rfl, rfl⟩
  · simp [execOp, Instr.alloc, zeroValue, typeInfo, h1, h2, newVar, newRow, newObj, Sem.run]
  · subst hw
    refine ⟨_, _, rfl, Mod.push n c _ _ hπ, ?_⟩
    rw [hz]
    exact Bk.push c _ cs T π
theorem e_bx {T : TypeId} {x : Operand} {u : Value} {cs : List Value} (hx : ev e x = some u) (hu : u.cells = cs.toArray) (n : Nat) (c : Cm) (π : Col) (hπ : π.1 < n) : Ef P rd e h ⟨d, .box T x, ty, pos, aft, none⟩ (New n c h π T cs asPtr) := by
  refine ef_of_run (fun _ _ _ _ => rfl) (fun _ hc => by cases hc) fun ρ w hA hw => ?_
  refine ⟨.pointer (some ⟨w.heap.size, 0, none⟩), { w with heap := w.heap.push (.cells u.cells T) }, .inl ?_, ?_, rfl, rfl, rfl⟩
  · simp [execOp, hA x _ hx, Instr.box, newVar, newRow, newObj, Sem.run]
  · subst hw
    refine ⟨_, _, rfl, Mod.push n c _ _ hπ, ?_⟩
    rw [hu]
    exact Bk.push c _ cs T π
theorem fill_dense (size : Nat) : ∀ (us : List Value) (i0 : Nat) (zs : Array Value), (∀ u ∈ us, u.cells.size = size) → (i0 + us.length) * size = zs.size →
    Instr.fill (fun i => some (i * size, size)) zs ((us.zipIdx i0).map fun p => (p.2, p.1)) = some (zs.toList.take (i0 * size) ++ us.flatMap (·.cells.toList)).toArray := by
  have key : ∀ (l : List Value) (k j : Nat) (zs : Array Value), k + j + l.length ≤ zs.size → ((l.zipIdx j).foldl (fun cs (p : Value × Nat) => cs.setIfInBounds (k + p.2) p.1) zs) = (zs.toList.take (k + j) ++ l ++ zs.toList.drop (k + j + l.length)).toArray := by
    intro l
    induction l with
    | nil => intro k j zs hk; simp
    | cons y l ih =>
      intro k j zs hk
      simp only [List.length_cons] at hk
      rw [List.zipIdx_cons, List.foldl_cons, ih k (j + 1) _ (by simp; omega)]
      congr 1
      have hlt : k + j < zs.toList.length := by simp; omega
      simp only [Array.toList_setIfInBounds]
      rw [show k + (j + 1) = (k + j) + 1 by omega, List.take_succ_eq_append_getElem (by simpa using hlt)]
      rw [List.drop_set_of_lt (by omega), List.take_set_of_le (Nat.le_refl _)]
      simp only [List.getElem_set_self, List.append_assoc, List.cons_append, List.nil_append, List.length_cons]
      rw [show k + j + 1 + l.length = k + j + (l.length + 1) by omega]
  intro us
  induction us with
  | nil =>
    intro i0 zs _ hz
    simp only [List.length_nil, Nat.add_zero] at hz
    simp [Instr.fill, hz, List.take_of_length_le]
  | cons u us ih =>
    intro i0 zs hu hz
    have hus := hu u (List.mem_cons_self ..)
    simp only [List.length_cons] at hz
    have hfit : i0 * size + size + us.length * size = zs.size := by rw [← hz, show i0 + (us.length + 1) = i0 + 1 + us.length by omega, Nat.add_mul, Nat.add_mul, Nat.one_mul]
    rw [List.zipIdx_cons, List.map_cons]
    simp only [Instr.fill]
    rw [if_neg (by simp [hus]; omega)]
    have hk := key u.cells.toList (i0 * size) 0 zs (by simp [hus]; omega)
    have he : u.cells.zipIdx.foldl (fun cs (x : Value × Nat) => cs.setIfInBounds (i0 * size + x.2) x.1) zs = (zs.toList.take (i0 * size) ++ u.cells.toList ++ zs.toList.drop (i0 * size + size)).toArray := by
      rw [← Array.foldl_toList, Array.toList_zipIdx, hk]
      simp [hus]
    have he' : Array.foldl (fun cs (x : Value × Nat) => match x with | (c, j) => cs.setIfInBounds (i0 * size + j) c) zs u.cells.zipIdx = (zs.toList.take (i0 * size) ++ u.cells.toList ++ zs.toList.drop (i0 * size + size)).toArray := he
    rw [he', ih (i0 + 1) _ (fun x hx => hu x (List.mem_cons_of_mem _ hx)) (by
      rw [show i0 + 1 + us.length = i0 + (us.length + 1) by omega, hz]
      simp [hus]
      omega)]
    congr 2
    have hl : (zs.toList.take (i0 * size) ++ u.cells.toList).length = (i0 + 1) * size := by simp [hus, Nat.add_mul]; omega
    rw [show (zs.toList.take (i0 * size) ++ u.cells.toList ++ zs.toList.drop (i0 * size + size)).toArray.toList = zs.toList.take (i0 * size) ++ u.cells.toList ++ zs.toList.drop (i0 * size + size) from rfl, ← hl, List.take_left]
    simp
theorem one_cells {u : Value} (h : u.oneCell' = true) : u.cells = #[u] := by cases u <;> first | rfl | (simp [Value.oneCell'] at h)
/-- A slice of values that stand there. -/
theorem e_bs {t el size bytes len : Nat} {z : Value} {parts : Array (Nat × Operand)} {xs : List Operand} {us cs : List Value} (ht : Slc P t el size) (hi : Inf P el z size bytes) (hz : z.cells.size = size)
    (hs : Nat.ble (len * size) 16777216 = true) (hp : Nat.ble 1 (len * size) = true) (hparts : parts.toList = (xs.zipIdx).map fun p => (p.2, p.1)) (hx : evs e xs = some us) (hlen : us.length = len) (hu : ∀ u ∈ us, u.cells.size = size) (hcs : us.flatMap (·.cells.toList) = cs)
    (n : Nat) (c : Cm) (π : Col) (hπ : π.1 < n) : Ef P rd e h ⟨d, .buildSlice t len parts, ty, pos, aft, none⟩ (New n c h π el cs (asRow len)) := by
  obtain ⟨i, h1, h2, h3, h4⟩ := hi.spec
  obtain ⟨h5, inf, h6, h7⟩ := ht.spec
  refine ef_of_run (fun _ _ _ _ => rfl) (fun _ hc => by cases hc) fun ρ w hA hw => ?_
  subst h3
  have hsm : len * i.size ≤ 16777216 := by simpa using hs
  have hpo : 1 ≤ len * i.size := by simpa using hp
  have hm : (parts.map fun (i, x) => (i, ρ x)).toList = (us.zipIdx).map fun p => (p.2, p.1) := by
    rw [Array.toList_map, hparts, ← hA.evs hx, List.zipIdx_map, List.map_map, List.map_map]
    rfl
  have hb := run_buildSlice (P := P) w t el len (parts.map fun (i, x) => (i, ρ x)) cs.toArray i z h5 h1 h2 (by omega) (by omega) (by
    rw [hm, fill_dense i.size us 0 _ hu (by simp [hlen])]
    simp [hcs])
  refine ⟨.slice (some ⟨w.heap.size, 0, none⟩) len len, w.alloc (.cells cs.toArray el), .inl ?_, ?_, rfl, rfl, rfl⟩
  · simp only [execOp, Sem.run_bind, hb, Result.andThen]
    rfl
  · subst hw
    exact ⟨_, _, rfl, Mod.push n c _ _ hπ, Bk.push c _ cs el π⟩
end

/-! ### Storing -/
def hset (h : Heap) (b o : Nat) (v : Value) : Heap := h.modify b fun
  | .cells c el fr => .cells (c.setIfInBounds o v) el fr
  | x => x
section
variable {P : Program} {rd : Option Nat} {e : Env} {h : Heap} {ty : TypeId} {pos : String} {aft : Array Edge} {c : Cm} {π : Col} {b : Nat} {T : TypeId} {cs : List Value}
theorem hset_other {h : Heap} {b o k : Nat} {v : Value} (hk : k ≠ b) : (hset h b o v)[k]? = h[k]? := by
  unfold hset
  rw [Array.getElem?_modify, if_neg (by omega)]
theorem hset_size (h : Heap) (b o : Nat) (v : Value) : (hset h b o v).size = h.size := by simp [hset]
theorem hset_same {h : Heap} {b o : Nat} {v : Value} {cur : Array Value} {T : TypeId} {fr : Nat × Nat} (hb : h[b]? = some (.cells cur T fr)) : (hset h b o v)[b]? = some (.cells (cur.setIfInBounds o v) T fr) := by
  unfold hset
  rw [Array.getElem?_modify, if_pos rfl, hb]
  rfl
theorem Mod.hset (n : Nat) (c : Cm) (h : Heap) (b o : Nat) (v : Value) : Mod n (only (c b)) c h c (hset h b o v) := by
  refine ⟨by rw [hset_size]; exact Nat.le_refl _, fun _ _ => rfl, fun k hk hn => hset_other fun hkb => hn (by rw [hkb]; rfl), fun k h1 h2 => ?_⟩
  rw [hset_size] at h2
  omega
theorem run_store_bk {w : World} {b o : Nat} {v : Value} {cur : Array Value} {T : TypeId} (hb : w.heap[b]? = some (.cells cur T (0, 0))) (ho : o < cur.size) (h1 : v.oneCell' = true) :
    (store ⟨b, o, none⟩ v).run P w = .ok () { w with heap := hset w.heap b o v } := by
  have hc : w.cell? ⟨b, o, none⟩ = some cur[o] := by rw [cell_cel rfl]; simp [cel, hb, ho]
  rw [run_store P w _ v .plain h1, hc]
  have hf : w.frozen? ⟨b, o, none⟩ = false := by simp [World.frozen?, hb]
  simp only [hf, Bool.false_eq_true, if_false]
  rfl
/-- One cell of a block known whole. -/
theorem e_st {t o : Nat} {x y : Operand} {u : Value} (ht : One P t) (hx : ev e x = some (.pointer (some ⟨b, o, none⟩))) (hy : ev e y = some u) (f : Bk c π h b T cs) (ho : Nat.blt o cs.length = true) (h1 : u.oneCell' = true) (n : Nat) :
    Ef P rd e h ⟨none, .store t x y, ty, pos, aft, none⟩ (fun _ h' => Mod n (only π) c h c h' ∧ Bk c π h' b T (cs.set o u)) := by
  refine ef_of_run (fun _ _ _ _ => rfl) (fun _ hc => by cases hc) fun ρ w hA hw => ?_
  subst hw
  have ho' : o < cs.length := Nat.le_of_ble_eq_true ho
  refine ⟨undef, { w with heap := hset w.heap b o u }, .inr ⟨rfl, ?_⟩, ⟨f.col ▸ Mod.hset n c w.heap b o u, f.col, ?_⟩, rfl, rfl, rfl⟩
  · have hc1 : u.cells = #[u] := by cases u <;> first | rfl | (simp [Value.oneCell'] at h1)
    simp [execOp, hA x _ hx, hA y _ hy, Instr.storeAt, Instr.sureAddr, storeVar, (ht.spec w).2, hc1, storeCells, addr_add, run_store_bk f.get (by simpa using ho') h1]
  · rw [hset_same f.get]
    simp
end
end Go.TP
