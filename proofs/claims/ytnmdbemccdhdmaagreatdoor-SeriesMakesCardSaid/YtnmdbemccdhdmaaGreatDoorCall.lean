/- The engine, part 5: loads and stores by facts, append, calls, regions that draw their order. -/
import Derived.Test.YtnmdbemccdhdmaaGreatDoorMem
namespace Go.TP
open Go

section
variable {P : Program} {K : Kt} {κ : List Item} {e : Env} {h : Heap} {ops : Array Oper} {l : List Oper} {d : Nat} {ty : TypeId} {pos : String} {aft : Array Edge} {x : Operand} {v : Value}
theorem mv (hx : ev e x = some v) (r : RunL P K ops l κ ((d, v) :: e) h) : RunL P K ops (⟨some d, .move x, ty, pos, aft, none⟩ :: l) κ e h := RunL.p (o_mv hx) r
theorem as_ (hx : ev e x = some v) (r : RunL P K ops l κ ((d, v) :: e) h) : RunL P K ops (⟨some d, .assign x, ty, pos, aft, none⟩ :: l) κ e h := RunL.p (o_as hx) r
/-- A region, and what stands behind it. -/
theorem sr {id : Nat} {y : Code} (hok : okL K.n l = true) (r : RunL P K l.toArray l (.code y :: κ) e h) : Run P K (.code (.seq (.region id l.toArray false) y) :: κ) e h := Run.seq (Run.region hok r)
end

section
variable {P : Program} {e : Env} {h : Heap} {d : Option Tmp} {ty : TypeId} {pos : String} {aft : Array Edge} {g : Option (Nat × Bool)} {c : Cm} {π ρ : Col} {b o : Nat} {T t : TypeId} {cs vs : List Value} {x y : Operand} {u v : Value}
/-- One cell of a block known whole. -/
theorem o_ldb (ht : One P t) (hx : ev e x = some (.pointer (some ⟨b, o, none⟩))) (f : Bk c π h b T cs) (ho : cs[o]? = some u) : Ev P e h ⟨d, .load t x, ty, pos, aft, g⟩ u :=
  o_ld ht hx (by rw [f.cel]; exact ho)
/-- Some cells of a block known whole. -/
theorem o_ldba {m : Nat} (ht : Agg P t m) (hx : ev e x = some (.pointer (some ⟨b, o, none⟩))) (f : Bk c π h b T cs) (hv : (cs.drop o).take m = vs) (hl : vs.length = m) : Ev P e h ⟨d, .load t x, ty, pos, aft, g⟩ (.agg vs.toArray) :=
  o_lda ht hx hl fun j v hj => by
    rw [f.cel]
    rw [← hv, List.getElem?_take] at hj
    split at hj
    · simpa using hj
    · cases hj
/-- One cell of a slice. -/
theorem o_lds {sz j : Nat} (ht : One P t) (f : Sl c π h sz v cs) (hx : ev e x = some (.pointer (some ⟨sb v, o, none⟩))) (ho : o = so v + j) (hj : cs[j]? = some u) : Ev P e h ⟨d, .load t x, ty, pos, aft, g⟩ u :=
  o_ld ht hx (by rw [ho]; exact f.get j u hj)
/-- Some cells of a slice. -/
theorem o_ldsa {sz j m : Nat} (ht : Agg P t m) (f : Sl c π h sz v cs) (hx : ev e x = some (.pointer (some ⟨sb v, o, none⟩))) (ho : o = so v + j) (hv : (cs.drop j).take m = vs) (hl : vs.length = m) : Ev P e h ⟨d, .load t x, ty, pos, aft, g⟩ (.agg vs.toArray) :=
  o_lda ht hx hl fun k w hk => by
    rw [ho, Nat.add_assoc]
    refine f.get (j + k) w ?_
    rw [← hv, List.getElem?_take] at hk
    split at hk
    · simpa using hk
    · cases hk
end

section
variable {P : Program} {rd : Option Nat} {e : Env} {h : Heap} {d : Option Tmp} {ty : TypeId} {pos : String} {aft : Array Edge} {c : Cm} {π ρ : Col} {b : Nat} {T : TypeId} {cs ds : List Value} {x y : Operand} {u v : Value}
theorem run_stores_bk {T : TypeId} {b : Nat} : ∀ (us : List Value) (o : Nat) (k : Nat) (cur : List Value) (w : World), w.heap[b]? = some (.cells cur.toArray T (0, 0)) → o + k + us.length ≤ cur.length → (∀ u ∈ us, u.oneCell' = true) →
    ∃ h', (storeCells ⟨b, o, none⟩ us k).run P w = .ok () { w with heap := h' } ∧ h'.size = w.heap.size ∧ (∀ i, i ≠ b → h'[i]? = w.heap[i]?) ∧ h'[b]? = some (.cells (cur.take (o + k) ++ us ++ cur.drop (o + k + us.length)).toArray T (0, 0)) := by
  intro us
  induction us with
  | nil => intro o k cur w hb _ _; exact ⟨w.heap, rfl, rfl, fun _ _ => rfl, by simpa using hb⟩
  | cons u us ih =>
    intro o k cur w hb hl h1
    simp only [List.length_cons] at hl
    have hs := run_store_bk (P := P) (w := w) (b := b) (o := o + k) (v := u) hb (by simp; omega) (h1 u (List.mem_cons_self ..))
    have hb' : ({ w with heap := hset w.heap b (o + k) u } : World).heap[b]? = some (.cells (cur.set (o + k) u).toArray T (0, 0)) := by
      show (hset w.heap b (o + k) u)[b]? = _
      rw [hset_same hb]
      simp
    obtain ⟨h', e1, e2, e3, e4⟩ := ih o (k + 1) (cur.set (o + k) u) { w with heap := hset w.heap b (o + k) u } hb' (by simp; omega) (fun x hx => h1 x (List.mem_cons_of_mem _ hx))
    refine ⟨h', ?_, e2.trans (hset_size ..), fun i hi => (e3 i hi).trans (hset_other hi), ?_⟩
    · simp only [storeCells, addr_add, Sem.run_bind, hs, Result.andThen]
      exact e1
    · rw [e4]
      congr 3
      have hlt : o + k < cur.length := by omega
      rw [show o + (k + 1) = (o + k) + 1 by omega, List.take_succ_eq_append_getElem (by simpa using hlt), List.drop_set_of_lt (by omega), List.take_set_of_le (Nat.le_refl _)]
      simp only [List.getElem_set_self, List.append_assoc, List.cons_append, List.nil_append, List.length_cons]
      rw [show o + k + 1 + us.length = o + k + (us.length + 1) by omega]
/-- A struct into a block known whole. -/
theorem e_sta {t m o : Nat} {us : List Value} (ht : Agg P t m) (hx : ev e x = some (.pointer (some ⟨b, o, none⟩))) (hy : ev e y = some (.agg us.toArray)) (f : Bk c π h b T cs) (hm : us.length = m) (ho : Nat.ble (o + us.length) cs.length = true) (h1 : ∀ u ∈ us, u.oneCell' = true) (n : Nat) :
    Ef P rd e h ⟨none, .store t x y, ty, pos, aft, none⟩ (fun _ h' => Mod n (only π) c h c h' ∧ Bk c π h' b T (cs.take o ++ us ++ cs.drop (o + us.length))) := by
  refine ef_of_run (fun _ _ _ _ => rfl) (fun _ hc => by cases hc) fun ρ w hA hw => ?_
  subst hw
  obtain ⟨h', e1, e2, e3, e4⟩ := run_stores_bk (P := P) us o 0 cs w f.get (by simpa using ho) h1
  refine ⟨undef, { w with heap := h' }, .inr ⟨rfl, ?_⟩, ⟨⟨Nat.le_of_eq e2.symm, fun _ _ => rfl, fun i _ hi => e3 i fun hib => hi (by rw [hib]; exact f.col), fun i h1 h2 => ?_⟩, f.col, ?_⟩, rfl, rfl, rfl⟩
  · have hc1 : (Value.agg us.toArray).cells.size = m := by simp [Value.cells, hm]
    simp only [execOp, hA x _ hx, hA y _ hy, Instr.storeAt, Instr.sureAddr, storeVar, Sem.run_bind, Sem.run_pure, Result.andThen, hc1]
    simp [(ht.spec w).2, Value.cells, e1]
  · have h2' : i < h'.size := h2
    rw [e2] at h2'
    omega
  · simpa using e4

theorem Ow.owns {w : World} {sz : Nat} (f : Ow c π w.heap T sz v cs) : w.ownsRow 0 T sz v (sn v) cs := by
  refine ⟨f.len, f.ex.imp (fun ⟨h1, h2⟩ => ⟨h1, by rw [h1]; rfl⟩) ?_⟩
  rintro ⟨g, cap, cur, h1, h2, h3, h4, h5, h6, h7⟩
  exact ⟨g, cap, cur, h1, Nat.zero_le _, h3, h4, h5, h6, h7⟩
/-- append(x, y...) onto a slice that is being built. -/
theorem e_app {t el sz bytes : Nat} {z : Value} (ht : Slc P t el sz) (hi : Inf P el z sz bytes) (hz : z.cells.size = sz) (hp : Nat.ble 1 sz = true) (hby : Nat.ble bytes 2048 = true)
    (hx : ev e x = some v) (hy : ev e y = some u) (f : Ow c π h el sz v cs) (s : Sl c ρ h sz u ds) (h1 : ∀ x ∈ ds, x.oneCell' = true) (hb : sn v + sn u ≤ 68719476736) (n : Nat) (hπ : π.1 < n) :
    Ef P rd e h ⟨d, .call ⟨.builtin .append, #[x, y], #[t, t]⟩, ty, pos, aft, none⟩ (fun v' h' => ∃ c', Mod n (only π) c h c' h' ∧ Ow c' π h' el sz v' (cs ++ ds) ∧ sn v' = sn v + sn u) := by
  obtain ⟨i, h2, h3, h4, h5⟩ := hi.spec
  obtain ⟨h6, inf, h7, h8⟩ := ht.spec
  obtain ⟨tc, htc⟩ := resolve_builtin .append #[x, y] #[t, t] ty
  have hp' : 1 ≤ sz := by simpa using hp
  have hby' : bytes ≤ 2048 := by simpa using hby
  have hbb : (sn v + sn u) * bytes ≤ 140737488355328 := by
    have : (sn v + sn u) * bytes ≤ 68719476736 * 2048 := Nat.mul_le_mul hb hby'
    omega
  refine ef_of_run (fun ρ _ _ _ => by simp only [Oper.about, htc]; rfl) (fun _ hc => by cases hc) fun ρ w hA hw => ?_
  subst hw
  have hown := f.owns
  have key : ∃ v' w', (Builtin.append_ #[t, t] ty #[v, u]).run P w = .ok v' w' ∧ w'.ownsRow 0 el sz v' (sn v + sn u) (cs ++ ds) ∧ w.grownBy w' v.ownBlock ∧ (v'.ownBlock = v.ownBlock ∨ v'.ownBlock = some w.heap.size) ∧ sn v' = sn v + sn u := by
    cases u with
    | slice A m cap =>
      cases A with
      | none =>
        have hm : m = 0 := by simpa [isSlice] using s.is
        subst hm
        have hd : ds = [] := List.eq_nil_of_length_eq_zero (by simpa [sn] using s.len)
        subst hd
        have hv : ∃ A cap, v = .slice A (sn v) cap ∧ sn v ≤ cap := by
          rcases f.ex with ⟨rfl, _⟩ | ⟨g, cap, cur, hv, _, _, hle, _⟩
          · exact ⟨none, 0, rfl, Nat.le_refl _⟩
          · exact ⟨_, cap, hv, hle⟩
        obtain ⟨A, cap', hv, hle⟩ := hv
        refine ⟨v, w, ?_, by simpa [sn] using hown, ⟨rfl, rfl, rfl, Nat.le_refl _, fun _ _ _ => rfl⟩, .inl rfl, by simp [sn]⟩
        rw [hv]
        exact run_append_nothing w t t ty el i h6 h2 A _ cap' hle _ (Src.ofNil w h6 cap)
      | some a =>
        obtain ⟨ab, ao, sp⟩ := a
        have hsp : sp = none := by simpa [isSlice] using s.is
        subst hsp
        obtain ⟨v', w', e1, e2, e3, _, e5⟩ := run_append_own_at (P := P) w 0 t ty el i z sz bytes h6 h2 h3 h4 h5 hz hp' v (sn v) cs hown ⟨ab, ao, none⟩ m cap ds s.len (fun j q hq => by rw [addr_add, cell_cel rfl]; exact s.get j q hq) h1 (by simp only [maxLen]; have hb' : sn v + m ≤ 68719476736 := hb; omega) hbb (Nat.zero_le _)
        refine ⟨v', w', e1, e2, e3, e5, ?_⟩
        rcases e2.2 with ⟨hv, hn⟩ | ⟨g, cap', cur, hv, _⟩
        · rw [hv, ← hn]; rfl
        · rw [hv]; rfl
    | _ => exact absurd s.is (by simp [isSlice])
  obtain ⟨v', w', e1, e2, e3, e4, e5⟩ := key
  have hargs : (#[x, y] : Array Operand).map ρ = #[v, u] := by simp [hA x _ hx, hA y _ hy]
  refine ⟨v', w', .inl ?_, ⟨fun b => if b < w.heap.size then c b else π, ⟨e3.size, fun b hb => if_pos hb, fun b hb hn => e3.block b hb fun hbv => hn ?_, fun b hb _ => by rw [if_neg (by omega)]; exact hπ⟩, ⟨?_, ?_, ?_⟩, e5⟩, e3.os, e3.tape, e3.output⟩
  · simp only [execOp, htc, hargs, Sem.run_bind, Sem.run_pure, Result.andThen, invoke, builtin, e1]
  · rcases f.ex with ⟨rfl, _⟩ | ⟨g, cap, cur, hv, hg, _⟩
    · cases hbv
    · rw [hv] at hbv
      cases hbv
      exact hg
  · rw [e5]; exact e2.1
  · rw [e5]; exact hb
  · rw [e5]
    rcases e2.2 with ⟨hv, hn⟩ | ⟨g, cap, cur, hv, _, hg, hrest⟩
    · exact .inl ⟨hv, List.eq_nil_of_length_eq_zero (by rw [e2.1, hn, Nat.zero_mul])⟩
    · refine .inr ⟨g, cap, cur, hv, ?_, hg, hrest⟩
      rw [hv] at e4
      rcases e4 with e4 | e4
      · rcases f.ex with ⟨rfl, _⟩ | ⟨g', cap', cur', hv', hg', hh', _⟩
        · cases e4
        · rw [hv'] at e4
          have : g = g' := by simpa [Value.ownBlock] using e4
          subst this
          rw [if_pos (Array.getElem?_eq_some_iff.1 hh').1]
          exact hg'
      · have : g = w.heap.size := by simpa [Value.ownBlock] using e4
        rw [if_neg (by omega)]
end

/-! ### Calls -/
section
variable {P : Program} {rd : Option Nat} {e : Env} {h : Heap} {d : Option Tmp} {ty : TypeId} {pos : String} {aft : Array Edge}
theorem ef_of_enter {o : Oper} {f : FuncId} {vals : List Value} {R : Value → Heap → Prop} (hd : ∀ c, o.op ≠ .defer c)
    (he : ∀ (ρ : Operand → Value) (w : World), Agree e ρ → w.heap = h → (execOp ρ o).run P w = .ok (.enter f vals.toArray) w) (hr : Ret P f vals h R) : Ef P rd e h o R := by
  intro a w hA hw next hn
  refine ⟨fun _ _ => trivial, ?_⟩
  rw [show (Wd rd).round = rd from rfl, Oper.semAt_eq rd _ o hd, he _ w hA hw]
  refine ⟨fun hh => by simp [Wd] at hh, callsWd ((hr w hw).mono ?_)⟩
  rintro en w' ⟨v, rfl, h1, h2, h3, h4⟩
  exact hn v w' h4 h1 h2 h3
/-- A call of a function by its name. -/
theorem e_call {f : FuncId} {args : Array Operand} {ts : Array TypeId} {vals : List Value} {R : Value → Heap → Prop} (hf : Enters P f) (ha : evs e args.toList = some vals) (hr : Ret P f vals h R) :
    Ef P rd e h ⟨d, .call ⟨.value (.func f), args, ts⟩, ty, pos, aft, none⟩ R :=
  ef_of_enter (fun _ hc => by cases hc) (fun ρ w hA _ => by
    have h2 : args.map ρ = vals.toArray := by rw [← hA.evs ha, ← Array.toList_map, Array.toArray_toList]
    have h3 : ρ (.func f) = .func (.func f) #[] #[] := hA _ _ rfl
    simp only [execOp, resolve, h2, h3, Deferred.ofValue, Sem.run_bind, Sem.run_pure, Result.andThen, invoke]
    simpa using hf vals.toArray w) hr
/-- A call of a function value. -/
theorem e_callv {f : FuncId} {x : Operand} {args : Array Operand} {ts : Array TypeId} {vals : List Value} {first cap : List Value} {R : Value → Heap → Prop} (hf : Enters P f) (hx : ev e x = some (.func (.func f) first.toArray cap.toArray)) (ha : evs e args.toList = some vals) (hr : Ret P f (first ++ vals ++ cap) h R) :
    Ef P rd e h ⟨d, .call ⟨.value x, args, ts⟩, ty, pos, aft, none⟩ R :=
  ef_of_enter (fun _ hc => by cases hc) (fun ρ w hA _ => by
    have h2 : args.map ρ = vals.toArray := by rw [← hA.evs ha, ← Array.toList_map, Array.toArray_toList]
    have h3 : ρ x = .func (.func f) first.toArray cap.toArray := hA _ _ hx
    have h4 : first.toArray ++ vals.toArray ++ cap.toArray = (first ++ vals ++ cap).toArray := by simp
    simp only [execOp, resolve, h2, h3, Deferred.ofValue, Sem.run_bind, Sem.run_pure, Result.andThen, invoke]
    rw [h4]
    exact hf _ w) hr
/-- A method called on an interface value. -/
def Mth (P : Program) (t : TypeId) (name : String) (f : FuncId) : Prop := ∀ (b : Nat) (w : World), (method (P.types.size + Made.depth) t (.pointer (some ⟨b, 0, none⟩)) name).run P w = .ok (f, .pointer (some ⟨b, 0, none⟩)) w
theorem e_inv {f : FuncId} {x : Operand} {t : TypeId} {b : Nat} {name : String} {args : Array Operand} {ts : Array TypeId} {vals : List Value} {R : Value → Heap → Prop} (hm : Mth P t name f) (hf : Enters P f) (hx : ev e x = some (.iface t (.pointer (some ⟨b, 0, none⟩)))) (ha : evs e args.toList = some vals)
    (hr : Ret P f (.pointer (some ⟨b, 0, none⟩) :: vals) h R) : Ef P rd e h ⟨d, .call ⟨.invoke x name, args, ts⟩, ty, pos, aft, none⟩ R :=
  ef_of_enter (fun _ hc => by cases hc) (fun ρ w hA _ => by
    have h2 : args.map ρ = vals.toArray := by rw [← hA.evs ha, ← Array.toList_map, Array.toArray_toList]
    have h3 : ρ x = .iface t (.pointer (some ⟨b, 0, none⟩)) := hA _ _ hx
    have h5 : (#[Value.iface t (.pointer (some ⟨b, 0, none⟩))] ++ vals.toArray).extract 1 (#[Value.iface t (.pointer (some ⟨b, 0, none⟩))] ++ vals.toArray).size = vals.toArray := by simp
    have h6 : #[Value.pointer (some ⟨b, 0, none⟩)] ++ vals.toArray = (Value.pointer (some ⟨b, 0, none⟩) :: vals).toArray := by simp
    simp only [execOp, resolve, h2, h3, Sem.run_bind, Sem.run_pure, Result.andThen, invoke]
    rw [show (#[Value.iface t (.pointer (some ⟨b, 0, none⟩))] ++ vals.toArray)[0]? = some (Value.iface t (.pointer (some ⟨b, 0, none⟩))) by simp]
    simp only [h5, callMethod, program, Sem.run_bind, Sem.run, Result.andThen, hm b w, h6]
    exact hf _ w) hr
end
end Go.TP
