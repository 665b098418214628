/- Ry is sound, part 8: operations that make or turn memory. -/
import Derived.Test.YtnmdbemccdhdmaaGreatDoorRz7
namespace Go.TP
open Go
namespace Ry
variable {P : Program} {R : Type} {d : Option (Slot R)} {x y z : Operand} {xo yo zo : OD R}
section
variable {ρ : Rn} {H : AH} {h : Heap}
noncomputable def upd (ρ : Rn) (b : Pth) (lo : Lo) : Rn := fun q => if q = b then some lo else ρ q
theorem upd_le {b : Pth} {lo : Lo} (hb : ρ b = none) : Le ρ (upd ρ b lo) := by
  intro q l hq
  unfold upd
  rw [if_neg (fun he => by rw [he, hb] at hq; cases hq)]
  exact hq
/-- A new block. -/
theorem hr_new (hh : HR P ρ H h) (B : AB) (lo : Lo) (ob : Obj) (hg : lo.g = h.size) (hB : BR (upd ρ H.next lo) (h.push ob) lo B) :
    HR P (upd ρ H.next lo) ⟨Pth.succ H.next, setT (some B) H.next H.blocks⟩ (h.push ob) ∧ Nx ρ H h (upd ρ H.next lo) ⟨Pth.succ H.next, setT (some B) H.next H.blocks⟩ (h.push ob) := by
  obtain ⟨hn1, hn2⟩ := hh.new H.next (Nat.le_refl _)
  have hle := upd_le (lo := lo) hn1
  have hold : ∀ b, b ≠ H.next → upd ρ H.next lo b = ρ b := fun b hb => if_neg hb
  have hnew : upd ρ H.next lo H.next = some lo := if_pos rfl
  have hget : ∀ b, getT (setT (some B) H.next H.blocks) b = if b = H.next then some B else getT H.blocks b := fun b => getT_setT _ _ _ _
  have hsz : (h.push ob).size = h.size + 1 := by simp
  have hps : ∀ g, g < h.size → (h.push ob)[g]? = h[g]? := fun g hg' => by rw [Array.getElem?_push, if_neg (by omega)]
  refine ⟨⟨fun b B' hb => ?_, fun b b' l l' h1 h2 h3 h4 h5 => ?_, fun b hb => ?_, fun p hp => ?_⟩, ⟨hle, by omega, fun g hg' _ => hps g hg', fun b l T m s cs B' hb h1 h2 => ?_, fun b l hb h1 => ?_, fun b l hb h1 _ => ?_⟩⟩
  · rw [hget] at hb
    by_cases he : b = H.next
    · rw [if_pos he] at hb; cases hb; rw [he]; exact ⟨lo, hnew, hB⟩
    · rw [if_neg he] at hb
      obtain ⟨l, h1, h2⟩ := hh.blk b B' hb
      exact ⟨l, hle b l h1, (h2.same (hps l.g h2.lt)).mono hle⟩
  · rw [hget] at h1 h2
    by_cases he : b = H.next <;> by_cases he' : b' = H.next
    · rw [he, he']
    · rw [if_neg he'] at h2
      obtain ⟨B', hB'⟩ := Option.isSome_iff_exists.1 h2
      obtain ⟨l2, k1, k2⟩ := hh.blk b' B' hB'
      rw [hold b' he', k1] at h4
      cases h4
      rw [he, hnew] at h3
      cases h3
      have := k2.lt
      omega
    · rw [if_neg he] at h1
      obtain ⟨B', hB'⟩ := Option.isSome_iff_exists.1 h1
      obtain ⟨l2, k1, k2⟩ := hh.blk b B' hB'
      rw [hold b he, k1] at h3
      cases h3
      rw [he', hnew] at h4
      cases h4
      have := k2.lt
      omega
    · rw [if_neg he] at h1; rw [if_neg he'] at h2
      rw [hold b he] at h3; rw [hold b' he'] at h4
      exact hh.inj b b' l l' h1 h2 h3 h4 h5
  · have hb' : num H.next + 1 ≤ num b := by have := hb; simp only [num_succ] at this; exact this
    have hne : b ≠ H.next := fun he => by rw [he] at hb'; omega
    obtain ⟨k1, k2⟩ := hh.new b (by omega)
    exact ⟨(hold b hne).trans k1, by rw [hget, if_neg hne]; exact k2⟩
  · obtain ⟨l, k1, k2⟩ := hh.glob p hp
    exact ⟨l, hle p l k1, k2⟩
  · have hne : b ≠ H.next := fun he => by rw [he, hn1] at hb; cases hb
    rw [hget, if_neg hne, h1] at h2
    cases h2
    exact ⟨T, m, s, cs, rfl, Nat.le_refl _⟩
  · have hne : b ≠ H.next := fun he => by rw [he, hn1] at hb; cases hb
    rw [hget, if_neg hne] at h1
    exact h1
  · have he : b = H.next := by
      by_cases he : b = H.next
      · exact he
      · rw [hold b he, hb] at h1; cases h1
    rw [he, hnew] at h1
    cases h1
    exact .inl (by omega)
/-- A block is turned. -/
theorem hr_set (hh : HR P ρ H h) {b : Pth} {T : Nat} {m : Md} {s : Nat} {cs cs' : List AV} {lo : Lo} {h' : Heap} (hb : getT H.blocks b = some (.cells T m s cs)) (hρ : ρ b = some lo) (hsz : h'.size = h.size) (hoth : ∀ i, i ≠ lo.g → h'[i]? = h[i]?)
    (hB : BR ρ h' lo (.cells T m (s + 1) cs')) : HR P ρ ⟨H.next, setT (some (.cells T m (s + 1) cs')) b H.blocks⟩ h' ∧ Nx ρ H h ρ ⟨H.next, setT (some (.cells T m (s + 1) cs')) b H.blocks⟩ h' := by
  have hget : ∀ q, getT (setT (some (.cells T m (s + 1) cs')) b H.blocks) q = if q = b then some (.cells T m (s + 1) cs') else getT H.blocks q := fun q => getT_setT _ _ _ _
  have hsome : ∀ q, (getT (setT (some (.cells T m (s + 1) cs')) b H.blocks) q).isSome → (getT H.blocks q).isSome := by
    intro q hq
    rw [hget] at hq
    by_cases he : q = b
    · rw [he, hb]; rfl
    · rw [if_neg he] at hq; exact hq
  refine ⟨⟨fun q B' hq => ?_, fun q q' l l' h1 h2 h3 h4 h5 => hh.inj q q' l l' (hsome q h1) (hsome q' h2) h3 h4 h5, fun q hq => ?_, hh.glob⟩, ⟨Le.refl _, by omega, fun g hg hk => ?_, fun q l T' m' s' cs1 B' hq h1 h2 => ?_, fun q l _ h1 => hsome q h1, fun q l h1 h2 _ => by rw [h1] at h2; cases h2⟩⟩
  · rw [hget] at hq
    by_cases he : q = b
    · rw [if_pos he] at hq; cases hq; rw [he]; exact ⟨lo, hρ, hB⟩
    · rw [if_neg he] at hq
      obtain ⟨l, h1, h2⟩ := hh.blk q B' hq
      refine ⟨l, h1, h2.same (hoth l.g fun hg => he (hh.inj q b l lo (by rw [hq]; rfl) (by rw [hb]; rfl) h1 hρ hg))⟩
  · obtain ⟨k1, k2⟩ := hh.new q hq
    refine ⟨k1, ?_⟩
    rw [hget, if_neg (fun he => by rw [he, hb] at k2; cases k2)]
    exact k2
  · refine hoth g fun he => ?_
    obtain ⟨T1, m1, s1, cs1, T2, m2, cs2, k1, k2⟩ := hk b lo (by rw [hb]; rfl) hρ he.symm
    rw [hb] at k1
    have k2 : getT (setT (some (.cells T m (s + 1) cs')) b H.blocks) b = some (.cells T2 m2 s1 cs2) := k2
    rw [hget, if_pos rfl] at k2
    cases k1
    cases k2
  · have h2 : getT (setT (some (.cells T m (s + 1) cs')) b H.blocks) q = some B' := h2
    rw [hget] at h2
    by_cases he : q = b
    · rw [if_pos he] at h2; cases h2
      rw [he, hb] at h1; cases h1
      exact ⟨_, _, _, _, rfl, by omega⟩
    · rw [if_neg he, h1] at h2; cases h2
      exact ⟨_, _, _, _, rfl, Nat.le_refl _⟩
end
/-- What may come of an operation: a value, a heap, and what stands behind goes on with them. -/
def Out (P : Program) (ρ : Rn) (H : AH) (h : Heap) (k : AV → AH → Option R) (u : Value) (h' : Heap) : Prop :=
  ∃ ρ' v H' r, k v H' = some r ∧ HR P ρ' H' h' ∧ Nx ρ H h ρ' H' h' ∧ VR ρ' v u
/-- An operation that makes or turns memory, or calls nothing. -/
def EffS (P : Program) (op : Op) (d : Option (Slot R)) (i : Ins R) : Prop :=
  ∀ cx κ e H r, i cx κ e H = some r → ∀ ρ h E, HR P ρ H h → ER ρ e E → ∀ rd dst ty pos aft, Ef P rd E h ⟨dst, op, ty, pos, aft, none⟩ (Out P ρ H h fun v H' => put d v κ e H')
theorem DatS.eff {op : Op} {i : Ins R} (hd : DatS P op d i) (hnd : ∀ c, op ≠ .defer c) : EffS P op d i := by
  intro cx κ e H r hr ρ h E hh he rd dst ty pos aft
  obtain ⟨v, h1, h2⟩ := hd cx κ e H r hr
  obtain ⟨u, h3, h4⟩ := h2 ρ h E hh he
  have h5 := h4 h (fun _ _ _ _ _ _ => rfl) dst ty pos aft none
  refine ef_of_run (fun σ w hA hw => (h5 σ w hA hw).2) hnd fun σ w hA hw => ⟨u, w, .inl (h5 σ w hA hw).1, ?_, rfl, rfl, rfl⟩
  subst hw
  exact ⟨ρ, v, H, r, h1, hh, Nx.refl _ _ _, h3⟩
theorem new_some {H : AH} {B : AB} {k : Pth → AH → Option R} {r : R} (h : new H B k = some r) : k H.next ⟨Pth.succ H.next, setT (some B) H.next H.blocks⟩ = some r := by
  obtain ⟨n, t⟩ := H
  simp only [new] at h
  rw [setK_eq] at h
  exact h
theorem putB_some {H : AH} {b : Pth} {B : AB} {k : AH → Option R} {r : R} (h : putB H b B k = some r) : k ⟨H.next, setT (some B) b H.blocks⟩ = some r := by
  obtain ⟨n, t⟩ := H
  simp only [putB] at h
  rw [setK_eq] at h
  exact h
theorem eff_al {T : Nat} {z : AV} (hz : zeroB P T = some z) : EffS P (.alloc T) d (iAl (R := R) d T (cellsOf z)) := by
  intro cx κ e H r hr ρ h E hh he rd dst ty pos aft
  replace hr := new_some hr
  obtain ⟨zv, z1, zs, z2, z3⟩ := zero_cells hz
  refine ef_of_run (fun _ _ _ _ => rfl) (fun _ hc => by cases hc) fun σ w hA hw => ?_
  subst hw
  obtain ⟨k1, k2⟩ := hr_new hh (.cells T .shut 0 (cellsOf z)) ⟨w.heap.size, 0, default, [], 0⟩ (.cells zs.toArray T) rfl ⟨zs, z3 _, by simp⟩
  refine ⟨.pointer (some ⟨w.heap.size, 0, none⟩), { w with heap := w.heap.push (.cells zs.toArray T) }, .inl ?_, ⟨_, _, _, r, hr, k1, k2, VR.P (lo := ⟨w.heap.size, 0, default, [], 0⟩) (if_pos rfl)⟩, rfl, rfl, rfl⟩
  simp [execOp, Instr.alloc, z1, z2, newVar, newRow, newObj, Sem.run, Result.andThen]
theorem eff_bx {T : Nat} (hx : OpS P x xo) : EffS P (.box T x) d (iBx d T xo) := by
  intro cx κ e H r hr ρ h E hh he rd dst ty pos aft
  simp only [iBx, hx.eq] at hr
  replace hr := bind_some hr
  obtain ⟨v, hv, hr⟩ := hr
  replace hr := new_some hr
  obtain ⟨u, u1, u2⟩ := hx.ok ρ H h e E v hh he hv
  obtain ⟨us, u3, u4⟩ := u1.cells
  refine ef_of_run (fun _ _ _ _ => rfl) (fun _ hc => by cases hc) fun σ w hA hw => ?_
  subst hw
  obtain ⟨k1, k2⟩ := hr_new hh (.cells T .shut 0 (cellsOf v)) ⟨w.heap.size, 0, default, [], 0⟩ (.cells us.toArray T) rfl ⟨us, u4.mono (upd_le (hh.new _ (Nat.le_refl _)).1), by simp⟩
  refine ⟨.pointer (some ⟨w.heap.size, 0, none⟩), { w with heap := w.heap.push (.cells us.toArray T) }, .inl ?_, ⟨_, _, _, r, hr, k1, k2, VR.P (lo := ⟨w.heap.size, 0, default, [], 0⟩) (if_pos rfl)⟩, rfl, rfl, rfl⟩
  simp [execOp, hA x _ u2, Instr.box, u3, newVar, newRow, newObj, Sem.run]
theorem rep_cells {zs : List Value} {n k : Nat} (hk : k = n * zs.length) : (Array.range k).map (fun i => zs.toArray[i % zs.toArray.size]!) = (List.replicate n zs).flatten.toArray := by
  subst hk
  apply Array.ext'
  rw [Array.toList_map, Array.toList_range]
  induction n with
  | zero => simp
  | succ n ih =>
    rw [Nat.succ_mul, Nat.add_comm, List.range_add, List.map_append, List.replicate_succ, List.flatten_cons]
    congr 1
    · apply List.ext_getElem
      · simp
      · intro i h1 h2
        simp at h1 h2
        simp [Nat.mod_eq_of_lt h1, h1]
    · have ih : _ = (List.replicate n zs).flatten := ih
      rw [List.map_map, ← ih]
      apply List.map_congr_left
      intro i _
      simp
theorem parts_new {t T sz n : Nat} {z : AV} {ps : Array (Nat × Operand)} {qs : List (Part R)} (ht : elemB P t = some (T, sz)) (hz : zeroB P T = some z) (hzl : (cellsOf z).length = sz)
    (hq : parts P (fun i => natK (i * sz) fun o => some (o, sz)) ps.toList = some qs) {e : EV} {k : List AV → Option R} {r : R} (hr : (repK (cellsOf z) n fun cs => partsK qs cs e k) = some r) :
    ∃ cs', k cs' = some r ∧ cs'.length = n * sz ∧ ∀ ρ H h E, HR P ρ H h → ER ρ e E → ∃ vs, VRs ρ cs' vs ∧ (n * sz ≤ 16777216 → ∀ σ : Operand → Value, (∀ q ∈ ps.toList, ∀ u, ev E q.2 = some u → σ q.2 = u) → ∀ w : World, (Instr.buildSlice t n (ps.map fun (i, x) => (i, σ x))).run P w = .ok (.slice (some ⟨w.heap.size, 0, none⟩) n n) { w with heap := w.heap.push (.cells vs.toArray T) }) := by
  rw [repK_eq] at hr
  obtain ⟨cs, h1, h2, h3⟩ := parts_ok hq hr
  obtain ⟨zv, z1, zs, z2, z3⟩ := zero_cells hz
  have hl : ((List.replicate n (cellsOf z)).flatten).length = n * sz := by simp [hzl]
  refine ⟨cs, h1, h2.trans hl, fun ρ H h E hh he => ?_⟩
  obtain ⟨vs, k1, k2⟩ := h3 ρ H h E _ hh he ((z3 ρ).rep n)
  refine ⟨vs, k1, fun hle σ hA w => ?_⟩
  obtain ⟨e1, inf, e2, e3⟩ := (elemB_spec ht).spec
  have hzsl : zs.length = sz := by rw [(z3 ρ).len, hzl]
  have hfill := k2 σ hA (fun i => some (i * sz, sz)) (fun i q hi => by simpa using hi)
  have hm : (ps.map fun (i, x) => (i, σ x)).toList = ps.toList.map fun p => (p.1, σ p.2) := by rw [Array.toList_map]
  have hs : (sizeOf T).run P w = .ok sz w := by simp [sizeOf, typeInfo, e2, e3]
  have hrep := rep_cells (zs := zs) (n := n) (k := n * sz) (by rw [hzsl])
  by_cases h0 : n * sz = 0
  · have hnil : (List.replicate n zs).flatten = [] := List.eq_nil_of_length_eq_zero (by simp [hzsl, h0])
    rw [hnil] at hfill
    have hle' : ¬ n * sz > 2 ^ 24 := by omega
    simp only [Instr.buildSlice, Sem.run_bind, run_underlying e1, hs, Result.andThen, if_neg hle', h0, if_true, Sem.run_pure, hm]
    simp only [Array.range_zero', List.map_toArray, List.map_nil, Array.map_empty, Sem.run_pure, Sem.run_bind, Result.andThen] at hfill ⊢
    simp [hfill, newRow, newObj, Sem.run]
  · have hle' : ¬ n * sz > 2 ^ 24 := by omega
    simp only [Instr.buildSlice, Sem.run_bind, run_underlying e1, hs, Result.andThen, if_neg hle', if_neg h0, Sem.run_pure, z1, z2, hm, hrep, hfill]
    simp [newRow, newObj, Sem.run]
theorem eff_bs {t T sz n : Nat} {z : AV} {ps : Array (Nat × Operand)} {qs : List (Part R)} (ht : elemB P t = some (T, sz)) (hz : zeroB P T = some z) (hzl : (cellsOf z).length = sz)
    (hq : parts P (fun i => natK (i * sz) fun o => some (o, sz)) ps.toList = some qs) : EffS P (.buildSlice t n ps) d (iBs d T n sz (cellsOf z) qs) := by
  intro cx κ e H r hr ρ h E hh he rd dst ty pos aft
  simp only [iBs, ifK_eq] at hr
  split at hr
  · rename_i hle
    have hle := Nat.le_of_ble_eq_true hle
    obtain ⟨cs, hr, hlen, hv⟩ := parts_new ht hz hzl hq hr
    replace hr := new_some hr
    obtain ⟨vs, k1, k2⟩ := hv ρ H h E hh he
    refine ef_of_run (fun _ _ _ _ => rfl) (fun _ hc => by cases hc) fun σ w hA hw => ?_
    subst hw
    obtain ⟨k3, k4⟩ := hr_new hh (.cells T .shut 0 cs) ⟨w.heap.size, 0, default, [], 0⟩ (.cells vs.toArray T) rfl ⟨vs, k1.mono (upd_le (hh.new _ (Nat.le_refl _)).1), by simp⟩
    refine ⟨_, { w with heap := w.heap.push (.cells vs.toArray T) }, .inl ?_, ⟨_, _, _, r, hr, k3, k4, VR.S (lo := ⟨w.heap.size, 0, default, [], 0⟩) (m := n) (if_pos rfl) rfl (Nat.le_refl _)⟩, rfl, rfl, rfl⟩
    have := k2 hle σ (fun q _ u hu => hA q.2 u hu) w
    simp only [execOp, Sem.run_bind, this, Result.andThen]
    rfl
  · cases hr
theorem eff_mk {t T sz : Nat} {z : AV} (ht : elemB P t = some (T, sz)) (hz : zeroB P T = some z) (hzl : (cellsOf z).length = sz) (hb : ∀ inf, P.info? T = some inf → inf.bytes ≤ 1024) (hx : OpS P x xo) (hy : OpS P y yo) : EffS P (.makeSlice t x y) d (iMk d T (cellsOf z) xo yo) := by
  intro cx κ e H r hr ρ h E hh he rd dst ty pos aft
  simp only [iMk, hx.eq] at hr
  replace hr := bind_some hr
  obtain ⟨v, hv, hr⟩ := hr
  replace hr := asN_some hr
  obtain ⟨ik, l, rfl, hr⟩ := hr
  simp only [hy.eq] at hr
  replace hr := bind_some hr
  obtain ⟨v, hv', hr⟩ := hr
  replace hr := asN_some hr
  obtain ⟨jk, c, rfl, hr⟩ := hr
  simp only [ifK_eq] at hr
  split at hr
  · rename_i hle
    simp only [Bool.and_eq_true] at hle
    have h1 := Nat.le_of_ble_eq_true hle.1
    have h2 := Nat.le_of_ble_eq_true hle.2
    rw [repK_eq] at hr
    replace hr := new_some hr
    obtain ⟨u, u1, u2⟩ := hx.ok ρ H h e E _ hh he hv
    obtain ⟨u', u3, u4⟩ := hy.ok ρ H h e E _ hh he hv'
    cases u1; cases u3
    obtain ⟨inf, zv, z1, z2, z3⟩ := zeroB_spec hz
    obtain ⟨zs, z4, z5⟩ := (ofV_VR ρ z3).cells
    obtain ⟨e1, inf', e2, e3⟩ := (elemB_spec ht).spec
    rw [z1] at e2; cases e2
    refine ef_of_run (fun _ _ _ _ => rfl) (fun _ hc => by cases hc) fun σ w hA hw => ?_
    subst hw
    have hzsl : zs.length = sz := by rw [z5.len, hzl]
    have hbb := hb inf z1
    have hmake := run_make (P := P) w t T inf zv e1 z1 z2 ik jk l c (by omega) (by omega) (by have : inf.bytes * c ≤ 1024 * 1048576 := Nat.mul_le_mul hbb h2; have h3 : ((inf.bytes * c : Nat) : Int) ≤ 281474976710656 := (by omega); rwa [Int.natCast_mul] at h3) (by omega)
    have hcells : madeCells zv.cells (c * inf.size) = (List.replicate c zs).flatten.toArray := by
      unfold madeCells
      rw [z4]
      exact rep_cells (by rw [e3, hzsl])
    simp only [Int.toNat_natCast, hcells] at hmake
    obtain ⟨k3, k4⟩ := hr_new hh (.cells T .shut 0 (List.replicate c (cellsOf z)).flatten) ⟨w.heap.size, 0, default, [], 0⟩ (.cells (List.replicate c zs).flatten.toArray T) rfl ⟨_, (z5.rep c).mono (upd_le (hh.new _ (Nat.le_refl _)).1), by simp⟩
    refine ⟨_, { w with heap := w.heap.push (.cells (List.replicate c zs).flatten.toArray T) }, .inl ?_, ⟨_, _, _, r, hr, k3, k4, VR.S (lo := ⟨w.heap.size, 0, default, [], 0⟩) (m := c) (if_pos rfl) rfl h1⟩, rfl, rfl, rfl⟩
    simp only [execOp, hA x _ u2, hA y _ u4, Sem.run_bind]
    erw [hmake]
    rfl
  · cases hr
end Ry
end Go.TP
