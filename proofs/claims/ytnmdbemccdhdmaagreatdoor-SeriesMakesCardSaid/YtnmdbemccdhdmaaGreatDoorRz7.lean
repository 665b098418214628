/- Ry is sound, part 7: strings of bytes, structs and arrays that are built. -/
import Derived.Test.YtnmdbemccdhdmaaGreatDoorRz6
namespace Go.TP
open Go
namespace Ry
variable {P : Program} {R : Type} {d : Option (Slot R)} {x y z : Operand} {xo yo zo : OD R}
theorem slCells_some {H : AH} {sz : Nat} {v : AV} {k : List AV → Option R} {r : R} (hr : slCells H sz v k = some r) : ∃ cs n, k cs = some r ∧ cs.length = n * sz ∧ ∀ ρ h u, HR P ρ H h → VR ρ v u →
    ∃ a m us, u = .slice a n m ∧ VRs ρ cs us ∧ (a = none → n = 0) ∧ (∀ ad, a = some ad → ad.spot = none) ∧ (∀ ad, a = some ad → ∀ h', (∀ b, blkOf (some v) = some b → ∀ lo, ρ b = some lo → h'[lo.g]? = h[lo.g]?) → ∀ j u, us[j]? = some u → cel h' ad.block (ad.off + j) = some u) := by
  unfold slCells at hr
  split at hr
  · rename_i b o n cp
    cases n with
    | zero =>
      refine ⟨[], 0, hr, by simp, fun ρ h u hh hu => ?_⟩
      cases hu with
      | S h1 h2 h3 => exact ⟨_, _, [], rfl, .nil, fun h => by (cases h), fun ad h => by cases h; rfl, fun _ _ _ _ j u hj => by simp at hj⟩
    | succ n =>
      replace hr : blk H b (fun B => cellsB B fun _ _ _ cs => dropK cs o fun l => takeK l (Nat.mul (Nat.succ n) sz) k) = some r := hr
      replace hr := blk_some hr
      obtain ⟨B, hB, hr⟩ := hr
      replace hr := cellsB_some hr
      obtain ⟨T, m, s, cs, rfl, hr⟩ := hr
      rw [dropK_eq] at hr
      split at hr
      · rw [takeK_eq] at hr
        split at hr
        · rename_i hle hlt
          refine ⟨_, n + 1, hr, by rw [List.length_take]; exact Nat.min_eq_left hlt, fun ρ h u hh hu => ?_⟩
          cases hu with
          | S h1 h2 h3 =>
            obtain ⟨lo, h4, h5⟩ := hh.blk b _ hB
            rw [h1] at h4
            cases h4
            obtain ⟨us, h6, h7⟩ := h5.read
            refine ⟨_, _, _, rfl, (h6.drop o).take _, fun h => by (cases h), fun ad h => (by cases h; rfl), fun ad had h' hk j u hj => ?_⟩
            cases had
            rw [List.getElem?_take] at hj
            split at hj
            · rw [List.getElem?_drop] at hj
              have := h7 (o + j) u hj
              unfold cel at this ⊢
              rw [hk b rfl _ h1]
              exact this
            · cases hj
        · cases hr
      · cases hr
  · refine ⟨[], 0, hr, by simp, fun ρ h u hh hu => ?_⟩
    cases hu
    exact ⟨none, 0, [], rfl, .nil, fun _ => rfl, (fun _ h => by cases h), (fun _ h => by cases h)⟩
  · refine ⟨[], 0, hr, by simp, fun ρ h u hh hu => ?_⟩
    cases hu
    exact ⟨_, _, [], rfl, .nil, fun h => by (cases h), fun ad h => (by cases h; rfl), fun _ _ _ _ j u hj => by simp at hj⟩
  · cases hr
theorem bytesOf_some {ρ : Rn} : ∀ {cs : List AV} {s : List UInt8} {us : List Value}, bytesOf cs = some s → VRs ρ cs us → ∃ ns : List Int, us = ns.map (Value.int .u8) ∧ s = ns.map fun n => UInt8.ofNat n.toNat
  | [], _, _, h, hv => by cases h; cases hv; exact ⟨[], rfl, rfl⟩
  | .I .u8 n :: l, _, _, h, hv => by
    unfold bytesOf at h
    split at h
    · rename_i r hr
      cases h
      cases hv with
      | cons h1 h2 =>
        cases h1
        obtain ⟨ns, h3, h4⟩ := bytesOf_some hr h2
        exact ⟨n :: ns, by rw [h3]; rfl, by rw [h4]; rfl⟩
    · cases h
  | .I .i8 _ :: _, _, _, h, _ => by simp [bytesOf] at h
  | .I .i16 _ :: _, _, _, h, _ => by simp [bytesOf] at h
  | .I .i32 _ :: _, _, _, h, _ => by simp [bytesOf] at h
  | .I .i64 _ :: _, _, _, h, _ => by simp [bytesOf] at h
  | .I .u16 _ :: _, _, _, h, _ => by simp [bytesOf] at h
  | .I .u32 _ :: _, _, _, h, _ => by simp [bytesOf] at h
  | .I .u64 _ :: _, _, _, h, _ => by simp [bytesOf] at h
  | .B _ :: _, _, _, h, _ => by simp [bytesOf] at h
  | .P _ _ :: _, _, _, h, _ => by simp [bytesOf] at h
  | .S _ _ _ _ :: _, _, _, h, _ => by simp [bytesOf] at h
  | .X _ :: _, _, _, h, _ => by simp [bytesOf] at h
theorem foldl_push : ∀ (ns : List Int) (b : ByteArray), ns.foldl (fun r n => r.push (UInt8.ofNat n.toNat)) b = ⟨b.data ++ (ns.map fun n => UInt8.ofNat n.toNat).toArray⟩
  | [], b => by simp
  | n :: ns, b => by
    rw [List.foldl_cons, foldl_push ns]
    congr 1
    simp [ByteArray.push]
theorem dat_bt {s t e' : Nat} (hs : P.underlying s = some (.slice e')) (he' : P.underlying e' = some (.int .u8)) (ht : P.underlying t = some .string) (hx : OpS P x xo) : DatS P (.convert s t x) d (iBt d xo) := by
  intro cx κ e H r hr
  simp only [iBt, hx.eq] at hr
  replace hr := bind_some hr
  obtain ⟨a, ha, hr⟩ := hr
  replace hr := slCells_some (P := P) hr
  obtain ⟨cs, n, hr2, hl, hv⟩ := hr
  · skip
    cases hb : bytesOf cs with
    | none => rw [hb] at hr2; cases hr2
    | some bs =>
      rw [hb] at hr2
      refine ⟨_, hr2, fun ρ h E hh he => ?_⟩
      obtain ⟨u, h1, h2⟩ := hx.ok ρ H h e E _ hh he ha
      obtain ⟨a', m, us, rfl, h3, h4, h5, h6⟩ := hv ρ h u hh h1
      obtain ⟨ns, h7, h8⟩ := bytesOf_some hb h3
      refine ⟨_, .str, fun h' hk dst ty pos aft g => fun σ w hA hw => ⟨?_, rfl⟩⟩
      have hconv := run_convert_bytes_string (P := P) w s t e' a' n m hs he' ht
      have hlen : us.length = n := by rw [h3.len, hl, Nat.mul_one]
      cases a' with
      | none =>
        have hn := h4 rfl
        subst hn
        have : us = [] := List.eq_nil_of_length_eq_zero hlen
        rw [this] at h7
        have hns : ns = [] := by cases ns with | nil => rfl | cons _ _ => cases h7
        subst hns
        simp only [execOp, hA x _ h2, Sem.run_bind, hconv]
        rw [h8]
        simp [Conv.bytesToString]
        rfl
      | some ad =>
        have hld : (loadCells ad n).run P w = .ok (ns.map (Value.int .u8)).toArray w := by
          have := run_loadCells_list (P := P) (w := w) ad us fun j v hj => by
            obtain ⟨b, o, sp⟩ := ad
            have hsp : sp = none := h5 _ rfl
            subst hsp
            rw [addr_add, cell_cel hw]
            exact h6 _ rfl h' (fun b hb lo hlo => hk x rfl b (by rw [ha]; exact hb) lo hlo) j v hj
          rw [hlen, h7] at this
          exact this
        have hbs := run_bytesToString (P := P) w ad n m ns hld
        simp only [execOp, hA x _ h2, Sem.run_bind, hconv, hbs, Result.andThen]
        rw [foldl_push, h8]
        simp
theorem evs_agree {E : Env} {σ : Operand → Value} (hA : Agree E σ) {x : Operand} {u : Value} (h : ev E x = some u) : σ x = u := hA x u h
theorem fill_step {pl : Nat → Option (Nat × Nat)} {i off size : Nat} {zs us : List Value} {u : Value} {rest : List (Nat × Value)} (hp : pl i = some (off, size)) (hu : u.cells = us.toArray) (hs : us.length = size) (hl : off + us.length ≤ zs.length) :
    Instr.fill pl zs.toArray ((i, u) :: rest) = Instr.fill pl (zs.take off ++ us ++ zs.drop (off + us.length)).toArray rest := by
  simp only [Instr.fill, hp]
  have hsz : u.cells.size = us.length := by rw [hu]; simp
  rw [if_neg (by simp [hsz, hs]; omega)]
  have he : Array.foldl (fun cs (x : Value × Nat) => match x with | (c, j) => cs.setIfInBounds (off + j) c) zs.toArray u.cells.zipIdx = (zs.take off ++ us ++ zs.drop (off + us.length)).toArray := by
    have h0 := foldl_splice off us 0 zs.toArray (by simpa using hl)
    simp only [Nat.add_zero] at h0
    rw [hu, ← Array.foldl_toList, Array.toList_zipIdx]
    exact h0
  rw [he]
theorem parts_ok {place : Nat → Option (Nat × Nat)} : ∀ {l : List (Nat × Operand)} {ps : List (Part R)}, parts P place l = some ps → ∀ {cs : List AV} {e : EV} {k : List AV → Option R} {r : R}, partsK ps cs e k = some r →
    ∃ cs', k cs' = some r ∧ cs'.length = cs.length ∧ ∀ ρ H h E vs, HR P ρ H h → ER ρ e E → VRs ρ cs vs → ∃ vs', VRs ρ cs' vs' ∧ ∀ σ : Operand → Value, (∀ q ∈ l, ∀ u, ev E q.2 = some u → σ q.2 = u) → ∀ place' : Nat → Option (Nat × Nat), (∀ i q, place i = some q → place' i = some q) → Instr.fill place' vs.toArray (l.map fun p => (p.1, σ p.2)) = some vs'.toArray
  | [], ps, hp, cs, e, k, r, hr => by
    cases hp
    exact ⟨cs, hr, rfl, fun ρ H h E vs _ _ hv => ⟨vs, hv, fun σ hA pl hpl => by simp [Instr.fill]⟩⟩
  | (i, x) :: l, ps, hp, cs, e, k, r, hr => by
    unfold parts at hp
    split at hp
    · cases hp
    · rename_i off size hpi
      split at hp
      · cases hp
      · rename_i xo hx
        split at hp
        · cases hp
        · rename_i qs hq
          cases hp
          have hx := opnd_ok hx
          change xo e (fun v => ifK (Nat.beq (cellsOf v).length size) (overK (cellsOf v) cs off fun cs => partsK qs cs e k) none) = some r at hr
          rw [hx.eq] at hr
          replace hr := bind_some hr
          obtain ⟨v, hv, hr⟩ := hr
          rw [ifK_eq] at hr
          split at hr
          · rename_i hb
            have hb := Nat.eq_of_beq_eq_true hb
            rw [overK_eq] at hr
            split at hr
            · rename_i hle
              obtain ⟨cs', h1, h2, h3⟩ := parts_ok hq hr
              refine ⟨cs', h1, by rw [h2]; simp; omega, fun ρ H h E vs hh he hvs => ?_⟩
              obtain ⟨u, k1, k2⟩ := hx.ok ρ H h e E _ hh he hv
              obtain ⟨us, k3, k4⟩ := k1.cells
              have hul := k4.len
              have hvl := hvs.len
              obtain ⟨vs', k5, k6⟩ := h3 ρ H h E (vs.take off ++ us ++ vs.drop (off + us.length)) hh he (((hvs.take off).append k4).append (hul ▸ hvs.drop _))
              refine ⟨vs', k5, fun σ hA pl hpl => ?_⟩
              rw [List.map_cons]
              show Instr.fill pl vs.toArray ((i, σ x) :: _) = _
              rw [hA (i, x) (List.mem_cons_self ..) u k2, fill_step (hpl _ _ hpi) k3 (by omega) (by omega)]
              exact k6 σ (fun q hq => hA q (List.mem_cons_of_mem _ hq)) pl hpl
            · cases hr
          · cases hr
theorem zero_cells {t : Nat} {z : AV} (h : zeroB P t = some z) : ∃ zv, (∀ w, (zeroValue t).run P w = .ok zv w) ∧ ∃ zs, zv.cells = zs.toArray ∧ ∀ ρ, VRs ρ (cellsOf z) zs := by
  obtain ⟨inf, zv, h1, h2, h3⟩ := zeroB_spec h
  obtain ⟨zs, h4, _⟩ := (ofV_VR (fun _ => none) h3).cells
  refine ⟨zv, fun w => by simp [zeroValue, typeInfo, h1, h2], zs, h4, fun ρ => ?_⟩
  obtain ⟨zs', h6, h7⟩ := (ofV_VR ρ h3).cells
  rw [h4] at h6
  have : zs = zs' := by simpa using h6
  subst this
  exact h7
theorem run_places' (w : World) : ∀ (fs : List Field), (fs.all fun f => (P.info? f.type).isSome) = true → ∃ places : List (Nat × Nat), (fs.mapM fun f => do Pure.pure (f.offset, ← sizeOf f.type) : Sem (List (Nat × Nat))).run P w = .ok places w ∧
    ∀ (i : Nat) (f : Field) (inf : TypeInfo), fs[i]? = some f → P.info? f.type = some inf → places[i]? = some (f.offset, inf.size)
  | [], _ => ⟨[], rfl, fun i f inf h => by simp at h⟩
  | f :: fs, h => by
    simp only [List.all_cons, Bool.and_eq_true] at h
    obtain ⟨inf, hi⟩ := Option.isSome_iff_exists.1 h.1
    obtain ⟨ps, h1, h2⟩ := run_places' w fs h.2
    refine ⟨(f.offset, inf.size) :: ps, ?_, fun i f' inf' hf hinf => ?_⟩
    · have hso : (sizeOf f.type).run P w = .ok inf.size w := by simp [sizeOf, typeInfo, hi]
      simp only [List.mapM_cons, Sem.run_bind, hso, h1, Result.andThen, Sem.run_pure]
    · cases i with
      | zero => simp at hf; subst hf; rw [hi] at hinf; cases hinf; rfl
      | succ i => simp at hf; simpa using h2 i f' inf' hf hinf
theorem dat_bds {t : Nat} {fs : Array Field} {ps : Array (Nat × Operand)} {z : AV} {qs : List (Part R)} (hz : zeroB P t = some z) (ht : P.underlying t = some (.struct fs)) (hall : (fs.toList.all fun f => (P.info? f.type).isSome) = true)
    (hq : parts P (fun i => match fs[i]? with
          | some f => match P.info? f.type with
            | some inf => natK f.offset fun o => natK inf.size fun s => some (o, s)
            | none => none
          | none => none) ps.toList = some qs) : DatS P (.build t ps) d (iBd d (cellsOf z) qs) := by
  intro cx κ e H r hr
  simp only [iBd] at hr
  obtain ⟨cs, hr, hlen, hv⟩ := parts_ok hq hr
  obtain ⟨zv, z1, zs, z2, z3⟩ := zero_cells hz
  refine ⟨_, hr, fun ρ h E hh he => ?_⟩
  obtain ⟨vs, h1, h2⟩ := hv ρ H h E zs hh he (z3 ρ)
  refine ⟨_, .agg h1, fun h' _ dst ty pos aft g => fun σ w hA hw => ⟨?_, rfl⟩⟩
  obtain ⟨places, p1, p2⟩ := run_places' (P := P) w fs.toList hall
  have hpl' : (fs.mapM fun f => do Pure.pure (f.offset, ← sizeOf f.type) : Sem (Array (Nat × Nat))).run P w = .ok places.toArray w := by
    rw [← Array.toArray_toList (xs := fs), List.mapM_toArray]
    simp only [map_eq_pure_bind, Sem.run_bind, p1, Result.andThen, Sem.run_pure]
  have hfill := h2 σ (fun q _ u hu => hA q.2 u hu) (fun i => places.toArray[i]?) (fun i q hi => by
    split at hi
    · rename_i f hf
      split at hi
      · rename_i inf hinf
        simp only [natK_eq] at hi
        cases hi
        simpa using p2 i f inf (by simpa using hf) hinf
      · cases hi
    · cases hi)
  have hm : (ps.map fun (i, x) => (i, σ x)).toList = ps.toList.map fun p => (p.1, σ p.2) := by
    rw [Array.toList_map]
  simp only [execOp, Instr.build, Sem.run_bind, z1, run_underlying ht, hpl', Result.andThen, z2, hm]
  rw [hfill]
  rfl
theorem dat_bda {t n el : Nat} {inf : TypeInfo} {ps : Array (Nat × Operand)} {z : AV} {qs : List (Part R)} (hz : zeroB P t = some z) (ht : P.underlying t = some (.array n el)) (hi : P.info? el = some inf)
    (hq : parts P (fun i => natK (i * inf.size) fun o => natK inf.size fun s => some (o, s)) ps.toList = some qs) : DatS P (.build t ps) d (iBd d (cellsOf z) qs) := by
  intro cx κ e H r hr
  simp only [iBd] at hr
  obtain ⟨cs, hr, hlen, hv⟩ := parts_ok hq hr
  obtain ⟨zv, z1, zs, z2, z3⟩ := zero_cells hz
  refine ⟨_, hr, fun ρ h E hh he => ?_⟩
  obtain ⟨vs, h1, h2⟩ := hv ρ H h E zs hh he (z3 ρ)
  refine ⟨_, .agg h1, fun h' _ dst ty pos aft g => fun σ w hA hw => ⟨?_, rfl⟩⟩
  have hfill := h2 σ (fun q _ u hu => hA q.2 u hu) (fun i => some (i * inf.size, inf.size)) (fun i q hi => by simpa using hi)
  have hm : (ps.map fun (i, x) => (i, σ x)).toList = ps.toList.map fun p => (p.1, σ p.2) := by
    rw [Array.toList_map]
  have hs : (sizeOf el).run P w = .ok inf.size w := by simp [sizeOf, typeInfo, hi]
  simp only [execOp, Instr.build, Sem.run_bind, z1, run_underlying ht, hs, Result.andThen, z2, hm]
  rw [hfill]
  rfl
end Ry
end Go.TP
