/- Ry is sound, part 4: more operations that leave the heap as it is. -/
import Derived.Test.YtnmdbemccdhdmaaGreatDoorRz3
namespace Go.TP
open Go
namespace Ry
variable {P : Program} {R : Type} {d : Option (Slot R)} {x y z : Operand} {xo yo zo : OD R}
theorem beq_ne {a b : Nat} (h : ¬ a = b) : Nat.beq a b = false := by
  cases hb : Nat.beq a b
  · rfl
  · exact absurd (Nat.eq_of_beq_eq_true hb) h
theorem unF_ok {op : UnOp} {t : TypeId} {f : AV → (AV → Option R) → Option R} (h : unF op = some f) (hx : OpS P x xo) : DatS P (.unOp op t x) d (iUn d f xo) := by
  intro cx κ e H r hr
  simp only [iUn, hx.eq] at hr
  replace hr := bind_some hr
  obtain ⟨a, ha, hr⟩ := hr
  cases op with
  | not =>
    cases h
    replace hr := asB_some hr
    obtain ⟨b, rfl, hr⟩ := hr
    have hr : put d (.B (!b)) κ e H = some r := by cases b <;> exact hr
    refine ⟨_, hr, fun ρ h E hh he => ?_⟩
    obtain ⟨u, h1, h2⟩ := hx.ok ρ H h e E _ hh he ha
    cases h1
    exact ⟨_, .B, fun h' _ dst ty pos aft g => o_not h2⟩
  | neg =>
    cases h
    replace hr := asI_some hr
    obtain ⟨k, m, rfl, hr⟩ := hr
    rw [wrapK_eq] at hr
    refine ⟨_, hr, fun ρ h E hh he => ?_⟩
    obtain ⟨u, h1, h2⟩ := hx.ok ρ H h e E _ hh he ha
    cases h1
    refine ⟨_, .I, fun h' _ dst ty pos aft g => ?_⟩
    rw [show Int.neg m = 0 - m by show -m = _; omega]
    exact o_neg h2
  | xor =>
    cases h
    replace hr := asI_some hr
    obtain ⟨k, m, rfl, hr⟩ := hr
    rw [out_eq] at hr
    refine ⟨_, hr, fun ρ h E hh he => ?_⟩
    obtain ⟨u, h1, h2⟩ := hx.ok ρ H h e E _ hh he ha
    cases h1
    exact ⟨_, .I, fun h' _ dst ty pos aft g => o_com h2⟩
  | _ => cases h
theorem fieldB_spec {s i off n : Nat} {b : Bool} (h : fieldB P s i = some (off, b, n)) : ∃ fs f inf, P.underlying s = some (.struct fs) ∧ fs[i]? = some f ∧ f.offset = off ∧ P.info? f.type = some inf ∧ inf.size = n ∧ n ≠ 0 ∧ (∀ w, (isAgg f.type).run P w = .ok b w) ∧ (b = false → n = 1) := by
  unfold fieldB at h
  split at h
  · rename_i fs h1
    split at h
    · rename_i f h2
      split at h
      · rename_i inf q h3 h4
        by_cases hz : inf.size = 0
        · have hb : Nat.beq inf.size 0 = true := by simp [hz]
          rw [hb] at h; cases h
        · have hb : Nat.beq inf.size 0 = false := beq_ne hz
          rw [hb] at h
          cases h
          exact ⟨fs, f, inf, h1, h2, rfl, h3, rfl, hz, fun w => by simp [isAgg, run_underlying h4], fun h => by cases h⟩
      · rename_i inf q1 q2 h3 h4
        by_cases hz : inf.size = 0
        · have hb : Nat.beq inf.size 0 = true := by simp [hz]
          rw [hb] at h; cases h
        · have hb : Nat.beq inf.size 0 = false := beq_ne hz
          rw [hb] at h
          cases h
          exact ⟨fs, f, inf, h1, h2, rfl, h3, rfl, hz, fun w => by simp [isAgg, run_underlying h4], fun h => by cases h⟩
      · rename_i inf dd hn1 hn2 h3 h4
        by_cases hz : inf.size = 1
        · have hb : Nat.beq inf.size 1 = true := by simp [hz]
          rw [hb] at h
          cases h
          refine ⟨fs, f, inf, h1, h2, rfl, h3, hz, by decide, fun w => ?_, fun _ => rfl⟩
          unfold isAgg
          rw [Sem.run_bind, run_underlying h4]
          cases dd <;> first | rfl | exact (hn1 _ rfl).elim | exact (hn2 _ _ rfl).elim
        · have hb : Nat.beq inf.size 1 = false := beq_ne hz
          rw [hb] at h; cases h
      · cases h
    · cases h
  · cases h
theorem dat_fa {s i off n : Nat} {b : Bool} (hf : fieldB P s i = some (off, b, n)) (hx : OpS P x xo) : DatS P (.fieldAddr s x i) d (iFa d off xo) := by
  intro cx κ e H r hr
  simp only [iFa, hx.eq] at hr
  replace hr := bind_some hr
  obtain ⟨a, ha, hr⟩ := hr
  replace hr := asP_some hr
  obtain ⟨b, o, rfl, hr⟩ := hr
  rw [natK_eq] at hr
  refine ⟨_, hr, fun ρ h E hh he => ?_⟩
  obtain ⟨u, h1, h2⟩ := hx.ok ρ H h e E _ hh he ha
  cases h1 with
  | P h3 =>
    obtain ⟨fs, f, inf, k1, k2, k3, k4, k5, k6, _⟩ := fieldB_spec hf
    refine ⟨_, .P h3, fun h' _ dst ty pos aft g => o_fa ?_ h2⟩
    simp [Fo, foB, k1, k2, k3, k4, k5, k6]
theorem dat_fd {s i off n : Nat} (hf : fieldB P s i = some (off, false, n)) (hx : OpS P x xo) : DatS P (.field s x i) d (iFd d off xo) := by
  intro cx κ e H r hr
  simp only [iFd, hx.eq] at hr
  replace hr := bind_some hr
  obtain ⟨a, ha, hr⟩ := hr
  split at hr
  · rename_i l
    rw [nth_eq] at hr
    replace hr := bind_some hr
    obtain ⟨v, hv, hr⟩ := hr
    refine ⟨_, hr, fun ρ h E hh he => ?_⟩
    obtain ⟨u, h1, h2⟩ := hx.ok ρ H h e E _ hh he ha
    cases h1 with
    | agg h3 =>
      obtain ⟨u, h4, h5⟩ := h3.get hv
      obtain ⟨fs, f, inf, k1, k2, k3, k4, k5, k6, k7, _⟩ := fieldB_spec hf
      refine ⟨u, h5, fun h' _ dst ty pos aft g => fun σ w hA _ => ⟨?_, rfl⟩⟩
      simp [execOp, hA x _ h2, Instr.field, run_underlying k1, k2, part, asAgg, k7, k3, h4]
  · cases hr
theorem dat_fs {s i off n : Nat} (hf : fieldB P s i = some (off, true, n)) (hx : OpS P x xo) : DatS P (.field s x i) d (iFs d off n xo) := by
  intro cx κ e H r hr
  simp only [iFs, hx.eq] at hr
  replace hr := bind_some hr
  obtain ⟨a, ha, hr⟩ := hr
  split at hr
  · rename_i l
    rw [dropK_eq] at hr
    split at hr
    · rw [takeK_eq] at hr
      split at hr
      · refine ⟨_, hr, fun ρ h E hh he => ?_⟩
        obtain ⟨u, h1, h2⟩ := hx.ok ρ H h e E _ hh he ha
        cases h1 with
        | agg h3 =>
          rename_i us _ _
          obtain ⟨fs, f, inf, k1, k2, k3, k4, k5, k6, k7, _⟩ := fieldB_spec hf
          refine ⟨_, .agg ((h3.drop off).take n), fun h' _ dst ty pos aft g => fun σ w hA _ => ⟨?_, rfl⟩⟩
          simp [execOp, hA x _ h2, Instr.field, run_underlying k1, k2, part, asAgg, k7, k3, sizeOf, typeInfo, k4, k5]
      · cases hr
    · cases hr
  · cases hr
theorem shapeB_one {t n : Nat} (h : shapeB P t = some (false, n)) : One P t := by
  unfold shapeB at h
  split at h
  · cases h
  · cases h
  · rename_i inf dd hn1 hn2 h1 h2
    by_cases hz : inf.size = 1
    · unfold One oneB
      rw [h2, h1]
      cases dd <;> first | (simp [hz]; done) | exact (hn1 _ rfl).elim | exact (hn2 _ _ rfl).elim
    · have hb : Nat.beq inf.size 1 = false := beq_ne hz
      rw [hb] at h; cases h
  · cases h
theorem shapeB_agg {t n : Nat} (h : shapeB P t = some (true, n)) : TP.Agg P t n := by
  unfold shapeB at h
  split at h
  · rename_i inf q h1 h2; cases h; simp [TP.Agg, aggB, h1, h2]
  · rename_i inf q1 q2 h1 h2; cases h; simp [TP.Agg, aggB, h1, h2]
  · rename_i inf dd hn1 hn2 h1 h2
    by_cases hz : inf.size = 1
    · have hb : Nat.beq inf.size 1 = true := by simp [hz]
      rw [hb] at h; cases h
    · have hb : Nat.beq inf.size 1 = false := beq_ne hz
      rw [hb] at h; cases h
  · cases h
theorem blk_some {H : AH} {b : Pth} {k : AB → Option R} {r : R} (h : blk H b k = some r) : ∃ B, getT H.blocks b = some B ∧ k B = some r := by
  obtain ⟨n, t⟩ := H
  simp only [blk] at h
  rw [getK_eq] at h
  exact bind_some h
theorem cellsB_some {B : AB} {k : Nat → Md → Nat → List AV → Option R} {r : R} (h : cellsB B k = some r) : ∃ T m s cs, B = .cells T m s cs ∧ k T m s cs = some r := by
  cases B with
  | cells T m s cs => exact ⟨T, m, s, cs, rfl, h⟩
  | loop _ _ => cases h
theorem dat_ld {t n : Nat} (ht : shapeB P t = some (false, n)) (hx : OpS P x xo) : DatS P (.load t x) d (iLd d xo) := by
  intro cx κ e H r hr
  simp only [iLd, hx.eq] at hr
  replace hr := bind_some hr
  obtain ⟨a, ha, hr⟩ := hr
  replace hr := asP_some hr
  obtain ⟨b, o, rfl, hr⟩ := hr
  replace hr := blk_some hr
  obtain ⟨B, hB, hr⟩ := hr
  replace hr := cellsB_some hr
  obtain ⟨T, m, s, cs, rfl, hr⟩ := hr
  rw [nth_eq] at hr
  replace hr := bind_some hr
  obtain ⟨v, hv, hr⟩ := hr
  refine ⟨v, hr, fun ρ h E hh he => ?_⟩
  obtain ⟨u, h1, h2⟩ := hx.ok ρ H h e E _ hh he ha
  cases h1 with
  | P h3 =>
    obtain ⟨lo, h4, h5⟩ := hh.blk b _ hB
    rw [h3] at h4
    cases h4
    obtain ⟨us, h6, h7⟩ := h5.read
    obtain ⟨u, h8, h9⟩ := h6.get hv
    refine ⟨u, h9, fun h' hk dst ty pos aft g => o_ld (shapeB_one ht) h2 ?_⟩
    have := h7 o u h8
    unfold cel at this ⊢
    rw [hk x rfl b (by rw [ha]; rfl) _ h3]
    exact this
theorem dat_ls {t n : Nat} (ht : shapeB P t = some (true, n)) (hx : OpS P x xo) : DatS P (.load t x) d (iLs d n xo) := by
  intro cx κ e H r hr
  simp only [iLs, hx.eq] at hr
  replace hr := bind_some hr
  obtain ⟨a, ha, hr⟩ := hr
  replace hr := asP_some hr
  obtain ⟨b, o, rfl, hr⟩ := hr
  replace hr := blk_some hr
  obtain ⟨B, hB, hr⟩ := hr
  replace hr := cellsB_some hr
  obtain ⟨T, m, s, cs, rfl, hr⟩ := hr
  rw [dropK_eq] at hr
  split at hr
  · rw [takeK_eq] at hr
    split at hr
    · rename_i hle hlt
      refine ⟨_, hr, fun ρ h E hh he => ?_⟩
      obtain ⟨u, h1, h2⟩ := hx.ok ρ H h e E _ hh he ha
      cases h1 with
      | P h3 =>
        obtain ⟨lo, h4, h5⟩ := hh.blk b _ hB
        rw [h3] at h4
        cases h4
        obtain ⟨us, h6, h7⟩ := h5.read
        have hl := h6.len
        refine ⟨_, .agg ((h6.drop o).take n), fun h' hk dst ty pos aft g => o_lda (shapeB_agg ht) h2 (by simp only [List.length_take, List.length_drop, List.length_drop] at hlt ⊢; omega) fun j u hu => ?_⟩
        rw [List.getElem?_take] at hu
        split at hu
        · rw [List.getElem?_drop] at hu
          have := h7 (o + j) u hu
          unfold cel at this ⊢
          rw [hk x rfl b (by rw [ha]; rfl) _ h3]
          exact this
        · cases hu
    · cases hr
  · cases hr
theorem dat_nc (hx : OpS P x xo) : DatS P (.nilCheck x) d (iNc d xo) := by
  intro cx κ e H r hr
  simp only [iNc, hx.eq] at hr
  replace hr := bind_some hr
  obtain ⟨a, ha, hr⟩ := hr
  split at hr
  · refine ⟨_, hr, fun ρ h E hh he => ?_⟩
    obtain ⟨u, h1, h2⟩ := hx.ok ρ H h e E _ hh he ha
    refine ⟨u, h1, fun h' _ dst ty pos aft g => ?_⟩
    cases h1; exact o_nc h2
  · refine ⟨_, hr, fun ρ h E hh he => ?_⟩
    obtain ⟨u, h1, h2⟩ := hx.ok ρ H h e E _ hh he ha
    refine ⟨u, h1, fun h' _ dst ty pos aft g => ?_⟩
    cases h1; exact o_nci h2
  · refine ⟨_, hr, fun ρ h E hh he => ?_⟩
    obtain ⟨u, h1, h2⟩ := hx.ok ρ H h e E _ hh he ha
    refine ⟨u, h1, fun h' _ dst ty pos aft g => fun σ w hA _ => ⟨?_, rfl⟩⟩
    cases h1; simp [execOp, hA x _ h2]
  · refine ⟨_, hr, fun ρ h E hh he => ?_⟩
    obtain ⟨u, h1, h2⟩ := hx.ok ρ H h e E _ hh he ha
    refine ⟨u, h1, fun h' _ dst ty pos aft g => fun σ w hA _ => ⟨?_, rfl⟩⟩
    cases h1; simp [execOp, hA x _ h2]
  · cases hr
theorem elemB_spec {t T sz : Nat} (h : elemB P t = some (T, sz)) : Slc P t T sz := by
  unfold elemB at h
  split at h
  · rename_i e h1
    split at h
    · rename_i inf h2
      rw [natK_eq] at h
      cases h
      simp [Slc, slcB, h1, h2]
    · cases h
  · cases h
theorem arrB_spec {t n T sz : Nat} (h : arrB P t = some (n, T, sz)) : TP.Arr P t n T sz := by
  unfold arrB at h
  split at h
  · rename_i e h1
    split at h
    · rename_i inf h2
      rw [natK_eq] at h
      cases h
      simp [TP.Arr, TP.arrB, *]
    · cases h
  · cases h
theorem dat_ip {t n T sz : Nat} (ht : arrB P t = some (n, T, sz)) (hx : OpS P x xo) (hy : OpS P y yo) : DatS P (.indexAddr t x y) d (iIp d n sz xo yo) := by
  intro cx κ e H r hr
  simp only [iIp, hx.eq] at hr
  replace hr := bind_some hr
  obtain ⟨a, ha, hr⟩ := hr
  replace hr := asP_some hr
  obtain ⟨b, o, rfl, hr⟩ := hr
  simp only [hy.eq] at hr
  replace hr := bind_some hr
  obtain ⟨c, hc, hr⟩ := hr
  replace hr := asN_some hr
  obtain ⟨ik, i, rfl, hr⟩ := hr
  rw [ifK_eq] at hr
  split at hr
  · rename_i hi
    rw [natK_eq] at hr
    refine ⟨_, hr, fun ρ h E hh he => ?_⟩
    obtain ⟨u, h1, h2⟩ := hx.ok ρ H h e E _ hh he ha
    obtain ⟨u', h3, h4⟩ := hy.ok ρ H h e E _ hh he hc
    cases h3
    cases h1 with
    | P h5 => exact ⟨_, .P h5, fun h' _ dst ty pos aft g => o_iaa (arrB_spec ht) h2 h4 rfl (Nat.le_of_ble_eq_true hi)⟩
  · cases hr
theorem dat_is {t T sz : Nat} (ht : elemB P t = some (T, sz)) (hx : OpS P x xo) (hy : OpS P y yo) : DatS P (.indexAddr t x y) d (iIs d sz xo yo) := by
  intro cx κ e H r hr
  simp only [iIs, hx.eq] at hr
  replace hr := bind_some hr
  obtain ⟨a, ha, hr⟩ := hr
  simp only [hy.eq] at hr
  replace hr := bind_some hr
  obtain ⟨c, hc, hr⟩ := hr
  replace hr := asN_some hr
  obtain ⟨ik, i, rfl, hr⟩ := hr
  cases a with
  | S b o n cp =>
    simp only [ifK_eq] at hr
    split at hr
    · rename_i hi
      rw [natK_eq] at hr
      refine ⟨_, hr, fun ρ h E hh he => ?_⟩
      obtain ⟨u, h1, h2⟩ := hx.ok ρ H h e E _ hh he ha
      obtain ⟨u', h3, h4⟩ := hy.ok ρ H h e E _ hh he hc
      cases h3
      cases h1 with
      | S h5 h6 h7 => exact ⟨_, .P h5, fun h' _ dst ty pos aft g => o_ia (elemB_spec ht) rfl h2 h4 rfl (show i < n from Nat.le_of_ble_eq_true hi)⟩
    · cases hr
  | _ => cases hr
theorem dat_ex {i : Nat} (hx : OpS P x xo) : DatS P (.extract x i) d (iEx d i xo) := by
  intro cx κ e H r hr
  simp only [iEx, hx.eq] at hr
  replace hr := bind_some hr
  obtain ⟨a, ha, hr⟩ := hr
  split at hr
  · rw [nth_eq] at hr
    replace hr := bind_some hr
    obtain ⟨v, hv, hr⟩ := hr
    refine ⟨_, hr, fun ρ h E hh he => ?_⟩
    obtain ⟨u, h1, h2⟩ := hx.ok ρ H h e E _ hh he ha
    cases h1 with
    | tup h3 =>
      obtain ⟨u, h4, h5⟩ := h3.get hv
      exact ⟨u, h5, fun h' _ dst ty pos aft g => o_ex h2 (by simpa using h4)⟩
  · cases hr
theorem dat_ix {t : Nat} (ht : P.underlying t = some .string) (hx : OpS P x xo) (hy : OpS P y yo) : DatS P (.index t x y) d (iIx d xo yo) := by
  intro cx κ e H r hr
  simp only [iIx, hx.eq] at hr
  replace hr := bind_some hr
  obtain ⟨a, ha, hr⟩ := hr
  simp only [hy.eq] at hr
  replace hr := bind_some hr
  obtain ⟨c, hc, hr⟩ := hr
  replace hr := asN_some hr
  obtain ⟨ik, i, rfl, hr⟩ := hr
  split at hr
  · rename_i _ s
    cases hs : s[i]? with
    | none => rw [hs] at hr; cases hr
    | some u =>
      rw [hs] at hr
      change natK u.toNat (fun n => put d (.I .u8 (.ofNat n)) κ e H) = some r at hr
      rw [natK_eq] at hr
      refine ⟨_, hr, fun ρ h E hh he => ?_⟩
      obtain ⟨w, h1, h2⟩ := hx.ok ρ H h e E _ hh he ha
      obtain ⟨u', h3, h4⟩ := hy.ok ρ H h e E _ hh he hc
      cases h3; cases h1
      refine ⟨_, .I, fun h' _ dst ty pos aft g => o_ixs (by simp [Str, strB, ht]) h2 h4 rfl ?_⟩
      have : i < s.length := (List.getElem?_eq_some_iff.1 hs).1
      rw [List.getElem?_eq_getElem this] at hs
      cases hs
      rw [getElem?_pos (⟨s.toArray⟩ : ByteArray) i (by simpa [ByteArray.size] using this)]
      rfl
  · cases hr
theorem dat_if {t : Nat} (ht : Conc P t) (hx : OpS P x xo) : DatS P (.makeInterface t x) d (iIf d t xo) := by
  intro cx κ e H r hr
  simp only [iIf, hx.eq] at hr
  replace hr := bind_some hr
  obtain ⟨a, ha, hr⟩ := hr
  refine ⟨_, hr, fun ρ h E hh he => ?_⟩
  obtain ⟨u, h1, h2⟩ := hx.ok ρ H h e E _ hh he ha
  exact ⟨_, .ifc h1, fun h' _ dst ty pos aft g => o_mi ht h2⟩
theorem dat_fn {f : Nat} {first cap : Array Operand} {xs ys : EV → (List AV → Option R) → Option R} (hx : OpsS P first.toList xs) (hy : OpsS P cap.toList ys) : DatS P (.makeFunc (.func f) first cap) d (iFn d f xs ys) := by
  intro cx κ e H r hr
  simp only [iFn, hx.eq] at hr
  replace hr := bind_some hr
  obtain ⟨a, ha, hr⟩ := hr
  simp only [hy.eq] at hr
  replace hr := bind_some hr
  obtain ⟨c, hc, hr⟩ := hr
  refine ⟨_, hr, fun ρ h E hh he => ?_⟩
  obtain ⟨us, h1, h2⟩ := hx.ok ρ H h e E _ hh he ha
  obtain ⟨vs, h3, h4⟩ := hy.ok ρ H h e E _ hh he hc
  exact ⟨_, .fn h1 h3, fun h' _ dst ty pos aft g => o_mf h2 h4⟩
theorem dat_cv {s t : Nat} {k k' : IntKind} (hs : P.underlying s = some (.int k)) (ht : P.underlying t = some (.int k')) (hx : OpS P x xo) : DatS P (.convert s t x) d (iCv d k' xo) := by
  intro cx κ e H r hr
  simp only [iCv, hx.eq] at hr
  replace hr := bind_some hr
  obtain ⟨a, ha, hr⟩ := hr
  replace hr := asI_some hr
  obtain ⟨ik, n, rfl, hr⟩ := hr
  rw [wrapK_eq] at hr
  refine ⟨_, hr, fun ρ h E hh he => ?_⟩
  obtain ⟨us, h1, h2⟩ := hx.ok ρ H h e E _ hh he ha
  cases h1
  exact ⟨_, .I, fun h' _ dst ty pos aft g => o_cv (by simp [Tyk, someB, hs]) (by simp [Itk, intB, ht]) h2⟩
end Ry
end Go.TP
