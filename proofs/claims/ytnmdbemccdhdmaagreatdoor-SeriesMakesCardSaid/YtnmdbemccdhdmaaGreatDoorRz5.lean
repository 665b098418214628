/- Ry is sound, part 5: the last operations that leave the heap as it is. -/
import Derived.Test.YtnmdbemccdhdmaaGreatDoorRz4
namespace Go.TP
open Go
namespace Ry
variable {P : Program} {R : Type} {d : Option (Slot R)} {x y z : Operand} {xo yo zo : OD R}
theorem dat_len {t e' : Nat} (ht : P.underlying t = some (.slice e')) (hx : OpS P x xo) : DatS P (.call ⟨.builtin .len, #[x], #[t]⟩) d (iLen d xo) := by
  intro cx κ e H r hr
  simp only [iLen, hx.eq] at hr
  obtain ⟨a, ha, hr⟩ := bind_some hr
  have key : ∃ n, put d (.I .i64 (.ofNat n)) κ e H = some r ∧ ∀ ρ u, VR ρ a u → isSlice u = true ∧ sn u = n := by
    unfold lenSl at hr
    split at hr
    · exact ⟨_, hr, fun ρ u hu => by cases hu; exact ⟨rfl, rfl⟩⟩
    · exact ⟨_, hr, fun ρ u hu => by cases hu; exact ⟨rfl, rfl⟩⟩
    · exact ⟨_, hr, fun ρ u hu => by cases hu; exact ⟨rfl, rfl⟩⟩
    · cases hr
  obtain ⟨n, hr, hn⟩ := key
  refine ⟨_, hr, fun ρ h E hh he => ?_⟩
  obtain ⟨u, h1, h2⟩ := hx.ok ρ H h e E _ hh he ha
  obtain ⟨k1, rfl⟩ := hn ρ u h1
  exact ⟨_, .I, fun h' _ dst ty pos aft g => o_len (by simp [SlcT, slcTB, ht]) k1 h2⟩
theorem dat_les {t : Nat} (ht : P.underlying t = some .string) (hx : OpS P x xo) : DatS P (.call ⟨.builtin .len, #[x], #[t]⟩) d (iLeS d xo) := by
  intro cx κ e H r hr
  simp only [iLeS, hx.eq] at hr
  obtain ⟨a, ha, hr⟩ := bind_some hr
  unfold lenStr at hr
  split at hr
  · rw [natK_eq] at hr
    refine ⟨_, hr, fun ρ h E hh he => ?_⟩
    obtain ⟨u, h1, h2⟩ := hx.ok ρ H h e E _ hh he ha
    cases h1
    rename_i s
    refine ⟨_, .I, fun h' _ dst ty pos aft g => ?_⟩
    have := o_len_s (P := P) (h := h') (d := dst) (ty := ty) (pos := pos) (aft := aft) (g := g) (t := t) (by simp [Str, strB, ht]) h2
    exact this
  · cases hr
theorem dat_cap {t e' : Nat} (ht : P.underlying t = some (.slice e')) (hx : OpS P x xo) : DatS P (.call ⟨.builtin .cap, #[x], #[t]⟩) d (iCap d xo) := by
  intro cx κ e H r hr
  simp only [iCap, hx.eq] at hr
  obtain ⟨a, ha, hr⟩ := bind_some hr
  split at hr
  · refine ⟨_, hr, fun ρ h E hh he => ?_⟩
    obtain ⟨u, h1, h2⟩ := hx.ok ρ H h e E _ hh he ha
    cases h1
    refine ⟨_, .I, fun h' _ dst ty pos aft g => o_bi (vals := [_]) (by simp [evs, h2]; rfl) fun w cs => ?_⟩
    simp [builtin, Builtin.cap_, run_underlying ht, goInt]
  · refine ⟨_, hr, fun ρ h E hh he => ?_⟩
    obtain ⟨u, h1, h2⟩ := hx.ok ρ H h e E _ hh he ha
    cases h1 with
    | S h3 h4 h5 =>
      cases h4
      refine ⟨_, .I, fun h' _ dst ty pos aft g => o_bi (vals := [_]) (by simp [evs, h2]; rfl) fun w cs => ?_⟩
      simp [builtin, Builtin.cap_, run_underlying ht, goInt]
  · cases hr
theorem dat_mx {ts : Array TypeId} (hx : OpS P x xo) (hy : OpS P y yo) : DatS P (.call ⟨.builtin .max, #[x, y], ts⟩) d (iMx d xo yo) := by
  intro cx κ e H r hr
  simp only [iMx, hx.eq] at hr
  obtain ⟨a, ha, hr⟩ := bind_some hr
  replace hr := asI_some hr
  obtain ⟨ik, m, rfl, hr⟩ := hr
  simp only [hy.eq] at hr
  obtain ⟨b, hb, hr⟩ := bind_some hr
  replace hr := asI_some hr
  obtain ⟨jk, n, rfl, hr⟩ := hr
  rw [out_eq] at hr
  refine ⟨_, hr, fun ρ h E hh he => ?_⟩
  obtain ⟨u, h1, h2⟩ := hx.ok ρ H h e E _ hh he ha
  obtain ⟨u', h3, h4⟩ := hy.ok ρ H h e E _ hh he hb
  cases h1; cases h3
  exact ⟨_, .I, fun h' _ dst ty pos aft g => o_max h2 h4⟩
theorem dat_mn {ts : Array TypeId} (hx : OpS P x xo) (hy : OpS P y yo) : DatS P (.call ⟨.builtin .min, #[x, y], ts⟩) d (iMn d xo yo) := by
  intro cx κ e H r hr
  simp only [iMn, hx.eq] at hr
  obtain ⟨a, ha, hr⟩ := bind_some hr
  replace hr := asI_some hr
  obtain ⟨ik, m, rfl, hr⟩ := hr
  simp only [hy.eq] at hr
  obtain ⟨b, hb, hr⟩ := bind_some hr
  replace hr := asI_some hr
  obtain ⟨jk, n, rfl, hr⟩ := hr
  rw [out_eq] at hr
  refine ⟨_, hr, fun ρ h E hh he => ?_⟩
  obtain ⟨u, h1, h2⟩ := hx.ok ρ H h e E _ hh he ha
  obtain ⟨u', h3, h4⟩ := hy.ok ρ H h e E _ hh he hb
  cases h1; cases h3
  exact ⟨_, .I, fun h' _ dst ty pos aft g => o_min h2 h4⟩
theorem zeroB_spec {t : Nat} {z : AV} (h : zeroB P t = some z) : ∃ inf zv, P.info? t = some inf ∧ inf.zero = some zv ∧ ofV zv = some z := by
  unfold zeroB at h
  split at h
  · rename_i inf h1
    split at h
    · rename_i zv h2; exact ⟨inf, zv, h1, h2, h⟩
    · cases h
  · cases h
theorem dat_ta {xt t : Nat} {ok : Bool} {dd : TypeDesc} {zz : AV} (ht : P.underlying t = some dd) (hni : ∀ ms, dd ≠ .interface ms) (hz : zeroB P t = some zz) (hx : OpS P x xo) : DatS P (.typeAssert x xt t ok) d (iTa d t ok zz xo) := by
  obtain ⟨inf, zv, z1, z2, z3⟩ := zeroB_spec hz
  have keyT : ∀ (ok : Bool) (wv : Value) (w : World), (Instr.typeAssert (.iface t wv) xt t ok).run P w = .ok (if ok then .tuple #[wv, .bool true] else wv) w := by
    intro ok wv w
    cases dd <;> first | exact absurd rfl (hni _) | (cases ok <;> simp [Instr.typeAssert, run_underlying ht])
  have keyF : ∀ (u : Nat) (wv : Value) (w : World), u ≠ t → (Instr.typeAssert (.iface u wv) xt t true).run P w = .ok (.tuple #[zv, .bool false]) w := by
    intro u wv w hu
    cases dd <;> first | exact absurd rfl (hni _) | simp [Instr.typeAssert, run_underlying ht, hu, zeroValue, typeInfo, z1, z2]
  have key0 : ∀ (w : World), (Instr.typeAssert .nilIface xt t true).run P w = .ok (.tuple #[zv, .bool false]) w := by
    intro w
    cases dd <;> first | exact absurd rfl (hni _) | simp [Instr.typeAssert, run_underlying ht, zeroValue, typeInfo, z1, z2]
  intro cx κ e H r hr
  simp only [iTa, hx.eq] at hr
  replace hr := bind_some hr
  obtain ⟨a, ha, hr⟩ := hr
  split at hr
  · rename_i _ u wv
    rw [ifK_eq] at hr
    split at hr
    · rename_i hb
      have hut := Nat.eq_of_beq_eq_true hb
      subst hut
      refine ⟨_, hr, fun ρ h E hh he => ?_⟩
      obtain ⟨u', h1, h2⟩ := hx.ok ρ H h e E _ hh he ha
      cases h1 with
      | ifc h3 =>
        refine ⟨_, .tup (.cons h3 (.cons .B .nil)), fun h' _ dst ty pos aft g => fun σ w hA _ => ⟨?_, rfl⟩⟩
        simp only [execOp, hA x _ h2, Sem.run_bind, keyT, if_true, Result.andThen]
        rfl
    · rename_i hb
      have hne : ¬ u = t := fun hu => hb (by rw [hu]; simp)
      refine ⟨_, hr, fun ρ h E hh he => ?_⟩
      obtain ⟨u', h1, h2⟩ := hx.ok ρ H h e E _ hh he ha
      cases h1 with
      | ifc h3 =>
        refine ⟨_, .tup (.cons (ofV_VR ρ z3) (.cons .B .nil)), fun h' _ dst ty pos aft g => fun σ w hA _ => ⟨?_, rfl⟩⟩
        simp only [execOp, hA x _ h2, Sem.run_bind, keyF _ _ _ hne, Result.andThen]
        rfl
  · rename_i _ u wv
    rw [ifK_eq] at hr
    split at hr
    · rename_i hb
      have hut := Nat.eq_of_beq_eq_true hb
      subst hut
      refine ⟨_, hr, fun ρ h E hh he => ?_⟩
      obtain ⟨u', h1, h2⟩ := hx.ok ρ H h e E _ hh he ha
      cases h1 with
      | ifc h3 =>
        refine ⟨_, h3, fun h' _ dst ty pos aft g => fun σ w hA _ => ⟨?_, rfl⟩⟩
        simp only [execOp, hA x _ h2, Sem.run_bind, keyT, if_true, Result.andThen]
        rfl
    · cases hr
  · refine ⟨_, hr, fun ρ h E hh he => ?_⟩
    obtain ⟨u', h1, h2⟩ := hx.ok ρ H h e E _ hh he ha
    cases h1
    refine ⟨_, .tup (.cons (ofV_VR ρ z3) (.cons .B .nil)), fun h' _ dst ty pos aft g => fun σ w hA _ => ⟨?_, rfl⟩⟩
    simp only [execOp, hA x _ h2, Sem.run_bind, key0, Result.andThen]
    rfl
  · cases hr
end Ry
end Go.TP
