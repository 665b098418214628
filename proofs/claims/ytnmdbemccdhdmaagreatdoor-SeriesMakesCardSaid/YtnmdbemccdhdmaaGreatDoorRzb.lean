/- Ry is sound, part 11: calls. -/
import Derived.Test.YtnmdbemccdhdmaaGreatDoorRza
namespace Go.TP
open Go
namespace Ry
variable {P : Program} {R : Type} {d : Option (Slot R)} {x y z : Operand} {xo yo zo : OD R}
/-- A round of a range over a function, called so on a heap, returns. -/
def YRet (P : Program) (g : Nat) (us : List Value) (h : Heap) (R : Value → Heap → Prop) : Prop :=
  ∀ (rd : Option Nat) (w : World), w.heap = h → ∃ f tm a b, (Instr.yield g us.toArray).run P w = .ok (.round g f tm a b) w ∧
    RoundIn (Wd rd) 0 P g f tm a b w fun en w' => ∃ v, en = .returned v ∧ w'.os = w.os ∧ w'.tape = w.tape ∧ w'.output = w.output ∧ R v w'.heap
def TgR (P : Program) (ρ : Rn) (us : List Value) (h : Heap) (R : Value → Heap → Prop) : Tg → Prop
  | .fn f => Enters P f ∧ Ret P f us h R
  | .yl l => ∀ lo, ρ l = some lo → YRet P lo.g us h R
def YS (P : Program) (ρ0 : Rn) (l : Pth) (fd : FD R) : Prop :=
  ∀ vs H k r, fd vs H k = some r → ∀ ρ h us lo, Le ρ0 ρ → HR P ρ H h → ρ l = some lo → VRs ρ vs us → YRet P lo.g us h (Out P ρ H h k)
def CxS (P : Program) (ρ0 : Rn) (cx : Cx R) : Prop :=
  ∀ ext ρ1, Le ρ0 ρ1 → (∀ p ∈ ext, YS P ρ1 p.1 p.2) → ∀ tg vs H k r, cx ext tg vs H k = some r → ∀ ρ h us, Le ρ1 ρ → HR P ρ H h → VRs ρ vs us → TgR P ρ us h (Out P ρ H h k) tg
def EfcS (P : Program) (op : Op) (d : Option (Slot R)) (i : Ins R) : Prop :=
  ∀ cx ρ0, CxS P ρ0 cx → ∀ κ e H r, i cx κ e H = some r → ∀ ρ h E, Le ρ0 ρ → HR P ρ H h → ER ρ e E → ∀ rd dst ty pos aft, Ef P rd E h ⟨dst, op, ty, pos, aft, none⟩ (Out P ρ H h fun v H' => put d v κ e H')
theorem EffS.c {op : Op} {i : Ins R} (h : EffS P op d i) : EfcS P op d i := fun cx _ _ κ e H r hr ρ h' E _ hh he rd dst ty pos aft => h cx κ e H r hr ρ h' E hh he rd dst ty pos aft
theorem efc_call {f : Nat} {args : Array Operand} {ts : Array TypeId} {xs : EV → (List AV → Option R) → Option R} (hxs : OpsS P args.toList xs) : EfcS P (.call ⟨.value (.func f), args, ts⟩) d (iCall d f xs) := by
  intro cx ρ0 hcx κ e H r hr ρ h E hle hh he rd dst ty pos aft
  simp only [iCall, hxs.eq] at hr
  replace hr := bind_some hr
  obtain ⟨vs, hv, hr⟩ := hr
  obtain ⟨us, h1, h2⟩ := hxs.ok ρ H h e E vs hh he hv
  obtain ⟨k1, k2⟩ := hcx [] ρ0 (Le.refl _) (fun p hp => by cases hp) (.fn f) vs H _ r hr ρ h us hle hh h1
  exact e_call k1 h2 k2
theorem efc_callv {args : Array Operand} {ts : Array TypeId} {xs : EV → (List AV → Option R) → Option R} (hx : OpS P x xo) (hxs : OpsS P args.toList xs) : EfcS P (.call ⟨.value x, args, ts⟩) d (iCv' d xo xs) := by
  intro cx ρ0 hcx κ e H r hr ρ h E hle hh he rd dst ty pos aft
  simp only [iCv', hx.eq] at hr
  replace hr := bind_some hr
  obtain ⟨v, hv, hr⟩ := hr
  simp only [hxs.eq] at hr
  replace hr := bind_some hr
  obtain ⟨vs, hvs, hr⟩ := hr
  obtain ⟨u, h1, h2⟩ := hx.ok ρ H h e E v hh he hv
  obtain ⟨us, h3, h4⟩ := hxs.ok ρ H h e E vs hh he hvs
  split at hr
  · rename_i f first cap
    cases h1 with
    | fn h5 h6 =>
      obtain ⟨k1, k2⟩ := hcx [] ρ0 (Le.refl _) (fun p hp => by cases hp) (.fn f) _ H _ r hr ρ h _ hle hh ((h5.append h3).append h6)
      exact e_callv k1 h2 h4 k2
  · rename_i l
    cases h1 with
    | yld h5 =>
      rename_i lo
      have k2 := hcx [] ρ0 (Le.refl _) (fun p hp => by cases hp) (.yl l) _ H _ r hr ρ h _ hle hh h3 lo h5
      intro a w hA hw next hn
      refine ⟨fun _ _ => trivial, ?_⟩
      rw [show (Wd rd).round = rd from rfl, Oper.semAt_eq rd _ _ (fun _ hc => by cases hc)]
      obtain ⟨f, tm, aa, bb, y1, y2⟩ := k2 rd w hw
      have g2 : args.map a.eval = us.toArray := by rw [← hA.evs h4, ← Array.toList_map, Array.toArray_toList]
      have g3 : a.eval x = .func (.yield lo.g) #[] #[] := hA _ _ h2
      have hrun : (execOp a.eval ⟨dst, .call ⟨.value x, args, ts⟩, ty, pos, aft, none⟩).run P w = .ok (.round lo.g f tm aa bb) w := by
        simp only [execOp, resolve, g2, g3, Deferred.ofValue, Sem.run_bind, Sem.run_pure, Result.andThen, invoke]
        simpa using y1
      rw [hrun]
      refine ⟨fun hh => by simp [Wd] at hh, RoundIn.mono y2 ?_⟩
      rintro en w' ⟨v', rfl, o1, o2, o3, o4⟩
      exact hn v' w' o4 o1 o2 o3
  · cases hr
theorem methB_spec {t f : Nat} {name : String} (h : methB P t name = some f) (v : Value) (w : World) : (method (P.types.size + Made.depth) t v name).run P w = .ok (f, v) w := by
  unfold methB at h
  split at h
  · rename_i inf h1
    split at h
    · rename_i m h2
      split at h
      · rename_i f' pr h3 h4
        obtain ⟨n, hn⟩ : ∃ n, P.types.size + Made.depth = n + 1 := ⟨P.types.size + Made.depth - 1, by
          have : 0 < Made.depth := by decide
          omega⟩
        rw [hn]
        have key : ∀ (wr : Option String), (receiverAt t (.val v) pr wr).run P w = .ok v w ∧ f' = f := by
          intro wr
          split at h
          · rename_i hu; cases h; exact ⟨by simp [receiverAt, run_underlying hu, Place.get], rfl⟩
          · cases h
          · rename_i dd hnp hu
            cases h
            refine ⟨?_, rfl⟩
            cases dd <;> first | exact absurd rfl (hnp _) | (simp [receiverAt, run_underlying hu, Place.get])
          · cases h
        obtain ⟨_, hff⟩ := key none
        subst hff
        have key' : ∀ (wr : Option String), (receiverAt t (.val v) pr wr).run P w = .ok v w := fun wr => (key wr).1
        simp [method, typeInfo, h1, h2, h3, h4, follow, key']
      · cases h
    · cases h
  · cases h
theorem efc_inv {args : Array Operand} {ts : Array TypeId} {name : String} {xs : EV → (List AV → Option R) → Option R} (hx : OpS P x xo) (hxs : OpsS P args.toList xs) : EfcS P (.call ⟨.invoke x name, args, ts⟩) d (iInv d (fun t => methB P t name) xo xs) := by
  intro cx ρ0 hcx κ e H r hr ρ h E hle hh he rd dst ty pos aft
  simp only [iInv, hx.eq] at hr
  replace hr := bind_some hr
  obtain ⟨v, hv, hr⟩ := hr
  simp only [hxs.eq] at hr
  replace hr := bind_some hr
  obtain ⟨vs, hvs, hr⟩ := hr
  obtain ⟨u, h1, h2⟩ := hx.ok ρ H h e E v hh he hv
  obtain ⟨us, h3, h4⟩ := hxs.ok ρ H h e E vs hh he hvs
  split at hr
  · rename_i t w
    split at hr
    · rename_i f hf
      cases h1 with
      | ifc h5 =>
        rename_i uv
        obtain ⟨k1, k2⟩ := hcx [] ρ0 (Le.refl _) (fun p hp => by cases hp) (.fn f) _ H _ r hr ρ h _ hle hh (.cons h5 h3)
        refine ef_of_enter (f := f) (vals := uv :: us) (fun _ hc => by cases hc) (fun σ w hA _ => ?_) k2
        have g2 : args.map σ = us.toArray := by rw [← hA.evs h4, ← Array.toList_map, Array.toArray_toList]
        have g3 : σ x = .iface t uv := hA _ _ h2
        have g5 : (#[Value.iface t uv] ++ us.toArray).extract 1 (#[Value.iface t uv] ++ us.toArray).size = us.toArray := by simp
        have g6 : #[uv] ++ us.toArray = (uv :: us).toArray := by simp
        simp only [execOp, resolve, g2, g3, Sem.run_bind, Sem.run_pure, Result.andThen, invoke]
        rw [show (#[Value.iface t uv] ++ us.toArray)[0]? = some (Value.iface t uv) by simp]
        simp only [g5, callMethod, program, Sem.run_bind, Sem.run, Result.andThen, methB_spec hf uv w, g6]
        exact k1 _ w
    · cases hr
  · cases hr
end Ry
end Go.TP
