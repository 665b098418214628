/- The evaluator is sound: operations put together, regions that draw their order, code, calls. -/
import Derived.Test.YtemmcnbfajlljaaGreatDoorRa
import Derived.Test.YtemmcnbfajlljaaGreatDoorEa
import Derived.RangeFuncLeaves
import Derived.RangeFuncRecord
/-! Rzb. -/
namespace Go.TP
open Go
namespace Ry
variable {P : Program} {d : Option (Slot R)} {x y z : Operand} {xo yo zo : OD R}
/-- A round of a range over a function, called so on a heap, returns. -/
def YRet (P : Program) (g : Nat) (us : List Value) (h : Heap) (R : Value → Heap → Prop) : Prop :=
  ∀ (rd : Option Nat) (w : World), w.heap = h → ∃ f tm a b, (Instr.yield g us.toArray).run P w = .ok (.round g f tm a b) w ∧
    RoundIn (Wd rd) 0 P g f tm a b w fun en w' => ∃ v, en = .returned v ∧ w'.os = w.os ∧ w'.tape = w.tape ∧ w'.output = w.output ∧ R v w'.heap
def TgR (P : Program) (ρ : Rn) (us : List Value) (h : Heap) (R : Value → Heap → Prop) : Tg → Prop
  | .fn f => Enters P f ∧ Ret P f us h R
  | .yl l => ∀ lo, ρ l = some lo → YRet P lo.g us h R
def YS (P : Program) (ρ0 : Rn) (l : Pth) (fd : FD R) : Prop :=
  ∀ vs H k r, Tr (fd vs H k) r → ∀ ρ h us lo, Le ρ0 ρ → HR P ρ H h → ρ l = some lo → VRs ρ vs us → YRet P lo.g us h (Out P ρ H h k)
def CxS (P : Program) (ρ0 : Rn) (cx : Cx R) : Prop :=
  ∀ ext ρ1, Le ρ0 ρ1 → (∀ p ∈ ext, YS P ρ1 p.1 p.2) → ∀ tg vs H k r, Tr (cx ext tg vs H k) r → ∀ ρ h us, Le ρ1 ρ → HR P ρ H h → VRs ρ vs us → TgR P ρ us h (Out P ρ H h k) tg
def EfcS (P : Program) (op : Op) (d : Option (Slot R)) (i : Ins R) : Prop :=
  ∀ cx ρ0, CxS P ρ0 cx → ∀ κ e H r, Tr (i cx κ e H) r → ∀ ρ h E, Le ρ0 ρ → HR P ρ H h → ER ρ e E → ∀ rd dst ty pos aft, Ef P rd E h ⟨dst, op, ty, pos, aft, none⟩ (Out P ρ H h fun v H' => put d v κ e H')
theorem EffS.c {op : Op} {i : Ins R} (h : EffS P op d i) : EfcS P op d i := fun cx _ _ κ e H r hr ρ h' E _ hh he rd dst ty pos aft => h cx κ e H r hr ρ h' E hh he rd dst ty pos aft
theorem efc_call {f : Nat} {args : Array Operand} {ts : Array TypeId} {xs : EV → (List AV → Option R) → Option R} (hxs : OpsS P args.toList xs) : EfcS P (.call ⟨.value (.func f), args, ts⟩) d (iCall d f xs) := by
  intro cx ρ0 hcx κ e H r hr ρ h E hle hh he rd dst ty pos aft
  simp only [iCall, hxs.eq] at hr
  replace hr := bind_tr hr
  obtain ⟨vs, hv, hr⟩ := hr
  obtain ⟨us, h1, h2⟩ := hxs.ok ρ H h e E vs hh he hv
  obtain ⟨k1, k2⟩ := hcx [] ρ0 (Le.refl _) (fun p hp => by cases hp) (.fn f) vs H _ r hr ρ h us hle hh h1
  exact e_call k1 h2 k2
theorem efc_callv {args : Array Operand} {ts : Array TypeId} {xs : EV → (List AV → Option R) → Option R} (hx : OpS P x xo) (hxs : OpsS P args.toList xs) : EfcS P (.call ⟨.value x, args, ts⟩) d (iCv' d xo xs) := by
  intro cx ρ0 hcx κ e H r hr ρ h E hle hh he rd dst ty pos aft
  simp only [iCv', hx.eq] at hr
  replace hr := bind_tr hr
  obtain ⟨v, hv, hr⟩ := hr
  simp only [hxs.eq] at hr
  replace hr := bind_tr hr
  obtain ⟨vs, hvs, hr⟩ := hr
  obtain ⟨u, h1, h2⟩ := hx.ok ρ H h e E v hh he hv
  obtain ⟨us, h3, h4⟩ := hxs.ok ρ H h e E vs hh he hvs
  split at hr
  · rename_i f first cap
    cases h1 with
    | fn h5 h6 =>
      obtain ⟨k1, k2⟩ := hcx [] ρ0 (Le.refl _) (fun p hp => by cases hp) (.fn f) _ H _ r hr ρ h _ hle hh ((h5.append h3).append h6)
      exact e_callv k1 h2 h4 k2
  · rename_i l
    cases h1 with
    | yld h5 =>
      rename_i lo
      have k2 := hcx [] ρ0 (Le.refl _) (fun p hp => by cases hp) (.yl l) _ H _ r hr ρ h _ hle hh h3 lo h5
      intro a w hA hw next hn
      refine ⟨fun _ _ => trivial, ?_⟩
      rw [show (Wd rd).round = rd from rfl, Oper.semAt_eq rd _ _ (fun _ hc => by cases hc)]
      obtain ⟨f, tm, aa, bb, y1, y2⟩ := k2 rd w hw
      have g2 : args.map a.eval = us.toArray := by rw [← hA.evs h4, ← Array.toList_map, Array.toArray_toList]
      have g3 : a.eval x = .func (.yield lo.g) #[] #[] := hA _ _ h2
      have hrun : (execOp a.eval ⟨dst, .call ⟨.value x, args, ts⟩, ty, pos, aft, none⟩).run P w = .ok (.round lo.g f tm aa bb) w := by
        simp only [execOp, resolve, g2, g3, Deferred.ofValue, Sem.run_bind, Sem.run_pure, Result.andThen, invoke]
        simpa using y1
      rw [hrun]
      refine ⟨fun hh => by simp [Wd] at hh, RoundIn.mono y2 ?_⟩
      rintro en w' ⟨v', rfl, o1, o2, o3, o4⟩
      exact hn v' w' o4 o1 o2 o3
  · cases hr
theorem methB_spec {t f : Nat} {name : String} (h : methB P t name = some f) (v : Value) (w : World) : (method (P.types.size + Made.depth) t v name).run P w = .ok (f, v) w := by
  unfold methB at h
  split at h
  · rename_i inf h1
    split at h
    · rename_i m h2
      split at h
      · rename_i f' pr h3 h4
        obtain ⟨n, hn⟩ : ∃ n, P.types.size + Made.depth = n + 1 := ⟨P.types.size + Made.depth - 1, by
          have : 0 < Made.depth := by decide
          omega⟩
        rw [hn]
        have key : ∀ (wr : Option String), (receiverAt t (.val v) pr wr).run P w = .ok v w ∧ f' = f := by
          intro wr
          split at h
          · rename_i hu; cases h; exact ⟨by simp [receiverAt, run_underlying hu, Place.get], rfl⟩
          · cases h
          · rename_i dd hnp hu
            cases h
            refine ⟨?_, rfl⟩
            cases dd <;> first | exact absurd rfl (hnp _) | (simp [receiverAt, run_underlying hu, Place.get])
          · cases h
        obtain ⟨_, hff⟩ := key none
        subst hff
        have key' : ∀ (wr : Option String), (receiverAt t (.val v) pr wr).run P w = .ok v w := fun wr => (key wr).1
        simp [method, typeInfo, h1, h2, h3, h4, follow, key']
      · cases h
    · cases h
  · cases h
theorem efc_inv {args : Array Operand} {ts : Array TypeId} {name : String} {xs : EV → (List AV → Option R) → Option R} (hx : OpS P x xo) (hxs : OpsS P args.toList xs) : EfcS P (.call ⟨.invoke x name, args, ts⟩) d (iInv d (fun t => methB P t name) xo xs) := by
  intro cx ρ0 hcx κ e H r hr ρ h E hle hh he rd dst ty pos aft
  simp only [iInv, hx.eq] at hr
  replace hr := bind_tr hr
  obtain ⟨v, hv, hr⟩ := hr
  simp only [hxs.eq] at hr
  replace hr := bind_tr hr
  obtain ⟨vs, hvs, hr⟩ := hr
  obtain ⟨u, h1, h2⟩ := hx.ok ρ H h e E v hh he hv
  obtain ⟨us, h3, h4⟩ := hxs.ok ρ H h e E vs hh he hvs
  split at hr
  · rename_i t w
    split at hr
    · rename_i f hf
      cases h1 with
      | ifc h5 =>
        rename_i uv
        obtain ⟨k1, k2⟩ := hcx [] ρ0 (Le.refl _) (fun p hp => by cases hp) (.fn f) _ H _ r hr ρ h _ hle hh (.cons h5 h3)
        refine ef_of_enter (f := f) (vals := uv :: us) (fun _ hc => by cases hc) (fun σ w hA _ => ?_) k2
        have g2 : args.map σ = us.toArray := by rw [← hA.evs h4, ← Array.toList_map, Array.toArray_toList]
        have g3 : σ x = .iface t uv := hA _ _ h2
        have g5 : (#[Value.iface t uv] ++ us.toArray).extract 1 (#[Value.iface t uv] ++ us.toArray).size = us.toArray := by simp
        have g6 : #[uv] ++ us.toArray = (uv :: us).toArray := by simp
        simp only [execOp, resolve, g2, g3, Sem.run_bind, Sem.run_pure, Result.andThen, invoke]
        rw [show (#[Value.iface t uv] ++ us.toArray)[0]? = some (Value.iface t uv) by simp]
        simp only [g5, callMethod, program, Sem.run_bind, Sem.run, Result.andThen, methB_spec hf uv w, g6]
        exact k1 _ w
    · cases hr
  · cases hr
end Ry
end Go.TP
/-! Rzc. -/
namespace Go.TP
open Go
namespace Ry
variable {P : Program} {d : Option (Slot R)}
theorem o1_some {x : Operand} {f : OD R → Option (Ins R)} {i : Ins R} (h : o1 P x f = some i) : ∃ xo, OpS P x xo ∧ f xo = some i := by
  unfold o1 at h
  split at h
  · rename_i xo hx; exact ⟨xo, opnd_ok hx, h⟩
  · cases h
theorem o2_some {x y : Operand} {f : OD R → OD R → Option (Ins R)} {i : Ins R} (h : o2 P x y f = some i) : ∃ xo yo, OpS P x xo ∧ OpS P y yo ∧ f xo yo = some i := by
  obtain ⟨xo, h1, h⟩ := o1_some h
  obtain ⟨yo, h2, h⟩ := o1_some h
  exact ⟨xo, yo, h1, h2, h⟩
theorem oM_some {x : Option Operand} {f : Option (OD R) → Option (Ins R)} {i : Ins R} (h : oM P x f = some i) : ∃ xo, OptS P x xo ∧ f xo = some i := by
  cases x with
  | none => exact ⟨none, trivial, h⟩
  | some x => obtain ⟨xo, h1, h⟩ := o1_some (show o1 P x (fun x => f (some x)) = some i from h); exact ⟨some xo, h1, h⟩
theorem dat_fail {op : Op} : DatS P op d (iFail : Ins R) := fun _ _ _ _ _ h => by cases h
theorem efc_fail {op : Op} : EfcS P op d (iFail : Ins R) := fun _ _ _ _ _ _ _ h => by cases h
theorem kindB_spec {t : Nat} {k : IntKind} (h : kindB P t = some k) : P.underlying t = some (.int k) := by
  unfold kindB at h
  split at h
  · rename_i hu; cases h; exact hu
  · cases h
theorem list1 {α : Type} {a : Array α} {x : α} (h : a.toList = [x]) : a = #[x] := by
  rw [← Array.toArray_toList (xs := a), h]
theorem list2 {α : Type} {a : Array α} {x y : α} (h : a.toList = [x, y]) : a = #[x, y] := by
  rw [← Array.toArray_toList (xs := a), h]
theorem compB_dat {b : Builtin} {args : Array Operand} {ts : Array TypeId} {i : Ins R} (hd : b = .len ∨ b = .cap ∨ b = .min ∨ b = .max) (h : compB P d b args.toList ts.toList = some i) : DatS P (.call ⟨.builtin b, args, ts⟩) d i := by
  unfold compB at h
  split at h
  · rename_i x ha
    rw [list1 ha]
    split at h
    · rename_i t ht
      rw [list1 ht]
      split at h
      · rename_i hu; obtain ⟨xo, h1, h⟩ := o1_some h; cases h; exact dat_len hu h1
      · rename_i hu; obtain ⟨xo, h1, h⟩ := o1_some h; cases h; exact dat_les hu h1
      · cases h
    · cases h
  · rename_i x ha
    rw [list1 ha]
    split at h
    · rename_i t ht
      rw [list1 ht]
      split at h
      · rename_i hu; obtain ⟨xo, h1, h⟩ := o1_some h; cases h; exact dat_cap hu h1
      · cases h
    · cases h
  · rename_i x y ha; rw [list2 ha]; obtain ⟨xo, yo, h1, h2, h⟩ := o2_some h; cases h; exact dat_mx h1 h2
  · rename_i x y ha; rw [list2 ha]; obtain ⟨xo, yo, h1, h2, h⟩ := o2_some h; cases h; exact dat_mn h1 h2
  · rcases hd with h | h | h | h <;> cases h
  · cases h
theorem compB_efc {b : Builtin} {args : Array Operand} {ts : Array TypeId} {i : Ins R} (h : compB P d b args.toList ts.toList = some i) : EfcS P (.call ⟨.builtin b, args, ts⟩) d i := by
  by_cases hd : b = .len ∨ b = .cap ∨ b = .min ∨ b = .max
  · exact ((compB_dat hd h).eff (fun _ hc => by cases hc)).c
  · unfold compB at h
    split at h
    · exact absurd (.inl rfl) hd
    · exact absurd (.inr (.inl rfl)) hd
    · exact absurd (.inr (.inr (.inr rfl))) hd
    · exact absurd (.inr (.inr (.inl rfl))) hd
    · rename_i x y ha
      rw [list2 ha]
      split at h
      · rename_i t u ht
        rw [list2 ht]
        split at h
        · rename_i T sz he
          split at h
          · rename_i hu
            split at h
            · rename_i z hz
              split at h
              · rename_i hc
                simp only [Bool.and_eq_true] at hc
                obtain ⟨xo, yo, h1, h2, h⟩ := o2_some h
                cases h
                exact (eff_apm he hu hz (Nat.eq_of_beq_eq_true hc.1.1) hc.1.2 h1 h2).c
              · cases h
            · cases h
          · rename_i hu
            split at h
            · rename_i z hz
              split at h
              · rename_i hc
                simp only [Bool.and_eq_true] at hc
                obtain ⟨xo, yo, h1, h2, h⟩ := o2_some h
                cases h
                exact (eff_app he hu hz (Nat.eq_of_beq_eq_true hc.1.1) hc.1.2 h1 h2).c
              · cases h
            · cases h
          · cases h
        · cases h
      · cases h
    · cases h
theorem compO_dat {op : Op} {i : Ins R} (hd : isData op = true) (h : compO P d op = some i) : DatS P op d i := by
  unfold compO at h
  split at h
  · obtain ⟨xo, h1, h⟩ := o1_some h; cases h; exact dat_mv h1
  · obtain ⟨xo, h1, h⟩ := o1_some h; cases h; exact dat_as h1
  · obtain ⟨zo, h1, h⟩ := o1_some h; obtain ⟨xo, yo, h2, h3, h⟩ := o2_some h; cases h; exact dat_pick h1 h2 h3
  · cases hd
  · cases hd
  · split at h
    · rename_i z hz
      split at h
      · rename_i fs hu
        split at h
        · cases h
        · rename_i hall
          split at h
          · rename_i l hl; cases h; exact dat_bds hz hu hall hl
          · cases h
      · rename_i hu
        split at h
        · rename_i inf hi
          split at h
          · rename_i l hl; cases h; exact dat_bda hz hu hi hl
          · cases h
        · cases h
      · cases h
    · cases h
  · cases hd
  · cases hd
  · split at h
    · rename_i n hs; obtain ⟨xo, h1, h⟩ := o1_some h; rw [natK_eq] at h; cases h; exact dat_ls hs h1
    · rename_i n hs; obtain ⟨xo, h1, h⟩ := o1_some h; cases h; exact dat_ld hs h1
    · cases h
  · cases hd
  · obtain ⟨xo, h1, h⟩ := o1_some h; cases h; exact dat_nc h1
  · split at h
    · rename_i f hf; obtain ⟨xo, yo, h1, h2, h⟩ := o2_some h; cases h; exact dat_bin (binT_ok hf) h1 h2
    · cases h
  · split at h
    · rename_i f hf; obtain ⟨xo, h1, h⟩ := o1_some h; cases h; exact unF_ok hf h1
    · cases h
  · split at h
    · rename_i h1 h2; obtain ⟨xo, h3, h⟩ := o1_some h; cases h; exact dat_cv h1 h2 h3
    · rename_i h1 h2
      split at h
      · rename_i hk; obtain ⟨xo, h3, h⟩ := o1_some h; cases h; exact dat_bt h1 (kindB_spec hk) h2 h3
      · cases h
    · cases h
  · split at h
    · rename_i hc; obtain ⟨xo, h1, h⟩ := o1_some h; cases h; exact dat_if hc h1
    · cases h
  · split at h
    · rename_i xs hx
      split at h
      · rename_i ys hy; cases h; exact dat_fn (opnds_ok hx) (opnds_ok hy)
      · cases h
    · cases h
  · split at h
    · rename_i hu
      obtain ⟨xo, h1, h⟩ := o1_some h
      obtain ⟨lo, h2, h⟩ := oM_some h
      obtain ⟨hi, h3, h⟩ := oM_some h
      cases h
      exact dat_ss hu h1 h2 h3
    split at h
    · rename_i he
      obtain ⟨xo, h1, h⟩ := o1_some h
      obtain ⟨lo, h2, h⟩ := oM_some h
      obtain ⟨hi, h3, h⟩ := oM_some h
      cases h
      exact dat_sl he h1 h2 h3
    · cases h
  · split at h
    · rename_i hf; obtain ⟨xo, h1, h⟩ := o1_some h; rw [natK_eq] at h; cases h; exact dat_fa hf h1
    · cases h
  · split at h
    · rename_i hf; obtain ⟨xo, h1, h⟩ := o1_some h; rw [natK_eq, natK_eq] at h; cases h; exact dat_fs hf h1
    · rename_i hf; obtain ⟨xo, h1, h⟩ := o1_some h; rw [natK_eq] at h; cases h; exact dat_fd hf h1
    · cases h
  · split at h
    · split at h
      · rename_i he; obtain ⟨xo, yo, h1, h2, h⟩ := o2_some h; cases h; exact dat_is he h1 h2
      · cases h
    · split at h
      · rename_i he; obtain ⟨xo, yo, h1, h2, h⟩ := o2_some h; cases h; exact dat_ip he h1 h2
      · cases h
  · split at h
    · rename_i hu; obtain ⟨xo, yo, h1, h2, h⟩ := o2_some h; cases h; exact dat_ix hu h1 h2
    · cases h
  · obtain ⟨xo, h1, h⟩ := o1_some h; cases h; exact dat_ex h1
  · split at h
    · cases h
    · rename_i dd hni hu
      split at h
      · rename_i z hz; obtain ⟨xo, h1, h⟩ := o1_some h; cases h; exact dat_ta hu (fun ms hm => hni ms (by rw [hm])) hz h1
      · cases h
    · cases h
  · rename_i c
    obtain ⟨callee, args, ts⟩ := c
    simp only at h
    split at h
    · rename_i b
      refine compB_dat ?_ h
      unfold isData at hd
      cases b <;> simp at hd ⊢
    · simp [isData] at hd
    · simp [isData] at hd
    · simp [isData] at hd
  · cases h; exact dat_fail
theorem compO_efc {op : Op} {i : Ins R} (h : compO P d op = some i) : EfcS P op d i := by
  by_cases hd : isData op = true
  · by_cases hdef : ∀ c, op ≠ .defer c
    · exact ((compO_dat hd h).eff hdef).c
    · have : ∃ c, op = .defer c := Classical.byContradiction fun hn => hdef fun c hc => hn ⟨c, hc⟩
      obtain ⟨c, rfl⟩ := this
      cases h
      exact efc_fail
  · unfold compO at h
    split at h <;> first
      | exact absurd rfl hd
      | skip
    · split at h
      · rename_i z hz; cases h; exact (eff_al hz).c
      · cases h
    · obtain ⟨xo, h1, h⟩ := o1_some h; cases h; exact (eff_bx h1).c
    · split at h
      · rename_i T sz he
        split at h
        · rename_i z hz
          split at h
          · rename_i hl
            split at h
            · rename_i l hq; cases h; exact (eff_bs he hz (Nat.eq_of_beq_eq_true hl) hq).c
            · cases h
          · cases h
        · cases h
      · cases h
    · split at h
      · rename_i T sz he
        split at h
        · rename_i z hz
          split at h
          · rename_i hl
            simp only [Bool.and_eq_true] at hl
            obtain ⟨xo, yo, h1, h2, h⟩ := o2_some h
            cases h
            exact (eff_mk he hz (Nat.eq_of_beq_eq_true hl.1) (smallB_spec hl.2) h1 h2).c
          · cases h
        · cases h
      · cases h
    · split at h
      · split at h
        · rename_i hs; obtain ⟨xo, yo, h1, h2, h⟩ := o2_some h; rw [natK_eq] at h; cases h; exact (eff_st hs h1 h2).c
        · cases h
      · cases h
    · rename_i c
      obtain ⟨callee, args, ts⟩ := c
      simp only at h
      split at h
      · exact compB_efc h
      · split at h
        · rename_i xs hx; cases h; exact efc_call (opnds_ok hx)
        · cases h
      · split at h
        · rename_i xs hx; obtain ⟨xo, h1, h⟩ := o1_some h; cases h; exact efc_callv h1 (opnds_ok hx)
        · cases h
      · split at h
        · rename_i xs hx; obtain ⟨xo, h1, h⟩ := o1_some h; cases h; exact efc_inv h1 (opnds_ok hx)
        · cases h
    · cases h; exact efc_fail
end Ry
end Go.TP
/-! Rzd. -/
namespace Go.TP
open Go
section
variable {P : Program} {K : Kt} {κ : List Item} {e : Env} {h : Heap} {ops : Array Oper} {l : List Oper}
theorem RunL.offg {d : Option Nat} {op : Op} {ty : TypeId} {pos : String} {aft : Array Edge} {j t : Nat} {want : Bool} {v : Value} (hj : (ops[j]?).bind (·.dst) = some t) (hl : look e t = some v) (hb : v = .bool (!want) ∨ v = undef)
    (r : RunL P K ops l κ (putE d undef e) h) : RunL P K ops (⟨d, op, ty, pos, aft, some (j, want)⟩ :: l) κ e h := by
  intro hk a w hf hd hw
  obtain ⟨k1, k2⟩ := okL_cons hk
  have hn : Region.wanted ⟨d, op, ty, pos, aft, some (j, want)⟩ (yielded ops a.tmps) = false := by
    rcases hb with rfl | rfl
    · have hy := yielded_bool hf hj hl; simp [Region.wanted, hy]
    · have hy := yielded_undef hf hj hl; simp [Region.wanted, hy]
  simp only [WL, hn, Bool.false_eq_true, if_false]
  refine r k2 _ w ?_ (by cases d <;> exact hd) hw
  cases d with
  | none => exact hf
  | some d => exact hf.put (okOp_dst k1 rfl) undef
theorem RunL.xg {d : Option Nat} {op : Op} {ty : TypeId} {pos : String} {aft : Array Edge} {R : Value → Heap → Prop} (hv : Ef P K.rd e h ⟨d, op, ty, pos, aft, none⟩ R)
    (r : ∀ v h', R v h' → RunL P K ops l κ (putE d v e) h') : RunL P K ops (⟨d, op, ty, pos, aft, none⟩ :: l) κ e h := by
  cases d with
  | none => exact RunL.y hv r
  | some d => exact RunL.x hv r
end
namespace Ry
variable {P : Program}
/-- What stands behind is sound: begun so, whatever has turned since. -/
def SndK (P : Program) (K : Kt) (ρb : Rn) (Hb : AH) (hb : Heap) (κi : List Item) (κ : Cont R) : Prop :=
  ∀ e H r, Tr (κ e H) r → ∀ ρ h E, Nx ρb Hb hb ρ H h → HR P ρ H h → ER ρ e E → Run P K κi E h
theorem put_some {p : Option (Slot R)} (hd : DstOk p) {v : AV} {κ : Cont R} {e : EV} {H : AH} {r : R} (h : Tr (put p v κ e H) r) : ∃ e', Tr (κ e' H) r ∧ (∀ ρ E u, ER ρ e E → VR ρ v u → ER ρ e' (putE (p.map Slot.p) u E)) ∧ ∀ q, p.map Slot.p ≠ some q → getE e' q = getE e q := by
  cases p with
  | none => exact ⟨e, h, fun ρ E u he _ => he, fun _ _ => rfl⟩
  | some s =>
    have h : Tr (s.S (some v) e (fun e => κ e H)) r := by cases s; exact h
    rw [hd s rfl] at h
    refine ⟨_, h, fun ρ E u he hu => he.put s.p hu, fun q hq => ?_⟩
    exact getE_other fun hqp => hq (by rw [hqp]; rfl)
variable {K : Kt} {ρb : Rn} {Hb : AH} {hb : Heap} {κi : List Item} {cx : Cx R}
theorem comp1_ok (hcx : CxS P ρb cx) {all : List Oper} {o : Oper} {i : Ins R} (hi : comp1 P all o = some i) {l : List Oper} {κ : Cont R}
    (hκ : ∀ e H r, Tr (κ e H) r → ∀ ρ h E, Nx ρb Hb hb ρ H h → HR P ρ H h → ER ρ e E → RunL P K all.toArray l κi E h) :
    ∀ e H r, Tr (i cx κ e H) r → ∀ ρ h E, Nx ρb Hb hb ρ H h → HR P ρ H h → ER ρ e E → RunL P K all.toArray (o :: l) κi E h := by
  obtain ⟨dst, op, ty, pos, aft, g⟩ := o
  replace hi := dstK_some hi
  obtain ⟨p, hp, hdk, hi⟩ := hi
  intro e H r hr ρ h E hx hh he
  simp only at hp hi
  split at hi
  · cases hi; cases hr
  · rename_i c hc
    have key : ∀ e H r, Tr (c cx κ e H) r → ∀ ρ h E, Nx ρb Hb hb ρ H h → HR P ρ H h → ER ρ e E → RunL P K all.toArray (⟨dst, op, ty, pos, aft, none⟩ :: l) κi E h := by
      intro e H r hr ρ h E hx hh he
      refine RunL.xg (compO_efc hc cx ρb hcx κ e H r hr ρ h E hx.le hh he K.rd dst ty pos aft) fun u h' ho => ?_
      obtain ⟨ρ', v, H', r', k1, k2, k3, k4⟩ := ho
      obtain ⟨e', k5, k6, _⟩ := put_some hdk k1
      have := hκ e' H' r' k5 ρ' h' _ (hx.trans k3 hh) k2 (k6 ρ' E u (he.mono k3.le) k4)
      rwa [hp] at this
    split at hi
    · cases hi
      exact key e H r hr ρ h E hx hh he
    · rename_i j w
      split at hi
      · cases hi
      · rename_i t hj
        replace hi := slG_some hi
        obtain ⟨G, hG, hi⟩ := hi
        cases hi
        have hj' : (all.toArray[j]?).bind (·.dst) = some t := by simpa using hj
        have hr : Tr (oT G e (fun v => match v with
            | .B b => ifK (b == w) (c cx κ e H) (put p (.X .undef) κ e H)
            | .X .undef => put p (.X .undef) κ e H
            | _ => none)) r := hr
        rw [oT_eq hG] at hr
        replace hr := bind_tr hr
        obtain ⟨v, hv, hr⟩ := hr
        obtain ⟨u, hu, hl⟩ := he t v hv
        have off : ∀ u, look E t = some u → u = .bool (!w) ∨ u = undef → Tr (put p (.X .undef) κ e H) r → RunL P K all.toArray (⟨dst, op, ty, pos, aft, some (j, w)⟩ :: l) κi E h := by
          intro u hl hb hr
          obtain ⟨e', k5, k6, _⟩ := put_some hdk hr
          refine RunL.offg hj' hl hb ?_
          have := hκ e' H r k5 ρ h _ hx hh (k6 ρ E undef he .undef)
          rwa [hp] at this
        split at hr
        · rename_i b
          cases hu
          rw [ifK_eq] at hr
          split at hr
          · rename_i hb
            have hb : b = w := by simpa using hb
            exact RunL.on hj' hl hb (key e H r hr ρ h E hx hh he)
          · rename_i hb
            refine off _ hl (.inl ?_) hr
            have hb : ¬ b = w := by simpa using hb
            cases b <;> cases w <;> simp_all
        · cases hu
          exact off _ hl (.inr rfl) hr
        · cases hr
theorem compL_ok (hcx : CxS P ρb cx) {all : List Oper} : ∀ {l : List Oper} {i : Ins R}, compL P all l = some i → ∀ {κ : Cont R}, SndK P K ρb Hb hb κi κ →
    ∀ e H r, Tr (i cx κ e H) r → ∀ ρ h E, Nx ρb Hb hb ρ H h → HR P ρ H h → ER ρ e E → RunL P K all.toArray l κi E h
  | [], i, hi, κ, hκ => by
    cases hi
    intro e H r hr ρ h E hx hh he
    exact RunL.nil (hκ e H r hr ρ h E hx hh he)
  | o :: l, i, hi, κ, hκ => by
    unfold compL at hi
    split at hi
    · cases hi
    · rename_i c hc
      split at hi
      · cases hi
      · rename_i c' hc'
        cases hi
        exact comp1_ok hcx hc (κ := c' cx κ) (compL_ok hcx hc' hκ)
end Ry
end Go.TP
/-! Rze. -/
namespace Go.TP
open Go
namespace Ry
variable {P : Program} {ops : Array Oper}
def MsOk (ops : Array Oper) (ms : List (Nat × Nat)) : Prop := ∀ j m, (j, m) ∈ ms → ∀ k, Nat.testBit m k = true → Anc ops k j
theorem find_bit {ms : List (Nat × Nat)} (hm : MsOk ops ms) {i k : Nat} (h : Nat.testBit (maskOf.find i ms) k = true) : Anc ops k i := by
  induction ms with
  | nil => simp [maskOf.find] at h
  | cons p ms ih =>
    obtain ⟨j, m⟩ := p
    simp only [maskOf.find] at h
    split at h
    · rename_i hb
      have := Nat.eq_of_beq_eq_true hb
      subst this
      exact hm j m (List.mem_cons_self ..) k h
    · exact ih (fun j m hj => hm j m (List.mem_cons_of_mem _ hj)) h
theorem maskOf_bit {ms : List (Nat × Nat)} (hm : MsOk ops ms) : ∀ {l : List Edge} {k : Nat}, Nat.testBit (maskOf ms l) k = true → ∃ e ∈ l, Region.binds .any e = true ∧ (k = e.on ∨ Anc ops k e.on)
  | [], k, h => by simp [maskOf] at h
  | e :: l, k, h => by
    unfold maskOf at h
    split at h
    · rename_i hb
      change Nat.testBit (((1 <<< e.on) ||| maskOf.find e.on ms) ||| maskOf ms l) k = true at h
      rw [Nat.testBit_or, Nat.testBit_or, Bool.or_eq_true, Bool.or_eq_true] at h
      rcases h with (h | h) | h
      · refine ⟨e, List.mem_cons_self .., hb, .inl ?_⟩
        rw [Nat.shiftLeft_eq, Nat.one_mul, Nat.testBit_two_pow] at h
        simpa [eq_comm] using h
      · exact ⟨e, List.mem_cons_self .., hb, .inr (find_bit hm h)⟩
      · obtain ⟨e', h1, h2⟩ := maskOf_bit hm h
        exact ⟨e', List.mem_cons_of_mem _ h1, h2⟩
    · obtain ⟨e', h1, h2⟩ := maskOf_bit hm h
      exact ⟨e', List.mem_cons_of_mem _ h1, h2⟩
theorem maskAt_bit {ms : List (Nat × Nat)} (hm : MsOk ops ms) {i k : Nat} (h : Nat.testBit (maskAt ops ms i) k = true) : Anc ops k i := by
  unfold maskAt at h
  split at h
  · rename_i o ho
    obtain ⟨e, h1, h2, h3⟩ := maskOf_bit hm h
    have h1 : e ∈ o.after := by simpa using h1
    rcases h3 with rfl | h3
    · exact .one ho h1 h2
    · exact .step h3 ho h1 h2
  · simp at h
theorem MsOk.next {ms : List (Nat × Nat)} (hm : MsOk ops ms) (s : Stp) : MsOk ops (msOf ops ms s) := by
  have h : ∀ i, MsOk ops ((i, maskAt ops ms i) :: ms) := by
    intro i j m hj k hk
    rcases List.mem_cons.1 hj with h | h
    · cases h; exact maskAt_bit hm hk
    · exact hm j m h k hk
  cases s with
  | pre _ => exact hm
  | take i => exact h i
  | eff i => exact h i
  | new i => exact h i
theorem chkLg_some {mask : Nat} {H : AH} : ∀ {lg : Lg} {k : Lg → Option R} {r : R}, Tr (chkLg mask H lg k) r → ∃ lg', Tr (k lg') r ∧ (∀ x ∈ lg, Nat.testBit mask x.1 = false → x ∈ lg' ∧ ∃ T m cs, getT H.blocks x.2.1 = some (.cells T m x.2.2 cs))
  | [], k, r, h => ⟨[], h, fun x hx => by cases hx⟩
  | p :: lg, k, r, h => by
    have h : Tr (Bool.rec (motive := fun _ => Option R) (blk H p.2.1 fun B => cellsB B fun _ _ st _ => ifK (Nat.beq p.2.2 st) (chkLg mask H lg fun lg => k (p :: lg)) none) (chkLg mask H lg k) (Nat.testBit mask p.1)) r := h
    cases hb : Nat.testBit mask p.1 with
    | true =>
      rw [hb] at h
      obtain ⟨lg', h1, h2⟩ := chkLg_some h
      refine ⟨lg', h1, fun x hx hf => ?_⟩
      rcases List.mem_cons.1 hx with rfl | hx
      · rw [hb] at hf; cases hf
      · exact h2 x hx hf
    | false =>
      rw [hb] at h
      replace h := blk_some h
      obtain ⟨B, hB, h⟩ := h
      replace h := cellsB_some h
      obtain ⟨T, m, st, cs, rfl, h⟩ := h
      rw [ifK_eq] at h
      split at h
      · rename_i he
        have he := Nat.eq_of_beq_eq_true he
        obtain ⟨lg', h1, h2⟩ := chkLg_some h
        refine ⟨p :: lg', h1, fun x hx hf => ?_⟩
        rcases List.mem_cons.1 hx with rfl | hx
        · exact ⟨List.mem_cons_self .., T, m, cs, by rw [he]; exact hB⟩
        · obtain ⟨h3, h4⟩ := h2 x hx hf
          exact ⟨List.mem_cons_of_mem _ h3, h4⟩
      · cases h
/-- The real log: which operation has read, which block, what it was. -/
abbrev Lr := List (Nat × Nat × Obj)
def Phi (ops : Array Oper) (lr : Lr) (L : Array Bool) (h : Heap) : Prop := ∀ x ∈ lr, Needs ops L x.1 → h[x.2.1]? = some x.2.2
def LgR (ops : Array Oper) (L : Array Bool) (lg : Lg) (lr : Lr) (ρ : Rn) (H : AH) (h : Heap) : Prop :=
  ∀ x ∈ lr, Needs ops L x.1 → h[x.2.1]? = some x.2.2 ∧ ∃ b st lo, (x.1, b, st) ∈ lg ∧ ρ b = some lo ∧ lo.g = x.2.1 ∧ ∃ T m cs, getT H.blocks b = some (.cells T m st cs)
theorem LgR.phi {L : Array Bool} {lg : Lg} {lr : Lr} {ρ : Rn} {H : AH} {h : Heap} (hl : LgR ops L lg lr ρ H h) : Phi ops lr L h := fun x hx hn => (hl x hx hn).1
/-- Whatever else has been, what isn't needed stays so. -/
theorem Needs.less {L : Array Bool} {i k : Nat} (h : Needs ops (L.setIfInBounds i true) k) : Needs ops L k := fun j o hj hd hl => h j o hj hd (getD_set_true hl)
theorem Needs.data {L : Array Bool} {i k : Nat} {o : Oper} (hi : ops[i]? = some o) (hd : isData o.op = true) (h : Needs ops L k) : Needs ops (L.setIfInBounds i true) k := by
  intro j o' hj hd' hl
  by_cases hij : i = j
  · subst hij
    rw [hi] at hj
    cases hj
    rw [hd] at hd'
    cases hd'
  · rw [getD_set_ne true hij] at hl
    exact h j o' hj hd' hl
theorem Phi.data {L : Array Bool} {i : Nat} {o : Oper} {lr : Lr} {h : Heap} (hi : ops[i]? = some o) (hd : isData o.op = true) (hp : Phi ops lr (L.setIfInBounds i true) h) : Phi ops lr L h := fun x hx hn => hp x hx (Needs.data hi hd hn)
/-- Behind an operation that does more than read: what may still be to come has still what it had. -/
theorem LgR.eff {L : Array Bool} {lg lg' : Lg} {lr : Lr} {ρ ρ' : Rn} {H H' : AH} {h h' : Heap} {i mask : Nat} {o : Oper} (hl : LgR ops L lg lr ρ H h) (hh : HR P ρ H h) (hx : Nx ρ H h ρ' H' h') (hi : ops[i]? = some o) (hd : isData o.op = false) (hsz : i < L.size)
    (hm : ∀ k, Nat.testBit mask k = true → Anc ops k i) (hc : ∀ x ∈ lg, Nat.testBit mask x.1 = false → x ∈ lg' ∧ ∃ T m cs, getT H'.blocks x.2.1 = some (.cells T m x.2.2 cs)) : LgR ops (L.setIfInBounds i true) lg' lr ρ' H' h' := by
  intro x hxr hn
  obtain ⟨h1, b, st, lo, h2, h3, h4, T, m, cs, h5⟩ := hl x hxr (Needs.less hn)
  have hbit : Nat.testBit mask x.1 = false := by
    cases hb : Nat.testBit mask x.1 with
    | false => rfl
    | true => exact absurd (hm x.1 hb) (hn i o hi hd (by simp [Array.getD_eq_getD_getElem?, hsz]))
  obtain ⟨k1, T', m', cs', k2⟩ := hc _ h2 hbit
  refine ⟨?_, b, st, lo, k1, hx.le _ _ h3, h4, T', m', cs', k2⟩
  rw [← h1]
  have hlt : x.2.1 < h.size := (Array.getElem?_eq_some_iff.1 h1).1
  refine hx.fr x.2.1 hlt fun b' lo' hs hb' hg' => ?_
  rcases hh.inj b' b lo' lo hs (by rw [h5]; rfl) hb' h3 (by rw [hg', h4]) with this | this
  · subst this
    exact .inl ⟨T, m, st, cs, T', m', cs', h5, k2⟩
  · exact .inr this.1
/-! An allocation that is pending. -/
def AgreeOn (E : Env) (xs : List Operand) (σ : Operand → Value) : Prop := ∀ x ∈ xs, ∀ u, ev E x = some u → σ x = u
/-- Operation o makes a block of these cells, whenever it comes; val: its value. -/
structure PRun (P : Program) (ρ : Rn) (E : Env) (o : Oper) (T : Nat) (mk : Pth → AV) (pc : List AV) (news : List Value) (val : Nat → Value) : Prop where
  cells : VRs ρ pc news
  run : ∀ σ, AgreeOn E o.op.operands.toList σ → ∀ w : World, (execOp σ { o with guard := none }).run P w = .ok (.value (val w.heap.size)) { w with heap := w.heap.push (.cells news.toArray T) }
  val : ∀ (ρ' : Rn) (b : Pth) (lo : Lo), ρ' b = some lo → VR ρ' (mk b) (val lo.g)
  quiet : ∀ (σ : Operand → Value) (w : World), ({ o with guard := none } : Oper).about P w σ = none
  nodefer : ∀ c, o.op ≠ .defer c
theorem AgreeOn.put {E : Env} {xs : List Operand} {σ : Operand → Value} {d : Option Nat} {v : Value} (h : AgreeOn (putE d v E) xs σ) (hd : ∀ x ∈ xs, ∀ t, x = .tmp t → d ≠ some t) : AgreeOn E xs σ := by
  intro x hx u hu
  refine h x hx u ?_
  cases d with
  | none => exact hu
  | some d =>
    cases x with
    | tmp t =>
      have hne : ¬ d = t := fun he => hd _ hx t rfl (by rw [he])
      simp only [putE, ev] at hu ⊢
      rw [look_cons, if_neg hne]
      exact hu
    | _ => exact hu
theorem PRun.put {ρ ρ' : Rn} {E : Env} {o : Oper} {T : Nat} {mk : Pth → AV} {pc : List AV} {news : List Value} {val : Nat → Value} (h : PRun P ρ E o T mk pc news val) (hl : Le ρ ρ') {d : Option Nat} {v : Value} (hd : ∀ x ∈ o.op.operands.toList, ∀ t, x = .tmp t → d ≠ some t) : PRun P ρ' (putE d v E) o T mk pc news val :=
  ⟨h.cells.mono hl, fun σ hA w => h.run σ (hA.put hd) w, h.val, h.quiet, h.nodefer⟩
theorem PRun.ef {ρ : Rn} {E : Env} {dst : Option Tmp} {op : Op} {ty : TypeId} {pos : String} {aft : Array Edge} {g : Option (Nat × Bool)} {T : Nat} {mk : Pth → AV} {pc : List AV} {news : List Value} {val : Nat → Value} (h : PRun P ρ E ⟨dst, op, ty, pos, aft, g⟩ T mk pc news val) (rd : Option Nat) (hp : Heap) :
    Ef P rd E hp ⟨dst, op, ty, pos, aft, none⟩ (fun u h' => u = val hp.size ∧ h' = hp.push (.cells news.toArray T)) := by
  refine ef_of_run (fun σ w _ _ => h.quiet σ w) h.nodefer fun σ w hA hw => ?_
  subst hw
  exact ⟨_, _, .inl (h.run σ (fun x _ u hu => hA x u hu) w), ⟨rfl, rfl⟩, rfl, rfl, rfl⟩
theorem newCells_ok {op : Op} {T : Nat} {mk : Pth → AV} {cells : EV → (List AV → Option R) → Option R} (hn : newCells P op = some (T, mk, cells)) {e : EV} {k : List AV → Option R} {r : R} (hr : Tr (cells e k) r) :
    ∃ pc, Tr (k pc) r ∧ ∀ ρ H h E, HR P ρ H h → ER ρ e E → ∀ dst ty pos aft g, ∃ news val, PRun P ρ E ⟨dst, op, ty, pos, aft, g⟩ T mk pc news val := by
  unfold newCells at hn
  split at hn
  · rename_i T'
    split at hn
    · rename_i z hz
      cases hn
      obtain ⟨zv, z1, zs, z2, z3⟩ := zero_cells hz
      refine ⟨_, hr, fun ρ H h E hh he dst ty pos aft g => ⟨zs, fun g => .pointer (some ⟨g, 0, none⟩), z3 ρ, fun σ _ w => ?_, fun ρ' b lo hb => .P hb, fun _ _ => rfl, fun _ hc => by cases hc⟩⟩
      simp [execOp, Instr.alloc, z1, z2, newVar, newRow, newObj, Sem.run, Result.andThen]
    · cases hn
  · rename_i t n ps
    split at hn
    · rename_i T' sz he
      split at hn
      · rename_i z hz
        split at hn
        · rename_i hc
          simp only [Bool.and_eq_true] at hc
          split at hn
          · rename_i l hl
            cases hn
            obtain ⟨cs, h1, h2, h3⟩ := parts_new he hz (Nat.eq_of_beq_eq_true hc.1) hl (show Tr (repK (cellsOf z) n fun cs => partsK l cs e k) r from hr)
            refine ⟨cs, h1, fun ρ H h E hh hE dst ty pos aft g => ?_⟩
            obtain ⟨vs, h4, h5⟩ := h3 ρ H h E hh hE
            refine ⟨vs, fun g => .slice (some ⟨g, 0, none⟩) n n, h4, fun σ hA w => ?_, fun ρ' b lo hb => .S hb rfl (Nat.le_refl _), fun _ _ => rfl, fun _ hc => by cases hc⟩
            have := h5 (Nat.le_of_ble_eq_true hc.2) σ (fun q hq u hu => hA q.2 (by
              show q.2 ∈ (Op.buildSlice t n ps).operands.toList
              simp only [Op.operands]
              exact List.mem_map_of_mem hq) u hu) w
            simp only [execOp, Sem.run_bind, this, Result.andThen]
            rfl
          · cases hn
        · cases hn
      · cases hn
    · cases hn
  · cases hn
end Ry
end Go.TP
/-! Rze2. -/
namespace Go.TP
open Go
namespace Ry
variable {P : Program} {ops : Array Oper}
section
variable {ρ : Rn} {H : AH} {h : Heap}
theorem hr_push (hh : HR P ρ H h) (ob : Obj) : HR P ρ H (h.push ob) ∧ Nx ρ H h ρ H (h.push ob) := by
  have hps : ∀ g, g < h.size → (h.push ob)[g]? = h[g]? := fun g hg' => by rw [Array.getElem?_push, if_neg (by omega)]
  refine ⟨⟨fun b B hb => ?_, hh.inj, hh.new, hh.glob⟩, ⟨Le.refl _, by simp, fun g hg _ => hps g hg, fun b l T m s cs B' hb h1 h2 => ?_, fun _ _ _ h => h, fun b l h1 h2 => by rw [h1] at h2; cases h2⟩⟩
  · obtain ⟨lo, h1, h2⟩ := hh.blk b B hb
    exact ⟨lo, h1, h2.same (hps lo.g h2.lt)⟩
  · rw [h1] at h2; cases h2; exact ⟨_, _, _, _, rfl, Nat.le_refl _, Iff.rfl⟩
/-- A block that is there, known to nobody, gets a name. -/
theorem hr_name (hh : HR P ρ H h) (B : AB) (lo : Lo) (hno : ∀ b l, (getT H.blocks b).isSome → ρ b = some l → l.g ≠ lo.g) (hB : BR (upd ρ H.next lo) h lo B) :
    HR P (upd ρ H.next lo) ⟨Pth.succ H.next, setT (some B) H.next H.blocks⟩ h := by
  obtain ⟨hn1, hn2⟩ := hh.new H.next (Nat.le_refl _)
  have hle := upd_le (lo := lo) hn1
  have hold : ∀ b, b ≠ H.next → upd ρ H.next lo b = ρ b := fun b hb => if_neg hb
  have hnew : upd ρ H.next lo H.next = some lo := if_pos rfl
  have hget : ∀ b, getT (setT (some B) H.next H.blocks) b = if b = H.next then some B else getT H.blocks b := fun b => getT_setT _ _ _ _
  refine ⟨fun b B' hb => ?_, fun b b' l l' h1 h2 h3 h4 h5 => ?_, fun b hb => ?_, fun p hp => ?_⟩
  · rw [hget] at hb
    by_cases he : b = H.next
    · rw [if_pos he] at hb; cases hb; rw [he]; exact ⟨lo, hnew, hB⟩
    · rw [if_neg he] at hb
      obtain ⟨l, h1, h2⟩ := hh.blk b B' hb
      exact ⟨l, hle b l h1, h2.mono hle⟩
  · rw [hget] at h1 h2
    by_cases he : b = H.next <;> by_cases he' : b' = H.next
    · rw [he, he']; exact .inl rfl
    · rw [if_neg he'] at h2
      rw [he, hnew] at h3; cases h3
      rw [hold b' he'] at h4
      exact absurd h5.symm (hno b' l' h2 h4)
    · rw [if_neg he] at h1
      rw [he', hnew] at h4; cases h4
      rw [hold b he] at h3
      exact absurd h5 (hno b l h1 h3)
    · rw [if_neg he] at h1; rw [if_neg he'] at h2
      rw [hold b he] at h3; rw [hold b' he'] at h4
      refine (hh.inj b b' l l' h1 h2 h3 h4 h5).imp id fun ⟨⟨T, s, cs, e1⟩, ⟨T', s', cs', e2⟩⟩ => ⟨⟨T, s, cs, ?_⟩, ⟨T', s', cs', ?_⟩⟩
      · show getT (setT (some B) H.next H.blocks) b = _; rw [hget, if_neg he]; exact e1
      · show getT (setT (some B) H.next H.blocks) b' = _; rw [hget, if_neg he']; exact e2
  · have hb' : num H.next + 1 ≤ num b := by have := hb; simp only [num_succ] at this; exact this
    have hne : b ≠ H.next := fun he => by rw [he] at hb'; omega
    obtain ⟨k1, k2⟩ := hh.new b (by omega)
    exact ⟨(hold b hne).trans k1, by rw [hget, if_neg hne]; exact k2⟩
  · obtain ⟨l, k1, k2⟩ := hh.glob p hp
    exact ⟨l, hle p l k1, k2⟩
end
end Ry
end Go.TP
/-! Rze3. -/
namespace Go.TP
open Go
namespace Ry
variable {P : Program} {ops : Array Oper} {K : Kt} {κi : List Item}
theorem take_on {i d : Nat} {op : Op} {ty : TypeId} {pos : String} {aft : Array Edge} {g : Option (Nat × Bool)} {L : Array Bool} {E : Env} {h : Heap} {u : Value} {lr2 : Lr} {f : Nat} (ho : ops[i]? = some ⟨some d, op, ty, pos, aft, g⟩) (hd : isData op = true) (hc : tk ops L i = true) (hg : GOn ops E g)
    (hv : ∀ L h', Needs ops L i → Phi ops lr2 L h' → Ev P E h' ⟨some d, op, ty, pos, aft, none⟩ u) (r : RunD P K ops (Phi ops lr2) f (L.setIfInBounds i true) κi ((d, u) :: E) h) : RunD P K ops (Phi ops lr2) (f + 1) L κi E h := by
  have hdt : ∀ L h, Phi ops lr2 (L.setIfInBounds i true) h → Phi ops lr2 L h := fun L h hp => Phi.data ho hd hp
  cases g with
  | none => exact RunD.take hdt hc ho hv r
  | some p =>
    obtain ⟨j, w⟩ := p
    obtain ⟨t, h1, h2⟩ := hg
    exact RunD.on hdt hc ho h1 h2 rfl hv r
theorem take_off {i d : Nat} {op : Op} {ty : TypeId} {pos : String} {aft : Array Edge} {j t : Nat} {w : Bool} {L : Array Bool} {E : Env} {h : Heap} {v : Value} {lr2 : Lr} {f : Nat} (ho : ops[i]? = some ⟨some d, op, ty, pos, aft, some (j, w)⟩) (hd : isData op = true) (hc : tk ops L i = true) (hj : (ops[j]?).bind (·.dst) = some t) (hl : look E t = some v) (hb : v = .bool (!w) ∨ v = undef)
    (r : RunD P K ops (Phi ops lr2) f (L.setIfInBounds i true) κi ((d, undef) :: E) h) : RunD P K ops (Phi ops lr2) (f + 1) L κi E h := by
  have hdt : ∀ L h, Phi ops lr2 (L.setIfInBounds i true) h → Phi ops lr2 L h := fun L h hp => Phi.data ho hd hp
  rcases hb with rfl | rfl
  · exact RunD.off hdt hc ho hj hl rfl r
  · exact RunD.offu hdt hc ho hj hl r
theorem LgR.same {L : Array Bool} {lg : Lg} {lr : Lr} {ρ : Rn} {H : AH} {h : Heap} {i : Nat} (hl : LgR ops L lg lr ρ H h) : LgR ops (L.setIfInBounds i true) lg lr ρ H h := fun x hx hn => hl x hx (Needs.less hn)
theorem LgR.more {L : Array Bool} {lg : Lg} {lr : Lr} {ρ : Rn} {H : AH} {h : Heap} {y : Nat × Pth × Nat} (hl : LgR ops L lg lr ρ H h) : LgR ops L (y :: lg) lr ρ H h := fun x hx hn => let ⟨h1, b, st, lo, h2, h3⟩ := hl x hx hn; ⟨h1, b, st, lo, List.mem_cons_of_mem _ h2, h3⟩
/-- What is logged. -/
theorem logK_some {n : Nat} {H : AH} {v : AV} {lg : Lg} {k : Lg → Option R} {r : R} (h : Tr (logK n H v lg k) r) : ∃ lg', Tr (k lg') r ∧ ((blkOf (some v) = none ∧ lg' = lg) ∨ ∃ b T m st cs, blkOf (some v) = some b ∧ getT H.blocks b = some (.cells T m st cs) ∧ lg' = (n, b, st) :: lg) := by
  unfold logK at h
  split at h
  · replace h := blk_some h
    obtain ⟨B, hB, h⟩ := h
    replace h := cellsB_some h
    obtain ⟨T, m, st, cs, rfl, h⟩ := h
    exact ⟨_, h, .inr ⟨_, T, m, st, cs, rfl, hB, rfl⟩⟩
  · replace h := blk_some h
    obtain ⟨B, hB, h⟩ := h
    replace h := cellsB_some h
    obtain ⟨T, m, st, cs, rfl, h⟩ := h
    exact ⟨_, h, .inr ⟨_, T, m, st, cs, rfl, hB, rfl⟩⟩
  · replace h := blk_some h
    obtain ⟨B, hB, h⟩ := h
    replace h := cellsB_some h
    obtain ⟨T, m, st, cs, rfl, h⟩ := h
    exact ⟨_, h, .inr ⟨_, T, m, st, cs, rfl, hB, rfl⟩⟩
  · replace h := blk_some h
    obtain ⟨B, hB, h⟩ := h
    replace h := cellsB_some h
    obtain ⟨T, m, st, cs, rfl, h⟩ := h
    exact ⟨_, h, .inr ⟨_, T, m, st, cs, rfl, hB, rfl⟩⟩
  · rename_i h1 h2 h3 h4
    refine ⟨lg, h, .inl ⟨?_, rfl⟩⟩
    unfold blkOf
    split
    · rename_i heq; cases heq; exact absurd rfl (h1 _ _)
    · rename_i heq; cases heq; exact absurd rfl (h2 _ _ _ _)
    · rename_i heq; cases heq; exact absurd rfl (h3 _ _)
    · rename_i heq; cases heq; exact absurd rfl (h4 _ _ _ _)
    · rfl
/-- A guard is read. -/
theorem guard_some {e : EV} {q : Nat} {G : EV → Option AV} (hG : ∀ e, G e = getE e q) {w : Bool} {x y : Option R} {r : R} (h : Tr (oT G e (fun v => match v with
    | .B b => ifK (b == w) x y
    | .X .undef => y
    | _ => none)) r) : (Tr x r ∧ ∀ ρ E, ER ρ e E → look E q = some (.bool w)) ∨ (Tr y r ∧ ∀ ρ E, ER ρ e E → ∃ v, look E q = some v ∧ (v = .bool (!w) ∨ v = undef)) := by
  rw [oT_eq hG] at h
  replace h := bind_tr h
  obtain ⟨v, hv, h⟩ := h
  split at h
  · rename_i b
    rw [ifK_eq] at h
    split at h
    · rename_i hb
      have hb : b = w := by simpa using hb
      subst hb
      refine .inl ⟨h, fun ρ E he => ?_⟩
      obtain ⟨u, hu, hl⟩ := he q _ hv
      cases hu
      exact hl
    · rename_i hb
      have hb : ¬ b = w := by simpa using hb
      refine .inr ⟨h, fun ρ E he => ?_⟩
      obtain ⟨u, hu, hl⟩ := he q _ hv
      cases hu
      exact ⟨_, hl, .inl (by cases b <;> cases w <;> simp_all)⟩
  · refine .inr ⟨h, fun ρ E he => ?_⟩
    obtain ⟨u, hu, hl⟩ := he q _ hv
    cases hu
    exact ⟨_, hl, .inr rfl⟩
  · cases h
/-- What a step that only reads leaves to do. -/
def TakeR (P : Program) (ops : Array Oper) (K : Kt) (κi : List Item) (i : Nat) (L : Array Bool) (kk : DC R) (lg : Lg) (pc : List AV) (H : AH) (r : R) (e : EV) : Prop :=
  ∃ lg' e' d, Tr (kk lg' pc e' H) r ∧ (ops[i]?).bind (·.dst) = some d ∧ (∀ q, d ≠ q → getE e' q = getE e q) ∧ ∀ ρ h E, HR P ρ H h → ER ρ e E → ∀ lr, LgR ops L lg lr ρ H h → ∃ (u : Value) (new : Lr), LgR ops (L.setIfInBounds i true) lg' (new ++ lr) ρ H h ∧ ER ρ e' ((d, u) :: E) ∧
    ∀ lr2 f, (∀ x ∈ new, x ∈ lr2) → RunD P K ops (Phi ops lr2) f (L.setIfInBounds i true) κi ((d, u) :: E) h → RunD P K ops (Phi ops lr2) (f + 1) L κi E h
section
variable {cx : Cx R} {i d : Nat} {op : Op} {ty : TypeId} {pos : String} {aft : Array Edge} {g : Option (Nat × Bool)} {L : Array Bool} {p : Option (Slot R)} {c : Ins R} {kk : DC R} {lg lg' : Lg} {pc : List AV} {e : EV} {H : AH} {r : R}
theorem take_core (ho : ops[i]? = some ⟨some d, op, ty, pos, aft, g⟩) (hd : isData op = true) (hc : tk ops L i = true) (hp : p.map Slot.p = some d) (hdk : DstOk p) (hco : compO P p op = some c) (hr : Tr (c cx (kk lg' pc) e H) r)
    (hlog : (lg' = lg ∧ ∀ x, reads op = some x → blkOf (vOp e x) = none) ∨ ∃ x b T m st cs, reads op = some x ∧ blkOf (vOp e x) = some b ∧ getT H.blocks b = some (.cells T m st cs) ∧ lg' = (i, b, st) :: lg)
    (hg : ∀ ρ E, ER ρ e E → GOn ops E g) : TakeR P ops K κi i L kk lg pc H r e := by
  obtain ⟨v, h1, h2⟩ := compO_dat hd hco cx _ e H r hr
  obtain ⟨e', h3, h4, h4'⟩ := put_some hdk h1
  rw [hp] at h4'
  refine ⟨lg', e', d, h3, by rw [ho]; rfl, fun q hq => h4' q (fun hh => hq (by injection hh)), fun ρ h E hh he lr hl => ?_⟩
  obtain ⟨u, h5, h6⟩ := h2 ρ h E hh he
  have he' : ER ρ e' ((d, u) :: E) := by
    have := h4 ρ E u he h5
    rw [hp] at this; exact this
  rcases hlog with ⟨rfl, hn⟩ | ⟨x, b, T, m, st, cs, hx, hb, hB, rfl⟩
  · exact ⟨u, [], hl.same, he', fun lr2 f _ hrun => take_on ho hd hc (hg ρ E he) (fun L' h' _ _ => h6 h' (fun x hx b hb => by rw [hn x hx] at hb; cases hb) _ _ _ _ _) hrun⟩
  · obtain ⟨lo, k1, k2⟩ := hh.blk b _ hB
    have hlt := k2.lt
    refine ⟨u, [(i, lo.g, h[lo.g])], ?_, he', fun lr2 f hin hrun => take_on ho hd hc (hg ρ E he) (fun L' h' hn hp => h6 h' (fun x' hx' b' hb' lo' hlo' => ?_) _ _ _ _ _) hrun⟩
    · intro y hy hn
      rcases List.mem_cons.1 hy with rfl | hy
      · exact ⟨Array.getElem?_eq_getElem hlt, b, st, lo, List.mem_cons_self .., k1, rfl, T, m, cs, hB⟩
      · exact hl.same.more y hy hn
    · rw [hx] at hx'; cases hx'
      rw [hb] at hb'; cases hb'
      rw [k1] at hlo'; cases hlo'
      have hin' := hin (i, lo.g, h[lo.g]) (List.mem_cons_self ..)
      have := hp _ hin' hn
      exact this.trans (Array.getElem?_eq_getElem hlt).symm
theorem off_core {j : Nat} {w : Bool} {q : Nat} (ho : ops[i]? = some ⟨some d, op, ty, pos, aft, some (j, w)⟩) (hd : isData op = true) (hc : tk ops L i = true) (hp : p.map Slot.p = some d) (hdk : DstOk p) (hr : Tr (put p (.X .undef) (kk lg pc) e H) r)
    (hj : (ops[j]?).bind (·.dst) = some q) (hg : ∀ ρ E, ER ρ e E → ∃ v, look E q = some v ∧ (v = .bool (!w) ∨ v = undef)) : TakeR P ops K κi i L kk lg pc H r e := by
  obtain ⟨e', h3, h4, h4'⟩ := put_some hdk hr
  rw [hp] at h4'
  refine ⟨lg, e', d, h3, by rw [ho]; rfl, fun q hq => h4' q (fun hh => hq (by injection hh)), fun ρ h E hh he lr hl => ?_⟩
  have he' : ER ρ e' ((d, undef) :: E) := by
    have := h4 ρ E undef he .undef
    rw [hp] at this; exact this
  obtain ⟨v, hl1, hl2⟩ := hg ρ E he
  exact ⟨undef, [], hl.same, he', fun lr2 f _ hrun => take_off ho hd hc hj hl1 hl2 hrun⟩
theorem take_ok {ms : List (Nat × Nat)} {di : DI R} (hcs : compS P ops ms (.take i) = some di) (hd : dataAt ops i = true) (hc : tk ops L i = true) (hr : Tr (di cx kk lg pc e H) r) : TakeR P ops K κi i L kk lg pc H r e := by
  unfold dataAt at hd
  cases ho : ops[i]? with
  | none => rw [ho] at hd; cases hd
  | some o =>
    rw [ho] at hd
    simp only [Bool.and_eq_true] at hd
    obtain ⟨hd1, hd2⟩ := hd
    obtain ⟨dst, op, ty, pos, aft, g⟩ := o
    cases dst with
    | none => cases hd2
    | some dn =>
      simp only [compS, ho] at hcs
      split at hcs
      · cases hcs
      · rename_i c hc1
        replace hc1 := dstK_some hc1
        obtain ⟨p, hp, hdk, hc1⟩ := hc1
        simp only at hp hc1 hd1
        cases hrd : reads op with
        | none =>
          rw [hrd] at hcs
          cases hcs
          have hr : Tr (c cx (kk lg pc) e H) r := hr
          split at hc1
          · cases hc1; cases hr
          · rename_i c' hc'
            split at hc1
            · cases hc1
              exact take_core ho hd1 hc hp hdk hc' hr (.inl ⟨rfl, fun x hx => by rw [hrd] at hx; cases hx⟩) fun _ _ _ => trivial
            · rename_i j w
              split at hc1
              · cases hc1
              · rename_i t hj
                replace hc1 := slG_some hc1
                obtain ⟨G, hG, hc1⟩ := hc1
                cases hc1
                have hj' : (ops[j]?).bind (·.dst) = some t := by simpa using hj
                rcases guard_some hG hr with ⟨hr, hg⟩ | ⟨hr, hg⟩
                · exact take_core ho hd1 hc hp hdk hc' hr (.inl ⟨rfl, fun x hx => by rw [hrd] at hx; cases hx⟩) fun ρ E he => ⟨t, hj', hg ρ E he⟩
                · exact off_core ho hd1 hc hp hdk hr hj' hg
        | some x =>
          rw [hrd] at hcs
          simp only at hcs
          split at hcs
          · cases hcs; cases hr
          · rename_i xo hxo
            have hx := opnd_ok hxo
            have logs : ∀ {v : AV}, vOp e x = some v → ∀ {lg' : Lg}, ((blkOf (some v) = none ∧ lg' = lg) ∨ ∃ b T m st cs, blkOf (some v) = some b ∧ getT H.blocks b = some (.cells T m st cs) ∧ lg' = (i, b, st) :: lg) →
                (lg' = lg ∧ ∀ x, reads op = some x → blkOf (vOp e x) = none) ∨ ∃ x b T m st cs, reads op = some x ∧ blkOf (vOp e x) = some b ∧ getT H.blocks b = some (.cells T m st cs) ∧ lg' = (i, b, st) :: lg := by
              intro v hv lg' hl
              rcases hl with ⟨h1, h2⟩ | ⟨b, T, m, st, cs, h1, h2, h3⟩
              · exact .inl ⟨h2, fun y hy => by rw [hrd] at hy; cases hy; rw [hv]; exact h1⟩
              · exact .inr ⟨x, b, T, m, st, cs, hrd, by rw [hv]; exact h1, h2, h3⟩
            split at hcs
            · cases hcs
              have hr : Tr (xo e (fun v => logK i H v lg fun lg => c cx (kk lg pc) e H)) r := hr
              rw [hx.eq] at hr
              replace hr := bind_tr hr
              obtain ⟨v, hv, hr⟩ := hr
              obtain ⟨lg', hr, hl⟩ := logK_some hr
              split at hc1
              · cases hc1; cases hr
              · rename_i c' hc'
                cases hc1
                exact take_core ho hd1 hc hp hdk hc' hr (logs hv hl) fun _ _ _ => trivial
            · rename_i j w
              split at hcs
              · cases hcs
              · rename_i t hj
                replace hcs := slG_some hcs
                obtain ⟨G, hG, hcs⟩ := hcs
                replace hcs := dstK_some hcs
                obtain ⟨p', hp', hdk', hcs⟩ := hcs
                split at hcs
                · cases hcs; cases hr
                · rename_i c' hc'
                  cases hcs
                  have hj' : (ops[j]?).bind (·.dst) = some t := by simpa using hj
                  rcases guard_some hG hr with ⟨hr, hg⟩ | ⟨hr, hg⟩
                  · have hr : Tr (xo e (fun v => logK i H v lg fun lg => c' cx (kk lg pc) e H)) r := hr
                    rw [hx.eq] at hr
                    replace hr := bind_tr hr
                    obtain ⟨v, hv, hr⟩ := hr
                    obtain ⟨lg', hr, hl⟩ := logK_some hr
                    exact take_core ho hd1 hc hp' hdk' hc' hr (logs hv hl) fun ρ E he => ⟨t, hj', hg ρ E he⟩
                  · exact off_core ho hd1 hc hp' hdk' hr hj' hg
end
end Ry
end Go.TP
/-! Rze4. -/
namespace Go.TP
open Go
section
variable {P : Program} {K : Kt} {ops : Array Oper} {Φ : Array Bool → Heap → Prop} {f : Nat} {listed : Array Bool} {κ : List Item} {e : Env} {h : Heap}
/-- Operation k may be the next one; its guard may be off. -/
def StepG (P : Program) (K : Kt) (ops : Array Oper) (Φ : Array Bool → Heap → Prop) (f : Nat) (listed : Array Bool) (κ : List Item) (e : Env) (h : Heap) (k : Nat) : Prop :=
  StepD P K ops Φ f listed κ e h k ∨ ∃ d op ty pos aft j w t v, ops[k]? = some ⟨d, op, ty, pos, aft, some (j, w)⟩ ∧ (ops[j]?).bind (·.dst) = some t ∧ look e t = some v ∧ (v = .bool (!w) ∨ v = undef) ∧ RunD P K ops Φ f (listed.setIfInBounds k true) κ (putE d undef e) h
theorem RunD.effg (hΦ : Φ listed h) {l : List Nat} (hl : rdy ops listed = l) (hne : l ≠ []) (hs : ∀ k ∈ l, StepG P K ops Φ f listed κ e h k) : RunD P K ops Φ (f + 1) listed κ e h := by
  intro hk hcl a w hf hd hw
  have hΦ' : Φ listed w.heap := by rw [hw.heap]; exact hΦ
  refine ⟨hΦ', .inl ⟨fun h0 => absurd (hl.symm.trans h0) hne, fun k hk' => ?_⟩⟩
  rcases hs k (hl ▸ hk') with ⟨d, op, ty, pos, aft, g, R, ho, hg, hv, r⟩ | ⟨d, op, ty, pos, aft, j, wt, t, v, ho, hj, hlk, hb, r⟩
  · have hko := okL_get hk ho
    have h' := hv a w hf.agree hw.heap (AnyD P K.rd ops Φ (fun a' w' => RunA P K.rd K.Q κ a' w') f (listed.setIfInBounds k true)) fun v w' hr h1 h2 h3 =>
      r v _ hr hk (hcl.set hk') _ w' (by
        cases d with
        | none => exact hf
        | some d => exact hf.put (okOp_dst hko rfl) v) (by cases d <;> exact hd) ⟨rfl, h1.trans hw.os, h2.trans hw.tape, h3.trans hw.out⟩
    unfold opW
    simp only [ho, hg.wanted hf, if_true]
    exact h'
  · have hko := okL_get hk ho
    have hn : Region.wanted ⟨d, op, ty, pos, aft, some (j, wt)⟩ (yielded ops a.tmps) = false := by
      rcases hb with rfl | rfl
      · have hy := yielded_bool hf hj hlk; simp [Region.wanted, hy]
      · have hy := yielded_undef hf hj hlk; simp [Region.wanted, hy]
    unfold opW
    simp only [ho, hn, Bool.false_eq_true, if_false]
    refine r hk (hcl.set hk') _ w ?_ (by cases d <;> exact hd) hw
    cases d with
    | none => exact hf
    | some d => exact hf.put (okOp_dst hko rfl) undef
end
namespace Ry
variable {P : Program} {ops : Array Oper} {K : Kt} {κi : List Item}
theorem effAt_spec {i : Nat} (h : effAt ops i = true) : ∃ o, ops[i]? = some o ∧ isData o.op = false := by
  unfold effAt at h
  split at h
  · rename_i o ho; exact ⟨o, ho, by simpa using h⟩
  · cases h
theorem newAt_spec {i : Nat} (h : newAt ops i = true) : ∃ o, ops[i]? = some o ∧ isNew o.op = true ∧ o.guard = none := by
  unfold newAt at h
  split at h
  · rename_i o ho
    simp only [Bool.and_eq_true] at h
    exact ⟨o, ho, h.1.1, by simpa using h.1.2⟩
  · cases h
theorem isNew_data {op : Op} (h : isNew op = true) : isData op = false := by
  cases op <;> first | rfl | cases h
theorem eff_ok {ρ0 : Rn} {cx : Cx R} (hcx : CxS P ρ0 cx) {ms : List (Nat × Nat)} {i : Nat} {di : DI R} (hcs : compS P ops ms (.eff i) = some di) {kk : DC R} {lg : Lg} {pc : List AV} {e : EV} {H : AH} {r : R} (hr : Tr (di cx kk lg pc e H) r)
    {ρ : Rn} {h : Heap} {E : Env} (hle : Le ρ0 ρ) (hh : HR P ρ H h) (he : ER ρ e E) {Φ : Array Bool → Heap → Prop} {f : Nat} {L : Array Bool}
    (hk : ∀ lg' e' H' r', Tr (kk lg' pc e' H') r' → ∀ ρ' h' u d, (ops[i]?).bind (fun o => some o.dst) = some d → Nx ρ H h ρ' H' h' → HR P ρ' H' h' → ER ρ' e' (putE d u E) → (∀ q, d ≠ some q → getE e' q = getE e q) →
      (∀ x ∈ lg, Nat.testBit (maskAt ops ms i) x.1 = false → x ∈ lg' ∧ ((∃ T m cs, getT H'.blocks x.2.1 = some (.cells T m x.2.2 cs)) ∨ (H' = H ∧ h' = h ∧ ρ' = ρ))) → RunD P K ops Φ f (L.setIfInBounds i true) κi (putE d u E) h') : StepG P K ops Φ f L κi E h i := by
  simp only [compS] at hcs
  split at hcs
  · cases hcs
  · rename_i o ho
    split at hcs
    · cases hcs
    · rename_i c hc1
      rw [natK_eq] at hcs
      cases hcs
      obtain ⟨dst, op, ty, pos, aft, g⟩ := o
      replace hc1 := dstK_some hc1
      obtain ⟨p, hp, hdk, hc1⟩ := hc1
      simp only at hp hc1
      have hr : Tr (c cx (fun e H => chkLg (maskAt ops ms i) H lg fun lg => kk lg pc e H) e H) r := hr
      split at hc1
      · cases hc1; cases hr
      · rename_i c' hc'
        have key : ∀ r, Tr (c' cx (fun e H => chkLg (maskAt ops ms i) H lg fun lg => kk lg pc e H) e H) r → GOn ops E g → StepG P K ops Φ f L κi E h i := by
          intro r hr hg
          refine .inl ⟨dst, op, ty, pos, aft, g, _, ho, hg, compO_efc hc' cx ρ0 hcx _ e H r hr ρ h E hle hh he K.rd dst ty pos aft, fun u h' hout => ?_⟩
          obtain ⟨ρ', v, H', r', k1, k2, k3, k4⟩ := hout
          obtain ⟨e', k5, k6, k7⟩ := put_some hdk k1
          obtain ⟨lg', k8, k9⟩ := chkLg_some k5
          have := k6 ρ' E u (he.mono k3.le) k4
          rw [hp] at this k7
          exact hk lg' e' H' r' k8 ρ' h' u dst (by rw [ho]; rfl) k3 k2 this k7 fun x hx hb => ⟨(k9 x hx hb).1, .inl (k9 x hx hb).2⟩
        split at hc1
        · cases hc1
          exact key r hr trivial
        · rename_i j w
          split at hc1
          · cases hc1
          · rename_i t hj
            replace hc1 := slG_some hc1
            obtain ⟨G, hG, hc1⟩ := hc1
            cases hc1
            have hj' : (ops[j]?).bind (·.dst) = some t := by simpa using hj
            rcases guard_some hG hr with ⟨hr, hg⟩ | ⟨hr, hg⟩
            · exact key r hr ⟨t, hj', hg ρ E he⟩
            · obtain ⟨e', k5, k6, k7⟩ := put_some hdk hr
              obtain ⟨lg', k8, k9⟩ := chkLg_some k5
              obtain ⟨v, hl1, hl2⟩ := hg ρ E he
              have := k6 ρ E undef he .undef
              rw [hp] at this k7
              exact .inr ⟨dst, op, ty, pos, aft, j, w, t, v, ho, hj', hl1, hl2, hk lg' e' H r k8 ρ h undef dst (by rw [ho]; rfl) (Nx.refl _ _ _) hh this k7 fun x hx hb => ⟨(k9 x hx hb).1, .inl (k9 x hx hb).2⟩⟩
/-- The log, where what it says stays so. -/
theorem LgR.mv {L : Array Bool} {lg : Lg} {lr : Lr} {ρ ρ' : Rn} {H H' : AH} {h h' : Heap} {i : Nat} (hl : LgR ops L lg lr ρ H h) (hle : Le ρ ρ') (hB : ∀ b lo, ρ b = some lo → getT H'.blocks b = getT H.blocks b) (hh : ∀ g, g < h.size → h'[g]? = h[g]?) : LgR ops (L.setIfInBounds i true) lg lr ρ' H' h' := by
  intro x hx hn
  obtain ⟨h1, b, st, lo, h2, h3, h4, T, m, cs, h5⟩ := hl x hx (Needs.less hn)
  exact ⟨(hh _ (Array.getElem?_eq_some_iff.1 h1).1).trans h1, b, st, lo, h2, hle _ _ h3, h4, T, m, cs, (hB b lo h3).trans h5⟩
/-- What is pending. -/
structure Pend (P : Program) (ops : Array Oper) (p : Nat) (o : Oper) (d : Nat) (T : Nat) (mk : Pth → AV) (ρ : Rn) (e : EV) (pc : List AV) (news : List Value) (val : Nat → Value) : Prop where
  ho : ops[p]? = some o
  hd : o.dst = some d
  hg : o.guard = none
  hn : isNew o.op = true
  hc : ∃ cells, newCells P o.op = some (T, mk, cells)
  he : getE e d = none
  cells : VRs ρ pc news
  val : ∀ (ρ' : Rn) (b : Pth) (lo : Lo), ρ' b = some lo → VR ρ' (mk b) (val lo.g)
section
variable {p i : Nat} {o oi : Oper} {d : Nat} {T : Nat} {mk : Pth → AV} {ρ ρ' : Rn} {e e' : EV} {E : Env} {pc : List AV} {news : List Value} {val : Nat → Value}
theorem apart_spec (ha : apartB ops i p = true) (hi : ops[i]? = some oi) (hp : ops[p]? = some o) : (∀ x, oi.dst = some x → o.dst ≠ some x) ∧ ∀ z ∈ o.op.operands.toList, ∀ t, z = .tmp t → oi.dst ≠ some t := by
  unfold apartB at ha
  rw [hi, hp] at ha
  simp only at ha
  cases hd : oi.dst with
  | none => exact ⟨fun x hx => (by cases hx), fun z _ t _ hx => (by cases hx)⟩
  | some x =>
    rw [hd] at ha
    simp only [Bool.and_eq_true, List.all_eq_true] at ha
    obtain ⟨h1, h2⟩ := ha
    refine ⟨fun y hy => ?_, fun z hz t ht => ?_⟩
    · cases hy
      intro hh
      rw [hh] at h1
      simp at h1
    · intro hh
      cases hh
      have := h2 z hz
      rw [ht] at this
      simp at this
theorem Pend.put (hP : Pend P ops p o d T mk ρ e pc news val) (hle : Le ρ ρ') {di : Option Nat} (h1 : ∀ x, di = some x → o.dst ≠ some x) (he : ∀ q, di ≠ some q → getE e' q = getE e q) : Pend P ops p o d T mk ρ' e' pc news val :=
  ⟨hP.ho, hP.hd, hP.hg, hP.hn, hP.hc, (he d (fun hh => h1 _ hh hP.hd)).trans hP.he, hP.cells.mono hle, hP.val⟩
end
/-- The block that was made ahead, which nobody knows. -/
structure Made' (hb : Heap) (ρ : Rn) (H : AH) (h : Heap) (E : Env) (d : Nat) (T : Nat) (news : List Value) (val : Nat → Value) (g : Nat) : Prop where
  at_ : TP.look E d = some (val g)
  is : h[g]? = some (.cells news.toArray T (0, 0))
  late : hb.size ≤ g
  free : ∀ b lo, (getT H.blocks b).isSome → ρ b = some lo → lo.g ≠ g
theorem Made'.eff {hb : Heap} {ρ ρ' : Rn} {H H' : AH} {h h' : Heap} {E : Env} {d : Nat} {T : Nat} {news : List Value} {val : Nat → Value} {g : Nat} (hm : Made' hb ρ H h E d T news val g) (hx : Nx ρ H h ρ' H' h') {di : Option Nat} {u : Value} (hd : di ≠ some d) : Made' hb ρ' H' h' (putE di u E) d T news val g := by
  obtain ⟨q1, q2⟩ := hx.out (Array.getElem?_eq_some_iff.1 hm.is).1 hm.free
  refine ⟨?_, q1.trans hm.is, hm.late, q2⟩
  cases di with
  | none => exact hm.at_
  | some x =>
    simp only [putE]
    rw [look_cons, if_neg (fun hh => hd (by rw [hh]))]
    exact hm.at_
theorem chk_count {L : Array Bool} {p : Nat} : ∀ {pl : List Stp}, chkPlan ops L (some p) pl = true → countS pl = countS pl - 1 + 1
  | [], h => by simp [chkPlan] at h
  | .take i :: l, h => by simp [countS]
  | .eff i :: l, h => by simp [countS]
  | .pre i :: l, h => by simp [chkPlan] at h
  | .new i :: l, h => by simp [countS]
theorem Phi.app {lr lr' : Lr} {L : Array Bool} {h : Heap} (hp : Phi ops (lr' ++ lr) L h) : Phi ops lr L h := fun x hx hn => hp x (List.mem_append_right _ hx) hn
theorem rdy_un {L : Array Bool} {i : Nat} {l : List Nat} (h : rdyB ops L l = true) (hi : i ∈ l) : L.getD i true = false := by
  have h : Region.ready .any ops L = l := by simpa [rdyB] using h
  exact (mem_ready.1 (by rw [h]; exact hi)).1
theorem tk_un {L : Array Bool} {i : Nat} (h : tk ops L i = true) : L.getD i true = false := by
  have h : Region.free .any ops L i = true ∧ (Region.ready .any ops L).contains i = true := by simpa [tk] using h
  exact (mem_ready.1 (by simpa using h.2)).1
theorem un_ne {L : Array Bool} {i p : Nat} (h : (L.setIfInBounds p true).getD i true = false) : p ≠ i := by
  intro hh
  subst hh
  rw [getD_set_self] at h
  cases h
section
variable {ρb : Rn} {Hb : AH} {hb : Heap} {cx : Cx R} {κ : Cont R}
/-- Nothing is pending. -/
def SA (P : Program) (ops : Array Oper) (K : Kt) (κi : List Item) (ρb : Rn) (Hb : AH) (hb : Heap) (cx : Cx R) (κ : Cont R) (pl : List Stp) : Prop :=
  ∀ ms di L lg pc e H r, MsOk ops ms → compD P ops ms pl = some di → chkPlan ops L none pl = true → L.size = ops.size → Tr (di cx (fun _ _ => κ) lg pc e H) r →
  ∀ ρ h E lr, Nx ρb Hb hb ρ H h → HR P ρ H h → ER ρ e E → LgR ops L lg lr ρ H h → ∃ lr', RunD P K ops (Phi ops (lr' ++ lr)) (countS pl) L κi E h
/-- p is pending, and hasn't been made. -/
def SB (P : Program) (ops : Array Oper) (K : Kt) (κi : List Item) (ρb : Rn) (Hb : AH) (hb : Heap) (cx : Cx R) (κ : Cont R) (pl : List Stp) : Prop :=
  ∀ ms di L p lg pc e H r, MsOk ops ms → compD P ops ms pl = some di → chkPlan ops L (some p) pl = true → L.size = ops.size → Tr (di cx (fun _ _ => κ) lg pc e H) r →
  ∀ ρ h E lr o d T mk news val, Nx ρb Hb hb ρ H h → HR P ρ H h → ER ρ e E → LgR ops L lg lr ρ H h → Pend P ops p o d T mk ρ e pc news val → PRun P ρ E o T mk pc news val → ∃ lr', RunD P K ops (Phi ops (lr' ++ lr)) (countS pl) L κi E h
/-- p is pending, and has been made. -/
def SC (P : Program) (ops : Array Oper) (K : Kt) (κi : List Item) (ρb : Rn) (Hb : AH) (hb : Heap) (cx : Cx R) (κ : Cont R) (pl : List Stp) : Prop :=
  ∀ ms di L p lg pc e H r, MsOk ops ms → compD P ops ms pl = some di → chkPlan ops L (some p) pl = true → L.size = ops.size → Tr (di cx (fun _ _ => κ) lg pc e H) r →
  ∀ ρ h E lr o d T mk news val g, Nx ρb Hb hb ρ H h → HR P ρ H h → ER ρ e E → LgR ops (L.setIfInBounds p true) lg lr ρ H h → Pend P ops p o d T mk ρ e pc news val → Made' hb ρ H h E d T news val g →
    ∃ lr', RunD P K ops (Phi ops (lr' ++ lr)) (countS pl - 1) (L.setIfInBounds p true) κi E h
theorem compD_cons {ms : List (Nat × Nat)} {s : Stp} {l : List Stp} {di : DI R} (h : compD P ops ms (s :: l) = some di) : ∃ i j, compS P ops ms s = some i ∧ compD P ops (msOf ops ms s) l = some j ∧ di = dThen i j := by
  unfold compD at h
  split at h
  · cases h
  · rename_i i hi
    split at h
    · cases h
    · rename_i j hj
      cases h
      exact ⟨i, j, hi, hj, rfl⟩
theorem SA.nil (hκ : SndK P K ρb Hb hb κi κ) : SA P ops K κi ρb Hb hb cx κ [] := by
  intro ms di L lg pc e H r hms hdi hck hsz hr ρ h E lr hx hh he hl
  cases hdi
  simp only [chkPlan, Bool.and_eq_true] at hck
  exact ⟨[], RunD.done hl.phi hck.2 (hκ e H r hr ρ h E hx hh he)⟩
theorem SA.take {i : Nat} {l : List Stp} (ih : SA P ops K κi ρb Hb hb cx κ l) : SA P ops K κi ρb Hb hb cx κ (.take i :: l) := by
  intro ms di L lg pc e H r hms hdi hck hsz hr ρ h E lr hx hh he hl
  obtain ⟨s, j, hs, hj, rfl⟩ := compD_cons hdi
  simp only [chkPlan, Bool.and_eq_true] at hck
  obtain ⟨⟨⟨c1, c2⟩, _⟩, c3⟩ := hck
  obtain ⟨lg', e', d, k1, _, _, k2⟩ := take_ok (K := K) (κi := κi) hs c1 c2 (show Tr (s cx (j cx fun _ _ => κ) lg pc e H) r from hr)
  obtain ⟨u, new, k3, k4, k5⟩ := k2 ρ h E hh he lr hl
  obtain ⟨lr', k6⟩ := ih _ j _ lg' pc e' H r (hms.next _) hj c3 (by simpa using hsz) k1 ρ h _ (new ++ lr) hx hh k4 k3
  refine ⟨lr' ++ new, k5 _ _ (fun x hx => by simp [hx]) ?_⟩
  rw [List.append_assoc]
  exact k6
theorem SB.take {i : Nat} {l : List Stp} (ih : SB P ops K κi ρb Hb hb cx κ l) : SB P ops K κi ρb Hb hb cx κ (.take i :: l) := by
  intro ms di L p lg pc e H r hms hdi hck hsz hr ρ h E lr o d T mk news val hx hh he hl hP hrun
  obtain ⟨s, j, hs, hj, rfl⟩ := compD_cons hdi
  simp only [chkPlan, Bool.and_eq_true] at hck
  obtain ⟨⟨⟨c1, c2⟩, c4, c5⟩, c3⟩ := hck
  obtain ⟨lg', e', di, k1, k7, k8, k2⟩ := take_ok (K := K) (κi := κi) hs c1 c2 (show Tr (s cx (j cx fun _ _ => κ) lg pc e H) r from hr)
  obtain ⟨u, new, k3, k4, k5⟩ := k2 ρ h E hh he lr hl
  cases hoi : ops[i]? with
  | none => rw [hoi] at k7; cases k7
  | some oi =>
    rw [hoi] at k7
    have k7 : oi.dst = some di := k7
    obtain ⟨a1, a2⟩ := apart_spec c5 hoi hP.ho
    rw [k7] at a1 a2
    have hP' : Pend P ops p o d T mk ρ e' pc news val := hP.put (Le.refl _) (di := some di) a1 fun q hq => k8 q fun hh => hq (by rw [hh])
    obtain ⟨lr', k6⟩ := ih _ j _ p lg' pc e' H r (hms.next _) hj c3 (by simpa using hsz) k1 ρ h _ (new ++ lr) o d T mk news val hx hh k4 k3 hP' (hrun.put (Le.refl _) (d := some di) a2)
    refine ⟨lr' ++ new, k5 _ _ (fun x hx => by simp [hx]) ?_⟩
    rw [List.append_assoc]
    exact k6
theorem SC.take {i : Nat} {l : List Stp} (ih : SC P ops K κi ρb Hb hb cx κ l) : SC P ops K κi ρb Hb hb cx κ (.take i :: l) := by
  intro ms di L p lg pc e H r hms hdi hck hsz hr ρ h E lr o d T mk news val g hx hh he hl hP hM
  obtain ⟨s, j, hs, hj, rfl⟩ := compD_cons hdi
  simp only [chkPlan, Bool.and_eq_true] at hck
  obtain ⟨⟨⟨c1, c2⟩, c4, c5⟩, c3⟩ := hck
  have hne : p ≠ i := un_ne (tk_un c4)
  obtain ⟨lg', e', di, k1, k7, k8, k2⟩ := take_ok (K := K) (κi := κi) hs c1 c4 (show Tr (s cx (j cx fun _ _ => κ) lg pc e H) r from hr)
  obtain ⟨u, new, k3, k4, k5⟩ := k2 ρ h E hh he lr hl
  rw [Array.setIfInBounds_comm _ _ hne] at k3 k5
  cases hoi : ops[i]? with
  | none => rw [hoi] at k7; cases k7
  | some oi =>
    rw [hoi] at k7
    have k7 : oi.dst = some di := k7
    obtain ⟨a1, a2⟩ := apart_spec c5 hoi hP.ho
    rw [k7] at a1 a2
    have hP' : Pend P ops p o d T mk ρ e' pc news val := hP.put (Le.refl _) (di := some di) a1 fun q hq => k8 q fun hh => hq (by rw [hh])
    have hM' : Made' hb ρ H h ((di, u) :: E) d T news val g := hM.eff (Nx.refl _ _ _) (di := some di) fun hh => a1 _ hh hP.hd
    obtain ⟨lr', k6⟩ := ih _ j _ p lg' pc e' H r (hms.next _) hj c3 (by simpa using hsz) k1 ρ h _ (new ++ lr) o d T mk news val g hx hh k4 k3 hP' hM'
    refine ⟨lr' ++ new, ?_⟩
    have hc : countS (.take i :: l) - 1 = countS l - 1 + 1 := by
      have := chk_count c3
      simp only [countS]; omega
    rw [hc]
    refine k5 _ _ (fun x hx => by simp [hx]) ?_
    rw [List.append_assoc]
    exact k6
theorem effs_log {L : Array Bool} {lg lg' : Lg} {lr : Lr} {ρ ρ' : Rn} {H H' : AH} {h h' : Heap} {ms : List (Nat × Nat)} {i : Nat} {o : Oper} (hms : MsOk ops ms) (hl : LgR ops L lg lr ρ H h) (hh : HR P ρ H h) (hx : Nx ρ H h ρ' H' h') (hi : ops[i]? = some o) (hd : isData o.op = false) (hsz : L.size = ops.size)
    (hc : ∀ x ∈ lg, Nat.testBit (maskAt ops ms i) x.1 = false → x ∈ lg' ∧ ((∃ T m cs, getT H'.blocks x.2.1 = some (.cells T m x.2.2 cs)) ∨ (H' = H ∧ h' = h ∧ ρ' = ρ))) : LgR ops (L.setIfInBounds i true) lg' lr ρ' H' h' := by
  have hlt := (Array.getElem?_eq_some_iff.1 hi).1
  intro x hxr hn
  obtain ⟨h1, b, st, lo, h2, h3, h4, T, m, cs, h5⟩ := hl x hxr (Needs.less hn)
  have hbit : Nat.testBit (maskAt ops ms i) x.1 = false := by
    cases hb : Nat.testBit (maskAt ops ms i) x.1 with
    | false => rfl
    | true => exact absurd (maskAt_bit hms hb) (hn i o hi hd (by simp [Array.getD_eq_getD_getElem?, hsz, hlt]))
  obtain ⟨k1, ⟨T', m', cs', k2⟩ | ⟨rfl, rfl, rfl⟩⟩ := hc _ h2 hbit
  · refine ⟨?_, b, st, lo, k1, hx.le _ _ h3, h4, T', m', cs', k2⟩
    rw [← h1]
    have hlt : x.2.1 < h.size := (Array.getElem?_eq_some_iff.1 h1).1
    refine hx.fr x.2.1 hlt fun b' lo' hs hb' hg' => ?_
    rcases hh.inj b' b lo' lo hs (by rw [h5]; rfl) hb' h3 (by rw [hg', h4]) with this | this
    · subst this
      exact .inl ⟨T, m, st, cs, T', m', cs', h5, k2⟩
    · exact .inr this.1
  · exact ⟨h1, b, st, lo, k1, h3, h4, T, m, cs, h5⟩
theorem SA.eff (hcx : CxS P ρb cx) {i : Nat} {l : List Stp} (ih : SA P ops K κi ρb Hb hb cx κ l) : SA P ops K κi ρb Hb hb cx κ (.eff i :: l) := by
  intro ms di L lg pc e H r hms hdi hck hsz hr ρ h E lr hx hh he hl
  obtain ⟨s, j, hs, hj, rfl⟩ := compD_cons hdi
  simp only [chkPlan, Bool.and_eq_true] at hck
  obtain ⟨⟨c1, c2⟩, c3⟩ := hck
  obtain ⟨o, ho, hod⟩ := effAt_spec c1
  have c2 : rdy ops L = [i] := by simpa [rdyB] using c2
  refine ⟨[], RunD.effg (f := countS l) hl.phi c2 (by simp) fun k hk => ?_⟩
  obtain rfl : k = i := by simpa using hk
  refine eff_ok hcx hs (show Tr (s cx (j cx fun _ _ => κ) lg pc e H) r from hr) hx.le hh he ?_
  intro lg' e' H' r' k1 ρ' h' u d hd hx' hh' he' hq hlg
  obtain ⟨lr', k6⟩ := ih _ j _ lg' pc e' H' r' (hms.next _) hj c3 (by simpa using hsz) k1 ρ' h' _ lr (hx.trans hx' hh) hh' he' (effs_log hms hl hh hx' ho hod hsz hlg)
  exact k6.weak fun _ _ => Phi.app
theorem SC.eff (hcx : CxS P ρb cx) {i : Nat} {l : List Stp} (ih : SC P ops K κi ρb Hb hb cx κ l) : SC P ops K κi ρb Hb hb cx κ (.eff i :: l) := by
  intro ms di L p lg pc e H r hms hdi hck hsz hr ρ h E lr o d T mk news val g hx hh he hl hP hM
  obtain ⟨s, j, hs, hj, rfl⟩ := compD_cons hdi
  simp only [chkPlan, Bool.and_eq_true] at hck
  obtain ⟨⟨⟨⟨c1, c2⟩, c4⟩, c5⟩, c3⟩ := hck
  obtain ⟨oi, hoi, hod⟩ := effAt_spec c1
  obtain ⟨a1, a2⟩ := apart_spec c5 hoi hP.ho
  have hne : p ≠ i := un_ne (rdy_un c4 (by simp))
  have c4 : rdy ops (L.setIfInBounds p true) = [i] := by simpa [rdyB] using c4
  have hc : countS (.eff i :: l) - 1 = countS l - 1 + 1 := by
    have := chk_count c3
    simp only [countS]; omega
  rw [hc]
  refine ⟨[], RunD.effg (f := countS l - 1) hl.phi c4 (by simp) fun k hk => ?_⟩
  obtain rfl : k = i := by simpa using hk
  refine eff_ok hcx hs (show Tr (s cx (j cx fun _ _ => κ) lg pc e H) r from hr) hx.le hh he ?_
  intro lg' e' H' r' k1 ρ' h' u di hd hx' hh' he' hq hlg
  rw [hoi] at hd
  have hd : oi.dst = di := by injection hd
  subst hd
  have hlog := effs_log hms hl hh hx' hoi hod (by simpa using hsz) hlg
  rw [Array.setIfInBounds_comm _ _ hne] at hlog ⊢
  obtain ⟨lr', k6⟩ := ih _ j _ p lg' pc e' H' r' (hms.next _) hj c3 (by simpa using hsz) k1 ρ' h' _ lr o d T mk news val g (hx.trans hx' hh) hh' he' hlog (hP.put hx'.le a1 hq) (hM.eff hx' fun hh => a1 _ hh hP.hd)
  exact k6.weak fun _ _ => Phi.app
theorem SB.eff (hcx : CxS P ρb cx) {i : Nat} {l : List Stp} (ih : SB P ops K κi ρb Hb hb cx κ l) (ihC : SC P ops K κi ρb Hb hb cx κ (.eff i :: l)) : SB P ops K κi ρb Hb hb cx κ (.eff i :: l) := by
  intro ms di L p lg pc e H r hms hdi hck hsz hr ρ h E lr o d T mk news val hx hh he hl hP hrun
  have hdi0 := hdi
  have hr0 := hr
  have hck0 := hck
  obtain ⟨s, j, hs, hj, rfl⟩ := compD_cons hdi
  simp only [chkPlan, Bool.and_eq_true] at hck
  obtain ⟨⟨⟨⟨c1, c2⟩, c4⟩, c5⟩, c3⟩ := hck
  obtain ⟨oi, hoi, hod⟩ := effAt_spec c1
  obtain ⟨a1, a2⟩ := apart_spec c5 hoi hP.ho
  have hi : StepG P K ops (Phi ops lr) (countS l) L κi E h i := by
    refine eff_ok hcx hs (show Tr (s cx (j cx fun _ _ => κ) lg pc e H) r from hr) hx.le hh he ?_
    intro lg' e' H' r' k1 ρ' h' u di hd hx' hh' he' hq hlg
    rw [hoi] at hd
    have hd : oi.dst = di := by injection hd
    subst hd
    obtain ⟨lr', k6⟩ := ih _ j _ p lg' pc e' H' r' (hms.next _) hj c3 (by simpa using hsz) k1 ρ' h' _ lr o d T mk news val (hx.trans hx' hh) hh' he' (effs_log hms hl hh hx' hoi hod hsz hlg) (hP.put hx'.le a1 hq) (hrun.put hx'.le a2)
    exact k6.weak fun _ _ => Phi.app
  have hp : StepG P K ops (Phi ops lr) (countS l) L κi E h p := by
    obtain ⟨dst, op, ty, pos, aft, gd⟩ := o
    have hg0 : gd = none := hP.hg
    subst hg0
    have hd0 : dst = some d := hP.hd
    subst hd0
    refine .inl ⟨some d, op, ty, pos, aft, none, _, hP.ho, trivial, hrun.ef K.rd h, fun u h' ho => ?_⟩
    obtain ⟨rfl, rfl⟩ := ho
    obtain ⟨hh2, hx2⟩ := hr_push hh (.cells news.toArray T (0, 0))
    have hps : ∀ g, g < h.size → (h.push (.cells news.toArray T (0, 0)))[g]? = h[g]? := fun g hg' => by rw [Array.getElem?_push, if_neg (by omega)]
    have hE : ER ρ e ((d, val h.size) :: E) := he.put' d _ hP.he
    have hM : Made' hb ρ H (h.push (.cells news.toArray T (0, 0))) ((d, val h.size) :: E) d T news val h.size :=
      ⟨by rw [look_cons, if_pos rfl], by simp, hx.size, fun b lo hs hb' hg => by
        obtain ⟨B, hB⟩ := Option.isSome_iff_exists.1 hs
        obtain ⟨lo', h1, h2⟩ := hh.blk b B hB
        rw [hb'] at h1; cases h1
        have := h2.lt
        omega⟩
    obtain ⟨lr', k6⟩ := ihC ms _ L p lg pc e H r hms hdi0 hck0 hsz hr0 ρ _ _ lr _ d T mk news val h.size (hx.trans hx2 hh) hh2 hE (hl.mv (Le.refl _) (fun _ _ _ => rfl) hps) hP hM
    exact k6.weak fun _ _ => Phi.app
  have hor := Bool.or_eq_true _ _ ▸ c2
  rcases hor with c2 | c2
  · have c2 : rdy ops L = [i, p] := by simpa [rdyB] using c2
    refine ⟨[], RunD.effg (f := countS l) hl.phi c2 (by simp) fun k hk => ?_⟩
    rcases List.mem_cons.1 hk with rfl | hk
    · exact hi
    · obtain rfl : k = p := by simpa using hk
      exact hp
  · have c2 : rdy ops L = [p, i] := by simpa [rdyB] using c2
    refine ⟨[], RunD.effg (f := countS l) hl.phi c2 (by simp) fun k hk => ?_⟩
    rcases List.mem_cons.1 hk with rfl | hk
    · exact hp
    · obtain rfl : k = i := by simpa using hk
      exact hi
theorem SA.pre {i : Nat} {l : List Stp} (ih : SB P ops K κi ρb Hb hb cx κ l) : SA P ops K κi ρb Hb hb cx κ (.pre i :: l) := by
  intro ms di L lg pc e H r hms hdi hck hsz hr ρ h E lr hx hh he hl
  obtain ⟨s, j, hs, hj, rfl⟩ := compD_cons hdi
  simp only [chkPlan, Bool.and_eq_true] at hck
  obtain ⟨c1, c3⟩ := hck
  obtain ⟨o, ho, hon, hog⟩ := newAt_spec c1
  simp only [compS, ho] at hs
  replace hs := dstK_some hs
  obtain ⟨p, hp, hdk, hs⟩ := hs
  split at hs
  · cases hs
  · rename_i sd
    split at hs
    · rename_i T mk cells hn
      cases hs
      have hr : Tr (cells e (fun cs => sd.S none e fun e => j cx (fun _ _ => κ) lg cs e H)) r := hr
      obtain ⟨pc', k1, k2⟩ := newCells_ok hn hr
      rw [hdk sd rfl] at k1
      obtain ⟨dst, op, ty, pos, aft, g⟩ := o
      obtain ⟨news, val, k3⟩ := k2 ρ H h E hh he dst ty pos aft g
      have hd : dst = some sd.p := by simpa using hp.symm
      have hP : Pend P ops i ⟨dst, op, ty, pos, aft, g⟩ sd.p T mk ρ (setE none sd.p e) pc' news val := ⟨ho, hd, hog, hon, ⟨_, hn⟩, getE_del, k3.cells, k3.val⟩
      exact ih _ j _ i lg pc' _ H r hms hj c3 hsz k1 ρ h E lr _ sd.p T mk news val hx hh (he.del sd.p) hl hP k3
    · cases hs; cases hr
theorem new_spec {ms : List (Nat × Nat)} {p : Nat} {di : DI R} (hs : compS P ops ms (.new p) = some di) {o : Oper} {d : Nat} {T : Nat} {mk : Pth → AV} {ρ : Rn} {e : EV} {pc : List AV} {news : List Value} {val : Nat → Value} (hP : Pend P ops p o d T mk ρ e pc news val) : ∃ sd : Slot R, di = dNew sd T mk ∧ sd.p = d ∧ SlotOk sd := by
  simp only [compS, hP.ho] at hs
  replace hs := dstK_some hs
  obtain ⟨p, hp, hdk, hs⟩ := hs
  rw [hP.hd] at hp
  split at hs
  · cases hs
  · rename_i sd
    obtain ⟨cells, hc⟩ := hP.hc
    rw [hc] at hs
    cases hs
    exact ⟨sd, rfl, by simpa using hp, hdk sd rfl⟩
theorem SB.fresh {p' : Nat} {l : List Stp} (ih : SA P ops K κi ρb Hb hb cx κ l) : SB P ops K κi ρb Hb hb cx κ (.new p' :: l) := by
  intro ms di L p lg pc e H r hms hdi hck hsz hr ρ h E lr o d T mk news val hx hh he hl hP hrun
  obtain ⟨s, j, hs, hj, rfl⟩ := compD_cons hdi
  simp only [chkPlan, Bool.and_eq_true, beq_iff_eq] at hck
  obtain ⟨⟨rfl, c2⟩, c3⟩ := hck
  obtain ⟨sd, hsd, hsp, hso⟩ := new_spec hs hP
  subst hsd hsp
  have hr : Tr (new H (.cells T .shut 0 pc) (fun b H => sd.S (some (mk b)) e fun e => j cx (fun _ _ => κ) lg pc e H)) r := by cases sd; exact hr
  have hr := new_some hr
  rw [hso] at hr
  have c2 : rdy ops L = [p] := by simpa [rdyB] using c2
  refine ⟨[], RunD.effg (f := countS l) hl.phi c2 (by simp) fun k hk => ?_⟩
  obtain rfl : k = p := by simpa using hk
  obtain ⟨dst, op, ty, pos, aft, gd⟩ := o
  have hg0 : gd = none := hP.hg
  subst hg0
  have hd0 : dst = some sd.p := hP.hd
  subst hd0
  refine .inl ⟨some sd.p, op, ty, pos, aft, none, _, hP.ho, trivial, hrun.ef K.rd h, fun u h' ho => ?_⟩
  obtain ⟨rfl, rfl⟩ := ho
  obtain ⟨hn1, hn2⟩ := hh.new H.next (Nat.le_refl _)
  obtain ⟨hh2, hx2⟩ := hr_new hh (.cells T .shut 0 pc) ⟨h.size, 0, default, [], 0⟩ (.cells news.toArray T (0, 0)) rfl ⟨news, hP.cells.mono (upd_le hn1), by simp⟩
  have hv : VR (upd ρ H.next ⟨h.size, 0, default, [], 0⟩) (mk H.next) (val h.size) := hP.val _ H.next ⟨h.size, 0, default, [], 0⟩ (if_pos rfl)
  obtain ⟨lr', k6⟩ := ih _ j _ lg pc _ _ r (hms.next _) hj c3 (by simpa using hsz) hr _ _ ((sd.p, val h.size) :: E) lr (hx.trans hx2 hh) hh2 ((he.mono hx2.le).put sd.p hv)
    (hl.mv hx2.le (fun b lo hb' => by rw [getT_setT, if_neg (fun hh => by rw [hh, hn1] at hb'; cases hb')]) fun g hg => by rw [Array.getElem?_push, if_neg (by omega)])
  exact k6.weak fun _ _ => Phi.app
theorem SC.fresh {p' : Nat} {l : List Stp} (ih : SA P ops K κi ρb Hb hb cx κ l) : SC P ops K κi ρb Hb hb cx κ (.new p' :: l) := by
  intro ms di L p lg pc e H r hms hdi hck hsz hr ρ h E lr o d T mk news val g hx hh he hl hP hM
  obtain ⟨s, j, hs, hj, rfl⟩ := compD_cons hdi
  simp only [chkPlan, Bool.and_eq_true, beq_iff_eq] at hck
  obtain ⟨⟨rfl, c2⟩, c3⟩ := hck
  obtain ⟨sd, hsd, hsp, hso⟩ := new_spec hs hP
  subst hsd hsp
  have hr : Tr (new H (.cells T .shut 0 pc) (fun b H => sd.S (some (mk b)) e fun e => j cx (fun _ _ => κ) lg pc e H)) r := by cases sd; exact hr
  have hr := new_some hr
  rw [hso] at hr
  obtain ⟨hn1, hn2⟩ := hh.new H.next (Nat.le_refl _)
  have hle := upd_le (ρ := ρ) (lo := (⟨g, 0, default, [], 0⟩ : Lo)) hn1
  have hh2 := hr_name hh (.cells T .shut 0 pc) ⟨g, 0, default, [], 0⟩ hM.free ⟨news, hP.cells.mono hle, hM.is⟩
  have hv : VR (upd ρ H.next ⟨g, 0, default, [], 0⟩) (mk H.next) (val g) := hP.val _ H.next ⟨g, 0, default, [], 0⟩ (if_pos rfl)
  have hget : ∀ b lo, ρ b = some lo → getT (setT (some (AB.cells T .shut 0 pc)) H.next H.blocks) b = getT H.blocks b := fun b lo hb' => by rw [getT_setT, if_neg (fun hh => by rw [hh, hn1] at hb'; cases hb')]
  have hx2 : Nx ρb Hb hb (upd ρ H.next ⟨g, 0, default, [], 0⟩) ⟨Pth.succ H.next, setT (some (.cells T .shut 0 pc)) H.next H.blocks⟩ h := by
    refine ⟨hx.le.trans hle, hx.size, fun g' hg' hk => hx.fr g' hg' fun b lo hs hb' hgb => ?_, fun b lo T' m s cs B' hb' h1 h2 => ?_, fun b lo hb' h2 => ?_, fun b lo hb' hb2 h2 => ?_⟩
    · refine (hk b lo hs hb' hgb).imp (fun ⟨T', m, s, cs, T'', m', cs', q1, q2⟩ => ?_) id
      exact ⟨T', m, s, cs, T'', m', cs', q1, by rw [hget b lo (hx.le _ _ hb')] at q2; exact q2⟩
    · rw [hget b lo (hx.le _ _ hb')] at h2
      exact hx.mono b lo T' m s cs B' hb' h1 h2
    · rw [hget b lo (hx.le _ _ hb')] at h2
      exact hx.nores b lo hb' h2
    · by_cases hbn : b = H.next
      · subst hbn
        have : upd ρ H.next ⟨g, 0, default, [], 0⟩ H.next = some ⟨g, 0, default, [], 0⟩ := if_pos rfl
        rw [this] at hb2
        cases hb2
        exact .inl hM.late
      · have : upd ρ H.next ⟨g, 0, default, [], 0⟩ b = ρ b := if_neg hbn
        rw [this] at hb2
        rw [hget b lo hb2] at h2
        exact hx.newb b lo hb' hb2 h2
  have hE : ER (upd ρ H.next ⟨g, 0, default, [], 0⟩) (setE (some (mk H.next)) sd.p e) E := by
    intro q w hq
    by_cases hqd : q = sd.p
    · rw [getE_setE] at hq
      split at hq
      · cases hq
        rw [hqd]
        exact ⟨_, hv, hM.at_⟩
      · exact he.mono hle q w hq
    · rw [getE_other hqd] at hq
      exact he.mono hle q w hq
  have hc : countS (.new p :: l) - 1 = countS l := by simp [countS]
  rw [hc]
  exact ih _ j _ lg pc _ _ r (hms.next _) hj c3 (by simpa using hsz) hr _ h E lr hx2 hh2 hE fun x hx hn => by
    obtain ⟨q1, b, st, lo, q2, q3, q4, T', m, cs, q5⟩ := hl x hx hn
    exact ⟨q1, b, st, lo, q2, hle _ _ q3, q4, T', m, cs, (hget b lo q3).trans q5⟩
theorem S_all (hcx : CxS P ρb cx) (hκ : SndK P K ρb Hb hb κi κ) : ∀ pl, SA P ops K κi ρb Hb hb cx κ pl ∧ SB P ops K κi ρb Hb hb cx κ pl ∧ SC P ops K κi ρb Hb hb cx κ pl
  | [] => ⟨SA.nil hκ, fun ms di L p lg pc e H r _ _ hck => by simp [chkPlan] at hck, fun ms di L p lg pc e H r _ _ hck => by simp [chkPlan] at hck⟩
  | .take i :: l => let ⟨a, b, c⟩ := S_all hcx hκ l; ⟨a.take, b.take, c.take⟩
  | .eff i :: l => let ⟨a, b, c⟩ := S_all hcx hκ l; ⟨a.eff hcx, b.eff hcx (c.eff hcx), c.eff hcx⟩
  | .pre i :: l => let ⟨a, b, c⟩ := S_all hcx hκ l; ⟨SA.pre b, fun ms di L p lg pc e H r _ _ hck => by simp [chkPlan] at hck, fun ms di L p lg pc e H r _ _ hck => by simp [chkPlan] at hck⟩
  | .new i :: l => let ⟨a, b, c⟩ := S_all hcx hκ l; ⟨fun ms di L lg pc e H r _ _ hck => by simp [chkPlan] at hck, SB.fresh a, SC.fresh a⟩
end
/-- What is asked of regions that draw. -/
def DrawOk (P : Program) : Prop := ∀ (K : Kt) (ρb : Rn) (Hb : AH) (hb : Heap) (cx : Cx R) (id : Nat) (ops : Array Oper) (pl : List Stp) (i : DI R) (κi : List Item) (κ : Cont R), CxS P ρb cx → chkPlan ops (Array.replicate ops.size false) none pl = true → countS pl = ops.size → okL K.n ops.toList = true → compD P ops [] pl = some i →
  SndK P K ρb Hb hb κi κ → SndK P K ρb Hb hb (.code (.region id ops true) :: κi) (fun e H => i cx (fun _ _ => κ) [] [] e H)
theorem draw_ok (hm : P.follows .mixedOrders = true) : DrawOk P := by
  intro K ρb Hb hb cx id ops pl i κi κ hcx hck hcount hok hi hκ e H r hr ρ h E hx hh he
  obtain ⟨lr', k⟩ := (S_all (ops := ops) hcx hκ pl).1 [] i _ [] [] e H r (fun j m hj => by cases hj) hi hck (by simp) hr ρ h E [] hx hh he (fun x hx => by cases hx)
  have := Run.draw (id := id) (l := ops.toList) (κ := κi) _ hm hok (by rw [hcount] at k; simpa using k)
  simpa using this
end Ry
end Go.TP
/-! Rzp. -/
namespace Go.TP
open Go
namespace Ry
variable {ops : Array Oper}
theorem natB_eq {β : Type} (n : Nat) (k : Nat → β) : natB n k = k n := by cases n <;> rfl
theorem tb_eq (m i : Nat) : tb m i = Nat.testBit m i := by
  rw [Nat.testBit_eq_decide_div_mod_eq]
  show Nat.beq (Nat.mod (m >>> i) 2) 1 = _
  rw [Nat.shiftRight_eq_div_pow]
  show Nat.beq (m / 2 ^ i % 2) 1 = _
  by_cases h : m / 2 ^ i % 2 = 1
  · simp [h]
  · simp only [h, decide_false]
    exact Bool.eq_false_iff.2 fun hh => h (Nat.eq_of_beq_eq_true hh)
theorem forceI_eq {β : Type} : ∀ (l : List OpI) (k : List OpI → β), forceI l k = k l
  | [], k => rfl
  | x :: l, k => by simp only [forceI, natB_eq, forceI_eq l]
theorem infL_get : ∀ (l : List Oper) (i : Nat), (infL ops l)[i]? = (l[i]?).map fun o => ⟨depN o.after.toList, o.dst, lookN (o.looksAt ops), kindN o⟩
  | [], i => by simp [infL]
  | o :: l, i => by cases i <;> simp [infL, infL_get l]
theorem depN_bit {l : List Edge} {i : Nat} : Nat.testBit (depN l) i = true ↔ ∃ e ∈ l, Region.binds .any e = true ∧ e.on = i := by
  induction l with
  | nil => simp [depN]
  | cons e l ih =>
    unfold depN
    split
    · rename_i hb
      change Nat.testBit ((1 <<< e.on) ||| depN l) i = true ↔ _
      rw [Nat.testBit_or, Bool.or_eq_true, ih, Nat.shiftLeft_eq, Nat.one_mul, Nat.testBit_two_pow]
      constructor
      · rintro (h | ⟨e', h1, h2⟩)
        · exact ⟨e, List.mem_cons_self .., hb, by simpa using h⟩
        · exact ⟨e', List.mem_cons_of_mem _ h1, h2⟩
      · rintro ⟨e', h1, h2, h3⟩
        rcases List.mem_cons.1 h1 with rfl | h1
        · exact .inl (by simpa using h3)
        · exact .inr ⟨e', h1, h2, h3⟩
    · rename_i hb
      rw [ih]
      constructor
      · rintro ⟨e', h1, h2⟩; exact ⟨e', List.mem_cons_of_mem _ h1, h2⟩
      · rintro ⟨e', h1, h2, h3⟩
        rcases List.mem_cons.1 h1 with rfl | h1
        · rw [hb] at h2; cases h2
        · exact ⟨e', h1, h2, h3⟩
theorem lookN_bit {l : List Nat} {t : Nat} : Nat.testBit (lookN l) t = true ↔ t ∈ l := by
  induction l with
  | nil => simp [lookN]
  | cons u l ih =>
    unfold lookN
    change Nat.testBit ((1 <<< u) ||| lookN l) t = true ↔ _
    rw [Nat.testBit_or, Bool.or_eq_true, ih, Nat.shiftLeft_eq, Nat.one_mul, Nat.testBit_two_pow]
    simp [eq_comm]
/-- What is told of an operation. -/
def infO (ops : Array Oper) (o : Oper) : OpI := ⟨depN o.after.toList, o.dst, lookN (o.looksAt ops), kindN o⟩
theorem info_get (i : Nat) : (infL ops ops.toList)[i]? = (ops[i]?).map (infO ops) := by
  rw [infL_get, Array.getElem?_toList]; rfl
/-- The bits say what is listed. -/
def Rel (ops : Array Oper) (L : Nat) (listed : Array Bool) : Prop := listed.size = ops.size ∧ ∀ j, Nat.testBit L j = listed.getD j false
theorem Rel.un {L : Nat} {listed : Array Bool} (h : Rel ops L listed) {j : Nat} (hj : j < ops.size) : listed.getD j true = Nat.testBit L j := by
  rw [h.2]
  have : j < listed.size := by rw [h.1]; exact hj
  simp [Array.getD, this]
theorem Rel.set {L : Nat} {listed : Array Bool} (h : Rel ops L listed) {i : Nat} (hi : i < ops.size) : Rel ops (Nat.lor L (Nat.shiftLeft 1 i)) (listed.setIfInBounds i true) := by
  refine ⟨by simp [h.1], fun j => ?_⟩
  change Nat.testBit (L ||| (1 <<< i)) j = _
  rw [Nat.testBit_or, Nat.shiftLeft_eq, Nat.one_mul, Nat.testBit_two_pow, h.2]
  by_cases hij : i = j
  · subst hij
    have : i < listed.size := by rw [h.1]; exact hi
    simp [Array.getD, this]
  · rw [getD_set_ne false hij]
    simp [hij]
theorem land_sub {a b : Nat} : Nat.beq (Nat.land a b) a = true ↔ ∀ i, Nat.testBit a i = true → Nat.testBit b i = true := by
  constructor
  · intro h i hi
    have h : a &&& b = a := Nat.eq_of_beq_eq_true h
    have := congrArg (fun n => Nat.testBit n i) h
    simp only [Nat.testBit_and, hi, Bool.true_and] at this
    exact this
  · intro h
    have : a &&& b = a := Nat.eq_of_testBit_eq fun i => by
      rw [Nat.testBit_and]
      cases ha : Nat.testBit a i with
      | false => rfl
      | true => rw [h i ha]; rfl
    change Nat.beq (a &&& b) a = true
    rw [this]
    exact Nat.beq_refl a
theorem rdy1_mem {L : Nat} {listed : Array Bool} (h : Rel ops L listed) {i : Nat} {o : Oper} (ho : ops[i]? = some o) : rdy1 L i (infO ops o) = true ↔ i ∈ rdy ops listed := by
  have hi := (Array.getElem?_eq_some_iff.1 ho).1
  unfold rdy1
  rw [tb_eq, Bool.and_eq_true, mem_ready, h.un hi, land_sub]
  simp only [Bool.not_eq_true']
  constructor
  · rintro ⟨h1, h2⟩
    refine ⟨h1, o, ho, fun e he hb => ?_⟩
    rw [← h.2]
    exact h2 _ (depN_bit.2 ⟨e, by simpa using he, hb, rfl⟩)
  · rintro ⟨h1, o', ho', h2⟩
    rw [ho] at ho'; cases ho'
    refine ⟨h1, fun j hj => ?_⟩
    obtain ⟨e, he, hb, rfl⟩ := depN_bit.1 hj
    rw [h.2]
    exact h2 e (by simpa using he) hb
theorem onlyB_spec {L : Nat} {ok : Nat → Bool} : ∀ {l : List OpI} {j : Nat}, onlyB L ok j l = true → ∀ i x, l[i]? = some x → rdy1 L (j + i) x = true → ok (j + i) = true
  | [], j, _, i, x, hx, _ => by simp at hx
  | y :: l, j, h, i, x, hx, hr => by
    simp only [onlyB, Bool.and_eq_true, Bool.or_eq_true, Bool.not_eq_true'] at h
    cases i with
    | zero =>
      simp at hx; subst hx
      rcases h.1 with h1 | h1
      · rw [Nat.add_zero] at hr; rw [hr] at h1; cases h1
      · exact h1
    | succ i =>
      have := onlyB_spec h.2 i x (by simpa using hx)
      rw [show Nat.succ j + i = j + (i + 1) by omega] at this
      exact this hr
theorem only_rdy {L : Nat} {listed : Array Bool} (h : Rel ops L listed) {ok : Nat → Bool} (ho : onlyB L ok 0 (infL ops ops.toList) = true) : ∀ i ∈ rdy ops listed, ok i = true := by
  intro i hi
  obtain ⟨_, o, hoi, _⟩ := mem_ready.1 hi
  have := onlyB_spec ho i (infO ops o) (by rw [info_get, hoi]; rfl)
  rw [Nat.zero_add] at this
  exact this ((rdy1_mem h hoi).2 hi)
theorem filter_one {f : Nat → Bool} {n i : Nat} (hi : i < n) (h : ∀ j < n, f j = true ↔ j = i) : (List.range n).filter f = [i] := by
  induction n with
  | zero => omega
  | succ n ih =>
    rw [List.range_succ, List.filter_append]
    by_cases hn : i = n
    · subst hn
      have h0 : (List.range i).filter f = [] := by
        rw [List.filter_eq_nil_iff]
        intro j hj hf
        have := List.mem_range.1 hj
        have := (h j (by omega)).1 hf
        omega
      rw [h0]
      simp [(h i (by omega)).2 rfl]
    · rw [ih (by omega) fun j hj => h j (by omega)]
      have : f n = false := Bool.eq_false_iff.2 fun hf => hn ((h n (by omega)).1 hf).symm
      simp [this]
theorem filter_two {f : Nat → Bool} {n i k : Nat} (hik : i < k) (hk : k < n) (h : ∀ j < n, f j = true ↔ j = i ∨ j = k) : (List.range n).filter f = [i, k] := by
  induction n with
  | zero => omega
  | succ n ih =>
    rw [List.range_succ, List.filter_append]
    by_cases hn : k = n
    · subst hn
      have h0 : (List.range k).filter f = [i] := filter_one hik fun j hj => by
        rw [h j (by omega)]
        constructor
        · rintro (h1 | h1)
          · exact h1
          · omega
        · exact .inl
      rw [h0]
      simp [(h k (by omega)).2 (.inr rfl)]
    · rw [ih (by omega) fun j hj => h j (by omega)]
      have : f n = false := Bool.eq_false_iff.2 fun hf => by
        rcases (h n (by omega)).1 hf with h1 | h1 <;> omega
      simp [this]
theorem mem_rdy_filter {listed : Array Bool} {j : Nat} (hj : j < ops.size) : j ∈ rdy ops listed ↔ (!listed.getD j true && ((ops[j]?).map (·.after.all fun e => !Region.binds .any e || listed.getD e.on false)).getD false) = true := by
  show j ∈ Region.ready .any ops listed ↔ _
  unfold Region.ready
  rw [List.mem_filter, List.mem_range]
  simp [hj]
theorem rdy_one {listed : Array Bool} {i : Nat} (hi : i ∈ rdy ops listed) (h : ∀ j ∈ rdy ops listed, j = i) : rdyB ops listed [i] = true := by
  have hlt : i < ops.size := by
    obtain ⟨_, o, ho, _⟩ := mem_ready.1 hi
    exact (Array.getElem?_eq_some_iff.1 ho).1
  have : Region.ready .any ops listed = [i] := filter_one hlt fun j hj => by
    rw [← mem_rdy_filter hj]
    exact ⟨h j, fun hh => by rw [hh]; exact hi⟩
  simp [rdyB, this]
theorem rdy_two {listed : Array Bool} {i k : Nat} (hne : i ≠ k) (hi : i ∈ rdy ops listed) (hk : k ∈ rdy ops listed) (h : ∀ j ∈ rdy ops listed, j = i ∨ j = k) : (rdyB ops listed [i, k] || rdyB ops listed [k, i]) = true := by
  have lt : ∀ {i}, i ∈ rdy ops listed → i < ops.size := fun {i} hi => by
    obtain ⟨_, o, ho, _⟩ := mem_ready.1 hi
    exact (Array.getElem?_eq_some_iff.1 ho).1
  rcases Nat.lt_or_gt_of_ne hne with hik | hik
  · have : Region.ready .any ops listed = [i, k] := filter_two hik (lt hk) fun j hj => by
      rw [← mem_rdy_filter hj]
      exact ⟨h j, fun hh => by rcases hh with hh | hh <;> rw [hh] <;> assumption⟩
    simp [rdyB, this]
  · have : Region.ready .any ops listed = [k, i] := filter_two hik (lt hi) fun j hj => by
      rw [← mem_rdy_filter hj]
      exact ⟨fun hh => (h j hh).symm, fun hh => by rcases hh with hh | hh <;> rw [hh] <;> assumption⟩
    simp [rdyB, this]
theorem pairB_spec {j : Nat} {x : OpI} : ∀ {l : List OpI} {i : Nat}, pairB j x i l = true → ∀ k y, l[k]? = some y → i + k = j ∨ ∀ t, y.dst = some t → (x.dst ≠ some t ∧ Nat.testBit x.look t = false) ∨ Nat.testBit x.dep (i + k) = true ∨ Nat.testBit y.dep j = true
  | [], i, _, k, y, hy => by simp at hy
  | z :: l, i, h, k, y, hy => by
    simp only [pairB, Bool.and_eq_true] at h
    cases k with
    | zero =>
      simp at hy; subst hy
      have h := h.1
      rw [Bool.or_eq_true] at h
      rcases h with h | h
      · exact .inl (Nat.eq_of_beq_eq_true h)
      · refine .inr fun t ht => ?_
        rw [ht] at h
        simp only [Bool.or_eq_true, Bool.and_eq_true, Bool.not_eq_true', tb_eq] at h
        rcases h with (h | h) | h
        · refine .inl ⟨fun hh => ?_, h.2⟩
          rw [hh] at h
          simp at h
        · exact .inr (.inl h)
        · exact .inr (.inr h)
    | succ k =>
      have := pairB_spec h.2 k y (by simpa using hy)
      rw [show Nat.succ i + k = i + (k + 1) by omega] at this
      exact this
theorem pairsB_spec {all : List OpI} : ∀ {l : List OpI} {j : Nat}, pairsB all j l = true → ∀ k x, l[k]? = some x → pairB (j + k) x 0 all = true
  | [], j, _, k, x, hx => by simp at hx
  | z :: l, j, h, k, x, hx => by
    simp only [pairsB, Bool.and_eq_true] at h
    cases k with
    | zero => simp at hx; subst hx; exact h.1
    | succ k =>
      have := pairsB_spec h.2 k x (by simpa using hx)
      rw [show Nat.succ j + k = j + (k + 1) by omega] at this
      exact this
/-- Two operations of which one writes where the other writes or looks are in an order. -/
theorem pairs_ok (hp : pairsB (infL ops ops.toList) 0 (infL ops ops.toList) = true) {i j : Nat} {oi oj : Oper} (hi : ops[i]? = some oi) (hj : ops[j]? = some oj) (hne : i ≠ j) {t : Nat} (ht : oi.dst = some t) (hc : oj.dst = some t ∨ t ∈ oj.looksAt ops) :
    (∃ e ∈ oj.after, Region.binds .any e = true ∧ e.on = i) ∨ ∃ e ∈ oi.after, Region.binds .any e = true ∧ e.on = j := by
  have h1 := pairsB_spec hp j (infO ops oj) (by rw [info_get, hj]; rfl)
  rw [Nat.zero_add] at h1
  have h2 := pairB_spec h1 i (infO ops oi) (by rw [info_get, hi]; rfl)
  rw [Nat.zero_add] at h2
  rcases h2 with h2 | h2
  · exact absurd h2 hne
  · rcases h2 t ht with ⟨h3, h4⟩ | h3 | h3
    · rcases hc with hc | hc
      · exact absurd hc h3
      · rw [show (infO ops oj).look = lookN (oj.looksAt ops) from rfl, lookN_bit.2 hc] at h4; cases h4
    · obtain ⟨e, he, hb⟩ := depN_bit.1 h3
      exact .inl ⟨e, by simpa using he, hb⟩
    · obtain ⟨e, he, hb⟩ := depN_bit.1 h3
      exact .inr ⟨e, by simpa using he, hb⟩
theorem free_of (hp : pairsB (infL ops ops.toList) 0 (infL ops ops.toList) = true) {listed : Array Bool} {i : Nat} (hi : i ∈ rdy ops listed) : tk ops listed i = true := by
  obtain ⟨hun, oi, hoi, hall⟩ := mem_ready.1 hi
  unfold tk
  rw [Bool.and_eq_true]
  refine ⟨?_, by simpa using hi⟩
  simp only [Region.free, hoi, List.all_eq_true, List.mem_range]
  intro j hj
  have hoj : ops[j]? = some ops[j] := Array.getElem?_eq_getElem hj
  rw [hoj]
  simp only [Bool.or_eq_true, beq_iff_eq]
  by_cases hji : j = i
  · exact .inl (.inl hji)
  · cases hl : listed.getD j true with
    | true => exact .inl (.inr rfl)
    | false =>
      refine .inr ?_
      by_cases hdep : (∃ e ∈ ops[j].after, Region.binds .any e = true ∧ e.on = i)
      · obtain ⟨e, he, hb1, hb2⟩ := hdep
        exact .inl (Array.any_eq_true'.2 ⟨e, he, by simp [hb1, hb2]⟩)
      · have hno : ¬ ∃ e ∈ oi.after, Region.binds .any e = true ∧ e.on = j := by
          rintro ⟨e, he, hb, rfl⟩
          have h1 := hall e he hb
          have : listed.getD e.on true = true := by
            simp only [Array.getD_eq_getD_getElem?] at h1 ⊢
            revert h1
            cases listed[e.on]? <;> simp
          rw [this] at hl; cases hl
        have key := fun {t : Nat} => pairs_ok (t := t) hp hoi hoj (Ne.symm hji)
        have key' := fun {t : Nat} => pairs_ok (t := t) hp hoj hoi hji
        refine .inr ?_
        unfold Oper.apart
        rw [Bool.and_eq_true]
        constructor
        · cases hd : oi.dst with
          | none => rfl
          | some d =>
            simp only [Bool.and_eq_true, Bool.not_eq_true', bne_iff_ne, ne_eq]
            constructor
            · rw [Bool.eq_false_iff]
              intro hc
              rcases key hd (.inr (by simpa using hc)) with h | h
              · exact hdep h
              · exact hno h
            · intro hc
              rcases key hd (.inl hc) with h | h
              · exact hdep h
              · exact hno h
        · cases hd : ops[j].dst with
          | none => rfl
          | some d =>
            simp only [Bool.not_eq_true']
            rw [Bool.eq_false_iff]
            intro hc
            rcases key' hd (.inr (by simpa using hc)) with h | h
            · exact hno h
            · exact hdep h
theorem kindN_1 {o : Oper} (h : kindN o = 1) : isData o.op = true ∧ o.dst.isSome = true := by
  unfold kindN at h
  split at h
  · rename_i hd
    split at h
    · rename_i h2; exact ⟨hd, h2⟩
    · cases h
  · split at h <;> cases h
theorem kindN_0 {o : Oper} (h : kindN o = 0 ∨ kindN o = 2) : isData o.op = false := by
  unfold kindN at h
  split at h
  · split at h <;> simp at h
  · rename_i hd; exact hd
theorem kindN_2 {o : Oper} (h : kindN o = 2) : (isNew o.op && o.guard.isNone && o.dst.isSome) = true := by
  unfold kindN at h
  split at h
  · split at h <;> cases h
  · split at h
    · rename_i h2; exact h2
    · cases h
theorem apM_ok {i p : Nat} {oi op : Oper} (hi : ops[i]? = some oi) (hp : ops[p]? = some op) (h : apM (infO ops oi) (infO ops op) = true) : apartB ops i p = true := by
  unfold apM at h
  unfold apartB
  rw [hi, hp]
  simp only [infO] at h ⊢
  cases hd : oi.dst with
  | none => rfl
  | some x =>
    rw [hd] at h
    simp only [Bool.and_eq_true, Bool.not_eq_true', tb_eq] at h
    simp only [Bool.and_eq_true, List.all_eq_true]
    refine ⟨h.1, fun z hz => ?_⟩
    cases z with
    | tmp t =>
      simp only [Bool.not_eq_true']
      rw [Bool.eq_false_iff]
      intro hh
      have := Nat.eq_of_beq_eq_true hh
      subst this
      have hl : x ∈ op.looksAt ops := by
        unfold Oper.looksAt
        refine List.mem_append_left _ (List.mem_filterMap.2 ⟨.tmp x, by simpa using hz, rfl⟩)
      rw [lookN_bit.2 hl] at h
      exact absurd h.2 (by simp)
    | _ => rfl
theorem chkM_ok (hp : pairsB (infL ops ops.toList) 0 (infL ops ops.toList) = true) : ∀ (pl : List Stp) (L : Nat) (listed : Array Bool) (pend : Option Nat), Rel ops L listed → chkM (infL ops ops.toList) L pend pl = true → chkPlan ops listed pend pl = true
  | [], L, listed, pend, hr, h => by
    simp only [chkM, Bool.and_eq_true] at h
    simp only [chkPlan, Bool.and_eq_true]
    refine ⟨h.1, ?_⟩
    have := only_rdy hr h.2
    have h0 : Region.ready .any ops listed = [] := List.eq_nil_iff_forall_not_mem.2 fun i hi => by have := this i hi; cases this
    simp [over, h0]
  | .take i :: l, L, listed, pend, hr, h => by
    simp only [chkM, Bool.and_eq_true, info_get, natB_eq] at h
    obtain ⟨h1, h2⟩ := h
    cases ho : ops[i]? with
    | none => rw [ho] at h1; cases h1
    | some o =>
      rw [ho] at h1
      simp only [Option.map_some, Bool.and_eq_true] at h1
      obtain ⟨⟨h3, h4⟩, h5⟩ := h1
      have hi := (Array.getElem?_eq_some_iff.1 ho).1
      have hm := (rdy1_mem hr ho).1 h4
      have hk := kindN_1 (Nat.eq_of_beq_eq_true h3)
      simp only [chkPlan, Bool.and_eq_true]
      refine ⟨⟨⟨?_, free_of hp hm⟩, ?_⟩, chkM_ok hp l _ _ _ (hr.set hi) h2⟩
      · simp only [dataAt, ho, Bool.and_eq_true]
        exact hk
      · cases pend with
        | none => rfl
        | some p =>
          simp only at h5
          cases hpo : ops[p]? with
          | none => rw [hpo] at h5; cases h5
          | some q =>
            rw [hpo] at h5
            have hap := apM_ok ho hpo h5
            simp only [Bool.and_eq_true]
            refine ⟨free_of hp ?_, hap⟩
            have hne : p ≠ i := by
              rintro rfl
              have h6 := hap
              unfold apartB at h6
              rw [ho] at h6
              obtain ⟨d, hd⟩ := Option.isSome_iff_exists.1 hk.2
              simp [hd] at h6
            obtain ⟨m1, o', m2, m3⟩ := mem_ready.1 hm
            refine mem_ready.2 ⟨by rw [getD_set_ne true hne]; exact m1, o', m2, fun e he hb => ?_⟩
            by_cases hpe : p = e.on
            · subst hpe
              have hlt : e.on < listed.size := by rw [hr.1]; exact (Array.getElem?_eq_some_iff.1 hpo).1
              simp [Array.getD, hlt]
            · rw [getD_set_ne false hpe]; exact m3 e he hb
  | .eff i :: l, L, listed, none, hr, h => by
    simp only [chkM, Bool.and_eq_true, info_get, natB_eq] at h
    obtain ⟨h1, h2⟩ := h
    cases ho : ops[i]? with
    | none => rw [ho] at h1; cases h1
    | some o =>
      rw [ho] at h1
      simp only [Option.map_some, Bool.and_eq_true, Bool.or_eq_true] at h1
      obtain ⟨⟨h3, h4⟩, h5⟩ := h1
      have hi := (Array.getElem?_eq_some_iff.1 ho).1
      have hm := (rdy1_mem hr ho).1 h4
      simp only [chkPlan, Bool.and_eq_true]
      refine ⟨⟨?_, rdy_one hm fun j hj => Nat.eq_of_beq_eq_true (only_rdy hr h5 j hj)⟩, chkM_ok hp l _ _ _ (hr.set hi) h2⟩
      simp only [effAt, ho]
      simp [kindN_0 (h3.imp (fun h => Nat.eq_of_beq_eq_true h) fun h => Nat.eq_of_beq_eq_true h)]
  | .eff i :: l, L, listed, some p, hr, h => by
    simp only [chkM, Bool.and_eq_true, info_get, natB_eq] at h
    obtain ⟨h1, h2⟩ := h
    cases ho : ops[i]? with
    | none => rw [ho] at h1; cases h1
    | some o =>
      cases hpo : ops[p]? with
      | none => rw [ho, hpo] at h1; cases h1
      | some q =>
        rw [ho, hpo] at h1
        simp only [Option.map_some, Bool.and_eq_true, Bool.or_eq_true, Bool.not_eq_true'] at h1
        obtain ⟨⟨⟨⟨⟨⟨h3, h4⟩, h4'⟩, hne⟩, h5⟩, h6⟩, h7⟩ := h1
        have hi := (Array.getElem?_eq_some_iff.1 ho).1
        have hpi := (Array.getElem?_eq_some_iff.1 hpo).1
        have hm := (rdy1_mem hr ho).1 h4
        have hmp := (rdy1_mem hr hpo).1 h4'
        have hne : i ≠ p := fun hh => by rw [hh] at hne; simp at hne
        have hrp := hr.set hpi
        have hmi : i ∈ rdy ops (listed.setIfInBounds p true) := ready_mono hm hne
        simp only [chkPlan, Bool.and_eq_true]
        refine ⟨⟨⟨⟨?_, rdy_two hne hm hmp fun j hj => ?_⟩, rdy_one hmi fun j hj => Nat.eq_of_beq_eq_true (only_rdy hrp h7 j hj)⟩, apM_ok ho hpo h6⟩, chkM_ok hp l _ _ _ (hr.set hi) h2⟩
        · simp only [effAt, ho]
          simp [kindN_0 (h3.imp (fun h => Nat.eq_of_beq_eq_true h) fun h => Nat.eq_of_beq_eq_true h)]
        · have := only_rdy hr h5 j hj
          simp only [Bool.or_eq_true] at this
          exact this.imp (fun h => Nat.eq_of_beq_eq_true h) fun h => Nat.eq_of_beq_eq_true h
  | .pre p :: l, L, listed, none, hr, h => by
    simp only [chkM, Bool.and_eq_true, info_get] at h
    obtain ⟨h1, h2⟩ := h
    cases hpo : ops[p]? with
    | none => rw [hpo] at h1; cases h1
    | some q =>
      rw [hpo] at h1
      simp only [chkPlan, Bool.and_eq_true]
      refine ⟨?_, chkM_ok hp l _ _ _ hr h2⟩
      simp only [newAt, hpo]
      exact kindN_2 (Nat.eq_of_beq_eq_true h1)
  | .pre p :: l, L, listed, some q, hr, h => by simp [chkM] at h
  | .new q :: l, L, listed, some p, hr, h => by
    simp only [chkM, Bool.and_eq_true, info_get, natB_eq] at h
    obtain ⟨⟨h0, h1⟩, h2⟩ := h
    have h0 := Nat.eq_of_beq_eq_true h0
    subst h0
    cases hpo : ops[p]? with
    | none => rw [hpo] at h1; cases h1
    | some q =>
      rw [hpo] at h1
      simp only [Option.map_some, Bool.and_eq_true] at h1
      have hpi := (Array.getElem?_eq_some_iff.1 hpo).1
      have hm := (rdy1_mem hr hpo).1 h1.1
      simp only [chkPlan, Bool.and_eq_true, beq_self_eq_true, true_and]
      exact ⟨rdy_one hm fun j hj => Nat.eq_of_beq_eq_true (only_rdy hr h1.2 j hj), chkM_ok hp l _ _ _ (hr.set hpi) h2⟩
  | .new q :: l, L, listed, none, hr, h => by simp [chkM] at h
theorem plan_ok {pl : List Stp} (h : (pairsB (infL ops ops.toList) 0 (infL ops ops.toList) && chkM (infL ops ops.toList) 0 none pl) = true) : chkPlan ops (Array.replicate ops.size false) none pl = true := by
  rw [Bool.and_eq_true] at h
  refine chkM_ok h.1 pl 0 _ none ⟨by simp, fun j => ?_⟩ h.2
  simp [Array.getD_eq_getD_getElem?, Array.getElem?_replicate]
  split <;> rfl
end Ry
end Go.TP
/-! Rzh. -/
namespace Go.TP
open Go
section
variable {P : Program} {K : Kt} {κ : List Item} {e : Env} {h : Heap}
theorem exitTo_none {id : Nat} {κ : List Item} (k : List Item) (hx : exitTo id κ = none) : exitTo id (κ ++ k) = exitTo id k := by
  induction κ with
  | nil => rfl
  | cons x κ ih =>
    cases x <;> simp only [List.cons_append, exitTo] at hx ⊢ <;> first
      | exact ih hx
      | (split at hx
         · cases hx
         · rename_i hh; rw [if_neg hh]; exact ih hx)
/-- A jump that leaves the round. -/
theorem Run.exitOut {id : Nat} (hx : exitTo id κ = none) (hq : ∀ a w, Fits K.n e a → a.defers = K.ds → Wk K h w → K.Q (.exit id) a w) : Run P K (.code (.exit id) :: κ) e h :=
  fun a w hf hd hw _ k _ _ => ⟨.exit id, a, w, hq a w hf hd hw, fun k' hk => .one (fenced_wd _ _ _) (stepR_exit ((exitTo_none k hx).trans hk)), fun _ hk => ⟨κ ++ k, (exitTo_none k hx).trans hk, .refl _⟩⟩
theorem RunA.rangeFunc {Q : Exit → Act → World → Prop} {a : Act} {w : World} {g : Operand} {ps : Array Tmp} {assign body : Code}
    (h : ∀ fn, ∃ (l : Nat) (mark : List Deferred) (w₁ : World) (d : Deferred) (w₁' : World) (f : FuncId) (args : Array Value) (w₂ : World), (Instr.enterLoop fn a.tmps ps assign body none).run P w = .ok (l, mark) w₁ ∧ (resolve a.eval (rangeCall g l) 0).run P w₁ = .ok d w₁' ∧
      (invoke d.target d.args).run P w₁' = .ok (.enter f args) w₂ ∧ CallsIn (Wd none) 0 P f args w₂ (fun en w₃ => ∃ v, en = .returned v ∧ ∃ jump w₄, (Instr.endLoop l).run P w₃ = .ok jump w₄ ∧ RunA P none Q ((jump.map Item.code).toList ++ κ) { a with defers := mark ++ a.defers } w₄)) :
    RunA P none Q (.code (.rangeFunc g ps assign body) :: κ) a w := by
  intro b k cs hb
  obtain ⟨l, mark, w₁, d, w₁', f, args, w₂, he, hres, hinv, hcall⟩ := h b.fn
  rw [← hb] at he
  have henter := stepR_rangeFunc (P := P) (b := b) (a := a) (k := κ ++ k) (cs := cs) (w := w) he hres hinv
  obtain ⟨e, w₃, fr, hR, hsteps, hfn, hleave⟩ := hcall.2 (b.atR { a with defers := mark ++ a.defers } (.inRangeFunc l :: (κ ++ k)) :: cs) (room_wd _ _)
  obtain ⟨v, rfl, jump, w₄, hend, hj⟩ := hR
  have sback : StepsIn (Machine.fenced P (Wd none)) P (lone (b.atR a (.code (.rangeFunc g ps assign body) :: (κ ++ k))) cs w) (lone (b.atR { a with defers := mark ++ a.defers } ((jump.map Item.code).toList ++ (κ ++ k))) cs w₄) := by
    refine .head (fenced_wd _ _ _) henter (StepsIn.trans hsteps (.head (fenced_wd _ _ _) ?_ (.one (fenced_wd _ _ _) (stepR_endRangeFunc hend))))
    rw [← finish_atR_inRangeFunc l v]; exact step_leave_returned hleave
  obtain ⟨x, a2, w5, hq, harr⟩ := hj b k cs hb
  exact ⟨x, a2, w5, hq, .of_steps sback (by rw [List.append_assoc] at harr; exact harr)⟩
end
/-- What a function's body must come to, where ranges over functions stand in it. -/
def KfM (P : Program) (fn : Func) (R : Value → Heap → Prop) (os : Os) (tape : Nat → Question → Nat) (out : Array (Nat × ByteArray)) : Kt :=
  ⟨fn.ntmps, none, os, tape, out, [], bodyPostM (Wd none) 0 P fn fun en w' => ∃ v, en = .returned v ∧ w'.os = os ∧ w'.tape = tape ∧ w'.output = out ∧ R v w'.heap⟩
theorem Ret.enterM {P : Program} {f : FuncId} {fn : Func} {c : Code} {args : List Value} {h : Heap} {R : Value → Heap → Prop} (hf : P.funcs[f]? = some fn) (hb : fn.body = some c)
    (hn : Nat.ble args.length fn.ntmps = true)
    (r : ∀ os tape out, Run P (KfM P fn R os tape out) [.code c] (argEnv 0 args) h) : Ret P f args h R := by
  intro w hw
  refine (callsIn_wide (n := 0)).1 (callsIn_of_wp_marks hf hb trivial ?_ rfl)
  intro b k cs hro _ _
  have hlen : args.length ≤ fn.ntmps := by simpa using hn
  refine r w.os w.tape w.output _ w ⟨?_, fun t v ht => ?_⟩ rfl ⟨hw, rfl, rfl, rfl⟩ b k cs hro
  · show _ = fn.ntmps
    simp; omega
  · obtain ⟨_, h2⟩ := look_argEnv args 0 t v ht
    simp only [Nat.sub_zero] at h2
    obtain ⟨h3, h4⟩ := List.getElem?_eq_some_iff.1 h2
    refine ⟨Nat.lt_of_lt_of_le h3 hlen, ?_⟩
    simp [Array.getD, h3, h4]
    intro hh; omega
namespace Ry
variable {P : Program}
/-- A function leaves: its marks are come to, one by one. -/
theorem leaves_marks {fn : Func} {tmps : Array Value} {R : Ending → World → Prop} : ∀ (Ds : List Nat) (w : World), Ds.Nodup → (∀ D ∈ Ds, w.heap[D]? = some (.deferred (some []))) →
    (∀ w' : World, w'.os = w.os → w'.tape = w.tape → w'.output = w.output → w'.heap.size = w.heap.size → (∀ g, g ∉ Ds → w'.heap[g]? = w.heap[g]?) → ∃ v, (results fn tmps).run P w' = .ok v w' ∧ R (.returned v) w') →
    LeavesInM (Wd none) 0 P fn tmps R (Ds.map mark) .returning w
  | [], w, _, _, h => h w rfl rfl rfl rfl fun _ _ => rfl
  | D :: Ds, w, hnd, hD, h => by
    obtain ⟨hn1, hn2⟩ := List.nodup_cons.1 hnd
    refine ⟨by simp, .inl ⟨D, _, rfl, run_takeDeferred (hD D (List.mem_cons_self ..)), ?_⟩⟩
    refine leaves_marks Ds _ hn2 (fun D' hD' => ?_) fun w' h1 h2 h3 h4 h5 => h w' h1 h2 h3 (by simpa [World.putObj] using h4) fun g hg => ?_
    · rw [World.putObj_heap_other (fun hh => hn1 (by rw [← hh]; exact hD'))]
      exact hD D' (List.mem_cons_of_mem _ hD')
    · rw [h5 g (fun hh => hg (List.mem_cons_of_mem _ hh)), World.putObj_heap_other (fun hh => hg (by rw [hh]; exact List.mem_cons_self ..))]
theorem loopB_some {B : AB} {k : Bool → Option Nat → Option R} {r : R} (h : Tr (loopB B k) r) : ∃ on j, B = .loop on j ∧ Tr (k on j) r := by
  cases B with
  | cells T m s cs => cases h
  | loop on j => exact ⟨on, j, rfl, h⟩
/-- A loop's record. -/
def LR (h : Heap) (lo : Lo) (st : LoopState) (pe : Option Code) : Prop := h[lo.g]? = some (.loop { lo.lp with state := st, pending := pe })
theorem BR.any {ρ : Rn} {h : Heap} {lo : Lo} {on : Bool} {j : Option Nat} (hb : BR ρ h lo (.loop on j)) : ∃ st pe, LR h lo st pe ∧ (on = true → st = .ready ∧ pe = none ∧ j = none) ∧ (∀ n, j = some n → st = .done ∧ ∃ c, Jr lo.ids n c ∧ pe = some c) := by
  cases on with
  | true => cases j with
    | none => exact ⟨_, _, hb, fun _ => ⟨rfl, rfl, rfl⟩, fun n hn => by cases hn⟩
    | some j => exact hb.elim
  | false => cases j with
    | none => exact ⟨_, _, hb, fun hh => (by cases hh), fun n hn => by cases hn⟩
    | some j => obtain ⟨c, h1, h2⟩ := hb; exact ⟨_, _, h2, fun hh => (by cases hh), fun n hn => by cases hn; exact ⟨rfl, c, h1, rfl⟩⟩
section
variable {ρ : Rn} {H : AH} {h : Heap}
/-- A loop's record is turned. -/
theorem hr_loop (hh : HR P ρ H h) {l : Pth} {on on' : Bool} {j j' : Option Nat} {lo : Lo} (hb : getT H.blocks l = some (.loop on j)) (hρ : ρ l = some lo) {ob : Obj} (hB : BR ρ (h.setIfInBounds lo.g ob) lo (.loop on' j')) :
    HR P ρ ⟨H.next, setT (some (.loop on' j')) l H.blocks⟩ (h.setIfInBounds lo.g ob) ∧ Nx ρ H h ρ ⟨H.next, setT (some (.loop on' j')) l H.blocks⟩ (h.setIfInBounds lo.g ob) := by
  have hget : ∀ b, getT (setT (some (AB.loop on' j')) l H.blocks) b = if b = l then some (.loop on' j') else getT H.blocks b := fun b => getT_setT _ _ _ _
  have hoth : ∀ g, g ≠ lo.g → (h.setIfInBounds lo.g ob)[g]? = h[g]? := fun g hg => by rw [Array.getElem?_setIfInBounds_ne (Ne.symm hg)]
  have hsome : ∀ b, (getT (setT (some (AB.loop on' j')) l H.blocks) b).isSome → (getT H.blocks b).isSome := fun b hs => by
    rw [hget] at hs
    by_cases he : b = l
    · rw [he, hb]; rfl
    · rw [if_neg he] at hs; exact hs
  have hnro : ¬ RoB H l := fun ⟨_, _, _, hr⟩ => by rw [hb] at hr; cases hr
  have hro : ∀ b, RoB H b → RoB ⟨H.next, setT (some (AB.loop on' j')) l H.blocks⟩ b := fun b hr => by
    have hbl : b ≠ l := fun he => hnro (he ▸ hr)
    obtain ⟨T1, s1, cs1, hr⟩ := hr
    exact ⟨T1, s1, cs1, by show getT (setT (some (AB.loop on' j')) l H.blocks) b = _; rw [hget, if_neg hbl]; exact hr⟩
  refine ⟨⟨fun b B hB' => ?_, fun b b' l1 l2 h1 h2 h3 h4 h5 => (hh.inj b b' l1 l2 (hsome b h1) (hsome b' h2) h3 h4 h5).imp id fun ⟨r1, r2⟩ => ⟨hro b r1, hro b' r2⟩, fun b hn => ?_, hh.glob⟩, ⟨Le.refl _, by simp, fun g hg hk => ?_, fun b l1 T m s cs B' h1 h2 h3 => ?_, fun b l1 h1 h2 => hsome b h2, fun b l1 h1 h2 => by rw [h1] at h2; cases h2⟩⟩
  · rw [hget] at hB'
    by_cases he : b = l
    · rw [if_pos he] at hB'; cases hB'; rw [he]; exact ⟨lo, hρ, hB⟩
    · rw [if_neg he] at hB'
      obtain ⟨l1, h1, h2⟩ := hh.blk b B hB'
      refine ⟨l1, h1, h2.same (hoth _ fun hg => he ?_)⟩
      exact (hh.inj b l l1 lo (by rw [hB']; rfl) (by rw [hb]; rfl) h1 hρ hg).resolve_right fun hr => hnro hr.2
  · obtain ⟨k1, k2⟩ := hh.new b hn
    refine ⟨k1, ?_⟩
    rw [hget, if_neg]
    · exact k2
    · intro he; subst he; rw [hb] at k2; cases k2
  · refine hoth g fun hgl => ?_
    obtain ⟨_, _, _, _, _, _, _, k1, _⟩ := (hk l lo (by rw [hb]; rfl) hρ hgl.symm).resolve_right hnro
    rw [hb] at k1
    cases k1
  · rw [hget] at h3
    by_cases he : b = l
    · rw [he, hb] at h2; cases h2
    · rw [if_neg he, h2] at h3; cases h3; exact ⟨_, _, _, _, rfl, Nat.le_refl _, Iff.rfl⟩
end
/-- The slots, with the arguments of a round. -/
def parE : Env → List Nat → List Value → Env
  | E, [], _ => E
  | E, _ :: _, [] => E
  | E, p :: ps, u :: us => parE ((p, u) :: E) ps us
theorem argsAt_ok : ∀ {ts : List (Slot R)} {vs : List AV} {e : EV} {k : EV → Option R} {r : R}, (∀ s ∈ ts, SlotOk s) → Tr (argsAt ts vs e k) r →
    vs.length = ts.length ∧ ∃ e', Tr (k e') r ∧ ∀ ρ E us, ER ρ e E → VRs ρ vs us → ER ρ e' (parE E (ts.map Slot.p) us)
  | [], vs, e, k, r, _, h => by
    cases vs with
    | nil => exact ⟨rfl, e, h, fun ρ E us he _ => by cases us <;> exact he⟩
    | cons v vs => cases h
  | t :: ts, vs, e, k, r, hs, h => by
    cases vs with
    | nil => cases h
    | cons v vs =>
      have h : Tr (t.S (some v) e (fun e => argsAt ts vs e k)) r := h
      rw [hs t (List.mem_cons_self ..)] at h
      obtain ⟨h1, e', h2, h3⟩ := argsAt_ok (fun s hm => hs s (List.mem_cons_of_mem _ hm)) h
      refine ⟨by simp [h1], e', h2, fun ρ E us he hv => ?_⟩
      cases hv with
      | cons hv1 hv2 => exact h3 ρ _ _ (he.put t.p hv1) hv2
theorem Fits.par {n : Nat} : ∀ {ts : List Nat} {us : List Value} {E : Env} {tmps : Array Value} {ds : List Deferred}, Fits n E ⟨tmps, ds⟩ → (∀ p ∈ ts, p < n) →
    Fits n (parE E ts us) ⟨(ts.zip us).foldl (fun t (x : Nat × Value) => t.setIfInBounds x.1 x.2) tmps, ds⟩
  | [], us, E, tmps, ds, hf, _ => by cases us <;> exact hf
  | t :: ts, us, E, tmps, ds, hf, hn => by
    cases us with
    | nil => exact hf
    | cons u us => exact Fits.par (ts := ts) (us := us) (hf.put (hn t (List.mem_cons_self ..)) u) fun p hp => hn p (List.mem_cons_of_mem _ hp)
theorem leaves_get {l : Pth} {k : AV → AH → Option R} : ∀ {m j n : Nat} {x : Cont R}, (leaves l k m j)[n]? = some x → x = leave l k (j + n)
  | 0, j, n, x, h => by simp [leaves] at h
  | m + 1, j, n, x, h => by
    cases n with
    | zero => simp [leaves] at h; exact h.symm
    | succ n =>
      simp only [leaves, List.getElem?_cons_succ] at h
      rw [leaves_get h, show j + 1 + n = j + (n + 1) by omega]
theorem slPs_some : ∀ {l : List Nat} {qs : List (Slot R)}, slPs l = some qs → qs.map Slot.p = l ∧ ∀ s ∈ qs, SlotOk s
  | [], qs, h => by cases h; exact ⟨rfl, fun s hs => by cases hs⟩
  | t :: l, qs, h => by
    unfold slPs at h
    replace h := slS_some h
    obtain ⟨s, hp, hs, h⟩ := h
    split at h
    · cases h
    · rename_i l' hl'
      cases h
      obtain ⟨h1, h2⟩ := slPs_some hl'
      refine ⟨by simp [hp, h1], fun s' hm => ?_⟩
      rcases List.mem_cons.1 hm with rfl | hm
      · exact hs
      · exact h2 s' hm
end Ry
end Go.TP
/-! Rzf. -/
namespace Go.TP
open Go
/-- With these blocks for deferred calls. -/
def Kt.wd (K : Kt) (Ds : List Nat) : Kt := { K with ds := Ds.map Ry.mark }
namespace Ry
variable {P : Program} {K : Kt} {ρb : Rn} {Hb : AH} {hb : Heap} {cx : Cx R}
/-- What stands behind is sound, whatever blocks for deferred calls there are. -/
def SndM (P : Program) (K : Kt) (ρb : Rn) (Hb : AH) (hb : Heap) (κi : List Item) (κ : Cont R) : Prop :=
  ∀ e H r, Tr (κ e H) r → ∀ ρ h E Ds, Nx ρb Hb hb ρ H h → HR P ρ H h → ER ρ e E → Mk hb ρ H h Ds → Run P (K.wd Ds) κi E h
/-- A jump that nothing here takes. -/
def SndX (P : Program) (K : Kt) (ρb : Rn) (Hb : AH) (hb : Heap) (id : Nat) (κ : Cont R) : Prop :=
  ∀ e H r, Tr (κ e H) r → ∀ ρ h E Ds, Nx ρb Hb hb ρ H h → HR P ρ H h → ER ρ e E → Mk hb ρ H h Ds → ∀ a w, Fits K.n E a → a.defers = Ds.map mark → Wk K h w → K.Q (.exit id) a w
def XsOk (P : Program) (K : Kt) (ρb : Rn) (Hb : AH) (hb : Heap) (ids : List Nat) (xs : List (Cont R)) (κi : List Item) : Prop :=
  ∀ id n, idx id ids 0 = some n → ∀ k, xs[n]? = some k → (∃ κi', exitTo id κi = some κi' ∧ SndM P K ρb Hb hb κi' k) ∨ (exitTo id κi = none ∧ SndX P K ρb Hb hb id k)
theorem idx_shift (id : Nat) : ∀ (l : List Nat) (n m : Nat), idx id l (n + 1) = some m → ∃ m', m = m' + 1 ∧ idx id l n = some m'
  | [], _, _, h => by cases h
  | i :: l, n, m, h => by
    simp only [idx] at h ⊢
    cases hb : Nat.beq i id with
    | true => rw [hb] at h; cases h; exact ⟨n, rfl, rfl⟩
    | false => rw [hb] at h; exact idx_shift id l (n + 1) m h
theorem XsOk.skipIt {κi : List Item} {it : Item} {ids : List Nat} {xs : List (Cont R)} (h : XsOk P K ρb Hb hb ids xs κi) (hit : ∀ id, exitTo id (it :: κi) = exitTo id κi) : XsOk P K ρb Hb hb ids xs (it :: κi) := fun id n hi k hk => by
  rcases h id n hi k hk with ⟨κi', h1, h2⟩ | ⟨h1, h2⟩
  · exact .inl ⟨κi', (hit id).trans h1, h2⟩
  · exact .inr ⟨(hit id).trans h1, h2⟩
theorem Wk.wd {K : Kt} {Ds Ds' : List Nat} {h : Heap} {w : World} (hw : Wk (K.wd Ds) h w) : Wk (K.wd Ds') h w := ⟨hw.heap, hw.os, hw.tape, hw.out⟩
/-- What is asked of code. -/
def CodeOk (P : Program) (fn : Nat) (c : Code) (ids : List Nat) (x : CD R) : Prop := ∀ (K : Kt) (ρb : Rn) (Hb : AH) (hb : Heap) (cx : Cx R) (rk : Cont R) (xs : List (Cont R)) (κi : List Item) (κ : Cont R), K.n = fn → (K.rd = none ∨ noR c = true) → CxS P ρb cx → (∀ κi, SndM P K ρb Hb hb (.code .ret :: κi) rk) → XsOk P K ρb Hb hb ids xs κi →
  SndM P K ρb Hb hb κi κ → SndM P K ρb Hb hb (.code c :: κi) (x cx rk xs κ)
theorem CxS.le {ρ ρ' : Rn} {cx : Cx R} (h : CxS P ρ cx) (hl : Le ρ ρ') : CxS P ρ' cx := fun ext ρ1 h1 => h ext ρ1 (hl.trans h1)
/-- What stands behind, from here on, with just these blocks. -/
theorem SndM.here {κi : List Item} {κ : Cont R} (hκ : SndM P K ρb Hb hb κi κ) {ρ : Rn} {H : AH} {h : Heap} {Ds : List Nat} (hx : Nx ρb Hb hb ρ H h) (hh : HR P ρ H h) (hm : Mk hb ρ H h Ds) : SndK P (K.wd Ds) ρ H h κi κ :=
  fun e' H' r' hr' ρ' h' E' hx' hh' he' => hκ e' H' r' hr' ρ' h' E' Ds (hx.trans hx' hh) hh' he' (hm.nx hx')
/-- A round of a range over a function. -/
theorem round_ok {fn : Nat} {c d : Code} {ids : List Nat} {ca cb : CD R} (hca : CodeOk P fn c [] ca) (hcb : CodeOk P fn d ids cb) (hnc : noR c = true) (hnd : noR d = true) {ρ0 : Rn} (hcx : CxS P ρ0 cx) {l : Pth} {lo : Lo} (hl : ρ0 l = some lo) (hids : lo.ids = ids)
    {qs : List (Slot R)} (hqo : ∀ s ∈ qs, SlotOk s) (hlp : lo.lp.params.toList = qs.map Slot.p) (hlc : lo.lp.assign = c) (hld : lo.lp.body = d) (hqn : ∀ p ∈ qs.map Slot.p, p < fn) {e0 : EV} {E0 : Env} (hE0 : ER ρ0 e0 E0) (hf0 : Fits fn E0 ⟨lo.lp.tmps, []⟩) :
    YS P ρ0 l (round cx l qs ca cb ids.length e0) := by
  intro vs H k r hr ρ h us lo' hle hh hlo hv
  have hlo0 := hle l lo hl
  rw [hlo] at hlo0
  cases hlo0
  unfold Ry.round at hr
  replace hr := blk_some hr
  obtain ⟨B, hB, hr⟩ := hr
  replace hr := loopB_some hr
  obtain ⟨on, j, rfl, hr⟩ := hr
  rw [ifK_eq] at hr
  split at hr
  · rename_i hon
    obtain ⟨lo', h1, h2⟩ := hh.blk l _ hB
    rw [hlo] at h1; cases h1
    obtain ⟨st, pe, h3, h4, _⟩ := h2.any
    obtain ⟨rfl, rfl, rfl⟩ := h4 hon
    obtain ⟨h5, e', h6, h7⟩ := argsAt_ok hqo hr
    have hE' := h7 ρ E0 us (hE0.mono hle) hv
    have hF' := Fits.par (us := us) hf0 hqn
    intro rd w hw
    subst hw
    have hsz : us.toArray.size = lo.lp.params.size := by
      have : lo.lp.params.size = qs.length := by rw [← Array.length_toList, hlp]; simp
      simp [this, ← h5, hv.len]
    have hy := run_yield (P := P) (w := w) (args := us.toArray) h3 hsz
    refine ⟨_, _, _, _, hy, ?_⟩
    subst hlc hld
    generalize hRr : (fun (en : Ending) (w' : World) => ∃ v, en = .returned v ∧ w'.os = w.os ∧ w'.tape = w.tape ∧ w'.output = w.output ∧ Out P ρ H w.heap k v w'.heap) = Rr
    refine roundIn_of_wpIn trivial ?_
    have htm : Array.foldl (fun (tmps : Array Value) (x : Tmp × Value) => tmps.setIfInBounds x.1 x.2) lo.lp.tmps (lo.lp.params.zip us.toArray) = ((qs.map Slot.p).zip us).foldl (fun t (x : Nat × Value) => t.setIfInBounds x.1 x.2) lo.lp.tmps := by
      rw [← Array.foldl_toList, Array.toList_zip, hlp]
    show (lo.lp.assign).wpIn (Wd (some lo.g)) 0 P (Exit.then (fun a₁ w₁ => ∃ w₂, (Instr.beginRound lo.g).run P w₁ = .ok () w₂ ∧ (lo.lp.body).wpIn (Wd (some lo.g)) 0 P (roundPost P lo.g Rr) a₁ w₂) (fun _ _ _ => False)) ⟨Array.foldl (fun (tmps : Array Value) (x : Tmp × Value) => tmps.setIfInBounds x.1 x.2) lo.lp.tmps (lo.lp.params.zip us.toArray), []⟩ w
    rw [htm]
    intro b k' cs hro _ _
    -- what a round's end comes to
    have hend : ∀ (jump : Option Code) (on : Bool) (j : Option Nat) (on0 : Bool) (j0 : Option Nat) (r4 : R) (ρ4 : Rn) (H4 : AH) (w4 : World), (∀ ρ h', LR h' lo (if jump.isNone then .ready else .done) jump → BR ρ h' lo (.loop on j)) →
        getT H4.blocks l = some (.loop on0 j0) → Nx ρ H w.heap ρ4 H4 w4.heap → HR P ρ4 H4 w4.heap → Tr (k (.B jump.isNone) ⟨H4.next, setT (some (.loop on j)) l H4.blocks⟩) r4 → w4.os = w.os → w4.tape = w.tape → w4.output = w.output →
        ∃ v w', (Instr.endRound lo.g jump).run P w4 = .ok v w' ∧ Rr (.returned v) w' := by
      intro jump on j on0 j0 r4 ρ4 H4 w4 hBR hB4 hx4 hh4 hk4 o1 o2 o3
      obtain ⟨lo4, q1, q2⟩ := hh4.blk l _ hB4
      rw [hx4.le l lo hlo] at q1; cases q1
      obtain ⟨st4, pe4, q3, _, _⟩ := q2.any
      have hlt := (Array.getElem?_eq_some_iff.1 q3).1
      obtain ⟨q5, q6⟩ := hr_loop hh4 hB4 (hx4.le l lo hlo) (ob := .loop { lo.lp with state := if jump.isNone then .ready else .done, pending := jump }) (hBR ρ4 _ (by unfold LR; simp [hlt]))
      refine ⟨_, _, run_endRound (P := P) jump q3, ?_⟩
      rw [← hRr]
      exact ⟨_, rfl, o1, o2, o3, ρ4, _, _, r4, hk4, q5, hx4.trans q6 hh4, .B⟩
    -- the assignments
    refine (hca ⟨fn, some lo.g, w.os, w.tape, w.output, [], Exit.then (fun a₁ w₁ => ∃ w₂, (Instr.beginRound lo.g).run P w₁ = .ok () w₂ ∧ (lo.lp.body).wpIn (Wd (some lo.g)) 0 P (roundPost P lo.g Rr) a₁ w₂) (fun _ _ _ => False)⟩ ρ H w.heap cx (fun _ _ => none) [] [] _ rfl (.inr hnc) (hcx.le hle)
      (fun κi e H r hr => by cases hr) (fun id n hi => by cases hi) ?_ e' H r h6 ρ w.heap _ [] (Nx.refl _ _ _) hh hE' .nil) ⟨_, []⟩ w hF' rfl ⟨rfl, rfl, rfl, rfl⟩ b k' cs hro
    intro e2 H2 r2 hr2 ρ2 h2 E2 Ds hx2 hh2 he2 hm2
    refine Run.nil fun a w2 hf2 hd2 hw2 => ?_
    replace hr2 := blk_some hr2
    obtain ⟨B2, hB2, hr2⟩ := hr2
    replace hr2 := loopB_some hr2
    obtain ⟨on2, j2, rfl, hr2⟩ := hr2
    rw [ifK_eq] at hr2
    split at hr2
    · rename_i hon2
      replace hr2 := putB_some hr2
      obtain ⟨lo2, p1, p2⟩ := hh2.blk l _ hB2
      have hlo2 := hx2.le l lo hlo
      rw [hlo2] at p1; cases p1
      obtain ⟨st2, pe2, p3, p4, _⟩ := p2.any
      obtain ⟨rfl, rfl, rfl⟩ := p4 hon2
      have hw2h : w2.heap = h2 := hw2.heap
      subst hw2h
      have hlt := (Array.getElem?_eq_some_iff.1 p3).1
      obtain ⟨p5, p6⟩ := hr_loop hh2 hB2 hlo2 (on' := false) (j' := none) (ob := .loop { lo.lp with state := .busy, pending := none }) (by show _ = _; simp [hlt])
      refine ⟨_, run_beginRound (P := P) p3 rfl, ?_⟩
      intro b k' cs hro _ _
      have hx3 := hx2.trans p6 hh2
      have jumps : ∀ (j : Nat) (c : Code), Jr ids j c → ∀ (e5 : EV) (H5 : AH) (r5 : R), Tr (leave l k j e5 H5) r5 → ∀ (ρ4 : Rn) (w4 : World), Nx ρ H w.heap ρ4 H5 w4.heap → HR P ρ4 H5 w4.heap → w4.os = w.os → w4.tape = w.tape → w4.output = w.output → ∃ v w', (Instr.endRound lo.g (some c)).run P w4 = .ok v w' ∧ Rr (.returned v) w' := by
        intro j c hj e4 H4 r4 hr4 ρ4 w4 hx4 hh4 o1 o2 o3
        replace hr4 := blk_some hr4
        obtain ⟨B4, hB4, hr4⟩ := hr4
        replace hr4 := loopB_some hr4
        obtain ⟨on4, j4, rfl, hr4⟩ := hr4
        replace hr4 := putB_some hr4
        exact hend (some c) false (some j) on4 j4 r4 ρ4 H4 w4 (fun _ _ hl => ⟨c, by rw [hids]; exact hj, hl⟩) hB4 hx4 hh4 hr4 o1 o2 o3
      refine (hcb ⟨fn, some lo.g, w2.os, w2.tape, w2.output, [], roundPost P lo.g Rr⟩ ρ H w.heap cx _ _ [] _ rfl (.inr hnd) (hcx.le hle) ?_ ?_ ?_ e2 _ r2 hr2 ρ2 _ _ Ds hx3 p5 he2 ⟨hm2.nd, fun D hD => ⟨?_, (hm2.at_ D hD).2⟩, fun D hD => ?_⟩) a (w2.putObj lo.g (.loop { lo.lp with state := .busy, pending := none })) hf2 hd2 ⟨rfl, rfl, rfl, rfl⟩ b k' cs hro
      · intro κi e4 H4 r4 hr4 ρ4 h4 E4 Ds4 hx4 hh4 he4 hm4
        refine Run.ret fun a4 w4 hf4 hd4 hw4 => ?_
        have hw4h : w4.heap = h4 := hw4.heap
        subst hw4h
        exact jumps 0 .ret rfl e4 H4 r4 hr4 ρ4 w4 hx4 hh4 (hw4.os.trans hw2.os) (hw4.tape.trans hw2.tape) (hw4.out.trans hw2.out)
      · intro id n hi kk hkk
        refine .inr ⟨rfl, ?_⟩
        have := leaves_get hkk
        subst this
        intro e4 H4 r4 hr4 ρ4 h4 E4 Ds4 hx4 hh4 he4 hm4 a4 w4 hf4 hd4 hw4
        have hw4h : w4.heap = h4 := hw4.heap
        subst hw4h
        exact jumps (1 + n) (.exit id) (by rw [Nat.add_comm]; exact ⟨id, hi, rfl⟩) e4 H4 r4 hr4 ρ4 w4 hx4 hh4 (hw4.os.trans hw2.os) (hw4.tape.trans hw2.tape) (hw4.out.trans hw2.out)
      · intro e4 H4 r4 hr4 ρ4 h4 E4 Ds4 hx4 hh4 he4 hm4
        refine Run.nil fun a4 w4 hf4 hd4 hw4 => ?_
        have hw4h : w4.heap = h4 := hw4.heap
        subst hw4h
        replace hr4 := blk_some hr4
        obtain ⟨B4, hB4, hr4⟩ := hr4
        replace hr4 := loopB_some hr4
        obtain ⟨on4, j4, rfl, hr4⟩ := hr4
        replace hr4 := putB_some hr4
        exact hend none true none on4 j4 r4 ρ4 H4 w4 (fun _ _ hl => hl) hB4 hx4 hh4 hr4 (hw4.os.trans hw2.os) (hw4.tape.trans hw2.tape) (hw4.out.trans hw2.out)
      · have hne : D ≠ lo.g := fun he => hm2.free D hD l lo (by rw [hB2]; rfl) hlo2 he.symm
        exact (World.putObj_heap_other hne).trans (hm2.at_ D hD).1
      · exact (p6.out (Array.getElem?_eq_some_iff.1 (hm2.at_ D hD).1).1 (hm2.free D hD)).2
    · cases hr2
  · cases hr
theorem cRange_some {qs : List (Slot R)} {ca cb : CD R} {m : Nat} {xo : OD R} {g : Operand} (hg : OpS P g xo) {rk : Cont R} {xs : List (Cont R)} {κ : Cont R} {e : EV} {H : AH} {r : R} (hr : Tr (cRange qs ca cb m xo cx rk xs κ e H) r) :
    ∃ f first cap, vOp e g = some (.X (.fn f first cap)) ∧ Tr (cx [(H.next, round cx H.next qs ca cb m e)] (.fn f) (first ++ [.X (.yld H.next)] ++ cap) ⟨Pth.succ H.next, setT (some (.loop true none)) H.next H.blocks⟩ (fun _ H' => blk H' H.next fun B => loopB B fun on j =>
      killB H' H.next fun H' => Option.rec (ifK on (κ e H') none) (fun j => Nat.rec (rk e H') (fun j _ => Option.rec none (fun k => k e H') xs[j]?) j) j)) r := by
  unfold cRange at hr
  rw [hg.eq] at hr
  replace hr := bind_tr hr
  obtain ⟨v, hv, hr⟩ := hr
  split at hr
  · rename_i f first cap
    exact ⟨f, first, cap, hv, new_some hr⟩
  · cases hr
theorem range_ok {fn : Nat} {g : Operand} {ps : Array Tmp} {c d : Code} {ids : List Nat} {ca cb : CD R} (hca : CodeOk P fn c [] ca) (hcb : CodeOk P fn d ids cb) (hnc : noR c = true) (hnd : noR d = true) {xo : OD R} (hg : OpS P g xo) {qs : List (Slot R)} (hqs : qs.map Slot.p = ps.toList ∧ ∀ s ∈ qs, SlotOk s) (hlt : ∀ t ∈ ps, t < fn)
    (K : Kt) (ρb : Rn) (Hb : AH) (hb : Heap) (cx : Cx R) (rk : Cont R) (xs : List (Cont R)) (κi : List Item) (κ : Cont R) (hn : K.n = fn) (hrd : K.rd = none) (hcx : CxS P ρb cx) (hrk : ∀ κi, SndM P K ρb Hb hb (.code .ret :: κi) rk) (hxs : XsOk P K ρb Hb hb ids xs κi)
    (hκ : SndM P K ρb Hb hb κi κ) : SndM P K ρb Hb hb (.code (.rangeFunc g ps c d) :: κi) (cRange qs ca cb ids.length xo cx rk xs κ) := by
  intro e H r hr ρ h E Ds hx hh he hm a w hf hd hw
  obtain ⟨f, first, cap, hv, hr⟩ := cRange_some hg hr
  obtain ⟨u, hu1, hu2⟩ := hg.ok ρ H h e E _ hh he hv
  cases hu1 with
  | fn hv1 hv2 =>
    rename_i fs cs
    show RunA P K.rd K.Q _ a w
    rw [hrd]
    refine RunA.rangeFunc fun fn' => ?_
    have hwh : w.heap = h := hw.heap
    subst hwh
    obtain ⟨lp, hlp⟩ : ∃ lp : Loop, lp = { state := .ready, pending := none, fn := fn', tmps := a.tmps, params := ps, assign := c, body := d, defers := w.heap.size } := ⟨_, rfl⟩
    obtain ⟨h1, hh1⟩ : ∃ h1 : Heap, h1 = w.heap.push (.deferred (some [])) := ⟨_, rfl⟩
    obtain ⟨a1, a2⟩ := hr_push hh (.deferred (some []))
    rw [← hh1] at a1 a2
    have hs1 : h1.size = w.heap.size + 1 := by rw [hh1]; simp
    obtain ⟨hn1, hn2⟩ := hh.new H.next (Nat.le_refl _)
    obtain ⟨lo, hlo⟩ : ∃ lo : Lo, lo = ⟨w.heap.size + 1, 0, lp, ids, 0⟩ := ⟨_, rfl⟩
    have hlpr : { lo.lp with state := .ready, pending := none } = lp := by rw [hlo, hlp]
    obtain ⟨a3, a4⟩ := hr_new a1 (.loop true none) lo (.loop lp) (by rw [hlo, hs1]) (by show _ = _; rw [hlpr, hlo]; simp [← hs1])
    obtain ⟨ρ1, hρ1⟩ : ∃ ρ1, ρ1 = upd ρ H.next lo := ⟨_, rfl⟩
    rw [← hρ1] at a3 a4
    have hl1 : ρ1 H.next = some lo := by rw [hρ1]; exact if_pos rfl
    have hle1 : Le ρ ρ1 := a4.le
    have hcx1 : CxS P ρ1 cx := hcx.le (hx.le.trans hle1)
    have hys : YS P ρ1 H.next (round cx H.next qs ca cb ids.length e) := by
      refine round_ok hca hcb hnc hnd hcx1 hl1 (by rw [hlo]) hqs.2 (by rw [hlo, hlp]; exact hqs.1.symm) (by rw [hlo, hlp]) (by rw [hlo, hlp]) (fun p hp => ?_) (he.mono hle1) (by
        rw [hlo, hlp]
        subst hn
        exact ⟨hf.size, hf.get⟩)
      rw [hqs.1] at hp
      exact hlt _ (by simpa using hp)
    obtain ⟨b1, b2⟩ := hcx1 [(H.next, round cx H.next qs ca cb ids.length e)] ρ1 (Le.refl _) (fun p hp => by
      obtain rfl := List.mem_singleton.1 hp
      exact hys) (.fn f) _ _ _ r hr ρ1 (h1.push (.loop lp)) (fs ++ [(Value.func (.yield lo.g) #[] #[])] ++ cs) (Le.refl _) a3 (((hv1.mono hle1).append (.cons (.yld hl1) .nil)).append (hv2.mono hle1))
    have hgv : a.eval g = .func (.func f) fs.toArray cs.toArray := hf.agree _ _ hu2
    obtain ⟨w1, hw1⟩ : ∃ w1 : World, w1 = { w with heap := h1.push (.loop lp) } := ⟨_, rfl⟩
    refine ⟨w.heap.size + 1, [mark w.heap.size], w1, { target := .fn (.func f) cs.toArray, args := fs.toArray ++ #[(Value.func (.yield (w.heap.size + 1)) #[] #[])] }, w1, f, (fs ++ [(Value.func (.yield lo.g) #[] #[])] ++ cs).toArray, w1, ?_, ?_, ?_, ?_⟩
    · rw [run_enterLoop_outer, hw1, hh1, hlp]
      rfl
    · simp only [resolve, hgv]
      simp [go_sem]
    · have hla : (fs.toArray ++ #[(Value.func (.yield (w.heap.size + 1)) #[] #[])]) ++ cs.toArray = (fs ++ [(Value.func (.yield lo.g) #[] #[])] ++ cs).toArray := by rw [hlo]; simp
      simp only [invoke]
      rw [hla]
      exact b1 _ _
    · have hb2 := b2 w1 (by rw [hw1])
      refine callsWd (Calls.mono hb2 ?_)
      rintro en w3 ⟨v, rfl, o1, o2, o3, ρ', v', H', r', c1, c2, c3, c4⟩
      refine ⟨v, rfl, ?_⟩
      replace c1 := blk_some c1
      obtain ⟨B, hB, c1⟩ := c1
      replace c1 := loopB_some c1
      obtain ⟨on, j, rfl, c1⟩ := c1
      replace c1 := killB_some c1
      have hl' := c3.le _ _ hl1
      obtain ⟨lo', d1, d2⟩ := c2.blk _ _ hB
      rw [hl'] at d1; cases d1
      obtain ⟨st, pe, d3, d4, d5⟩ := d2.any
      have hlog : lo.g = w.heap.size + 1 := by rw [hlo]
      have hx1 : Nx ρ H w.heap ρ1 _ (h1.push (.loop lp)) := a2.trans a4 a1
      have hx3 : Nx ρb Hb hb ρ' H' w3.heap := (hx.trans hx1 hh).trans c3 a3
      obtain ⟨e1, e2⟩ := hr_kill c2 H.next
      obtain ⟨w4, hw4⟩ : ∃ w4 : World, w4 = w3.putObj lo.g (.loop { lo.lp with state := .exhausted, pending := pe }) := ⟨_, rfl⟩
      have hoth : ∀ g, g ≠ lo.g → w4.heap[g]? = w3.heap[g]? := fun g hg => by rw [hw4]; exact World.putObj_heap_other hg
      have hsz4 : w4.heap.size = w3.heap.size := by rw [hw4]; simp
      have hdead : getT (setT none H.next H'.blocks) H.next = none := by rw [getT_setT, if_pos rfl]
      have hkill : ∀ b lo', (getT (setT none H.next H'.blocks) b).isSome → ρ' b = some lo' → lo'.g ≠ lo.g := by
        intro b lo' hs hb' hg'
        by_cases hbn : b = H.next
        · subst hbn; rw [hdead] at hs; cases hs
        · rw [getT_setT, if_neg hbn] at hs
          rcases c2.inj b H.next lo' lo hs (by rw [hB]; rfl) hb' hl' hg' with he | ⟨_, _, _, _, hr⟩
          · exact hbn he
          · rw [hB] at hr; cases hr
      have e3 : HR P ρ' ⟨H'.next, setT none H.next H'.blocks⟩ w4.heap := e1.away fun b lo' hs hb' => hoth _ (hkill b lo' hs hb')
      have e4 : Nx ρb Hb hb ρ' ⟨H'.next, setT none H.next H'.blocks⟩ w4.heap := (hx3.trans e2 c2).away (Nat.le_of_eq hsz4.symm) fun g hg => hoth g (by have := hx.size; omega)
      have hm1 : Mk hb ρ1 ⟨Pth.succ H.next, setT (some (.loop true none)) H.next H.blocks⟩ (h1.push (.loop lp)) (w.heap.size :: Ds) := by
        have hmx := hm.nx hx1
        have hDlt : ∀ D ∈ Ds, D < w.heap.size := fun D hD => (Array.getElem?_eq_some_iff.1 (hm.at_ D hD).1).1
        refine ⟨List.nodup_cons.2 ⟨fun hD => by have := hDlt _ hD; omega, hm.nd⟩, fun D hD => ?_, fun D hD => ?_⟩
        · rcases List.mem_cons.1 hD with rfl | hD
          · refine ⟨?_, hx.size⟩
            rw [Array.getElem?_push, if_neg (by omega), hh1]
            simp
          · exact hmx.at_ D hD
        · rcases List.mem_cons.1 hD with rfl | hD
          · intro b lo' hs hb' hg'
            by_cases hbn : b = H.next
            · subst hbn; rw [hl1] at hb'; cases hb'; omega
            · rw [getT_setT, if_neg hbn] at hs
              rw [hρ1] at hb'
              have hb' : ρ b = some lo' := by unfold upd at hb'; rw [if_neg hbn] at hb'; exact hb'
              obtain ⟨B', hB'⟩ := Option.isSome_iff_exists.1 hs
              obtain ⟨lo2, f1, f2⟩ := hh.blk b _ hB'
              rw [hb'] at f1; cases f1
              have := f2.lt
              omega
          · exact hmx.free D hD
      have hm3 := hm1.nx c3
      have hm4 : Mk hb ρ' ⟨H'.next, setT none H.next H'.blocks⟩ w4.heap (w.heap.size :: Ds) := by
        refine ⟨hm3.nd, fun D hD => ⟨?_, (hm3.at_ D hD).2⟩, fun D hD b lo' hs hb' => ?_⟩
        · rw [hoth D fun hh => hm3.free D hD H.next lo (by rw [hB]; rfl) hl' hh.symm]
          exact (hm3.at_ D hD).1
        · by_cases hbn : b = H.next
          · subst hbn; rw [hdead] at hs; cases hs
          · rw [getT_setT, if_neg hbn] at hs
            exact hm3.free D hD b lo' hs hb'
      have hnb : st ≠ .busy → (Instr.endLoop lo.g).run P w3 = .ok pe w4 := fun hst => by rw [hw4]; exact run_endLoop (P := P) d3 hst
      have hd' : ({ a with defers := [mark w.heap.size] ++ a.defers } : Act).defers = (w.heap.size :: Ds).map mark := by
        show [mark w.heap.size] ++ a.defers = _
        rw [hd]; rfl
      have hw4' : Wk (K.wd (w.heap.size :: Ds)) w4.heap w4 := by
        have p1 : w4.os = w3.os := by rw [hw4]; rfl
        have p2 : w4.tape = w3.tape := by rw [hw4]; rfl
        have p3 : w4.output = w3.output := by rw [hw4]; rfl
        have q1 : w1.os = w.os := by rw [hw1]
        have q2 : w1.tape = w.tape := by rw [hw1]
        have q3 : w1.output = w.output := by rw [hw1]
        exact ⟨rfl, (p1.trans (o1.trans q1)).trans hw.os, (p2.trans (o2.trans q2)).trans hw.tape, (p3.trans (o3.trans q3)).trans hw.out⟩
      have hE' : ER ρ' e E := he.mono (hle1.trans c3.le)
      have go : ∀ (κ' : Cont R) (κi' : List Item), SndM P K ρb Hb hb κi' κ' → Tr (κ' e ⟨H'.next, setT none H.next H'.blocks⟩) r' → RunA P none K.Q κi' { a with defers := [mark w.heap.size] ++ a.defers } w4 := by
        intro κ' κi' hs hr'
        have := hs e _ r' hr' ρ' w4.heap E (w.heap.size :: Ds) e4 e3 hE' hm4 { a with defers := [mark w.heap.size] ++ a.defers } w4 ⟨hf.size, hf.get⟩ hd' hw4'
        have this : RunA P K.rd K.Q κi' { a with defers := [mark w.heap.size] ++ a.defers } w4 := this
        rwa [hrd] at this
      rw [← hlog]
      cases j with
      | none =>
        have c1 : Tr (ifK on (κ e ⟨H'.next, setT none H.next H'.blocks⟩) none) r' := c1
        rw [ifK_eq] at c1
        split at c1
        · rename_i hon
          obtain ⟨rfl, rfl, _⟩ := d4 hon
          exact ⟨none, w4, hnb (by decide), go κ κi hκ c1⟩
        · cases c1
      | some j =>
        obtain ⟨rfl, cc, hj, rfl⟩ := d5 j rfl
        refine ⟨some cc, w4, hnb (by decide), ?_⟩
        cases j with
        | zero =>
          have c1 : Tr (rk e ⟨H'.next, setT none H.next H'.blocks⟩) r' := c1
          cases hj
          exact go rk _ (hrk κi) c1
        | succ j =>
          have c1 : Tr (Option.rec none (fun k => k e ⟨H'.next, setT none H.next H'.blocks⟩) xs[j]? : Option R) r' := c1
          obtain ⟨id, hid, rfl⟩ := hj
          rw [hlo] at hid
          cases hk : xs[j]? with
          | none => rw [hk] at c1; cases c1
          | some kk =>
            rw [hk] at c1
            have c1 : Tr (kk e ⟨H'.next, setT none H.next H'.blocks⟩) r' := c1
            rcases hxs id j hid kk hk with ⟨κi', h3, h4⟩ | ⟨h3, h4⟩
            · refine go kk (.code (.exit id) :: κi) ?_ c1
              intro e5 H5 r5 hr5 ρ5 h5 E5 Ds5 hx5 hh5 he5 hm5
              exact Run.exit h3 (h4 e5 H5 r5 hr5 ρ5 h5 E5 Ds5 hx5 hh5 he5 hm5)
            · refine go kk (.code (.exit id) :: κi) ?_ c1
              intro e5 H5 r5 hr5 ρ5 h5 E5 Ds5 hx5 hh5 he5 hm5
              exact Run.exitOut h3 fun a5 w5 hf5 hd5 hw5 => h4 e5 H5 r5 hr5 ρ5 h5 E5 Ds5 hx5 hh5 he5 hm5 a5 w5 hf5 hd5 ⟨hw5.heap, hw5.os, hw5.tape, hw5.out⟩
/-- One state seen as another one, since a loop was come to first with the heap H0. -/
def StW (P : Program) (H0 : AH) (vs : List AV) (H : AH) (vs' : List AV) (H' : AH) : Prop := ∀ (ρb : Rn) (Hb : AH) (hb : Heap) (ρ0 : Rn) (h0 : Heap) (ρ : Rn) (h : Heap) (us : List Value), HR P ρ0 H0 h0 → Nx ρb Hb hb ρ0 H0 h0 → HR P ρ H h → Nx ρb Hb hb ρ H h → VRs ρ vs us →
  ∃ ρ', HR P ρ' H' h ∧ Nx ρb Hb hb ρ' H' h ∧ VRs ρ' vs' us ∧ ∀ Ds, Mk hb ρ H h Ds → Mk hb ρ' H' h Ds
/-- What a program's loops are told of is so. -/
def WOk (P : Program) (fuel : Fu) : Prop := ∀ H0 vs H vs' H', fuel.W H0 vs H vs' H' → StW P H0 vs H vs' H'
theorem argsAt_live : ∀ {ts : List (Slot R)} {vs : List AV} {e : EV} {k : EV → Option R} {r : R}, (∀ s ∈ ts, SlotOk s) → Tr (argsAt ts vs e k) r →
    ∃ e', Tr (k e') r ∧ ∀ ρ E us, ER ρ e E → VRs ρ vs us → evs E (ts.map fun s => Operand.tmp s.p) = some us → ER ρ e' E
  | [], vs, e, k, r, _, h => by
    cases vs with
    | nil => exact ⟨e, h, fun ρ E us he _ _ => he⟩
    | cons v vs => cases h
  | t :: ts, vs, e, k, r, hs, h => by
    cases vs with
    | nil => cases h
    | cons v vs =>
      have h : Tr (t.S (some v) e (fun e => argsAt ts vs e k)) r := h
      rw [hs t (List.mem_cons_self ..)] at h
      obtain ⟨e', h2, h3⟩ := argsAt_live (fun s hm => hs s (List.mem_cons_of_mem _ hm)) h
      refine ⟨e', h2, fun ρ E us he hv hE => ?_⟩
      cases hv with
      | cons hv1 hv2 =>
        simp only [List.map_cons, evs] at hE
        split at hE
        case h_2 => cases hE
        rename_i u us' hu hus
        cases hE
        refine h3 ρ E _ (fun q w hq => ?_) hv2 hus
        rw [getE_setE] at hq
        split at hq
        · rename_i hqp
          obtain ⟨rfl, _⟩ := hqp
          cases hq
          exact ⟨_, hv1, hu⟩
        · exact he q w hq
theorem anyS_some {P : LHd → Gh → Prop} : ∀ {l : List LHd}, anyS P l → ∃ s ∈ l, ∃ g, P s g
  | [], h => h.elim
  | [s], h => ⟨s, List.mem_cons_self .., h⟩
  | s :: t :: r, h => by
    have h : (∃ g, P s g) ∨ anyS P (t :: r) := h
    rcases h with h | h
    · exact ⟨s, List.mem_cons_self .., h⟩
    · obtain ⟨s', h1, h2⟩ := anyS_some h
      exact ⟨s', List.mem_cons_of_mem _ h1, h2⟩
theorem allS_some {f : LHd → Gh → R} : ∀ {l : List LHd} {p : Prop}, holds (allS f p l) → p ∧ ∀ s ∈ l, ∀ g, s.inv g → holds (f s g)
  | [], p, h => ⟨h, fun s hs => by cases hs⟩
  | [s], p, ⟨h1, h2⟩ => ⟨h1, fun s' hs => by obtain rfl := List.mem_singleton.1 hs; exact h2⟩
  | s :: t :: r, p, h => by
    have h : (p ∧ ∀ g, s.inv g → holds (f s g)) ∧ holds (allS f True (t :: r)) := h
    obtain ⟨⟨h1, h2⟩, h3⟩ := h
    refine ⟨h1, fun s' hs => ?_⟩
    rcases List.mem_cons.1 hs with rfl | hs
    · exact h2
    · exact (allS_some h3).2 s' hs
/-- A loop whose states are told. -/
theorem loopS_ok {fuel : Fu} (hW : WOk P fuel) {fn : Nat} {b : Code} {ids live : List Nat} {F : List AV → AH → List LHd} {cb : CD R} {os : EV → (List AV → Option R) → Option R} {qs : List (Slot R)} (hcb : CodeOk P fn b ids cb) (hos : OpsS P (live.map .tmp) os) (hqs : qs.map Slot.p = live ∧ ∀ s ∈ qs, SlotOk s) : CodeOk P fn (.loop b) ids (cLoopS fuel.W os qs F cb) := by
  intro K ρb Hb hb cx rk xs κi κ hn hrd hcx hrk hxs hκ e H r hr ρ h E Ds hx hh he hm
  have hrb : K.rd = none ∨ noR b = true := hrd.imp (fun h => h) fun h => by simpa only [noR] using h
  have hxs' : XsOk P K ρb Hb hb ids xs (.inLoop b :: κi) := hxs.skipIt fun _ => rfl
  unfold cLoopS at hr
  rw [hos.eq] at hr
  replace hr := bind_tr hr
  obtain ⟨vs, hvs, hr⟩ := hr
  obtain ⟨hentry, hbody⟩ := allS_some hr
  replace hentry : anyS (fun s g => s.inv g ∧ fuel.W H vs H (s.vals g) (s.heap g)) (F vs H) := hentry
  obtain ⟨s0, hs0, g0, hg0, hw0⟩ := anyS_some hentry
  have hlive : (qs.map fun s => Operand.tmp s.p) = live.map .tmp := by rw [← hqs.1, List.map_map]; rfl
  have key : ∀ (n : Nat) (s : LHd), s ∈ F vs H → ∀ (g : Gh), s.μ g < n → s.inv g → ∀ (ρ1 : Rn) (h1 : Heap) (E1 : Env) (us : List Value) (Ds : List Nat), Nx ρb Hb hb ρ1 (s.heap g) h1 → HR P ρ1 (s.heap g) h1 → VRs ρ1 (s.vals g) us → evs E1 (live.map .tmp) = some us → Mk hb ρ1 (s.heap g) h1 Ds →
      Run P (K.wd Ds) (.code b :: .inLoop b :: κi) E1 h1 := by
    intro n
    induction n with
    | zero => intro s hs g hg; omega
    | succ n ih =>
      intro s hs g hμ hg ρ1 h1 E1 us Ds hx1 hh1 hv1 hE1 hm1
      obtain ⟨e', h2, h3⟩ := argsAt_live (r := tt) hqs.2 (by have := hbody s hs g hg; rwa [ofO_tr (r := tt)] at this)
      have he' : ER ρ1 e' E1 := h3 ρ1 E1 us (fun q w hq => by rw [getE_e3] at hq; cases hq) hv1 (by rw [hlive]; exact hE1)
      refine hcb K ρb Hb hb cx rk xs (.inLoop b :: κi) _ hn hrb hcx hrk hxs' ?_ e' _ tt h2 ρ1 h1 E1 Ds hx1 hh1 he' hm1
      intro e2 H2 r2 hr2 ρ2 h2 E2 Ds2 hx2 hh2 he2 hm2
      replace hr2 : Tr (os e2 (fun vs' => some (.leaf (anyS (fun s' g' => s'.inv g' ∧ s'.μ g' < s.μ g ∧ fuel.W H vs' H2 (s'.vals g') (s'.heap g')) (F vs H))))) r2 := hr2
      rw [hos.eq] at hr2
      replace hr2 := bind_tr hr2
      obtain ⟨vs2, hvs2, hr2⟩ := hr2
      obtain ⟨s', hs', g', hg', hμ', hw'⟩ := anyS_some hr2
      obtain ⟨us2, k1, k2⟩ := hos.ok ρ2 H2 h2 e2 E2 vs2 hh2 he2 hvs2
      obtain ⟨ρ3, j1, j2, j3, j4⟩ := hW _ _ _ _ _ hw' ρb Hb hb ρ h ρ2 h2 us2 hh hx hh2 hx2 k1
      exact Run.inLoop (ih s' hs' g' (by omega) hg' ρ3 h2 E2 us2 Ds2 j2 j1 j3 k2 (j4 Ds2 hm2))
  obtain ⟨us0, k1, k2⟩ := hos.ok ρ H h e E vs hh he hvs
  obtain ⟨ρ3, j1, j2, j3, j4⟩ := hW _ _ _ _ _ hw0 ρb Hb hb ρ h ρ h us0 hh hx hh hx k1
  exact Run.loop (key _ s0 hs0 g0 (Nat.lt_succ_self _) hg0 ρ3 h E us0 Ds j2 j1 j3 k2 (j4 Ds hm))
theorem compC_ok (hD : DrawOk P) {fn f : Nat} {fuel : Fu} (hW : WOk P fuel) : ∀ {c : Code} {ids : List Nat} {x : CD R}, compC P fn f fuel ids c = some x → CodeOk P fn c ids x
  | .skip, ids, x, h => by
    simp only [compC] at h; cases h
    intro K ρb Hb hb cx rk xs κi κ hn hrd hcx hrk hxs hκ e H r hr ρ h E Ds hx hh he hm
    exact Run.skip (hκ e H r hr ρ h E Ds hx hh he hm)
  | .seq a b, ids, x, h => by
    simp only [compC] at h
    split at h
    · cases h
    · rename_i ca ha
      split at h
      · cases h
      · rename_i cb hb'
        cases h
        intro K ρb Hb hb cx rk xs κi κ hn hrd hcx hrk hxs hκ e H r hr ρ h E Ds hx hh he hm
        refine Run.seq ?_
        have hra : K.rd = none ∨ noR a = true := hrd.imp id fun h => by simp only [noR, Bool.and_eq_true] at h; exact h.1
        have hrb : K.rd = none ∨ noR b = true := hrd.imp id fun h => by simp only [noR, Bool.and_eq_true] at h; exact h.2
        exact compC_ok hD hW ha K ρb Hb hb cx rk xs (.code b :: κi) (cb cx rk xs κ) hn hra hcx hrk (hxs.skipIt fun _ => rfl) (compC_ok hD hW hb' K ρb Hb hb cx rk xs κi κ hn hrb hcx hrk hxs hκ) e H r hr ρ h E Ds hx hh he hm
  | .region id ops false, ids, x, h => by
    simp only [compC] at h
    split at h
    · cases h
      intro K ρb Hb hb cx rk xs κi κ hn hrd hcx hrk hxs hκ e H r hr
      cases hr
    · rename_i hok
      split at h
      · cases h
      · rename_i i hi
        cases h
        intro K ρb Hb hb cx rk xs κi κ hn hrd hcx hrk hxs hκ e H r hr ρ h E Ds hx hh he hm
        subst hn
        have := Run.region (K := K.wd Ds) (id := id) (l := ops.toList) hok (compL_ok (hcx.le hx.le) hi (hκ.here hx hh hm) e H r hr ρ h E (Nx.refl _ _ _) hh he)
        simpa using this
  | .region id ops true, ids, x, h => by
    simp only [compC, forceI_eq] at h
    split at h
    · cases h
      intro K ρb Hb hb cx rk xs κi κ hn hrd hcx hrk hxs hκ e H r hr
      cases hr
    · rename_i hok
      simp only [Bool.and_eq_true] at hok
      split at h
      · cases h
      · rename_i i hi
        cases h
        intro K ρb Hb hb cx rk xs κi κ hn hrd hcx hrk hxs hκ e H r hr ρ h E Ds hx hh he hm
        subst hn
        exact hD (K.wd Ds) ρ H h cx id ops _ i κi κ (hcx.le hx.le) (plan_ok (by rw [Bool.and_eq_true]; exact hok.1.1)) (Nat.eq_of_beq_eq_true hok.1.2) hok.2 hi (hκ.here hx hh hm) e H r hr ρ h E (Nx.refl _ _ _) hh he
  | .cond c a b, ids, x, h => by
    simp only [compC] at h
    split at h
    · cases h
    · rename_i co hc
      split at h
      · cases h
      · rename_i ca ha
        split at h
        · cases h
        · rename_i cb hb'
          cases h
          intro K ρb Hb hb cx rk xs κi κ hn hrd hcx hrk hxs hκ e H r hr ρ h E Ds hx hh he hm
          have hra : K.rd = none ∨ noR a = true := hrd.imp id fun h => by simp only [noR, Bool.and_eq_true] at h; exact h.1
          have hrb : K.rd = none ∨ noR b = true := hrd.imp id fun h => by simp only [noR, Bool.and_eq_true] at h; exact h.2
          have hco := opnd_ok hc
          have hr : Tr (co e (fun v => asB v fun q => Bool.rec (cb cx rk xs κ e H) (ca cx rk xs κ e H) q)) r := hr
          rw [hco.eq] at hr
          replace hr := bind_tr hr
          obtain ⟨v, hv, hr⟩ := hr
          replace hr := asB_some hr
          obtain ⟨q, rfl, hr⟩ := hr
          obtain ⟨u, h1, h2⟩ := hco.ok ρ H h e E _ hh he hv
          cases h1
          cases q with
          | true => exact Run.yes h2 rfl (compC_ok hD hW ha K ρb Hb hb cx rk xs κi κ hn hra hcx hrk hxs hκ e H r hr ρ h E Ds hx hh he hm)
          | false => exact Run.no h2 rfl (compC_ok hD hW hb' K ρb Hb hb cx rk xs κi κ hn hrb hcx hrk hxs hκ e H r hr ρ h E Ds hx hh he hm)
  | .block id b, ids, x, h => by
    simp only [compC] at h
    split at h
    · cases h
    · rename_i cb hb'
      cases h
      intro K ρb Hb hb cx rk xs κi κ hn hrd hcx hrk hxs hκ e H r hr ρ h E Ds hx hh he hm
      refine Run.block ?_
      refine compC_ok hD hW hb' K ρb Hb hb cx rk (κ :: xs) (.inBlock id :: κi) κ hn (hrd.imp (fun h => h) fun h => by simpa only [noR] using h) hcx hrk ?_ (fun e H r hr ρ h E Ds hx hh he hm => Run.inBlock (hκ e H r hr ρ h E Ds hx hh he hm)) e H r hr ρ h E Ds hx hh he hm
      intro id' n hi k hk
      simp only [idx] at hi
      cases hbq : Nat.beq id id' with
      | true =>
        rw [hbq] at hi
        cases hi
        cases hk
        have := Nat.eq_of_beq_eq_true hbq
        subst this
        exact .inl ⟨κi, by simp [exitTo], hκ⟩
      | false =>
        rw [hbq] at hi
        obtain ⟨m, rfl, hm'⟩ := idx_shift id' ids 0 n hi
        have hne : ¬ id = id' := fun he => by rw [he] at hbq; simp at hbq
        rcases hxs id' m hm' k (by simpa using hk) with ⟨κi', h1, h2⟩ | ⟨h1, h2⟩
        · exact .inl ⟨κi', by simp [exitTo, hne, h1], h2⟩
        · exact .inr ⟨by simp [exitTo, hne, h1], h2⟩
  | .loop b, ids, x, h => by
    simp only [compC] at h
    split at h
    · cases h
    · rename_i cb hb'
      split at h
      case h_2 =>
        rename_i live F hhint
        split at h
        · cases h
        · rename_i os hos
          split at h
          · cases h
          · rename_i qs hqs
            cases h
            exact loopS_ok hW (compC_ok hD hW hb') (opnds_ok hos) (slPs_some hqs)
      cases h
      intro K ρb Hb hb cx rk xs κi κ hn hrd hcx hrk hxs hκ
      have hrb : K.rd = none ∨ noR b = true := hrd.imp (fun h => h) fun h => by simpa only [noR] using h
      have hxs' : XsOk P K ρb Hb hb ids xs (.inLoop b :: κi) := hxs.skipIt fun _ => rfl
      have key : ∀ n, SndM P K ρb Hb hb (.inLoop b :: κi) (Nat.rec (fun _ _ => none) (fun _ ih => cb cx rk xs ih) n : Cont R) := by
        intro n
        induction n with
        | zero => intro e H r hr; cases hr
        | succ n ih =>
          intro e H r hr ρ h E Ds hx hh he hm
          exact Run.inLoop (compC_ok hD hW hb' K ρb Hb hb cx rk xs (.inLoop b :: κi) _ hn hrb hcx hrk hxs' ih e H r hr ρ h E Ds hx hh he hm)
      intro e H r hr ρ h E Ds hx hh he hm
      have hr : Tr ((Nat.rec (fun _ _ => none) (fun _ ih => cb cx rk xs ih) fuel.n : Cont R) e H) r := hr
      generalize fuel.n = fl at hr
      cases fl with
      | zero => cases hr
      | succ n => exact Run.loop (compC_ok hD hW hb' K ρb Hb hb cx rk xs (.inLoop b :: κi) _ hn hrb hcx hrk hxs' (key n) e H r hr ρ h E Ds hx hh he hm)
  | .exit id, ids, x, h => by
    simp only [compC] at h
    split at h
    · cases h
    · rename_i n hn'
      rw [natK_eq] at h
      cases h
      intro K ρb Hb hb cx rk xs κi κ hn hrd hcx hrk hxs hκ e H r hr ρ h E Ds hx hh he hm
      cases hk : xs[n]? with
      | none =>
        have hr : Tr (Option.rec none (fun k => k e H) xs[n]? : Option R) r := hr
        rw [hk] at hr; cases hr
      | some k =>
        have hr : Tr (Option.rec none (fun k => k e H) xs[n]? : Option R) r := hr
        rw [hk] at hr
        rcases hxs id n hn' k hk with ⟨κi', h1, h2⟩ | ⟨h1, h2⟩
        · exact Run.exit h1 (h2 e H r hr ρ h E Ds hx hh he hm)
        · exact Run.exitOut h1 fun a w hf hd hw => h2 e H r hr ρ h E Ds hx hh he hm a w hf hd ⟨hw.heap, hw.os, hw.tape, hw.out⟩
  | .ret, ids, x, h => by
    simp only [compC] at h; cases h
    intro K ρb Hb hb cx rk xs κi κ hn hrd hcx hrk hxs hκ e H r hr ρ h E Ds hx hh he hm
    exact hrk κi e H r hr ρ h E Ds hx hh he hm
  | .rangeFunc g ps c d, ids, x, h => by
    simp only [compC] at h
    split at h
    · cases h
    · rename_i xo hxo
      split at h
      · cases h
      · rename_i ca hca
        split at h
        · cases h
        · rename_i cb hcb
          split at h
          · cases h
          · rename_i qs hqs
            rw [ifK_eq] at h
            split at h
            · rename_i hck
              simp only [Bool.and_eq_true] at hck
              obtain ⟨⟨hnc, hnd⟩, hlt⟩ := hck
              cases h
              intro K ρb Hb hb cx rk xs κi κ hn hrd hcx hrk hxs hκ e H r hr ρ h E Ds hx hh he hm
              have hrd : K.rd = none := hrd.resolve_right (by simp [noR])
              exact range_ok (compC_ok hD hW hca) (compC_ok hD hW hcb) hnc hnd (opnd_ok hxo) (slPs_some hqs) (fun t ht => Nat.le_of_ble_eq_true (List.all_eq_true.1 hlt t (by simpa using ht))) K ρb Hb hb cx rk xs κi κ hn hrd hcx hrk hxs hκ e H r hr ρ h E Ds hx hh he hm
            · cases h
  | .scope _, ids, x, h => by simp [compC] at h
  | .label _, ids, x, h => by simp [compC] at h
  | .goto _, ids, x, h => by simp [compC] at h
  | .refuse _, ids, x, h => by simp [compC] at h
end Ry
end Go.TP
/-! Rzg. -/
namespace Go.TP
open Go
namespace Ry
variable {P : Program}
theorem args0_ok : ∀ {ts : List (Slot R)} {args : List AV} {m : Nat} {e : EV} {k : EV → Option R} {r : R}, (∀ s ∈ ts, SlotOk s) → ts.map Slot.p = List.range' m ts.length → Tr (args0 ts args e k) r →
    ∃ e', Tr (k e') r ∧ ∀ q v, getE e' q = some v → (∃ i, q = m + i ∧ args[i]? = some v) ∨ getE e q = some v
  | [], args, m, e, k, r, _, _, h => by
    cases args with
    | nil => exact ⟨e, h, fun q v hq => .inr hq⟩
    | cons a args => cases h
  | t :: ts, [], m, e, k, r, _, _, h => ⟨e, h, fun q v hq => .inr hq⟩
  | t :: ts, a :: args, m, e, k, r, hs, hm, h => by
    have h : Tr (t.S (some a) e (fun e => args0 ts args e k)) r := h
    rw [hs t (List.mem_cons_self ..)] at h
    simp only [List.map_cons, List.length_cons, List.range'_succ, List.cons.injEq] at hm
    obtain ⟨e', h1, h2⟩ := args0_ok (fun s hm => hs s (List.mem_cons_of_mem _ hm)) hm.2 h
    refine ⟨e', h1, fun q v hq => ?_⟩
    rcases h2 q v hq with ⟨i, h3, h4⟩ | h3
    · exact .inl ⟨i + 1, by omega, by simpa using h4⟩
    · rw [getE_setE] at h3
      split at h3
      · rename_i hc
        cases h3
        exact .inl ⟨0, by rw [hc.1, hm.1]; rfl, rfl⟩
      · exact .inr h3
theorem look_args : ∀ {us : List Value} {k i : Nat} {u : Value}, us[i]? = some u → TP.look (argEnv k us) (k + i) = some u
  | [], _, _, _, h => by simp at h
  | w :: us, k, i, u, h => by
    simp only [argEnv]
    rw [look_cons]
    cases i with
    | zero => simp at h; simp [h]
    | succ i =>
      rw [if_neg (by omega), show k + (i + 1) = (k + 1) + i by omega]
      exact look_args (by simpa using h)
def resV (tmps : Array Value) : ResultVar → Sem Value
  | .tmp t => Pure.pure (tmps.getD t undef)
  | .cell c t => do loadVar t (← asAddr (tmps.getD c undef))
/-- What a function hands back. -/
theorem outO_ok : ∀ {rs : List ResultVar} {g : EV → AH → (List AV → Option R) → Option R}, outO P rs = some g → ∀ {e : EV} {H : AH} {k : List AV → Option R} {r : R}, Tr (g e H k) r →
    ∃ vs, Tr (k vs) r ∧ ∀ ρ h E, HR P ρ H h → ER ρ e E → ∃ us, VRs ρ vs us ∧ ∀ n a (w : World), Fits n E a → w.heap = h →
      (rs.mapM (resV a.tmps)).run P w = .ok us w
  | [], g, hg, e, H, k, r, h => by
    cases hg
    exact ⟨[], h, fun ρ hp E _ _ => ⟨[], .nil, fun n a w _ _ => rfl⟩⟩
  | .tmp t :: rs, g, hg, e, H, k, r, h => by
    unfold outO at hg
    split at hg
    · cases hg
    · rename_i g' hg'
      replace hg := slG_some hg
      obtain ⟨G, hG, hg⟩ := hg
      cases hg
      dsimp only at h
      rw [oT_eq hG] at h
      replace h := bind_tr h
      obtain ⟨v, hv, h⟩ := h
      obtain ⟨vs, h1, h2⟩ := outO_ok hg' h
      refine ⟨v :: vs, h1, fun ρ hp' E hh he => ?_⟩
      obtain ⟨us, h3, h4⟩ := h2 ρ hp' E hh he
      obtain ⟨u, h5, h6⟩ := he t v hv
      refine ⟨u :: us, .cons h5 h3, fun n a w hf hw => ?_⟩
      rw [List.mapM_cons, Sem.run_bind]
      simp only [resV, (hf.get t u h6).2, Sem.run_pure, Result.andThen, Sem.run_bind, h4 n a w hf hw]
  | .cell c t :: rs, g, hg, e, H, k, r, h => by
    unfold outO at hg
    split at hg
    · cases hg
    · rename_i g' hg'
      split at hg
      · rename_i m hs
        replace hg := slG_some hg
        obtain ⟨G, hG, hg⟩ := hg
        cases hg
        dsimp only at h
        rw [oT_eq hG] at h
        replace h := bind_tr h
        obtain ⟨v, hv, h⟩ := h
        replace h := asP_some h
        obtain ⟨b, o, rfl, h⟩ := h
        replace h := blk_some h
        obtain ⟨B, hB, h⟩ := h
        replace h := cells0_some h
        obtain ⟨T, md, s, cs, rfl, hbase, h⟩ := h
        rw [dropK_eq] at h
        split at h
        · rw [takeK_eq] at h
          split at h
          · rename_i hle hlt
            obtain ⟨vs, h1, h2⟩ := outO_ok hg' h
            refine ⟨_, h1, fun ρ hp' E hh he => ?_⟩
            obtain ⟨us, h3, h4⟩ := h2 ρ hp' E hh he
            obtain ⟨u, h5, h6⟩ := he c _ hv
            cases h5 with
            | P hρ =>
              rename_i lo
              obtain ⟨lo', h7, h8⟩ := hh.blk b _ hB
              rw [hρ] at h7; cases h7
              obtain ⟨ws, h9, h10⟩ := h8.read hbase
              have hl := h9.len
              refine ⟨.agg ((ws.drop o).take m).toArray :: us, .cons (.agg ((h9.drop o).take m)) h3, fun n a w hf hw => ?_⟩
              have hml : ((ws.drop o).take m).length = m := by simp only [List.length_take, List.length_drop] at hlt ⊢; omega
              have hld : (loadVar t ⟨lo.g, o, none⟩).run P w = .ok (.agg ((ws.drop o).take m).toArray) w := by
                have hl := run_loadCells_list (P := P) (w := w) ⟨lo.g, o, none⟩ ((ws.drop o).take m) (fun j q hq => by
                  rw [addr_add, cell_cel hw]
                  rw [List.getElem?_take] at hq
                  split at hq
                  · rw [List.getElem?_drop] at hq; exact h10 _ _ hq
                  · cases hq)
                rw [hml] at hl
                simp [loadVar, ((shapeB_agg hs).spec w).1, ((shapeB_agg hs).spec w).2, hl]
              rw [List.mapM_cons, Sem.run_bind]
              simp only [resV, (hf.get c _ h6).2, asAddr, Sem.run_bind, Sem.run_pure, Result.andThen, hld, h4 n a w hf hw]
          · cases h
        · cases h
      · rename_i m hs
        replace hg := slG_some hg
        obtain ⟨G, hG, hg⟩ := hg
        cases hg
        dsimp only at h
        rw [oT_eq hG] at h
        replace h := bind_tr h
        obtain ⟨v, hv, h⟩ := h
        replace h := asP_some h
        obtain ⟨b, o, rfl, h⟩ := h
        replace h := blk_some h
        obtain ⟨B, hB, h⟩ := h
        replace h := cells0_some h
        obtain ⟨T, md, s, cs, rfl, hbase, h⟩ := h
        rw [nth_eq] at h
        replace h := bind_tr h
        obtain ⟨v, hv2, h⟩ := h
        obtain ⟨vs, h1, h2⟩ := outO_ok hg' h
        refine ⟨_, h1, fun ρ hp' E hh he => ?_⟩
        obtain ⟨us, h3, h4⟩ := h2 ρ hp' E hh he
        obtain ⟨u, h5, h6⟩ := he c _ hv
        cases h5 with
        | P hρ =>
          rename_i lo
          obtain ⟨lo', h7, h8⟩ := hh.blk b _ hB
          rw [hρ] at h7; cases h7
          obtain ⟨ws, h9, h10⟩ := h8.read hbase
          obtain ⟨u, h11, h12⟩ := h9.get hv2
          refine ⟨u :: us, .cons h12 h3, fun n a w hf hw => ?_⟩
          have hld : (loadVar t ⟨lo.g, o, none⟩).run P w = .ok u w := by
            simp [loadVar, ((shapeB_one hs).spec w).1, load, Sem.run, cell_cel hw, h10 o u h11]
          rw [List.mapM_cons, Sem.run_bind]
          simp only [resV, (hf.get c _ h6).2, asAddr, Sem.run_bind, Sem.run_pure, Result.andThen, hld, h4 n a w hf hw]
      · cases hg
theorem results_run {fn : Func} {tmps : Array Value} {us : List Value} {w : World} (h : (fn.results.toList.mapM (resV tmps)).run P w = .ok us w) : (results fn tmps).run P w = .ok (shut us) w := by
  unfold results
  have hfun : (fun x : ResultVar => match x with
      | .tmp t => (Pure.pure (tmps.getD t undef) : Sem Value)
      | .cell a t => do loadVar t (← asAddr (tmps.getD a undef))) = resV tmps := by
    funext x
    cases x <;> rfl
  rw [← Array.toArray_toList (xs := fn.results), List.mapM_toArray]
  simp only [map_eq_pure_bind, bind_assoc, pure_bind]
  rw [Sem.run_bind]
  erw [hfun, h]
  cases us with
  | nil => rfl
  | cons v vs => cases vs with
    | nil => rfl
    | cons u us => rfl
theorem shutA_ok {ρ : Rn} {vs : List AV} {us : List Value} (h : VRs ρ vs us) : VR ρ (shutA vs) (shut us) := by
  cases h with
  | nil => exact .tup .nil
  | cons h1 h2 => cases h2 with
    | nil => exact h1
    | cons h2 h3 => exact .tup (.cons h1 (.cons h2 h3))
theorem compF_ok (hD : DrawOk P) {fuel : Fu} (hW : WOk P fuel) {f : Nat} {g : Cx R → FD R} (hg : compF P fuel f = some g)
    {ρb : Rn} {cx : Cx R} (hcx : CxS P ρb cx) {args : List AV} {H : AH} {k : AV → AH → Option R} {r : R} (hr : Tr (g cx args H k) r) {ρ : Rn} {h : Heap} {us : List Value} (hle : Le ρb ρ) (hh : HR P ρ H h) (hv : VRs ρ args us) :
    Enters P f ∧ Ret P f us h (Out P ρ H h k) := by
  unfold compF at hg
  split at hg
  · cases hg
  · rename_i fn hfn
    split at hg
    · cases hg
    · rename_i c hbody
      have hname : (fn.name == "runtime.NumGoroutine") = false ∧ fn.body = some c := by
        split at hbody
        · cases hbody
        · rename_i hn; exact ⟨hn, hbody⟩
      split at hg
      · cases hg
      · rename_i cd hcd
        split at hg
        · cases hg
        · rename_i og hog
          split at hg
          · cases hg
          · rename_i ts hts
            cases hg
            obtain ⟨hts1, hts2⟩ := slPs_some hts
            have hts3 : ts.map Slot.p = List.range' 0 ts.length := by
              have hl : ts.length = fn.params.size + fn.nfree := by
                have := congrArg List.length hts1
                simpa using this
              rw [hts1, hl, List.range_eq_range']
            dsimp only at hr
            rw [ifK_eq] at hr
            split at hr
            · rename_i hn
              refine ⟨Enters.of hfn hname.1 hname.2, Ret.enterM hfn hname.2 (by rw [hv.len]; exact hn) fun os tape out => ?_⟩
              obtain ⟨e', h1, h2⟩ := args0_ok (m := 0) hts2 hts3 hr
              have hE : ER ρ e' (argEnv 0 us) := by
                intro q v hq
                rcases h2 q v hq with ⟨i, h3, h4⟩ | h3
                · obtain ⟨u, h5, h6⟩ := hv.get h4
                  refine ⟨u, h6, ?_⟩
                  rw [h3]
                  exact look_args h5
                · rw [getE_e3] at h3; cases h3
              have fin : ∀ e H' r, Tr (og e H' (fun vs => k (shutA vs) H')) r → ∀ ρ' h' E Ds, Nx ρ H h ρ' H' h' → HR P ρ' H' h' → ER ρ' e E → Mk h ρ' H' h' Ds →
                  ∀ a w, Fits fn.ntmps E a → w.heap = h' → w.os = os → w.tape = tape → w.output = out → LeavesInM (Wd none) 0 P fn a.tmps (fun en w' => ∃ v, en = .returned v ∧ w'.os = os ∧ w'.tape = tape ∧ w'.output = out ∧ Out P ρ H h k v w'.heap) (Ds.map mark) .returning w := by
                intro e H' r hr ρ' h' E Ds hx hh' he hm a w hf hw o1 o2 o3
                subst hw
                refine leaves_marks Ds w hm.nd (fun D hD => (hm.at_ D hD).1) fun w' p1 p2 p3 p4 p5 => ?_
                have hh2 : HR P ρ' H' w'.heap := hh'.away fun b lo hs hb' => p5 _ fun hD => hm.free _ hD b lo hs hb' rfl
                have hx2 : Nx ρ H h ρ' H' w'.heap := hx.away (Nat.le_of_eq p4.symm) fun g hg => p5 g fun hD => by have := (hm.at_ g hD).2; omega
                obtain ⟨vs, k1, k2⟩ := outO_ok hog hr
                obtain ⟨ws, k3, k4⟩ := k2 ρ' _ E hh2 he
                exact ⟨_, results_run (k4 _ a w' hf rfl), _, rfl, p1.trans o1, p2.trans o2, p3.trans o3, ρ', _, H', r, k1, hh2, hx2, shutA_ok k3⟩
              refine compC_ok hD hW hcd (KfM P fn (Out P ρ H h k) os tape out) ρ H h cx _ [] [] _ rfl (.inl rfl) (hcx.le hle) ?_ ?_ ?_ e' H r h1 ρ h _ [] (Nx.refl _ _ _) hh hE .nil
              · intro κi e H' r hr ρ' h' E Ds hx hh' he hm
                refine Run.ret fun a w hf hd hw => ?_
                show LeavesInM (Wd none) 0 P fn a.tmps _ a.defers .returning w
                rw [hd]
                exact fin e H' r hr ρ' h' E Ds hx hh' he hm a w hf hw.heap hw.os hw.tape hw.out
              · intro id n hi; cases hi
              · intro e H' r hr ρ' h' E Ds hx hh' he hm
                refine Run.nil fun a w hf hd hw => ?_
                show LeavesInM (Wd none) 0 P fn a.tmps _ a.defers .returning w
                rw [hd]
                exact fin e H' r hr ρ' h' E Ds hx hh' he hm a w hf hw.heap hw.os hw.tape hw.out
            · cases hr
theorem YS.le {ρ ρ' : Rn} {l : Pth} {fd : FD R} (h : YS P ρ l fd) (hl : Le ρ ρ') : YS P ρ' l fd := fun vs H k r hr ρ1 h1 us lo h2 => h vs H k r hr ρ1 h1 us lo (hl.trans h2)
theorem find_ok {ρ0 : Rn} : ∀ {Y : List (Pth × FD R)} {l : Pth}, (∀ p ∈ Y, YS P ρ0 p.1 p.2) → YS P ρ0 l (find Y l)
  | [], l, _ => fun vs H k r hr => by cases hr
  | p :: Y, l, h => by
    intro vs H k r hr
    have hr : Tr ((Bool.rec (motive := fun _ => FD R) (find Y l) p.2 (Pth.beq p.1 l)) vs H k) r := hr
    cases hb : Pth.beq p.1 l with
    | true =>
      rw [hb] at hr
      have := Pth.beq_eq hb
      subst this
      exact h p (List.mem_cons_self ..) vs H k r hr
    | false =>
      rw [hb] at hr
      exact find_ok (fun q hq => h q (List.mem_cons_of_mem _ hq)) vs H k r hr
/-- What is asked of the functions that are told by hand. -/
def HookOk (P : Program) (hook : Nat → Option (FD R)) : Prop := ∀ f g, hook f = some g → ∀ vs H k r, Tr (g vs H k) r → ∀ ρ h us, HR P ρ H h → VRs ρ vs us → Enters P f ∧ Ret P f us h (Out P ρ H h k)
theorem call_ok (hD : DrawOk P) {fuel : Fu} (hW : WOk P fuel) {hook : Nat → Option (FD R)} (hH : HookOk P hook) :
    ∀ (depth : Nat) (Y : List (Pth × FD R)) (ρb : Rn), (∀ p ∈ Y, YS P ρb p.1 p.2) → CxS P ρb (call P hook fuel depth Y)
  | 0, Y, ρb, _ => fun _ _ _ _ _ _ _ _ _ hr => by cases hr
  | n + 1, Y, ρb, hY => by
    intro ext ρ1 h1 hext tg vs H k r hr ρ h us hle hh hv
    have hall : ∀ p ∈ ext ++ Y, YS P ρ1 p.1 p.2 := fun p hp => by
      rcases List.mem_append.1 hp with hp | hp
      · exact hext p hp
      · exact (hY p hp).le h1
    cases tg with
    | yl l => exact fun lo hlo => find_ok hall vs H k r hr ρ h us lo hle hh hlo hv
    | fn f =>
      have hr : Tr (Option.rec (Option.rec none (fun g => g (call P hook fuel n (ext ++ Y)) vs H k) (compF P fuel f)) (fun g => g vs H k) (hook f) : Option R) r := hr
      cases hk : hook f with
      | some g =>
        rw [hk] at hr
        exact hH f g hk vs H k r hr ρ h us hh hv
      | none =>
        rw [hk] at hr
        have hr : Tr (Option.rec none (fun g => g (call P hook fuel n (ext ++ Y)) vs H k) (compF P fuel f) : Option R) r := hr
        cases hc : compF P fuel f with
        | none => rw [hc] at hr; cases hr
        | some g =>
          rw [hc] at hr
          exact compF_ok hD hW hc (call_ok hD hW hH n (ext ++ Y) ρ1 hall) hr hle hh hv
end Ry
end Go.TP
/-! Rzi. -/
namespace Go.TP
open Go
namespace Ry
variable {P : Program}
/-- A call that has been reckoned returns so. -/
theorem retW_of (hm : P.follows .mixedOrders = true) {hook : Nat → Option (FD R)} (hH : HookOk P hook) {fuel : Fu} (hW : WOk P fuel) {depth f : Nat} {vs : List AV} {H : AH} {k : AV → AH → Option R} {r : R} (h : Tr (call P hook fuel depth [] [] (.fn f) vs H k) r)
    {ρ : Rn} {hp : Heap} {us : List Value} (hh : HR P ρ H hp) (hv : VRs ρ vs us) : Enters P f ∧ Ret P f us hp (Out P ρ H hp k) :=
  call_ok (draw_ok hm) hW hH depth [] ρ (fun p hp => by cases hp) [] ρ (Le.refl _) (fun p hp => by cases hp) (.fn f) vs H k r h ρ hp us (Le.refl _) hh hv
theorem ret_of (hm : P.follows .mixedOrders = true) {hook : Nat → Option (FD R)} (hH : HookOk P hook) {fuel depth f : Nat} {vs : List AV} {H : AH} {k : AV → AH → Option R} {r : R} (h : Tr (call P hook (OfNat.ofNat fuel) depth [] [] (.fn f) vs H k) r)
    {ρ : Rn} {hp : Heap} {us : List Value} (hh : HR P ρ H hp) (hv : VRs ρ vs us) : Enters P f ∧ Ret P f us hp (Out P ρ H hp k) :=
  retW_of hm hH (fuel := OfNat.ofNat fuel) (fun _ _ _ _ _ h => h.elim) h hh hv
/-! errors.As, at a target of a pointer type. -/
noncomputable def chkErr (rt er : Nat) (g : Pth) (cs : List AV) (x : Option R) : Option R := match cs with
  | [.X (.ifc t (.X (.agg [.P q o])))] => ifK (Nat.beq t rt && Nat.beq o er && Pth.beq q g) x none
  | _ => none
noncomputable def asHook (rt er tE tPE : Nat) (g0 g : Pth) : FD R := fun args H k => match args with
  | [.X .nili, _] => k (.B false) H
  | [.X (.ifc t (.P be oe)), .X (.ifc t2 (.P b o))] => ifK (Nat.beq t tE && Nat.beq t2 tPE) (blk H g0 fun B => cells0 B fun _ _ _ gs => chkErr rt er g gs (blk H b fun B => cellsB B fun T m s cs => open_ m (overK [.P be oe] cs o fun cs => natK (Nat.succ s) fun s => putB H b (.cells T m s cs) fun H => k (.B true) H))) none
  | _ => none
structure AsC (P : Program) (f rt er tE tPE n : Nat) : Prop where
  ent : Enters P f
  nil : ∀ (t : Value) (w : World), Calls P f #[.nilIface, t] w fun e w' => e = .returned (.bool false) ∧ w' = w
  hit : ∀ (e t : Addr) (old : Value) (w : World), w.cell? ⟨0, 0, none⟩ = some (.iface rt (.agg #[.pointer (some ⟨n, er, none⟩)])) → w.cell? t = some old → w.frozen? t = false →
    Calls P f #[.iface tE (.pointer (some e)), .iface tPE (.pointer (some t))] w fun ev w' => ev = .returned (.bool true) ∧ ∃ a b c d : Obj, w' = ((((w.alloc a).alloc b).alloc c).alloc d).setCell t (.pointer (some e))
theorem as_ok {f rt er tE tPE n : Nat} {g0 g : Pth} (hc : AsC P f rt er tE tPE n) (h0 : num g0 = 0) (hg : num g = n) (hn : n ≤ P.globals.size) : ∀ vs H k r, Tr (asHook rt er tE tPE g0 g vs H k) r → ∀ ρ h us, HR P ρ H h → VRs ρ vs us → Enters P f ∧ Ret P f us h (Out P ρ H h k) := by
  intro vs H k r hr ρ h us hh hv
  refine ⟨hc.ent, ?_⟩
  unfold asHook at hr
  split at hr
  · cases hv with
    | cons h1 h2 =>
      cases h1
      cases h2 with
      | cons h3 h4 =>
        cases h4
        intro w hw
        refine (hc.nil _ w).mono ?_
        rintro e w' ⟨rfl, rfl⟩
        exact ⟨_, rfl, rfl, rfl, rfl, ρ, _, H, r, hr, hh.away (fun _ _ _ _ => by rw [hw]), by rw [hw]; exact Nx.refl _ _ _, .B⟩
  · rename_i t be oe t2 b o
    rw [ifK_eq] at hr
    split at hr
    · rename_i hcc
      simp only [Bool.and_eq_true] at hcc
      have e1 := Nat.eq_of_beq_eq_true hcc.1
      have e2 := Nat.eq_of_beq_eq_true hcc.2
      subst e1 e2
      replace hr := blk_some hr
      obtain ⟨B0, hB0, hr⟩ := hr
      replace hr := cells0_some hr
      obtain ⟨T0, m0, s0, gs, rfl, hb0, hr⟩ := hr
      unfold chkErr at hr
      split at hr
      · rename_i t' q o'
        rw [ifK_eq] at hr
        split at hr
        · rename_i hq
          simp only [Bool.and_eq_true] at hq
          obtain ⟨⟨q1, q2⟩, q3⟩ := hq
          have q1 := Nat.eq_of_beq_eq_true q1
          have q2 := Nat.eq_of_beq_eq_true q2
          have q3 := Pth.beq_eq q3
          subst q1 q2 q3
          obtain ⟨lo0, p1, p2⟩ := hh.blk g0 _ hB0
          obtain ⟨lo0', p1', p3⟩ := hh.glob g0 (by omega)
          rw [p1] at p1'; cases p1'
          obtain ⟨ug, p4, p5⟩ := p2.read hb0
          obtain ⟨log, r1, r2⟩ := hh.glob q (by omega)
          have hcell : cel h 0 0 = some (.iface t' (.agg #[.pointer (some ⟨n, o', none⟩)])) := by
            cases p4 with
            | cons p6 p7 =>
              cases p7
              cases p6 with
              | ifc p8 =>
                cases p8 with
                | agg p9 =>
                  cases p9 with
                  | cons p10 p11 =>
                    cases p11
                    cases p10 with
                    | P p12 =>
                      rw [r1] at p12; cases p12
                      have := p5 0 _ rfl
                      rw [p3, h0, r2, hg] at this
                      exact this
          replace hr := blk_some hr
          obtain ⟨B, hB, hr⟩ := hr
          replace hr := cellsB_some hr
          obtain ⟨T, m, s, cs, rfl, hr⟩ := hr
          replace hr := open_some hr
          obtain ⟨hmd, hr⟩ := hr
          rw [overK_eq] at hr
          split at hr
          · rename_i hle
            rw [natK_eq] at hr
            replace hr := putB_some hr
            cases hv with
            | cons h1 h2 =>
              cases h1 with
              | ifc h1 =>
                cases h1 with
                | P h1 =>
                  rename_i loe
                  cases h2 with
                  | cons h3 h4 =>
                    cases h4
                    cases h3 with
                    | ifc h3 =>
                      cases h3 with
                      | P h3 =>
                        rename_i lo
                        obtain ⟨lo', h7, h8⟩ := hh.blk b _ hB
                        rw [h3] at h7; cases h7
                        obtain ⟨cur, h9, h10, h11⟩ := h8.over hmd (.cons (.P h1) .nil) hle
                        intro w hw
                        subst hw
                        have hlt : o < cur.length := by have h10 : o + 1 ≤ cur.length := h10; omega
                        refine (hc.hit ⟨loe.g, oe, none⟩ ⟨lo.g, o, none⟩ cur[o] w (by rw [cell_cel rfl]; exact hcell) (by rw [cell_cel rfl]; simp [cel, h9, hlt]) (by simp [World.frozen?, h9])).mono ?_
                        rintro ev w' ⟨rfl, oa, ob, oc, od, rfl⟩
                        refine ⟨_, rfl, rfl, rfl, rfl, ?_⟩
                        obtain ⟨a1, a2⟩ := hr_push hh oa
                        obtain ⟨b1, b2⟩ := hr_push a1 ob
                        obtain ⟨c1, c2⟩ := hr_push b1 oc
                        obtain ⟨d1, d2⟩ := hr_push c1 od
                        obtain ⟨h4, hh4⟩ : ∃ h4 : Heap, h4 = (((w.heap.push oa).push ob).push oc).push od := ⟨_, rfl⟩
                        rw [← hh4] at d1 d2
                        have hx4 := ((a2.trans b2 a1).trans c2 b1).trans d2 c1
                        have h9' : h4[lo.g]? = some (.cells cur.toArray T (0, 0)) := by
                          have hlg := (Array.getElem?_eq_some_iff.1 h9).1
                          rw [hh4, Array.getElem?_push, if_neg (by simp; omega), Array.getElem?_push, if_neg (by simp; omega), Array.getElem?_push, if_neg (by simp; omega), Array.getElem?_push, if_neg (by omega)]
                          exact h9
                        have hset' : (((((w.alloc oa).alloc ob).alloc oc).alloc od).setCell ⟨lo.g, o, none⟩ (.pointer (some ⟨loe.g, oe, none⟩))).heap = hset h4 lo.g o (.pointer (some ⟨loe.g, oe, none⟩)) := by
                          rw [hh4]
                          rfl
                        rw [hset']
                        obtain ⟨k1, k2⟩ := hr_set d1 hmd hB h3 (hset_size ..) (fun i hi => hset_other hi) (h11 _ (s + 1) (by
                          rw [hset_same h9']
                          have : (cur.toArray.setIfInBounds o (.pointer (some ⟨loe.g, oe, none⟩))) = (cur.take o ++ [Value.pointer (some ⟨loe.g, oe, none⟩)] ++ cur.drop (o + 1)).toArray := by
                            rw [List.setIfInBounds_toArray, List.set_eq_take_append_cons_drop, if_pos hlt]
                            simp
                          rw [this]
                          rfl))
                        exact ⟨ρ, _, _, r, hr, k1, hx4.trans k2 d1, .B⟩
          · cases hr
        · cases hr
      · cases hr
    · cases hr
  · cases hr
/-! How a heap begins. -/
/-- What is known of the package's variables; the numbers of which only some is known. -/
noncomputable def rho0 (P : Program) (n : Nat) (zs : List Int) : Rn := fun p => if num p ≤ P.globals.size then some ⟨num p, 0, default, [], 0⟩ else if num p < n then some ⟨0, 0, default, [], zs.getD (num p - (P.globals.size + 1)) 0⟩ else none
noncomputable def initB : List (Nat × List AV) → PT AB
  | [] => .nil
  | x :: l => setT (some (.cells 0 .ro 0 x.2)) (sl x.1) (initB l)
noncomputable def slOk (n : Nat) : Bool := Nat.beq (num (sl n)) n
theorem initB_get : ∀ (l : List (Nat × List AV)) (b : Pth) (B : AB), getT (initB l) b = some B → ∃ x ∈ l, b = sl x.1 ∧ B = .cells 0 .ro 0 x.2
  | [], b, B, h => by simp [initB, getT_nil] at h
  | x :: l, b, B, h => by
    simp only [initB, getT_setT] at h
    split at h
    · rename_i hb
      cases h
      exact ⟨x, List.mem_cons_self .., hb, rfl⟩
    · obtain ⟨y, h1, h2⟩ := initB_get l b B h
      exact ⟨y, List.mem_cons_of_mem _ h1, h2⟩
theorem hr_init {n : Nat} {zs : List Int} {l : List (Nat × List AV)} {h : Heap} (hn : slOk n = true) (hgn : P.globals.size < n)
    (hl : ∀ x ∈ l, x.1 < P.globals.size ∧ slOk x.1 = true ∧ x.1 < h.size ∧ ∃ us, VRs (rho0 P n zs) x.2 us ∧ ∀ j u, us[j]? = some u → cel h x.1 j = some u) : HR P (rho0 P n zs) ⟨sl n, initB l⟩ h := by
  have hnn : num (sl n) = n := Nat.eq_of_beq_eq_true hn
  have hin : ∀ b B, getT (initB l) b = some B → num b < P.globals.size := fun b B hb => by
    obtain ⟨x, h1, rfl, _⟩ := initB_get l b B hb
    rw [Nat.eq_of_beq_eq_true (hl x h1).2.1]
    exact (hl x h1).1
  refine ⟨fun b B hb => ?_, fun b b' lo lo' h1 h2 h3 h4 h5 => ?_, fun b hb => ⟨?_, ?_⟩, fun p hp => ⟨_, if_pos hp, rfl⟩⟩
  · obtain ⟨x, h1, rfl, rfl⟩ := initB_get l b B hb
    obtain ⟨g1, g2, g3, us, g4, g5⟩ := hl x h1
    have hx : num (sl x.1) = x.1 := Nat.eq_of_beq_eq_true g2
    refine ⟨⟨x.1, 0, default, [], 0⟩, ?_, g3, us, g4, fun j u hu => by rw [Nat.zero_add]; exact g5 j u hu⟩
    unfold rho0
    rw [hx, if_pos (by omega)]
  · obtain ⟨B, hB⟩ := Option.isSome_iff_exists.1 h1
    obtain ⟨B', hB'⟩ := Option.isSome_iff_exists.1 h2
    have k1 := hin b B hB
    have k2 := hin b' B' hB'
    unfold rho0 at h3 h4
    rw [if_pos (by omega)] at h3 h4
    cases h3; cases h4
    exact .inl (num_inj h5)
  · have hb : n ≤ num b := by have := hb; simp only [hnn] at this; exact this
    unfold rho0
    rw [if_neg (by omega), if_neg (by omega)]
  · have hb : n ≤ num b := by have := hb; simp only [hnn] at this; exact this
    cases hg : getT (initB l) b with
    | none => rfl
    | some B => have := hin b B hg; omega
theorem initB_ro {n : Nat} {l : List (Nat × List AV)} {b : Pth} (h : (getT (initB l) b).isSome) : RoB ⟨sl n, initB l⟩ b := by
  obtain ⟨B, hB⟩ := Option.isSome_iff_exists.1 h
  obtain ⟨x, h1, h2, rfl⟩ := initB_get l b B hB
  exact ⟨_, _, _, hB⟩
/-- Nothing that there was has turned. -/
theorem same_of {n : Nat} {zs : List Int} {l : List (Nat × List AV)} {ρ' : Rn} {H' : AH} {h h' : Heap} (hx : Nx (rho0 P n zs) ⟨sl n, initB l⟩ h ρ' H' h') : ∀ g, g < h.size → h'[g]? = h[g]? := by
  intro g hg
  exact hx.fr g hg fun b lo hs hb hgb => .inr (initB_ro hs)
end Ry
end Go.TP
