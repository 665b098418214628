/- Ry is sound, part 16: functions. -/
import Derived.Test.YtnmdbemccdhdmaaGreatDoorRzf
namespace Go.TP
open Go
namespace Ry
variable {P : Program} {R : Type}
theorem args0_ok : ∀ {ts : List (Slot R)} {args : List AV} {m : Nat} {e : EV} {k : EV → Option R} {r : R}, (∀ s ∈ ts, SlotOk s) → ts.map Slot.p = List.range' m ts.length → args0 ts args e k = some r →
    ∃ e', k e' = some r ∧ ∀ q v, getE e' q = some v → (∃ i, q = m + i ∧ args[i]? = some v) ∨ getE e q = some v
  | [], args, m, e, k, r, _, _, h => by
    cases args with
    | nil => exact ⟨e, h, fun q v hq => .inr hq⟩
    | cons a args => cases h
  | t :: ts, [], m, e, k, r, _, _, h => ⟨e, h, fun q v hq => .inr hq⟩
  | t :: ts, a :: args, m, e, k, r, hs, hm, h => by
    have h : t.S (some a) e (fun e => args0 ts args e k) = some r := h
    rw [hs t (List.mem_cons_self ..)] at h
    simp only [List.map_cons, List.length_cons, List.range'_succ, List.cons.injEq] at hm
    obtain ⟨e', h1, h2⟩ := args0_ok (fun s hm => hs s (List.mem_cons_of_mem _ hm)) hm.2 h
    refine ⟨e', h1, fun q v hq => ?_⟩
    rcases h2 q v hq with ⟨i, h3, h4⟩ | h3
    · exact .inl ⟨i + 1, by omega, by simpa using h4⟩
    · rw [getE_setE] at h3
      split at h3
      · rename_i hc
        cases h3
        exact .inl ⟨0, by rw [hc.1, hm.1]; rfl, rfl⟩
      · exact .inr h3
theorem look_args : ∀ {us : List Value} {k i : Nat} {u : Value}, us[i]? = some u → TP.look (argEnv k us) (k + i) = some u
  | [], _, _, _, h => by simp at h
  | w :: us, k, i, u, h => by
    simp only [argEnv]
    rw [look_cons]
    cases i with
    | zero => simp at h; simp [h]
    | succ i =>
      rw [if_neg (by omega), show k + (i + 1) = (k + 1) + i by omega]
      exact look_args (by simpa using h)
def resV (tmps : Array Value) : ResultVar → Sem Value
  | .tmp t => Pure.pure (tmps.getD t undef)
  | .cell c t => do loadVar t (← asAddr (tmps.getD c undef))
/-- What a function hands back. -/
theorem outO_ok : ∀ {rs : List ResultVar} {g : EV → AH → (List AV → Option R) → Option R}, outO P rs = some g → ∀ {e : EV} {H : AH} {k : List AV → Option R} {r : R}, g e H k = some r →
    ∃ vs, k vs = some r ∧ ∀ ρ h E, HR P ρ H h → ER ρ e E → ∃ us, VRs ρ vs us ∧ ∀ n a (w : World), Fits n E a → w.heap = h →
      (rs.mapM (resV a.tmps)).run P w = .ok us w
  | [], g, hg, e, H, k, r, h => by
    cases hg
    exact ⟨[], h, fun ρ hp E _ _ => ⟨[], .nil, fun n a w _ _ => rfl⟩⟩
  | .tmp t :: rs, g, hg, e, H, k, r, h => by
    unfold outO at hg
    split at hg
    · cases hg
    · rename_i g' hg'
      replace hg := slG_some hg
      obtain ⟨G, hG, hg⟩ := hg
      cases hg
      dsimp only at h
      rw [oT_eq hG] at h
      replace h := bind_some h
      obtain ⟨v, hv, h⟩ := h
      obtain ⟨vs, h1, h2⟩ := outO_ok hg' h
      refine ⟨v :: vs, h1, fun ρ hp' E hh he => ?_⟩
      obtain ⟨us, h3, h4⟩ := h2 ρ hp' E hh he
      obtain ⟨u, h5, h6⟩ := he t v hv
      refine ⟨u :: us, .cons h5 h3, fun n a w hf hw => ?_⟩
      rw [List.mapM_cons, Sem.run_bind]
      simp only [resV, (hf.get t u h6).2, Sem.run_pure, Result.andThen, Sem.run_bind, h4 n a w hf hw]
  | .cell c t :: rs, g, hg, e, H, k, r, h => by
    unfold outO at hg
    split at hg
    · cases hg
    · rename_i g' hg'
      split at hg
      · rename_i m hs
        replace hg := slG_some hg
        obtain ⟨G, hG, hg⟩ := hg
        cases hg
        dsimp only at h
        rw [oT_eq hG] at h
        replace h := bind_some h
        obtain ⟨v, hv, h⟩ := h
        replace h := asP_some h
        obtain ⟨b, o, rfl, h⟩ := h
        replace h := blk_some h
        obtain ⟨B, hB, h⟩ := h
        replace h := cellsB_some h
        obtain ⟨T, md, s, cs, rfl, h⟩ := h
        rw [dropK_eq] at h
        split at h
        · rw [takeK_eq] at h
          split at h
          · rename_i hle hlt
            obtain ⟨vs, h1, h2⟩ := outO_ok hg' h
            refine ⟨_, h1, fun ρ hp' E hh he => ?_⟩
            obtain ⟨us, h3, h4⟩ := h2 ρ hp' E hh he
            obtain ⟨u, h5, h6⟩ := he c _ hv
            cases h5 with
            | P hρ =>
              rename_i lo
              obtain ⟨lo', h7, h8⟩ := hh.blk b _ hB
              rw [hρ] at h7; cases h7
              obtain ⟨ws, h9, h10⟩ := h8.read
              have hl := h9.len
              refine ⟨.agg ((ws.drop o).take m).toArray :: us, .cons (.agg ((h9.drop o).take m)) h3, fun n a w hf hw => ?_⟩
              have hml : ((ws.drop o).take m).length = m := by simp only [List.length_take, List.length_drop] at hlt ⊢; omega
              have hld : (loadVar t ⟨lo.g, o, none⟩).run P w = .ok (.agg ((ws.drop o).take m).toArray) w := by
                have hl := run_loadCells_list (P := P) (w := w) ⟨lo.g, o, none⟩ ((ws.drop o).take m) (fun j q hq => by
                  rw [addr_add, cell_cel hw]
                  rw [List.getElem?_take] at hq
                  split at hq
                  · rw [List.getElem?_drop] at hq; exact h10 _ _ hq
                  · cases hq)
                rw [hml] at hl
                simp [loadVar, ((shapeB_agg hs).spec w).1, ((shapeB_agg hs).spec w).2, hl]
              rw [List.mapM_cons, Sem.run_bind]
              simp only [resV, (hf.get c _ h6).2, asAddr, Sem.run_bind, Sem.run_pure, Result.andThen, hld, h4 n a w hf hw]
          · cases h
        · cases h
      · rename_i m hs
        replace hg := slG_some hg
        obtain ⟨G, hG, hg⟩ := hg
        cases hg
        dsimp only at h
        rw [oT_eq hG] at h
        replace h := bind_some h
        obtain ⟨v, hv, h⟩ := h
        replace h := asP_some h
        obtain ⟨b, o, rfl, h⟩ := h
        replace h := blk_some h
        obtain ⟨B, hB, h⟩ := h
        replace h := cellsB_some h
        obtain ⟨T, md, s, cs, rfl, h⟩ := h
        rw [nth_eq] at h
        replace h := bind_some h
        obtain ⟨v, hv2, h⟩ := h
        obtain ⟨vs, h1, h2⟩ := outO_ok hg' h
        refine ⟨_, h1, fun ρ hp' E hh he => ?_⟩
        obtain ⟨us, h3, h4⟩ := h2 ρ hp' E hh he
        obtain ⟨u, h5, h6⟩ := he c _ hv
        cases h5 with
        | P hρ =>
          rename_i lo
          obtain ⟨lo', h7, h8⟩ := hh.blk b _ hB
          rw [hρ] at h7; cases h7
          obtain ⟨ws, h9, h10⟩ := h8.read
          obtain ⟨u, h11, h12⟩ := h9.get hv2
          refine ⟨u :: us, .cons h12 h3, fun n a w hf hw => ?_⟩
          have hld : (loadVar t ⟨lo.g, o, none⟩).run P w = .ok u w := by
            simp [loadVar, ((shapeB_one hs).spec w).1, load, Sem.run, cell_cel hw, h10 o u h11]
          rw [List.mapM_cons, Sem.run_bind]
          simp only [resV, (hf.get c _ h6).2, asAddr, Sem.run_bind, Sem.run_pure, Result.andThen, hld, h4 n a w hf hw]
      · cases hg
theorem results_run {fn : Func} {tmps : Array Value} {us : List Value} {w : World} (h : (fn.results.toList.mapM (resV tmps)).run P w = .ok us w) : (results fn tmps).run P w = .ok (shut us) w := by
  unfold results
  have hfun : (fun x : ResultVar => match x with
      | .tmp t => (Pure.pure (tmps.getD t undef) : Sem Value)
      | .cell a t => do loadVar t (← asAddr (tmps.getD a undef))) = resV tmps := by
    funext x
    cases x <;> rfl
  rw [← Array.toArray_toList (xs := fn.results), List.mapM_toArray]
  simp only [map_eq_pure_bind, bind_assoc, pure_bind]
  rw [Sem.run_bind]
  erw [hfun, h]
  cases us with
  | nil => rfl
  | cons v vs => cases vs with
    | nil => rfl
    | cons u us => rfl
theorem shutA_ok {ρ : Rn} {vs : List AV} {us : List Value} (h : VRs ρ vs us) : VR ρ (shutA vs) (shut us) := by
  cases h with
  | nil => exact .tup .nil
  | cons h1 h2 => cases h2 with
    | nil => exact h1
    | cons h2 h3 => exact .tup (.cons h1 (.cons h2 h3))
theorem compF_ok (hD : DrawOk P R) {fuel f : Nat} {g : Cx R → FD R} (hg : compF P fuel f = some g)
    {ρb : Rn} {cx : Cx R} (hcx : CxS P ρb cx) {args : List AV} {H : AH} {k : AV → AH → Option R} {r : R} (hr : g cx args H k = some r) {ρ : Rn} {h : Heap} {us : List Value} (hle : Le ρb ρ) (hh : HR P ρ H h) (hv : VRs ρ args us) :
    Enters P f ∧ Ret P f us h (Out P ρ H h k) := by
  unfold compF at hg
  split at hg
  · cases hg
  · rename_i fn hfn
    split at hg
    · cases hg
    · rename_i c hbody
      have hname : (fn.name == "runtime.NumGoroutine") = false ∧ fn.body = some c := by
        split at hbody
        · cases hbody
        · rename_i hn; exact ⟨hn, hbody⟩
      split at hg
      · cases hg
      · rename_i cd hcd
        split at hg
        · cases hg
        · rename_i og hog
          split at hg
          · cases hg
          · rename_i ts hts
            cases hg
            obtain ⟨hts1, hts2⟩ := slPs_some hts
            have hts3 : ts.map Slot.p = List.range' 0 ts.length := by
              have hl : ts.length = fn.params.size + fn.nfree := by
                have := congrArg List.length hts1
                simpa using this
              rw [hts1, hl, List.range_eq_range']
            dsimp only at hr
            rw [ifK_eq] at hr
            split at hr
            · rename_i hn
              refine ⟨Enters.of hfn hname.1 hname.2, Ret.enterM hfn hname.2 (by rw [hv.len]; exact hn) fun os tape out => ?_⟩
              obtain ⟨e', h1, h2⟩ := args0_ok (m := 0) hts2 hts3 hr
              have hE : ER ρ e' (argEnv 0 us) := by
                intro q v hq
                rcases h2 q v hq with ⟨i, h3, h4⟩ | h3
                · obtain ⟨u, h5, h6⟩ := hv.get h4
                  refine ⟨u, h6, ?_⟩
                  rw [h3]
                  exact look_args h5
                · rw [getE_e3] at h3; cases h3
              have fin : ∀ e H' r, og e H' (fun vs => k (shutA vs) H') = some r → ∀ ρ' h' E Ds, Nx ρ H h ρ' H' h' → HR P ρ' H' h' → ER ρ' e E → Mk h ρ' H' h' Ds →
                  ∀ a w, Fits fn.ntmps E a → w.heap = h' → w.os = os → w.tape = tape → w.output = out → LeavesInM (Wd none) 0 P fn a.tmps (fun en w' => ∃ v, en = .returned v ∧ w'.os = os ∧ w'.tape = tape ∧ w'.output = out ∧ Out P ρ H h k v w'.heap) (Ds.map mark) .returning w := by
                intro e H' r hr ρ' h' E Ds hx hh' he hm a w hf hw o1 o2 o3
                subst hw
                refine leaves_marks Ds w hm.nd (fun D hD => (hm.at_ D hD).1) fun w' p1 p2 p3 p4 p5 => ?_
                have hh2 : HR P ρ' H' w'.heap := hh'.away fun b lo hs hb' => p5 _ fun hD => hm.free _ hD b lo hs hb' rfl
                have hx2 : Nx ρ H h ρ' H' w'.heap := hx.away (Nat.le_of_eq p4.symm) fun g hg => p5 g fun hD => by have := (hm.at_ g hD).2; omega
                obtain ⟨vs, k1, k2⟩ := outO_ok hog hr
                obtain ⟨ws, k3, k4⟩ := k2 ρ' _ E hh2 he
                exact ⟨_, results_run (k4 _ a w' hf rfl), _, rfl, p1.trans o1, p2.trans o2, p3.trans o3, ρ', _, H', r, k1, hh2, hx2, shutA_ok k3⟩
              refine compC_ok hD hcd (KfM P fn (Out P ρ H h k) os tape out) ρ H h cx _ [] [] _ rfl (.inl rfl) (hcx.le hle) ?_ ?_ ?_ e' H r h1 ρ h _ [] (Nx.refl _ _ _) hh hE .nil
              · intro κi e H' r hr ρ' h' E Ds hx hh' he hm
                refine Run.ret fun a w hf hd hw => ?_
                show LeavesInM (Wd none) 0 P fn a.tmps _ a.defers .returning w
                rw [hd]
                exact fin e H' r hr ρ' h' E Ds hx hh' he hm a w hf hw.heap hw.os hw.tape hw.out
              · intro id n hi; cases hi
              · intro e H' r hr ρ' h' E Ds hx hh' he hm
                refine Run.nil fun a w hf hd hw => ?_
                show LeavesInM (Wd none) 0 P fn a.tmps _ a.defers .returning w
                rw [hd]
                exact fin e H' r hr ρ' h' E Ds hx hh' he hm a w hf hw.heap hw.os hw.tape hw.out
            · cases hr
theorem YS.le {ρ ρ' : Rn} {l : Pth} {fd : FD R} (h : YS P ρ l fd) (hl : Le ρ ρ') : YS P ρ' l fd := fun vs H k r hr ρ1 h1 us lo h2 => h vs H k r hr ρ1 h1 us lo (hl.trans h2)
theorem find_ok {ρ0 : Rn} : ∀ {Y : List (Pth × FD R)} {l : Pth}, (∀ p ∈ Y, YS P ρ0 p.1 p.2) → YS P ρ0 l (find Y l)
  | [], l, _ => fun vs H k r hr => by cases hr
  | p :: Y, l, h => by
    intro vs H k r hr
    have hr : (Bool.rec (motive := fun _ => FD R) (find Y l) p.2 (Pth.beq p.1 l)) vs H k = some r := hr
    cases hb : Pth.beq p.1 l with
    | true =>
      rw [hb] at hr
      have := Pth.beq_eq hb
      subst this
      exact h p (List.mem_cons_self ..) vs H k r hr
    | false =>
      rw [hb] at hr
      exact find_ok (fun q hq => h q (List.mem_cons_of_mem _ hq)) vs H k r hr
/-- What is asked of the functions that are told by hand. -/
def HookOk (P : Program) (hook : Nat → Option (FD R)) : Prop := ∀ f g, hook f = some g → ∀ vs H k r, g vs H k = some r → ∀ ρ h us, HR P ρ H h → VRs ρ vs us → Enters P f ∧ Ret P f us h (Out P ρ H h k)
theorem call_ok (hD : DrawOk P R) {fuel : Nat} {hook : Nat → Option (FD R)} (hH : HookOk P hook) :
    ∀ (depth : Nat) (Y : List (Pth × FD R)) (ρb : Rn), (∀ p ∈ Y, YS P ρb p.1 p.2) → CxS P ρb (call P hook fuel depth Y)
  | 0, Y, ρb, _ => fun _ _ _ _ _ _ _ _ _ hr => by cases hr
  | n + 1, Y, ρb, hY => by
    intro ext ρ1 h1 hext tg vs H k r hr ρ h us hle hh hv
    have hall : ∀ p ∈ ext ++ Y, YS P ρ1 p.1 p.2 := fun p hp => by
      rcases List.mem_append.1 hp with hp | hp
      · exact hext p hp
      · exact (hY p hp).le h1
    cases tg with
    | yl l => exact fun lo hlo => find_ok hall vs H k r hr ρ h us lo hle hh hlo hv
    | fn f =>
      have hr : (Option.rec (Option.rec none (fun g => g (call P hook fuel n (ext ++ Y)) vs H k) (compF P fuel f)) (fun g => g vs H k) (hook f) : Option R) = some r := hr
      cases hk : hook f with
      | some g =>
        rw [hk] at hr
        exact hH f g hk vs H k r hr ρ h us hh hv
      | none =>
        rw [hk] at hr
        have hr : (Option.rec none (fun g => g (call P hook fuel n (ext ++ Y)) vs H k) (compF P fuel f) : Option R) = some r := hr
        cases hc : compF P fuel f with
        | none => rw [hc] at hr; cases hr
        | some g =>
          rw [hc] at hr
          exact compF_ok hD hc (call_ok hD hH n (ext ++ Y) ρ1 hall) hr hle hh hv
end Ry
end Go.TP
