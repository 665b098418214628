/- A law that is handed a slice of bytes: from its runs to the machine. -/
import Derived.Test.YtemmcnbfajlljaaGreatDoorLhk
import Derived.Test.YtemmcnbfajlljaaGreatDoorRw
namespace Go.Proofs.YtemmcnbfajlljaaGreatDoor
set_option maxRecDepth 100000
open Go Go.TP Go.TP.Ry Go.ChangeShapes Go.WideShapes Go.RowKit
/-- What a slice of bytes is. -/
inductive SlC (h : Heap) : Value → List Int → Prop
  | nil : SlC h (.slice none 0 0) []
  | none {g o c : Nat} : SlC h (.slice (some ⟨g, o, none⟩) 0 c) []
  | some {g o c : Nat} {l : List Int} : 0 < l.length → l.length ≤ c → g < h.size → (∀ (j : Nat) (z : Int), l[j]? = some z → cel h g (o + j) = some (.int .u8 z)) → SlC h (.slice (some ⟨g, o, none⟩) l.length c) l
theorem rho_gl {los : List (Nat × Nat)} {p : Nat} (hs : slOk p = true) (hp : p ≤ 4) : rho1 Tryz.prog los (sl p) = some ⟨p, 0, default, [], 0⟩ := by
  unfold rho1
  rw [sl_ok p hs, nglob, if_pos hp]
theorem hrA {los : List (Nat × Nat)} {args : List (Nat × Nat × List AV)} {h : Heap} (hg : GlOk h) (hlos : ∀ p g, los.lookup p = some g → p < 10)
    (ha : ∀ x ∈ args, slOk x.1 = true ∧ ∃ lo, rho1 Tryz.prog los (sl x.1) = some lo ∧ lo.g < h.size ∧ ∃ us, VRs (rho1 Tryz.prog los) x.2.2 us ∧ ∀ j u, us[j]? = some u → cel h lo.g (x.2.1 + j) = some u) : HR Tryz.prog (rho1 Tryz.prog los) ⟨sl 10, initA (glA args)⟩ h := by
  refine hr_args slok gl10 hlos fun x hx => ?_
  unfold glA at hx
  rcases List.mem_cons.1 hx with rfl | hx
  · refine ⟨by kernel_rfl, _, rho_gl (by kernel_rfl) (by decide), cel_lt hg.err, [.iface 148 (.agg #[.pointer (some ⟨4, 36, none⟩)])], ?_, fun j u hu => ?_⟩
    · exact .cons (.ifc (.agg (us := [.pointer (some ⟨4, 36, none⟩)]) (.cons (.P (lo := ⟨4, 0, default, [], 0⟩) (rho_gl (by kernel_rfl) (by decide))) .nil))) .nil
    · cases j with
      | zero => cases hu; exact hg.err
      | succ j => simp at hu
  rcases List.mem_cons.1 hx with rfl | hx
  · refine ⟨by kernel_rfl, _, rho_gl (by kernel_rfl) (by decide), cel_lt (hg.beh 0 0 rfl), behL.map fun n => .int .i64 n, vrs_ints _ _ behL, fun j u hu => ?_⟩
    rw [List.getElem?_map] at hu
    cases hj : behL[j]? with
    | none => rw [hj] at hu; cases hu
    | some n => rw [hj] at hu; cases hu; dsimp only; rw [Nat.zero_add]; exact hg.beh j n hj
  rcases List.mem_cons.1 hx with rfl | hx
  · refine ⟨by kernel_rfl, _, rho_gl (by kernel_rfl) (by decide), cel_lt (hg.bru 0 0 rfl), bruL.map fun n => .int .u8 n, vrs_ints _ _ bruL, fun j u hu => ?_⟩
    rw [List.getElem?_map] at hu
    cases hj : bruL[j]? with
    | none => rw [hj] at hu; cases hu
    | some n => rw [hj] at hu; cases hu; dsimp only; rw [Nat.zero_add]; exact hg.bru j n hj
  · exact ha x hx
theorem law_ret {hk : Nat → Option (FD R)} (hH : HookOk Tryz.prog hk) {f : Nat} {vs : List AV} {us : List Value} {los : List (Nat × Nat)} {args : List (Nat × Nat × List AV)} {h : Heap} (hr : Tr (call Tryz.prog hk 1000 200 [] [] (.fn f) vs ⟨sl 10, initA (glA args)⟩ isTrue) tt) (hh : HR Tryz.prog (rho1 Tryz.prog los) ⟨sl 10, initA (glA args)⟩ h) (hv : VRs (rho1 Tryz.prog los) vs us) : Ret Tryz.prog f us h (Good h) := by
  obtain ⟨_, h2⟩ := retW_of mixed hH wok1000 hr hh hv
  refine h2.mono ?_
  rintro u h' ⟨ρ', w, H', r, k1, k2, k3, k4⟩
  unfold isTrue at k1
  split at k1
  · cases k4
    exact ⟨rfl, k3.size, same_args k3⟩
  · cases k1
/-- A law whose last argument is a slice of bytes, the others numbers. -/
theorem law1 {hk : Nat → Option (FD R)} (hH : HookOk Tryz.prog hk) {f : Nat} {pre : List AV} {upre : List Value} (hp : ∀ ρ, VRs ρ pre upre) {l : List Int}
    (hn : l = [] → Tr (call Tryz.prog hk 1000 200 [] [] (.fn f) (pre ++ [.X .nils]) ⟨sl 10, initA (glA [])⟩ isTrue) tt) (hz : l = [] → Tr (call Tryz.prog hk 1000 200 [] [] (.fn f) (pre ++ [.X .slz]) ⟨sl 10, initA (glA [])⟩ isTrue) tt)
    (hs : 0 < l.length → ∀ off : Nat, Tr (call Tryz.prog hk 1000 200 [] [] (.fn f) (pre ++ [.X (.ss (sl 5) off l.length none)]) ⟨sl 10, initA (glA [(5, off, seqA .u8 l)])⟩ isTrue) tt) {h : Heap} (hg : GlOk h) {u : Value} (hu : SlC h u l) : Ret Tryz.prog f (upre ++ [u]) h (Good h) := by
  cases hu with
  | nil => exact law_ret hH (hn rfl) (los := []) (hrA hg (fun p g hp => by simp at hp) (fun x hx => by cases hx)) ((hp _).append (.cons .nils .nil))
  | none => exact law_ret hH (hz rfl) (los := []) (hrA hg (fun p g hp => by simp at hp) (fun x hx => by cases hx)) ((hp _).append (.cons .slz .nil))
  | some h1 h2 h3 h4 =>
    rename_i g o c
    have hρ : rho1 Tryz.prog [(5, g)] (sl 5) = some ⟨g, 0, default, [], 0⟩ := by
      unfold rho1
      rw [sl_ok 5 slok5, nglob, if_neg (by decide)]
      rfl
    refine law_ret hH (hs h1 o) (los := [(5, g)]) (hrA hg (fun p g' hp => ?_) fun x hx => ?_) ((hp _).append (.cons ?_ .nil))
    · simp only [List.lookup] at hp
      split at hp
      · rename_i he; have := eq_of_beq he; omega
      · cases hp
    · obtain rfl := List.mem_singleton.1 hx
      refine ⟨slok5, _, hρ, h3, _, seqA_vrs, fun j u hu => ?_⟩
      rw [List.getElem?_map] at hu
      cases hj : l[j]? with
      | none => rw [hj] at hu; cases hu
      | some z => rw [hj] at hu; cases hu; exact h4 j z hj
    · have := VR.ss (ρ := rho1 Tryz.prog [(5, g)]) (b := sl 5) (o := (o : Int)) (n := (l.length : Int)) (cq := none) (lo := ⟨g, 0, default, [], 0⟩) (og := o) (m := c) hρ (by omega) (fun _ => ⟨by omega, by simp⟩) (fun q hq => by cases hq) (by simpa using h2)
      simpa using this
/-- What an argument of bytes is read as. -/
theorem slC_of {H : Type} {enc : TypeId × Value → H} {W : World} {base : Nat} {spare : Nat → Bool} {held : Bool} {fuel : Nat} {v : Value} {x : DataW H × List MemPlace} {t : TypeId} (ht : Tryz.prog.underlying t = some (.slice 5)) (hval : Value.okWide Tryz.prog W .any base t v) (h : DataW.trod enc Tryz.prog W 0 spare held fuel t v.cells.toList = some x) : ∃ l, SlC W.heap v l ∧ ∀ z ∈ l, 0 ≤ z ∧ z < 256 := by
  obtain ⟨A, n, c, rfl⟩ : ∃ A n c, v = .slice A n c := by
    have hval := hval
    unfold Value.okWide at hval
    rw [ht] at hval
    unfold Cell.okWide Cell.ok at hval
    rw [ht] at hval
    cases v <;> first | exact ⟨_, _, _, rfl⟩ | exact hval.elim
  rcases open_ints ht und5 cel5 h with ⟨hc, _⟩ | ⟨a, len, cap, zs, hc, hb, hl, hm, hz, _, hcell, hw⟩
  · refine ⟨[], ?_, fun z hz => by cases hz⟩
    have hc : [Value.slice A n c] = [.slice none 0 0] := hc
    cases hc
    exact .nil
  · have hc : [Value.slice A n c] = [.slice (some a) len cap] := hc
    cases hc
    have hsp : a.spot = none := by
      unfold Value.okWide at hval
      rw [ht] at hval
      unfold Cell.okWide Cell.ok at hval
      rw [ht] at hval
      exact hval.2.2.2.1
    obtain ⟨g, o, sp⟩ := a
    obtain rfl : sp = none := hsp
    have hlz : n ≤ zs.length := by rw [hz]; split <;> omega
    refine ⟨zs.take n, ?_, fun z hz => ?_⟩
    · cases hlen : n with
      | zero => rw [List.take_zero]; exact .none
      | succ k =>
        have htl : (zs.take (k + 1)).length = k + 1 := by rw [List.length_take]; omega
        have hcl : ∀ i, i < zs.length → cel W.heap g (o + i) = some (.int .u8 (zs.getD i 0)) := fun i hi => by
          have := hcell i hi
          rw [addr_add, cell_cel rfl] at this
          exact this
        have := SlC.some (h := W.heap) (g := g) (o := o) (c := c) (l := zs.take (k + 1)) (by omega) (by omega) (cel_lt (hcl 0 (by omega))) (fun j z hj => by
          rw [List.getElem?_take] at hj
          split at hj
          · have hj2 := (List.getElem?_eq_some_iff.1 hj).1
            have := hcl j hj2
            rw [List.getD_eq_getElem?_getD, hj] at this
            exact this
          · cases hj)
        rw [htl] at this
        exact this
    · have := hw z (List.mem_of_mem_take hz)
      simp [Lit.wf, IntKind.min, IntKind.max, IntKind.signed, IntKind.bits] at this
      omega
end Go.Proofs.YtemmcnbfajlljaaGreatDoor
