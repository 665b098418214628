/- FrameReads, over the row's condition. -/
import Derived.Test.YtemmcnbfajlljaaGreatDoorLw
import Derived.Test.YtemmcnbfajlljaaGreatDoorRdP
import Derived.Carry
namespace Go.Proofs.YtemmcnbfajlljaaGreatDoor
open Go Go.TP Go.TP.Ry Go.ChangeShapes Go.WideShapes Go.RowKit Go.Joins
theorem law_retF {hk : Nat → Option (FD R)} (hH : HookOk Tryz.prog hk) {fuel : Fu} (hW : WOk Tryz.prog fuel) {f : Nat} {vs : List AV} {us : List Value} {los : List (Nat × Nat)} {args : List (Nat × Nat × List AV)} {h : Heap} (hr : Tr (call Tryz.prog hk fuel 200 [] [] (.fn f) vs ⟨sl 10, initA (glA args)⟩ isTrue) tt) (hh : HR Tryz.prog (rho1 Tryz.prog los) ⟨sl 10, initA (glA args)⟩ h) (hv : VRs (rho1 Tryz.prog los) vs us) : Ret Tryz.prog f us h (Good h) := by
  obtain ⟨_, h2⟩ := retW_of mixed hH hW hr hh hv
  refine h2.mono ?_
  rintro u h' ⟨ρ', w, H', r, k1, k2, k3, k4⟩
  unfold isTrue at k1
  split at k1
  · cases k4
    exact ⟨rfl, k3.size, same_args k3⟩
  · cases k1
/-- A law of a slice of bytes, its loops told. -/
theorem law1F {hk : Nat → Option (FD R)} (hH : HookOk Tryz.prog hk) {fuel : Fu} (hW : WOk Tryz.prog fuel) {f : Nat} {l : List Int}
    (hn : l = [] → Tr (call Tryz.prog hk fuel 200 [] [] (.fn f) [.X .nils] ⟨sl 10, initA (glA [])⟩ isTrue) tt) (hz : l = [] → Tr (call Tryz.prog hk fuel 200 [] [] (.fn f) [.X .slz] ⟨sl 10, initA (glA [])⟩ isTrue) tt)
    (hs : 0 < l.length → ∀ off : Nat, Tr (call Tryz.prog hk fuel 200 [] [] (.fn f) [.X (.ss (sl 5) off l.length none)] ⟨sl 10, initA (glA [(5, off, seqA .u8 l)])⟩ isTrue) tt) {h : Heap} (hg : GlOk h) {u : Value} (hu : SlC h u l) : Ret Tryz.prog f [u] h (Good h) := by
  cases hu with
  | nil => exact law_retF hH hW (hn rfl) (los := []) (hrA hg (fun p g hp => by simp at hp) (fun x hx => by cases hx)) (.cons .nils .nil)
  | none => exact law_retF hH hW (hz rfl) (los := []) (hrA hg (fun p g hp => by simp at hp) (fun x hx => by cases hx)) (.cons .slz .nil)
  | some h1 h2 h3 h4 =>
    rename_i g o c
    have hρ : rho1 Tryz.prog [(5, g)] (sl 5) = some ⟨g, 0, default, [], 0⟩ := by
      unfold rho1
      rw [sl_ok 5 slok5, nglob, if_neg (by decide)]
      rfl
    refine law_retF hH hW (hs h1 o) (los := [(5, g)]) (hrA hg (fun p g' hp => ?_) fun x hx => ?_) (.cons ?_ .nil)
    · simp only [List.lookup] at hp
      split at hp
      · rename_i he; have := eq_of_beq he; omega
      · cases hp
    · obtain rfl := List.mem_singleton.1 hx
      refine ⟨slok5, _, hρ, h3, _, seqA_vrs, fun j u hu => ?_⟩
      rw [List.getElem?_map] at hu
      cases hj : l[j]? with
      | none => rw [hj] at hu; cases hu
      | some z => rw [hj] at hu; cases hu; exact h4 j z hj
    · have := VR.ss (ρ := rho1 Tryz.prog [(5, g)]) (b := sl 5) (o := (o : Int)) (n := (l.length : Int)) (cq := none) (lo := ⟨g, 0, default, [], 0⟩) (og := o) (m := c) hρ (by omega) (fun _ => ⟨by omega, by simp⟩) (fun q hq => by cases hq) (by simpa using h2)
      simpa using this
theorem und4 : Tryz.prog.underlying 4 = some .bool := by kernel_rfl
theorem und22 : Tryz.prog.underlying 22 = some (.slice 5) := by kernel_rfl
theorem laidOut : laidOutB Tryz.prog = true := by kernel_rfl
theorem read22 : Tryz.prog.readableRec 22 = true := by kernel_rfl
theorem row22 : 22 < Tryz.prog.types.size := by rw [tsize]; decide
set_option maxRecDepth 100000 in
theorem reads_ret {l : List Int} {h : Heap} (hg : GlOk h) (hb : isB l) {u : Value} (hu : SlC h u l) : Ret Tryz.prog 5 [u] h (Good h) :=
  law1F hkW_ok (fu_ok (hint1 5 0 (cmpH l))) (fun e => by subst e; exact rdn_ok) (fun e => by subst e; exact rdz_ok) (fun hz off => rd_ok l off hb hz) hg hu
set_option maxRecDepth 100000 in
theorem reads_lifted (os : Os) (started : os.Started) (H : Type) (enc : TypeId × Value → H) :
    ReturnsInHanded {} Tryz.checked os 5 .any (fun w args => (Rows.frameReadsSpec.pre enc Tryz.prog Tryz.f5 [] false w args ∧ laidMetH Tryz.prog Rows.frameReadsRow.laid w) ∧ sizedMet enc Tryz.prog Tryz.f5 (OpenSpec.ofChange Rows.frameReadsSpec) false w args)
      (Rows.frameReadsSpec.post enc Tryz.prog Tryz.f5 false true false false) := by
  refine returnsInHanded_of_change_and (C := Tryz.checked) (X := fun w _ => laidMetH Tryz.prog Rows.frameReadsRow.laid w) (fun _ _ _ hh h => h.of_heap hh) own started (by kernel_rfl) Tryz.func5
    (ChangeSpec.witness_at (enc := enc) (C := Tryz.checked) (os := os) (X := fun w _ => laidMetH Tryz.prog Rows.frameReadsRow.laid w) false (laidWorld os) #[.slice none 0 0] 8 rfl (by kernel_rfl) (by kernel_rfl) (by kernel_rfl) (by kernel_rfl) (by kernel_rfl) (laidWorld_met os _)) ?_
  intro W base args ds gs before hval0 hW _ _ hL _
  have hval : ∀ (j : Nat) t v, Tryz.f5.params[j]? = some t → args[j]? = some v → Value.okWide Tryz.prog W .any base t v := hval0
  have hW' := hW
  obtain ⟨p, q, hA0, hV0, rfl, hfz, hnd⟩ := hW
  have hA : DataW.TrodAll enc Tryz.prog W 0 (fun _ => true) true Tryz.f5.params.toList args.toList ds p := hA0
  have hV : DataW.TrodVars enc Tryz.prog W (fun _ => true) [] gs q := hV0
  rw [Tryz.params5] at hA hval
  obtain ⟨v0, d0, rfl, rfl, h0⟩ := trodAll_one hA
  have h0k := h0
  obtain ⟨fuel, hf0⟩ := h0
  obtain ⟨l, hu, hb⟩ := slC_of und22 (hval 0 22 v0 rfl rfl) hf0
  have hg := glob_of_laid hL
  obtain ⟨rfl, rfl⟩ : gs = [] ∧ q = [] := by
    cases gs with
    | nil => exact ⟨rfl, hV⟩
    | cons g r => exact absurd hV (by intro h; cases h)
  have hlt : ∀ x ∈ p, x.block < W.heap.size := fun x hx => by simpa using hW'.lt x (List.mem_append_left _ hx)
  refine (reads_ret hg hb hu W rfl).mono fun e W' he => ?_
  obtain ⟨v, rfl, o1, o2, o3, rfl, hs, hk⟩ := he
  have hbl : Below W.heap.size W W' := ⟨o1, o2, o3, hs, hk⟩
  refine ⟨_, rfl, _, _, _, [], p, [], hW', ?_, ?_, ?_, hbl.frame _, fun h => by cases h⟩
  · exact trodAll_mk1 (shut_bool und4 true)
  · exact trodAll_mk1 (Below.trod laidOut read22 row22 h0k hbl hlt)
  · rfl
end Go.Proofs.YtemmcnbfajlljaaGreatDoor
