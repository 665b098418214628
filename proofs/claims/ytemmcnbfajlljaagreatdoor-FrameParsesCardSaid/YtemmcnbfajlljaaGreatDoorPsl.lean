/- FrameParses, over the row's condition. -/
import Derived.Test.YtemmcnbfajlljaaGreatDoorLw
import Derived.Test.YtemmcnbfajlljaaGreatDoorParsesP
import Derived.Carry
namespace Go.Proofs.YtemmcnbfajlljaaGreatDoor
open Go Go.TP Go.TP.Ry Go.ChangeShapes Go.WideShapes Go.RowKit Go.Joins
theorem und4 : Tryz.prog.underlying 4 = some .bool := by kernel_rfl
theorem und22 : Tryz.prog.underlying 22 = some (.slice 5) := by kernel_rfl
theorem laidOut : laidOutB Tryz.prog = true := by kernel_rfl
theorem read22 : Tryz.prog.readableRec 22 = true := by kernel_rfl
theorem row22 : 22 < Tryz.prog.types.size := by rw [tsize]; decide
set_option maxRecDepth 100000 in
theorem parses_ret {l : List Int} {h : Heap} (hg : GlOk h) (hb : isB l) {u : Value} (hu : SlC h u l) : Ret Tryz.prog 4 [u] h (Good h) :=
  law1 hk3_ok (pre := []) (upre := []) (fun _ => .nil) (fun _ => parsen_ok) (fun _ => parsez_ok) (fun hz off => parses_ok l off hb hz) hg hu
set_option maxRecDepth 100000 in
theorem parses_lifted (os : Os) (started : os.Started) (H : Type) (enc : TypeId × Value → H) :
    ReturnsInHanded {} Tryz.checked os 4 .any (fun w args => (Rows.frameParsesSpec.pre enc Tryz.prog Tryz.f4 [] false w args ∧ laidMetH Tryz.prog Rows.frameParsesRow.laid w) ∧ sizedMet enc Tryz.prog Tryz.f4 (OpenSpec.ofChange Rows.frameParsesSpec) false w args)
      (Rows.frameParsesSpec.post enc Tryz.prog Tryz.f4 false true false false) := by
  refine returnsInHanded_of_change_and (C := Tryz.checked) (X := fun w _ => laidMetH Tryz.prog Rows.frameParsesRow.laid w) (fun _ _ _ hh h => h.of_heap hh) own started (by kernel_rfl) Tryz.func4
    (ChangeSpec.witness_at (enc := enc) (C := Tryz.checked) (os := os) (X := fun w _ => laidMetH Tryz.prog Rows.frameParsesRow.laid w) false (laidWorld os) #[.slice none 0 0] 8 rfl (by kernel_rfl) (by kernel_rfl) (by kernel_rfl) (by kernel_rfl) (by kernel_rfl) (laidWorld_met os _)) ?_
  intro W base args ds gs before hval0 hW _ _ hL _
  have hval : ∀ (j : Nat) t v, Tryz.f4.params[j]? = some t → args[j]? = some v → Value.okWide Tryz.prog W .any base t v := hval0
  have hW' := hW
  obtain ⟨p, q, hA0, hV0, rfl, hfz, hnd⟩ := hW
  have hA : DataW.TrodAll enc Tryz.prog W 0 (fun _ => true) true Tryz.f4.params.toList args.toList ds p := hA0
  have hV : DataW.TrodVars enc Tryz.prog W (fun _ => true) [] gs q := hV0
  rw [Tryz.params4] at hA hval
  obtain ⟨v0, d0, rfl, rfl, h0⟩ := trodAll_one hA
  have h0k := h0
  obtain ⟨fuel, hf0⟩ := h0
  obtain ⟨l, hu, hb⟩ := slC_of und22 (hval 0 22 v0 rfl rfl) hf0
  have hg := glob_of_laid hL
  obtain ⟨rfl, rfl⟩ : gs = [] ∧ q = [] := by
    cases gs with
    | nil => exact ⟨rfl, hV⟩
    | cons g r => exact absurd hV (by intro h; cases h)
  have hlt : ∀ x ∈ p, x.block < W.heap.size := fun x hx => by simpa using hW'.lt x (List.mem_append_left _ hx)
  refine (parses_ret hg hb hu W rfl).mono fun e W' he => ?_
  obtain ⟨v, rfl, o1, o2, o3, rfl, hs, hk⟩ := he
  have hbl : Below W.heap.size W W' := ⟨o1, o2, o3, hs, hk⟩
  refine ⟨_, rfl, _, _, _, [], p, [], hW', ?_, ?_, ?_, hbl.frame _, fun h => by cases h⟩
  · exact trodAll_mk1 (shut_bool und4 true)
  · exact trodAll_mk1 (Below.trod laidOut read22 row22 h0k hbl hlt)
  · rfl
end Go.Proofs.YtemmcnbfajlljaaGreatDoor
