/- FrameLengths, over the row's condition. -/
import Derived.Test.YtemmcnbfajlljaaGreatDoorLw
import Derived.Test.YtemmcnbfajlljaaGreatDoorLensP
import Derived.Carry
namespace Go.Proofs.YtemmcnbfajlljaaGreatDoor
open Go Go.TP Go.TP.Ry Go.ChangeShapes Go.WideShapes Go.RowKit Go.Joins
theorem und4 : Tryz.prog.underlying 4 = some .bool := by kernel_rfl
theorem und22 : Tryz.prog.underlying 22 = some (.slice 5) := by kernel_rfl
theorem laidOut : laidOutB Tryz.prog = true := by kernel_rfl
theorem read22 : Tryz.prog.readableRec 22 = true := by kernel_rfl
theorem row22 : 22 < Tryz.prog.types.size := by rw [tsize]; decide
set_option maxRecDepth 100000 in
theorem lens_ret (n : Int) {l : List Int} {h : Heap} (hg : GlOk h) (hb : isB l) {u : Value} (hu : SlC h u l) : Ret Tryz.prog 3 [.int .i64 n, u] h (Good h) :=
  law1 hk3_ok (pre := [.X (.si .i64 n)]) (upre := [.int .i64 n]) (fun _ => .cons .si .nil) (fun _ => lensn_ok n) (fun _ => lensz_ok n) (fun hz off => lens_ok n l off hb hz) hg hu
set_option maxRecDepth 100000 in
theorem lens_lifted (os : Os) (started : os.Started) (H : Type) (enc : TypeId × Value → H) :
    ReturnsInHanded {} Tryz.checked os 3 .any (fun w args => (Rows.frameLengthsSpec.pre enc Tryz.prog Tryz.f3 [] false w args ∧ laidMetH Tryz.prog Rows.frameLengthsRow.laid w) ∧ sizedMet enc Tryz.prog Tryz.f3 (OpenSpec.ofChange Rows.frameLengthsSpec) false w args)
      (Rows.frameLengthsSpec.post enc Tryz.prog Tryz.f3 false true false false) := by
  refine returnsInHanded_of_change_and (C := Tryz.checked) (X := fun w _ => laidMetH Tryz.prog Rows.frameLengthsRow.laid w) (fun _ _ _ hh h => h.of_heap hh) own started (by kernel_rfl) Tryz.func3
    (ChangeSpec.witness_at (enc := enc) (C := Tryz.checked) (os := os) (X := fun w _ => laidMetH Tryz.prog Rows.frameLengthsRow.laid w) false (laidWorld os) #[.int .i64 0, .slice none 0 0] 8 rfl (by kernel_rfl) (by kernel_rfl) (by kernel_rfl) (by kernel_rfl) (by kernel_rfl) (laidWorld_met os _)) ?_
  intro W base args ds gs before hval0 hW _ _ hL _
  have hval : ∀ (j : Nat) t v, Tryz.f3.params[j]? = some t → args[j]? = some v → Value.okWide Tryz.prog W .any base t v := hval0
  have hW' := hW
  obtain ⟨p, q, hA0, hV0, rfl, hfz, hnd⟩ := hW
  have hA : DataW.TrodAll enc Tryz.prog W 0 (fun _ => true) true Tryz.f3.params.toList args.toList ds p := hA0
  have hV : DataW.TrodVars enc Tryz.prog W (fun _ => true) [] gs q := hV0
  rw [Tryz.params3] at hA hval
  obtain ⟨v0, v1, d0, d1, p0, p1, rfl, rfl, rfl, h0, h1⟩ := trodAll_two hA
  obtain ⟨n, rfl, rfl, rfl, hwn⟩ := open_int und3 (hval 0 3 v0 rfl rfl) h0
  have h1k := h1
  obtain ⟨fuel, hf1⟩ := h1
  obtain ⟨l, hu, hb⟩ := slC_of und22 (hval 1 22 v1 rfl rfl) hf1
  have hg := glob_of_laid hL
  obtain ⟨rfl, rfl⟩ : gs = [] ∧ q = [] := by
    cases gs with
    | nil => exact ⟨rfl, hV⟩
    | cons g r => exact absurd hV (by intro h; cases h)
  have hlt : ∀ x ∈ p1, x.block < W.heap.size := fun x hx => by simpa using hW'.lt x (by simpa using hx)
  refine (lens_ret n hg hb hu W rfl).mono fun e W' he => ?_
  obtain ⟨v, rfl, o1, o2, o3, rfl, hs, hk⟩ := he
  have hbl : Below W.heap.size W W' := ⟨o1, o2, o3, hs, hk⟩
  refine ⟨_, rfl, _, _, _, [], [] ++ p1, [], hW', ?_, ?_, ?_, hbl.frame _, fun h => by cases h⟩
  · exact trodAll_mk1 (shut_bool und4 true)
  · exact trodAll_mk2 (shut_int und3 hwn) (Below.trod laidOut read22 row22 h1k hbl hlt)
  · rfl
end Go.Proofs.YtemmcnbfajlljaaGreatDoor
