/- SeriesMakes, over the row's condition. -/
import Derived.Test.YtnmdbemccdhdmaaGreatDoorRw
namespace Go.Proofs.YtnmdbemccdhdmaaGreatDoor
open Go Go.TP Go.TP.Ry Go.ChangeShapes Go.WideShapes Go.RowKit Go.Joins
theorem und4 : Tryz.prog.underlying 4 = some .bool := by kernel_rfl
theorem und23 : ∃ f0 f1, Tryz.prog.underlying 23 = some (.struct #[f0, f1]) ∧ f0.type = 3 ∧ f1.type = 3 ∧ Go.Deep.oneCellFields Tryz.prog #[f0, f1] = true := ⟨_, _, Tryz.underlying23, rfl, rfl, by kernel_rfl⟩
theorem cel23 : Tryz.prog.cellsOf 23 = 2 := by kernel_rfl
set_option maxRecDepth 100000 in
theorem makes_lifted (os : Os) (started : os.Started) (H : Type) (enc : TypeId × Value → H) :
    ReturnsInHanded {} Tryz.checked os 4 .any (fun w args => (Rows.seriesMakesSpec.pre enc Tryz.prog Tryz.f4 [] false w args ∧ laidMetH Tryz.prog Rows.seriesMakesRow.laid w) ∧ sizedMet enc Tryz.prog Tryz.f4 (OpenSpec.ofChange Rows.seriesMakesSpec) false w args)
      (Rows.seriesMakesSpec.post enc Tryz.prog Tryz.f4 false true false false) := by
  refine returnsInHanded_of_change_and (C := Tryz.checked) (X := fun w _ => laidMetH Tryz.prog Rows.seriesMakesRow.laid w) (fun _ _ _ hh h => h.of_heap hh) own started (by kernel_rfl) Tryz.func4
    (ChangeSpec.witness_at (enc := enc) (C := Tryz.checked) (os := os) (X := fun w _ => laidMetH Tryz.prog Rows.seriesMakesRow.laid w) false (laidWorld os) #[.int .i64 0, .agg #[.int .i64 0, .int .i64 0]] 8 rfl (by kernel_rfl) (by kernel_rfl) (by kernel_rfl) (by kernel_rfl) (by kernel_rfl) (laidWorld_met os _)) ?_
  intro W base args ds gs before hval0 hW _ _ hL _
  have hval : ∀ (j : Nat) t v, Tryz.f4.params[j]? = some t → args[j]? = some v → Value.okWide Tryz.prog W .any base t v := hval0
  have hW' := hW
  obtain ⟨p, q, hA0, hV0, rfl, hfz, hnd⟩ := hW
  have hA : DataW.TrodAll enc Tryz.prog W 0 (fun _ => true) true Tryz.f4.params.toList args.toList ds p := hA0
  have hV : DataW.TrodVars enc Tryz.prog W (fun _ => true) [] gs q := hV0
  rw [Tryz.params4] at hA hval
  obtain ⟨v0, v1, d0, d1, p0, p1, rfl, rfl, rfl, h0, h1⟩ := trodAll_two hA
  obtain ⟨f0, f1, u1, u2, u3, u4⟩ := und23
  obtain ⟨n, rfl, rfl, rfl, hwn⟩ := open_int und3 (hval 0 3 v0 rfl rfl) h0
  obtain ⟨c0, c1, y0, y1, m, rfl, rfl, rfl, t0, t1⟩ := open_agg2 u1 u4 cel23 (hval 1 23 v1 rfl rfl) h1
  rw [u2] at t0
  rw [u3] at t1
  obtain ⟨a, e1, e2, hwa⟩ := DataW.trod_int und3 t0
  obtain ⟨b, e3, e4, hwb⟩ := DataW.trod_int und3 t1
  simp only [List.cons.injEq, and_true] at e1 e3
  subst e1 e2 e3 e4
  have hg := glob_of_laid hL
  obtain ⟨rfl, rfl⟩ : gs = [] ∧ q = [] := by
    cases gs with
    | nil => exact ⟨rfl, hV⟩
    | cons g r => exact absurd hV (by intro h; cases h)
  refine (makes_ok n a b hg W rfl).mono fun e W' he => ?_
  obtain ⟨v, rfl, o1, o2, o3, rfl, hs, hk⟩ := he
  have hb : Below W.heap.size W W' := ⟨o1, o2, o3, hs, hk⟩
  refine ⟨_, rfl, _, _, _, [], [], [], hW', ?_, ?_, ?_, hb.frame _, fun h => by cases h⟩
  · exact trodAll_mk1 (shut_bool und4 true)
  · refine trodAll_mk2 (shut_int und3 hwn) ?_
    exact shut_agg2 (y0 := (.lit (.int .i64 a), [])) (y1 := (.lit (.int .i64 b), [])) u1 u4 cel23 ⟨1, by rw [u2]; simp [DataW.trod, und3, hwa]⟩ ⟨1, by rw [u3]; simp [DataW.trod, und3, hwb]⟩
  · rfl
end Go.Proofs.YtnmdbemccdhdmaaGreatDoor
