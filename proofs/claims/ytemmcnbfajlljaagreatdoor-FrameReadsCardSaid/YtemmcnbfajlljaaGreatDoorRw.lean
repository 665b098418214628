/- What a row's condition gives: the package's variables; a world that meets it. -/
import Derived.Test.YtemmcnbfajlljaaGreatDoorRows
import Derived.Test.YtemmcnbfajlljaaGreatDoorGk
import Derived.ChangeSame
import Derived.ChangeVars
import Derived.JoinedOf
import Derived.RowKit
import Derived.RowKitTokens
import Derived.LaidLaws
import Derived.LaidHandle
import Derived.Stop.Joined
import Derived.Lib.SmallJoins
import Derived.OpenShut
namespace Go.Proofs.YtemmcnbfajlljaaGreatDoor
open Go Go.TP Go.TP.Ry Go.ChangeShapes Go.WideShapes Go.RowKit
/-- An array of numbers, read. -/
theorem ints_of_trod {H : Type} {enc : TypeId × Value → H} {P : Program} {w : World} {base : Nat} {spare : Nat → Bool} {held : Bool} {fuel : Nat} {t e n : Nat} {k : IntKind} {cs : List Value} {ns : List Int} {p : List MemPlace}
    (ht : P.underlying t = some (.array n e)) (he : P.underlying e = some (.int k)) (hc : P.cellsOf e = 1) (h : DataW.trod enc P w base spare held fuel t cs = some (.agg (ns.map fun n => DataW.lit (Lit.int k n)), p)) : ∀ (j : Nat) (z : Int), ns[j]? = some z → cs[j]? = some (Value.int k z) := by
  intro j z hj
  obtain ⟨xs, m, _, hx, _, hl, hf⟩ := DataW.trod_array ht h
  simp only [Prod.mk.injEq, DataW.agg.injEq] at hx
  have hjx : j < n := by
    have h1 := congrArg List.length hx.1
    simp at h1
    have := (List.getElem?_eq_some_iff.1 hj).1
    omega
  have h2 := hf j hjx
  have h3 : (xs[j]?).map (·.1) = some (DataW.lit (Lit.int k z)) := by
    rw [← List.getElem?_map, ← hx.1, List.getElem?_map, hj]; rfl
  cases hxj : xs[j]? with
  | none => rw [hxj] at h3; cases h3
  | some x =>
    rw [hxj] at h2 h3
    obtain ⟨q, h4, h5, _⟩ := DataW.trod_int he h2
    subst h5
    simp only [Option.map_some, Option.some.injEq, DataW.lit.injEq, Lit.int.injEq, true_and] at h3
    subst h3
    rw [hc, Nat.mul_one] at h4
    have := congrArg (fun l : List Value => l[0]?) h4
    simpa using this
theorem own : ownKnob Tryz.prog.godebug = none := by kernel_rfl
theorem et : Tryz.prog.globalNamed "errors.errorType" = some 0 := by kernel_rfl
theorem bt : Tryz.prog.globalNamed "tidepole/varbit.behinds" = some 3 := by kernel_rfl
theorem dt : Tryz.prog.globalNamed "math/bits.deBruijn64tab" = some 2 := by kernel_rfl
theorem rt : (Tryz.prog.cutTypes.find? (·.1 == "internal/reflectlite.rtype")).map (·.2) = some 148 := by kernel_rfl
theorem tsize : Tryz.prog.types.size = 519 := by kernel_rfl
theorem oneRow : ((List.range 519).filter fun t => Tryz.prog.rowNamed t [101, 114, 114, 111, 114]) = [36] := by kernel_rfl
theorem und466 : Tryz.prog.underlying 466 = some (.array 9 3) := by kernel_rfl
theorem und450 : Tryz.prog.underlying 450 = some (.array 64 5) := by kernel_rfl
theorem und3 : Tryz.prog.underlying 3 = some (.int .i64) := by kernel_rfl
theorem und5 : Tryz.prog.underlying 5 = some (.int .u8) := by kernel_rfl
theorem cel3 : Tryz.prog.cellsOf 3 = 1 := by kernel_rfl
theorem cel5 : Tryz.prog.cellsOf 5 = 1 := by kernel_rfl
theorem gt2 : (Tryz.prog.globals[3]?).map (·.type) = some 466 := by kernel_rfl
theorem gt3 : (Tryz.prog.globals[2]?).map (·.type) = some 450 := by kernel_rfl
def others : List (String × DataW Unit) := [("math/bits.deBruijn64tab", Rows.laid_math_bits_deBruijn64tab), ("tidepole/fail.ErrClosed", Rows.laid_tidepole_fail_ErrClosed), ("tidepole/varbit.behinds", Rows.laid_tidepole_varbit_behinds)]
/-- WHAT THE CONDITION GIVES: what the package's variables hold. -/
theorem glob_of_laid {W : World} (h : laidMetH Tryz.prog Rows.frameLengthsRow.laid W) : GlOk W.heap := by
  have h' : laidMet Tryz.prog others W ∧ handlesMet Tryz.prog [("errors.errorType", Rows.laid_errors_errorType)] W := h
  obtain ⟨⟨ps, hl, _, _⟩, hh⟩ := h'
  obtain ⟨g1, t1, cs1, f1, p1, q1, a1, a2, a3, a4, hl, _⟩ := hl
  obtain ⟨g2, t2, cs2, f2, p2, q2, b1, b2, b3, b4, hl, _⟩ := hl
  obtain ⟨g3, t3, cs3, f3, p3, q3, c1, c2, c3, c4, hl, _⟩ := hl
  obtain ⟨name, u, ty, e1, e2, e3, e4, e5⟩ := hh _ (List.mem_singleton.2 rfl)
  refine ⟨?_, fun j n hj => ?_, fun j n hj => ?_⟩
  · have en : name = [101, 114, 114, 111, 114] := (Option.some.inj e1).symm
    subst en
    obtain rfl := Option.some.inj (rt.symm.trans e2)
    have hm : ty ∈ (List.range 519).filter fun t => Tryz.prog.rowNamed t [101, 114, 114, 111, 114] := List.mem_filter.2 ⟨List.mem_range.2 (by rw [← tsize]; exact e3), e4⟩
    rw [oneRow] at hm
    obtain rfl := List.mem_singleton.1 hm
    have hth : typeHandle Tryz.prog 36 = .pointer (some ⟨4, 36, none⟩) := by kernel_rfl
    rw [hth] at e5
    have := World.var?_cell et e5 0
    rw [cell_cel rfl] at this
    exact this
  · obtain rfl := Option.some.inj (bt.symm.trans c1)
    have ht3 : t3 = 466 := Option.some.inj (c2.symm.trans gt2)
    subst ht3
    have := World.var?_cell bt c3 j
    rw [cell_cel rfl] at this
    rw [this]
    have hi := ints_of_trod (ns := behL) und466 und3 cel3 c4 j n hj
    simpa using hi
  · obtain rfl := Option.some.inj (dt.symm.trans a1)
    have ht1 : t1 = 450 := Option.some.inj (a2.symm.trans gt3)
    subst ht1
    have := World.var?_cell dt a3 j
    rw [cell_cel rfl] at this
    rw [this]
    have hi := ints_of_trod (ns := bruL) und450 und5 cel5 a4 j n hj
    simpa using hi
noncomputable def laidWorld (os : Os) : World :=
  let w0 := World.holding Tryz.prog os ⟨#[], #[], []⟩
  { w0 with heap := ((((w0.heap.modify 0 fun
      | .cells _ t frozen => .cells #[.iface 148 (.agg #[.pointer (some ⟨4, 36, none⟩)])] t frozen
      | o => o).modify 1 fun
      | .cells _ t frozen => .cells #[.iface 484 (.pointer (some ⟨w0.heap.size, 0, none⟩))] t frozen
      | o => o).modify 3 fun
      | .cells _ t frozen => .cells (behL.map fun n => .int .i64 n).toArray t frozen
      | o => o).modify 2 fun
      | .cells _ t frozen => .cells (bruL.map fun n => .int .u8 n).toArray t frozen
      | o => o).push (.cells #[.string ⟨#[99, 108, 111, 115, 101, 100]⟩] 506) }
theorem laidWorld_met (os : Os) (args : Array Value) : laidMetH Tryz.prog Rows.frameLengthsRow.laid ((laidWorld os).forCall (fun _ _ => 0) ⟨#[], args, []⟩).memory :=
  laidMetH_of_parts (laidMet_of_run' 8 (by kernel_rfl) (by kernel_rfl)) (by kernel_rfl)
end Go.Proofs.YtemmcnbfajlljaaGreatDoor
