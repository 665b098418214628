/- The engine: what the package-level variables hold. -/
import Derived.Test.YtnmdbemccdhdmaaGreatDoorCol
namespace Go.TP
open Go
structure Gb (c : Cm) (h : Heap) (b : Nat) (cs : List Value) : Prop where
  col : c b = ro
  get : ∀ j u, cs[j]? = some u → cel h b j = some u
theorem Gb.step {n : Nat} {S : Col → Prop} {c c' : Cm} {h h' : Heap} {b : Nat} {u : Value} {cs : List Value} (g : Gb c h b (u :: cs)) (x : Mod n S c h c' h') (hS : ¬ S ro) : Gb c' h' b (u :: cs) :=
  ⟨(x.col b (cel_lt (g.get 0 u rfl))).trans g.col, fun j v hv => x.cel (g.get j v hv) (g.col ▸ hS)⟩
def behindsL : List Value := [.int .i64 0, .int .i64 3, .int .i64 6, .int .i64 9, .int .i64 12, .int .i64 18, .int .i64 25, .int .i64 56, .int .i64 64]
def bruijnL : List Value := [.int .u8 0, .int .u8 1, .int .u8 56, .int .u8 2, .int .u8 57, .int .u8 49, .int .u8 28, .int .u8 3, .int .u8 61, .int .u8 58, .int .u8 42, .int .u8 50, .int .u8 38, .int .u8 29, .int .u8 17, .int .u8 4, .int .u8 62, .int .u8 47, .int .u8 59, .int .u8 36, .int .u8 45, .int .u8 43, .int .u8 51, .int .u8 22, .int .u8 53, .int .u8 39, .int .u8 33, .int .u8 30, .int .u8 24, .int .u8 18, .int .u8 12, .int .u8 5, .int .u8 63, .int .u8 55, .int .u8 48, .int .u8 27, .int .u8 60, .int .u8 41, .int .u8 37, .int .u8 16, .int .u8 46, .int .u8 35, .int .u8 44, .int .u8 21, .int .u8 52, .int .u8 32, .int .u8 23, .int .u8 11, .int .u8 54, .int .u8 26, .int .u8 40, .int .u8 15, .int .u8 34, .int .u8 20, .int .u8 31, .int .u8 10, .int .u8 25, .int .u8 14, .int .u8 19, .int .u8 9, .int .u8 13, .int .u8 8, .int .u8 7, .int .u8 6]
structure Gl (c : Cm) (h : Heap) : Prop where
  behinds : Gb c h 2 behindsL
  bruijn : Gb c h 3 bruijnL
theorem Gl.step {n : Nat} {S : Col → Prop} {c c' : Cm} {h h' : Heap} (g : Gl c h) (x : Mod n S c h c' h') (hS : ¬ S ro) : Gl c' h' := ⟨g.behinds.step x hS, g.bruijn.step x hS⟩
end Go.TP
