/- GetLen: what is left of its run is so. -/
import Derived.Test.YtemmcnbfajlljaaGreatDoorLenR
namespace Go.Proofs.YtemmcnbfajlljaaGreatDoor
open Go Go.TP Go.TP.Ry
set_option maxRecDepth 100000
def isB (l : List Int) : Prop := ∀ x ∈ l, 0 ≤ x ∧ x < 256
theorem isB.get {l : List Int} (h : isB l) (i : Nat) : 0 ≤ l.getD i 0 ∧ l.getD i 0 < 256 := by
  rw [List.getD_eq_getElem?_getD]
  cases hi : l[i]? with
  | none => simp
  | some x => exact h x (List.mem_of_getElem? hi)
set_option maxHeartbeats 4000000 in
theorem get_ok (l : List Int) (off : Nat) (hb : isB l) (hl : (l.length : Int) ≤ 1000000) : Tr (call Tryz.prog nohk 1000 200 [] [] (.fn 9) [.X (.ss (sl 5) off l.length none)] ⟨sl 10, initA [(5, off, seqA .u8 l)]⟩ (fun v _ => some (.leaf (Pur v ∧ Fit v (.X (.tup [.X (.si .i64 (gnL l)), .X (.si .i64 (guL l)), .X (.si .i64 (geL l))])))))) tt := by
  obtain ⟨h0, h0'⟩ := hb.get 0
  obtain ⟨h1, h1'⟩ := hb.get 1
  obtain ⟨h2, h2'⟩ := hb.get 2
  obtain ⟨h3, h3'⟩ := hb.get 3
  refine obl_tr (s := get_sh) ?_
  rw [get_run]
  simp (disch := omega) only [isAt_seqA, intAt_seqA, seqA_length, relO_ro, wrap_u8d, wrap_i64, wrap_u64, fdiv_nn, Int.ofNat_eq_natCast, Int.cast_ofNat_Int, Nat.reducePow, Int.mul_one, Int.zero_mul, Int.one_mul, Int.add_zero, Int.zero_add, acl, acl2, Int.sub_self, Int.toNat_zero, Int.toNat_one, Int.reduceAdd, Int.reduceToNat, and_63, or_256, Int.reduceMul, Nat.succ_eq_add_one, Nat.reduceAdd]
  have e4 : l.getD 0 0 / 64 = 0 ∨ l.getD 0 0 / 64 = 1 ∨ l.getD 0 0 / 64 = 2 ∨ l.getD 0 0 / 64 = 3 := by omega
  have hv0 : vB l 0 = l.getD 0 0 % 64 := rfl
  have hv1 : vB l 1 = l.getD 0 0 % 64 * 256 + l.getD 1 0 := rfl
  have hv2 : vB l 2 = (l.getD 0 0 % 64 * 256 + l.getD 1 0) * 256 + l.getD 2 0 := rfl
  have hv3 : vB l 3 = ((l.getD 0 0 % 64 * 256 + l.getD 1 0) * 256 + l.getD 2 0) * 256 + l.getD 3 0 := rfl
  repeat' (first | apply And.intro | refine Fit.tup (.cons ?_ (.cons ?_ (.cons ?_ .nil))) | refine Fit.num ?_ | refine Fit.si ?_ | exact Pur.tup (.cons (Pur.x rfl) (.cons (Pur.x rfl) (.cons (Pur.x rfl) .nil))) | intro _)
  all_goals try omega
  all_goals rcases e4 with e | e | e | e
  all_goals try (exfalso; omega)
  all_goals simp only [gnL, guL, geL, usL, szL, e, Int.reduceAdd, Int.reduceSub, Int.reduceToNat, Int.zero_add, Int.sub_self, Int.toNat_zero, hv0, hv1, hv2, hv3]
  all_goals repeat' split
  all_goals omega
end Go.Proofs.YtemmcnbfajlljaaGreatDoor
