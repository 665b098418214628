/- FrameLengths: what is left of its runs is so. -/
import Derived.Test.YtemmcnbfajlljaaGreatDoorLensR
import Derived.Test.YtemmcnbfajlljaaGreatDoorParsesP
namespace Go.Proofs.YtemmcnbfajlljaaGreatDoor
open Go Go.TP Go.TP.Ry
set_option maxRecDepth 100000
theorem relO_op (s T : Nat) (o : Int) : relO (.op s) T o = o := rfl
theorem isB_lenB {n : Int} (h0 : 0 ≤ n) (h1 : n < 1073741824) : isB (lenB n) := by
  intro x hx
  unfold lenB at hx
  repeat' split at hx
  all_goals simp at hx
  all_goals omega
theorem isB_app {l m : List Int} (hl : isB l) (hm : isB m) : isB (l ++ m) := fun x hx => (List.mem_append.1 hx).elim (hl x) (hm x)
theorem get_lenB {n : Int} (h0 : 0 ≤ n) (h1 : n < 1073741824) (l : List Int) : geL (lenB n ++ l) = 0 ∧ gnL (lenB n ++ l) = n ∧ guL (lenB n ++ l) = (lenB n).length := by
  have key : ∀ (M : List Int) (q : Nat), usL M = q + 1 → q + 1 ≤ M.length → vB M q = n → szL n = q + 1 → geL M = 0 ∧ gnL M = n ∧ guL M = q + 1 := by
    intro M q hq hle hv hs
    have he : geL M = 0 := by
      rw [ge_of (by omega) hq (by omega), if_neg]
      rw [hv, hs, hq]; simp
    refine ⟨he, ?_, ?_⟩
    · unfold gnL; rw [if_pos he, show (usL M - 1).toNat = q by omega, hv]
    · unfold guL; rw [if_pos he, hq]
  by_cases c1 : n < 64
  · have e : lenB n = [n] := by unfold lenB; rw [if_pos c1]
    rw [e]
    exact key (n :: l) 0 (by simp [usL]; omega) (by simp) (by simp [vB]; omega) (by unfold szL; rw [if_pos c1]; rfl)
  by_cases c2 : n < 16384
  · have e : lenB n = [64 + n / 256, n % 256] := by unfold lenB; rw [if_neg c1, if_pos c2]
    rw [e]
    exact key ((64 + n / 256) :: (n % 256) :: l) 1 (by simp [usL]; omega) (by simp) (by simp [vB]; omega) (by unfold szL; rw [if_neg c1, if_pos c2]; rfl)
  by_cases c3 : n < 4194304
  · have e : lenB n = [128 + n / 65536, n / 256 % 256, n % 256] := by unfold lenB; rw [if_neg c1, if_neg c2, if_pos c3]
    rw [e]
    exact key ((128 + n / 65536) :: (n / 256 % 256) :: (n % 256) :: l) 2 (by simp [usL]; omega) (by simp) (by simp [vB]; omega) (by unfold szL; rw [if_neg c1, if_neg c2, if_pos c3]; rfl)
  · have e : lenB n = [192 + n / 16777216, n / 65536 % 256, n / 256 % 256, n % 256] := by unfold lenB; rw [if_neg c1, if_neg c2, if_neg c3]
    rw [e]
    exact key ((192 + n / 16777216) :: (n / 65536 % 256) :: (n / 256 % 256) :: (n % 256) :: l) 3 (by simp [usL]; omega) (by simp) (by simp [vB]; omega) (by unfold szL; rw [if_neg c1, if_neg c2, if_neg c3]; rfl)
theorem hC1 (a : Int) (l : List Int) : ([AV'.X (XV.si IntKind.u8 a)] ++ seqA .u8 l : List AV) = seqA .u8 ([a] ++ l) := rfl
theorem hC2 (a b : Int) (l : List Int) : ([AV'.X (XV.si IntKind.u8 a), AV'.X (XV.si IntKind.u8 b)] ++ seqA .u8 l : List AV) = seqA .u8 ([a, b] ++ l) := rfl
theorem hC3 (a b c : Int) (l : List Int) : ([AV'.X (XV.si IntKind.u8 a), AV'.X (XV.si IntKind.u8 b), AV'.X (XV.si IntKind.u8 c)] ++ seqA .u8 l : List AV) = seqA .u8 ([a, b, c] ++ l) := rfl
theorem hC4 (a b c d : Int) (l : List Int) : ([AV'.X (XV.si IntKind.u8 a), AV'.X (XV.si IntKind.u8 b), AV'.X (XV.si IntKind.u8 c), AV'.X (XV.si IntKind.u8 d)] ++ seqA .u8 l : List AV) = seqA .u8 ([a, b, c, d] ++ l) := rfl
theorem szL_pos (n : Int) : 1 ≤ szL n ∧ szL n ≤ 4 := by unfold szL; repeat' split <;> omega
/-- A way of the law, by a length's bytes. -/
theorem br {n k : Int} {L Z l : List Int} (h0 : 0 ≤ n) (h1 : n < 1073741824) (hb : isB l) (hz : 0 < l.length) (hL : L = lenB n) (hZ : Z = lenB n) (hk : szL n = k) :
    (bytesZ L = bytesZ Z → (100 < (l.length : Int) → 100 < (l.length : Int)) ∧ (¬ 100 < (l.length : Int) → 0 ≤ (l.length : Int) ∧ ¬ (l.length : Int) ≤ 0 ∧ k + l.length ≤ 1073741824 ∧ (0 < k + (l.length : Int) ∧ k + l.length ≤ ((L ++ l).length : Int)) ∧
      (isB (List.take (k + l.length).toNat (L ++ l)) ∧ ((List.take (k + l.length).toNat (L ++ l)).length : Int) ≤ 1000000) ∧
      (gnL (List.take (k + l.length).toNat (L ++ l)) = n → (guL (List.take (k + l.length).toNat (L ++ l)) = k → (geL (List.take (k + l.length).toNat (L ++ l)) = 0 → True) ∧ (¬ geL (List.take (k + l.length).toNat (L ++ l)) = 0 → False)) ∧ (¬ guL (List.take (k + l.length).toNat (L ++ l)) = k → False)) ∧
      (¬ gnL (List.take (k + l.length).toNat (L ++ l)) = n → False))) ∧ (¬ bytesZ L = bytesZ Z → (100 < (l.length : Int) → True) ∧ (¬ 100 < (l.length : Int) → False)) := by
  subst hL hZ hk
  have hlen := lenB_length n
  have hp := szL_pos n
  have ht : List.take (szL n + l.length).toNat (lenB n ++ l) = lenB n ++ l := List.take_of_length_le (by rw [List.length_append]; omega)
  obtain ⟨g1, g2, g3⟩ := get_lenB h0 h1 l
  rw [ht, g1, g2, g3]
  refine ⟨fun _ => ⟨id, fun hn => ⟨by omega, by omega, by omega, ⟨by omega, by rw [List.length_append]; omega⟩, ⟨isB_app (isB_lenB h0 h1) hb, by rw [List.length_append]; omega⟩, fun _ => ⟨fun _ => ⟨fun _ => trivial, fun h => h rfl⟩, fun h => h hlen⟩, fun h => h rfl⟩⟩, fun h => absurd rfl h⟩
theorem bz1 {n : Int} (h0 : 0 ≤ n) (h1 : ¬ 64 ≤ n) : bytesL (intsZ [48, 48] ++ numL (IntKind.u64.wrap n) (Int.toNat 6)) = lenB n := by
  rw [wrap_u64 h0 (by omega)]
  show bytesL (48 :: 48 :: numL n 6) = _
  rw [bl1 h0 (by omega)]
  unfold lenB
  rw [if_pos (by omega)]
theorem bz2 {n : Int} (h0 : 64 ≤ n) (h1 : ¬ 16384 ≤ n) : bytesL (intsZ [48, 49] ++ numL (IntKind.u64.wrap n) (Int.toNat 14)) = lenB n := by
  rw [wrap_u64 (by omega) (by omega)]
  show bytesL (48 :: 49 :: numL n 14) = _
  rw [bl2 (by omega) (by omega)]
  unfold lenB
  rw [if_neg (by omega), if_pos (by omega)]
theorem bz3 {n : Int} (h0 : 16384 ≤ n) (h1 : ¬ 4194304 ≤ n) : bytesL (intsZ [49, 48] ++ numL (IntKind.u64.wrap n) (Int.toNat 22)) = lenB n := by
  rw [wrap_u64 (by omega) (by omega)]
  show bytesL (49 :: 48 :: numL n 22) = _
  rw [bl3 (by omega) (by omega)]
  unfold lenB
  rw [if_neg (by omega), if_neg (by omega), if_pos (by omega)]
theorem bz4 {n : Int} (h0 : 4194304 ≤ n) (h1 : n < 1073741824) : bytesL (intsZ [49, 49] ++ numL (IntKind.u64.wrap n) (Int.toNat 30)) = lenB n := by
  rw [wrap_u64 (by omega) (by omega)]
  show bytesL (49 :: 49 :: numL n 30) = _
  rw [bl4 (by omega) (by omega)]
  unfold lenB
  rw [if_neg (by omega), if_neg (by omega), if_neg (by omega)]
theorem num_conds {n : Int} (k : Nat) (s : List UInt8) (hs : s.length = 2) (hk : k ≤ 30) (h0 : 0 ≤ n) (h1 : n < 1073741824) : (0 ≤ IntKind.u64.wrap n ∧ IntKind.u64.wrap n < 18446744073709551616 ∧ (k : Int) ≤ 1000000000) ∧ (intsZ s ++ numL (IntKind.u64.wrap n) (Int.toNat k)).length ≤ 1000000000 := by
  rw [wrap_u64 h0 (by omega), List.length_append, numL_length]
  refine ⟨⟨h0, by omega, by omega⟩, ?_⟩
  have : (intsZ s).length = s.length := by simp [intsZ]
  omega
theorem lens_ok (n : Int) (l : List Int) (off : Nat) (hb : isB l) (hz : 0 < l.length) : Tr (call Tryz.prog hk3 1000 200 [] [] (.fn 3) [.X (.si .i64 n), .X (.ss (sl 5) off l.length none)] ⟨sl 10, initA (glA [(5, off, seqA .u8 l)])⟩ isTrue) tt := by
  refine obl_tr (s := lens_sh) ?_
  rw [lens_run]
  simp only [relO_ro, relO_op, acl, acl2, Int.sub_self, partA_seqA, map_intOf_seqA, seqA_length, areI_seqA, ones_seqA, Int.toNat_zero, List.drop_zero, Int.toNat_natCast, List.take_length, Int.zero_mul, Int.add_zero, Int.zero_add, Int.mul_one, Int.sub_zero, ne_eq, not_true_eq_false, not_false_eq_true, true_and, and_true, Int.le_refl, hC1, hC2, hC3, hC4]
  refine ⟨id, fun h0 => ⟨fun h1 => ⟨h0, h1⟩, fun h1 => ⟨fun c1 => ⟨fun c2 => ⟨fun c3 => ?_, fun c3 => ?_⟩, fun c2 => ?_⟩, fun c1 => ?_⟩⟩⟩
  · obtain ⟨n1, n2⟩ := num_conds 30 [49, 49] rfl (by omega) (by omega : 0 ≤ n) (by omega : n < 1073741824)
    exact ⟨h0, h1, by omega, by omega, by omega, n1, n2, br (by omega) (by omega) hb hz (put4 c3 (by omega)) (bz4 c3 (by omega)) (by unfold szL; rw [if_neg (by omega), if_neg (by omega), if_neg (by omega)])⟩
  · obtain ⟨n1, n2⟩ := num_conds 22 [49, 48] rfl (by omega) (by omega : 0 ≤ n) (by omega : n < 1073741824)
    exact ⟨h0, h1, by omega, by omega, by omega, n1, n2, br (by omega) (by omega) hb hz (put3 c2 c3) (bz3 c2 c3) (by unfold szL; rw [if_neg (by omega), if_neg (by omega), if_pos (by omega)])⟩
  · obtain ⟨n1, n2⟩ := num_conds 14 [48, 49] rfl (by omega) (by omega : 0 ≤ n) (by omega : n < 1073741824)
    exact ⟨h0, h1, by omega, by omega, n1, n2, br (by omega) (by omega) hb hz (put2 c1 c2) (bz2 c1 c2) (by unfold szL; rw [if_neg (by omega), if_pos (by omega)])⟩
  · obtain ⟨n1, n2⟩ := num_conds 6 [48, 48] rfl (by omega) (by omega : 0 ≤ n) (by omega : n < 1073741824)
    exact ⟨h0, h1, by omega, n1, n2, br (by omega) (by omega) hb hz (put1 (by omega) c1) (bz1 (by omega) c1) (by unfold szL; rw [if_pos (by omega)])⟩
theorem hD1 (a : Int) : ([AV'.X (XV.si IntKind.u8 a)] : List AV) = seqA .u8 [a] := rfl
theorem hDc (a : Int) (l : List Int) : (AV'.X (XV.si IntKind.u8 a) :: seqA .u8 l : List AV) = seqA .u8 (a :: l) := rfl
/-- The same, where nothing stands behind. -/
theorem br0 {n : Int} {m : Nat} {L Z : List Int} (h0 : 0 ≤ n) (h1 : n < 1073741824) (hL : L = lenB n) (hZ : Z = lenB n) (hk : szL n = ((m + 1 : Nat) : Int)) {k : Int} (hk' : k = szL n) :
    (bytesZ L = bytesZ Z → ((m + 1 : Nat) : Int) ≤ L.length ∧ (isB (List.take (m + 1) L) ∧ ((List.take (m + 1) L).length : Int) ≤ 1000000) ∧
      (gnL (List.take (m + 1) L) = n → (guL (List.take (m + 1) L) = k → (geL (List.take (m + 1) L) = 0 → True) ∧ (¬ geL (List.take (m + 1) L) = 0 → False)) ∧ (¬ guL (List.take (m + 1) L) = k → False)) ∧
      (¬ gnL (List.take (m + 1) L) = n → False)) ∧ (¬ bytesZ L = bytesZ Z → False) := by
  subst hL hZ hk'
  have hlen := lenB_length n
  have hp := szL_pos n
  have ht : List.take (m + 1) (lenB n) = lenB n := List.take_of_length_le (by omega)
  have hg := get_lenB h0 h1 []
  rw [List.append_nil] at hg
  obtain ⟨g1, g2, g3⟩ := hg
  rw [ht, g1, g2, g3]
  exact ⟨fun _ => ⟨by omega, ⟨isB_lenB h0 h1, by omega⟩, fun _ => ⟨fun _ => ⟨fun _ => trivial, fun h => h rfl⟩, fun h => h hlen⟩, fun h => h rfl⟩, fun h => absurd rfl h⟩
theorem lensn_ok (n : Int) : Tr (call Tryz.prog hk3 1000 200 [] [] (.fn 3) [.X (.si .i64 n), .X .nils] ⟨sl 10, initA (glA [])⟩ isTrue) tt := by
  refine obl_tr (s := lensn_sh) ?_
  rw [lensn_run]
  simp only [hD1, hDc]
  simp only [relO_ro, relO_op, acl, acl2, Int.sub_self, partA_seqA, map_intOf_seqA, seqA_length, areI_seqA, ones_seqA, Int.toNat_zero, List.drop_zero, Int.toNat_natCast, List.take_length, Int.zero_mul, Int.add_zero, Int.zero_add, Int.mul_one, Int.sub_zero, ne_eq, not_true_eq_false, not_false_eq_true, true_and, and_true, Int.le_refl]
  refine ⟨id, fun h0 => ⟨fun h1 => ⟨h0, h1⟩, fun h1 => ⟨fun c1 => ⟨fun c2 => ⟨fun c3 => ?_, fun c3 => ?_⟩, fun c2 => ?_⟩, fun c1 => ?_⟩⟩⟩
  · obtain ⟨n1, n2⟩ := num_conds 30 [49, 49] rfl (by omega) (by omega : 0 ≤ n) (by omega : n < 1073741824)
    have hs : szL n = 4 := by unfold szL; rw [if_neg (by omega), if_neg (by omega), if_neg (by omega)]
    exact ⟨h0, h1, by omega, by omega, by omega, n1, n2, br0 (m := 3) (by omega) (by omega) (put4 c3 (by omega)) (bz4 c3 (by omega)) hs hs.symm⟩
  · obtain ⟨n1, n2⟩ := num_conds 22 [49, 48] rfl (by omega) (by omega : 0 ≤ n) (by omega : n < 1073741824)
    have hs : szL n = 3 := by unfold szL; rw [if_neg (by omega), if_neg (by omega), if_pos (by omega)]
    exact ⟨h0, h1, by omega, by omega, by omega, n1, n2, br0 (m := 2) (by omega) (by omega) (put3 c2 c3) (bz3 c2 c3) hs hs.symm⟩
  · obtain ⟨n1, n2⟩ := num_conds 14 [48, 49] rfl (by omega) (by omega : 0 ≤ n) (by omega : n < 1073741824)
    have hs : szL n = 2 := by unfold szL; rw [if_neg (by omega), if_pos (by omega)]
    exact ⟨h0, h1, by omega, by omega, n1, n2, br0 (m := 1) (by omega) (by omega) (put2 c1 c2) (bz2 c1 c2) hs hs.symm⟩
  · obtain ⟨n1, n2⟩ := num_conds 6 [48, 48] rfl (by omega) (by omega : 0 ≤ n) (by omega : n < 1073741824)
    have hs : szL n = 1 := by unfold szL; rw [if_pos (by omega)]
    exact ⟨h0, h1, by omega, n1, n2, br0 (m := 0) (by omega) (by omega) (put1 (by omega) c1) (bz1 (by omega) c1) hs hs.symm⟩
theorem lensz_ok (n : Int) : Tr (call Tryz.prog hk3 1000 200 [] [] (.fn 3) [.X (.si .i64 n), .X .slz] ⟨sl 10, initA (glA [])⟩ isTrue) tt := by
  refine obl_tr (s := lensz_sh) ?_
  rw [lensz_run]
  simp only [hD1, hDc]
  simp only [relO_ro, relO_op, acl, acl2, Int.sub_self, partA_seqA, map_intOf_seqA, seqA_length, areI_seqA, ones_seqA, Int.toNat_zero, List.drop_zero, Int.toNat_natCast, List.take_length, Int.zero_mul, Int.add_zero, Int.zero_add, Int.mul_one, Int.sub_zero, ne_eq, not_true_eq_false, not_false_eq_true, true_and, and_true, Int.le_refl]
  refine ⟨id, fun h0 => ⟨fun h1 => ⟨h0, h1⟩, fun h1 => ⟨fun c1 => ⟨fun c2 => ⟨fun c3 => ?_, fun c3 => ?_⟩, fun c2 => ?_⟩, fun c1 => ?_⟩⟩⟩
  · obtain ⟨n1, n2⟩ := num_conds 30 [49, 49] rfl (by omega) (by omega : 0 ≤ n) (by omega : n < 1073741824)
    have hs : szL n = 4 := by unfold szL; rw [if_neg (by omega), if_neg (by omega), if_neg (by omega)]
    exact ⟨h0, h1, by omega, by omega, by omega, n1, n2, br0 (m := 3) (by omega) (by omega) (put4 c3 (by omega)) (bz4 c3 (by omega)) hs hs.symm⟩
  · obtain ⟨n1, n2⟩ := num_conds 22 [49, 48] rfl (by omega) (by omega : 0 ≤ n) (by omega : n < 1073741824)
    have hs : szL n = 3 := by unfold szL; rw [if_neg (by omega), if_neg (by omega), if_pos (by omega)]
    exact ⟨h0, h1, by omega, by omega, by omega, n1, n2, br0 (m := 2) (by omega) (by omega) (put3 c2 c3) (bz3 c2 c3) hs hs.symm⟩
  · obtain ⟨n1, n2⟩ := num_conds 14 [48, 49] rfl (by omega) (by omega : 0 ≤ n) (by omega : n < 1073741824)
    have hs : szL n = 2 := by unfold szL; rw [if_neg (by omega), if_pos (by omega)]
    exact ⟨h0, h1, by omega, by omega, n1, n2, br0 (m := 1) (by omega) (by omega) (put2 c1 c2) (bz2 c1 c2) hs hs.symm⟩
  · obtain ⟨n1, n2⟩ := num_conds 6 [48, 48] rfl (by omega) (by omega : 0 ≤ n) (by omega : n < 1073741824)
    have hs : szL n = 1 := by unfold szL; rw [if_pos (by omega)]
    exact ⟨h0, h1, by omega, n1, n2, br0 (m := 0) (by omega) (by omega) (put1 (by omega) c1) (bz1 (by omega) c1) hs hs.symm⟩
end Go.Proofs.YtemmcnbfajlljaaGreatDoor
