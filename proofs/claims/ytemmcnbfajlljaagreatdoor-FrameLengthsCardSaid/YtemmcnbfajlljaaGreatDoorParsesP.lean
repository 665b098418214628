/- FrameParses: what is left of its runs is so. -/
import Derived.Test.YtemmcnbfajlljaaGreatDoorParsesR
namespace Go.Proofs.YtemmcnbfajlljaaGreatDoor
open Go Go.TP Go.TP.Ry
set_option maxRecDepth 100000
theorem bor (q : Nat) (hq : q < 4) {x : Int} (h0 : 0 ≤ x) (h1 : x < 64) : bitOp .or .u8 ((64 * q : Nat) : Int) x = (64 * q : Nat) + x := by
  obtain ⟨n, rfl⟩ := Int.eq_ofNat_of_zero_le h0
  have := (bitOp_nat (k := .u8) (m := 64 * q) (n := n) (by simp [IntKind.bits]; omega) (by simp [IntKind.bits]; omega)).2.1
  have h : 64 * q ||| n = 64 * q + n := by
    rw [Nat.two_pow_add_eq_or_of_lt (i := 6) (by omega)]
  rw [this, h, wrap_u8 (by omega) (by omega)]
  omega
theorem or_64 {x : Int} (h0 : 0 ≤ x) (h1 : x < 64) : bitOp .or .u8 64 x = 64 + x := bor 1 (by omega) h0 h1
theorem or_128 {x : Int} (h0 : 0 ≤ x) (h1 : x < 64) : bitOp .or .u8 128 x = 128 + x := bor 2 (by omega) h0 h1
theorem or_192 {x : Int} (h0 : 0 ≤ x) (h1 : x < 64) : bitOp .or .u8 192 x = 192 + x := bor 3 (by omega) h0 h1
theorem or_0 {x : Int} (h0 : 0 ≤ x) (h1 : x < 256) : bitOp .or .u8 0 x = x := by
  obtain ⟨n, rfl⟩ := Int.eq_ofNat_of_zero_le h0
  have := (bitOp_nat (k := .u8) (m := 0) (n := n) (by simp [IntKind.bits]) (by simp [IntKind.bits]; omega)).2.1
  rw [show ((0 : Nat) : Int) = 0 from rfl] at this
  rw [this, Nat.zero_or, wrap_u8 (by omega) (by omega)]
theorem ge_nil : geL [] = 16 := by decide
theorem gn_nil : gnL [] = 0 := by simp [gnL, ge_nil]
theorem gu_nil : guL [] = 0 := by simp [guL, ge_nil]
theorem isB_nil : isB [] := fun x hx => by cases hx
theorem parsen_ok : Tr (call Tryz.prog hk3 1000 200 [] [] (.fn 4) [.X .nils] ⟨sl 10, initA (glA [])⟩ isTrue) tt := by
  refine obl_tr (s := parsen_sh) ?_
  rw [parsen_run]
  refine ⟨⟨isB_nil, by decide⟩, ⟨isB_nil, by decide⟩, fun h => h rfl, fun _ => ⟨fun h => h rfl, fun _ => ⟨fun h => h rfl, fun _ => ⟨by rw [ge_nil]; decide, trivial⟩⟩⟩⟩
theorem parsez_ok : Tr (call Tryz.prog hk3 1000 200 [] [] (.fn 4) [.X .slz] ⟨sl 10, initA (glA [])⟩ isTrue) tt := by
  refine obl_tr (s := parsez_sh) ?_
  rw [parsez_run]
  refine ⟨⟨isB_nil, by decide⟩, ⟨isB_nil, by decide⟩, fun h => h rfl, fun _ => ⟨fun h => h rfl, fun _ => ⟨fun h => h rfl, fun _ => ⟨by rw [ge_nil]; decide, trivial⟩⟩⟩⟩
/-- What is read has just these bytes. -/
theorem gn_lenB {l : List Int} (hb : isB l) (hz : 0 < l.length) (he : geL l = 0) : lenB (gnL l) = l.take (guL l).toNat ∧ 0 ≤ gnL l ∧ gnL l < 1073741824 ∧ 1 ≤ guL l ∧ guL l ≤ l.length := by
  have h0 := hb.get 0
  have hub : 1 ≤ usL l ∧ usL l ≤ 4 := by unfold usL; omega
  obtain ⟨q, hq⟩ : ∃ q : Nat, usL l = q + 1 := ⟨(usL l - 1).toNat, by omega⟩
  have hle : usL l ≤ l.length := by
    have h := he
    unfold geL at h
    split at h
    · cases h
    · omega
  have hge := ge_of (l := l) (q := q) (by omega) hq hle
  rw [he] at hge
  have hs : szL (vB l q) = usL l := by
    split at hge
    · cases hge
    · rename_i h; simpa using h
  have hN := vB_bound hb q
  have hp : (256 : Int) ^ q ≤ 16777216 := by
    have : (256 : Nat) ^ q ≤ 256 ^ 3 := Nat.pow_le_pow_right (by omega) (by omega)
    have h2 : ((256 ^ q : Nat) : Int) ≤ 16777216 := by omega
    simpa using h2
  have e1 : gnL l = vB l q := by unfold gnL; rw [if_pos he, show (usL l - 1).toNat = q by omega]
  have e2 : guL l = usL l := by unfold guL; rw [if_pos he]
  rw [e1, e2, show (usL l).toNat = q + 1 by omega]
  exact ⟨lenB_take hb hq (by omega) hs, by omega, by omega, by omega, by omega⟩
theorem fd (n : Int) (k : Nat) : Int.fdiv n ((2 ^ k : Nat) : Int) = n / 2 ^ k := by
  rw [Int.fdiv_eq_ediv_of_nonneg _ (Int.natCast_nonneg _)]; simp
theorem put1 {n : Int} (h0 : 0 ≤ n) (h1 : ¬ 64 ≤ n) : [bitOp .or .u8 0 (IntKind.u8.wrap n)] = lenB n := by
  rw [wrap_u8 h0 (by omega), or_0 h0 (by omega)]
  unfold lenB
  rw [if_pos (by omega)]
theorem put2 {n : Int} (h0 : 64 ≤ n) (h1 : ¬ 16384 ≤ n) : [bitOp .or .u8 64 (IntKind.u8.wrap (Int.fdiv n ((2 ^ 8 : Nat) : Int))), bitOp .or .u8 0 (IntKind.u8.wrap n)] = lenB n := by
  rw [fd, wrap_u8 (by omega) (by omega), or_64 (by omega) (by omega), wrap_u8d n, or_0 (by omega) (by omega)]
  unfold lenB
  rw [if_neg (by omega), if_pos (by omega)]
  rfl
theorem put3 {n : Int} (h0 : 16384 ≤ n) (h1 : ¬ 4194304 ≤ n) : [bitOp .or .u8 128 (IntKind.u8.wrap (Int.fdiv n ((2 ^ 16 : Nat) : Int))), bitOp .or .u8 0 (IntKind.u8.wrap (Int.fdiv n ((2 ^ 8 : Nat) : Int))), bitOp .or .u8 0 (IntKind.u8.wrap n)] = lenB n := by
  rw [fd, fd, wrap_u8 (by omega) (by omega), or_128 (by omega) (by omega), wrap_u8d n, wrap_u8d, or_0 (by omega) (by omega), or_0 (by omega) (by omega)]
  unfold lenB
  rw [if_neg (by omega), if_neg (by omega), if_pos (by omega)]
  rfl
theorem put4 {n : Int} (h0 : 4194304 ≤ n) (h1 : n < 1073741824) : [bitOp .or .u8 192 (IntKind.u8.wrap (Int.fdiv n ((2 ^ 24 : Nat) : Int))), bitOp .or .u8 0 (IntKind.u8.wrap (Int.fdiv n ((2 ^ 16 : Nat) : Int))), bitOp .or .u8 0 (IntKind.u8.wrap (Int.fdiv n ((2 ^ 8 : Nat) : Int))), bitOp .or .u8 0 (IntKind.u8.wrap n)] = lenB n := by
  rw [fd, fd, fd, wrap_u8 (n := n / 2 ^ 24) (by omega) (by omega), or_192 (by omega) (by omega), wrap_u8d n, wrap_u8d, wrap_u8d, or_0 (by omega) (by omega), or_0 (by omega) (by omega), or_0 (by omega) (by omega)]
  unfold lenB
  rw [if_neg (by omega), if_neg (by omega), if_neg (by omega)]
  rfl
theorem parses_ok (l : List Int) (off : Nat) (hb : isB l) (hz : 0 < l.length) : Tr (call Tryz.prog hk3 1000 200 [] [] (.fn 4) [.X (.ss (sl 5) off l.length none)] ⟨sl 10, initA (glA [(5, off, seqA .u8 l)])⟩ isTrue) tt := by
  refine obl_tr (s := parses_sh) ?_
  rw [parses_run]
  simp only [relO_ro, acl, acl2, Int.sub_self, partA_seqA, map_intOf_seqA, seqA_length, areI_seqA, Int.toNat_zero, List.drop_zero, Int.toNat_natCast, List.take_length, Int.zero_mul, Int.add_zero, Int.zero_add, Int.sub_zero, ne_eq, not_true_eq_false, not_false_eq_true, true_and, and_true, Int.le_refl]
  refine ⟨fun _ => trivial, fun hn => ⟨by omega, ⟨hb, by omega⟩, by omega, ⟨hb, by omega⟩, fun _ => trivial, fun he => ?_⟩⟩
  have he : geL l = 0 := by simpa using he
  obtain ⟨k1, k2, k3, k4, k5⟩ := gn_lenB hb hz he
  rw [← k1]
  refine ⟨by omega, by omega, fun c1 => ⟨fun c2 => ⟨fun c3 => ⟨⟨by omega, k5⟩, ⟨by omega, k5⟩, fun _ => trivial, fun h => h ?_⟩, fun c3 => ⟨⟨by omega, k5⟩, ⟨by omega, k5⟩, fun _ => trivial, fun h => h ?_⟩⟩, fun c2 => ⟨⟨by omega, k5⟩, ⟨by omega, k5⟩, fun _ => trivial, fun h => h ?_⟩⟩, fun c1 => ⟨⟨by omega, k5⟩, ⟨by omega, k5⟩, fun _ => trivial, fun h => h ?_⟩⟩
  · rw [put4 c3 k3]
  · rw [put3 c2 c3]
  · rw [put2 c1 c2]
  · rw [put1 k2 c1]
end Go.Proofs.YtemmcnbfajlljaaGreatDoor
