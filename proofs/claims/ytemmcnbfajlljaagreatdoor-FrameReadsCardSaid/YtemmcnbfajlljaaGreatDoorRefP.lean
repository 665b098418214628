/- tidepoleref01's functions: what is left of their runs is so. -/
import Derived.Test.YtemmcnbfajlljaaGreatDoorRefR
namespace Go.Proofs.YtemmcnbfajlljaaGreatDoor
open Go Go.TP Go.TP.Ry
set_option maxRecDepth 100000
theorem wrap_u64 {n : Int} (h0 : 0 ≤ n) (h1 : n < 18446744073709551616) : IntKind.u64.wrap n = n := by
  simp [IntKind.wrap, IntKind.bits, IntKind.signed]; omega
theorem wrap_i64 {n : Int} (h0 : -9223372036854775808 ≤ n) (h1 : n < 9223372036854775808) : IntKind.i64.wrap n = n := by
  simp [IntKind.wrap, IntKind.bits, IntKind.signed]; omega
theorem wrap_u8 {n : Int} (h0 : 0 ≤ n) (h1 : n < 256) : IntKind.u8.wrap n = n := by
  simp [IntKind.wrap, IntKind.bits, IntKind.signed]; omega
theorem numL_length (v : Int) : ∀ n, (numL v n).length = n
  | 0 => rfl
  | n + 1 => by simp [numL, numL_length v n]
theorem toNat_succ {i : Int} (h : 0 ≤ i) : (i + 1).toNat = i.toNat + 1 := by omega
theorem div_pow_succ (v : Int) (i : Nat) : v / 2 ^ (i + 1) = v / 2 ^ i / 2 := by
  rw [Int.pow_succ, Int.ediv_ediv_of_nonneg (by exact Int.pow_nonneg (by omega))]
theorem num_ok (v n : Int) (hv : 0 ≤ v) (hv2 : v < 18446744073709551616) (hn : n ≤ 1000000000) : Tr (call Tryz.prog nohk (fu (hint1 24 0 (numH v n))) 200 [] [] (.fn 24) [.X (.si .u64 v), .X (.si .i64 n)] ⟨sl 10, .nil⟩ (fun w _ => some (.leaf (pureX w = true ∧ Fit w (.X (.bs false (numL v n.toNat))))))) tt := by
  have hd0 : ∀ i : Nat, 0 ≤ v / 2 ^ i := fun i => Int.ediv_nonneg hv (Int.pow_nonneg (by omega))
  have hd1 : ∀ i : Nat, v / 2 ^ i < 18446744073709551616 := fun i => Int.lt_of_le_of_lt (Int.ediv_le_self _ hv) hv2
  refine obl_tr (s := num_sh) ?_
  rw [num_run]
  refine ⟨⟨⟨0, 0, v, 0, [], [], [], []⟩, ⟨Int.le_refl _, by simp, by simp, rfl⟩, StW.fit (.cons Fit.rfl (.cons Fit.rfl (.cons (Fit.str rfl) (.cons (Fit.num rfl) .nil))))⟩, ?_⟩
  rintro ⟨i, j, m, n', s, t, u, ll⟩ ⟨h0, h1, h2, h3⟩
  dsimp only at h0 h1 h2 h3 ⊢
  subst h2 h3
  have e1 := hd0 i.toNat
  have e2 := hd1 i.toNat
  have step : i < n → ∀ (c : UInt8), (c.toNat : Int) = 48 + (v / 2 ^ i.toNat) % 2 → (List.length (intsZ [c]) + List.length (numL v i.toNat) ≤ 9223372036854775807) ∧ StW Tryz.prog (AH.mk (Pth.b (Pth.b (Pth.a Pth.z))) PT.nil)
      [AV'.X (XV.si IntKind.u64 (IntKind.u64.wrap (Int.tdiv (v / 2 ^ i.toNat) 2))), AV'.X (XV.si IntKind.i64 n), AV'.X (XV.bs false (intsZ [c] ++ numL v i.toNat)), AV'.X (XV.si IntKind.i64 (IntKind.i64.wrap (i + 1)))] (AH.mk (Pth.b (Pth.b (Pth.a Pth.z))) PT.nil)
      [AV'.X (XV.si IntKind.u64 (v / 2 ^ (i + 1).toNat)), AV'.X (XV.si IntKind.i64 n), AV'.X (XV.bs false (numL v (i + 1).toNat)), AV'.X (XV.si IntKind.i64 (i + 1))] (AH.mk (Pth.b (Pth.b (Pth.a Pth.z))) PT.nil) := by
    intro hlt c hc
    refine ⟨by rw [numL_length]; simp [intsZ]; omega, StW.fit (.cons (Fit.si ?_) (.cons Fit.rfl (.cons (Fit.bs ?_) (.cons (Fit.si (wrap_i64 (by omega) (by omega))) .nil))))⟩
    · rw [toNat_succ h0, div_pow_succ, Int.tdiv_eq_ediv_of_nonneg e1]
      exact wrap_u64 (by omega) (by omega)
    · rw [toNat_succ h0]
      simp [intsZ, numL, hc]
  refine ⟨fun hlt => ⟨by decide, fun hm => ?_, fun hm => ?_⟩, fun hge => ⟨rfl, Fit.bs ?_⟩⟩
  · rw [Int.tmod_eq_emod_of_nonneg e1] at hm
    obtain ⟨s1, s2⟩ := step hlt 49 (by rw [hm]; rfl)
    exact ⟨s1, by decide, ⟨i + 1, 0, v / 2 ^ (i + 1).toNat, 0, numL v (i + 1).toNat, [], [], []⟩, ⟨by dsimp only; omega, by dsimp only; omega, rfl, rfl⟩, by dsimp only; omega, s2⟩
  · rw [Int.tmod_eq_emod_of_nonneg e1] at hm
    obtain ⟨s1, s2⟩ := step hlt 48 (by rw [show v / 2 ^ i.toNat % 2 = 0 by omega]; rfl)
    exact ⟨s1, by decide, ⟨i + 1, 0, v / 2 ^ (i + 1).toNat, 0, numL v (i + 1).toNat, [], [], []⟩, ⟨by dsimp only; omega, by dsimp only; omega, rfl, rfl⟩, by dsimp only; omega, s2⟩
  · congr 1
    omega
theorem bitZ_le (c : Int) : 0 ≤ bitZ c ∧ bitZ c ≤ 1 := by unfold bitZ; split <;> omega
theorem b8_lt (l : List Int) (a : Nat) : ∀ k, 0 ≤ b8 l a k ∧ b8 l a k < 2 ^ k
  | 0 => by simp [b8]
  | k + 1 => by
    have h := b8_lt l a k
    have h2 := bitZ_le (l.getD (a + k) 0)
    simp only [b8, Int.pow_succ]
    omega
theorem outL_length (l : List Int) : ∀ q, (outL l q).length = q
  | 0 => rfl
  | q + 1 => by simp [outL, outL_length l q]
theorem textL_length (l : List Int) : ∀ n, (textL l n).length = n
  | 0 => rfl
  | n + 1 => by simp [textL, textL_length l n]
theorem intsZ_one (c : UInt8) : intsZ [c] = [(c.toNat : Int)] := rfl
theorem byt_ok (l : List Int) (hl : l.length ≤ 1000000000) : Tr (call Tryz.prog nohk (fu (hint2 23 0 (bytH l) 2 (bytH2 l))) 200 [] [] (.fn 23) [.X (.bs false l)] ⟨sl 10, .nil⟩ (fun w _ => some (.leaf (pureX w = true ∧ Fit w (.X (.bs false (bytesL l))))))) tt := by
  refine obl_tr (s := byt_sh) ?_
  rw [byt_run]
  refine ⟨⟨⟨0, 0, 0, 0, [], [], [], []⟩, ⟨Int.le_refl _, by simp, by dsimp only; omega, rfl⟩, StW.fit (.cons Fit.rfl (.cons (Fit.str rfl) (.cons (Fit.num rfl) .nil)))⟩, ?_⟩
  rintro ⟨i, j, m, n', s, t, u, ll⟩ ⟨h0, h1, h2, h3⟩
  dsimp only at h0 h1 h2 h3 ⊢
  subst h1 h3
  refine ⟨fun hlt => ⟨⟨⟨0, 0, 0, 0, [], [], [], []⟩, ⟨Int.le_refl _, by simp, rfl⟩, StW.fit (.cons Fit.rfl (.cons Fit.rfl (.cons Fit.rfl (.cons (Fit.num rfl) (.cons (Fit.num rfl) .nil)))))⟩, ?_⟩, fun hge => ⟨rfl, Fit.bs ?_⟩⟩
  · rintro ⟨i, j', m, n', s', t', u', ll'⟩ ⟨g0, g1, g2⟩
    dsimp only at g0 g1 g2 ⊢
    subst g2
    have hb := b8_lt l (8 * j).toNat i.toNat
    refine ⟨fun hi => ?_, fun hi => ?_⟩
    · have hp : (2 : Int) ^ i.toNat ≤ 128 := by
        have : (2 : Nat) ^ i.toNat ≤ 2 ^ 7 := Nat.pow_le_pow_right (by omega) (by omega)
        have h2 : ((2 ^ i.toNat : Nat) : Int) ≤ 128 := by omega
        simpa using h2
      have w1 : IntKind.i64.wrap (8 * j + i) = 8 * j + i := wrap_i64 (by omega) (by omega)
      have w2 : IntKind.i64.wrap (i + 1) = i + 1 := wrap_i64 (by omega) (by omega)
      have w3 : IntKind.u8.wrap (2 * b8 l (8 * j).toNat i.toNat) = 2 * b8 l (8 * j).toNat i.toNat := wrap_u8 (by omega) (by omega)
      have w4 : IntKind.u8.wrap (2 * b8 l (8 * j).toNat i.toNat + 1) = 2 * b8 l (8 * j).toNat i.toNat + 1 := wrap_u8 (by omega) (by omega)
      rw [w1, w2, w3, w4]
      have hn : (8 * j + i).toNat = (8 * j).toNat + i.toNat := by omega
      have hs : b8 l (8 * j).toNat (i + 1).toNat = 2 * b8 l (8 * j).toNat i.toNat + bitZ (l.getD (8 * j + i).toNat 0) := by rw [toNat_succ g0, hn]; rfl
      refine ⟨fun hin => ⟨by omega, fun hc => ?_, fun hc => ?_⟩, fun hin => ?_⟩
      · refine ⟨⟨i + 1, 0, b8 l (8 * j).toNat (i + 1).toNat, 0, [], [], [], []⟩, ⟨by dsimp only; omega, by dsimp only; omega, rfl⟩, by dsimp only; omega, StW.fit (.cons Fit.rfl (.cons Fit.rfl (.cons Fit.rfl (.cons (Fit.si ?_) (.cons Fit.rfl .nil)))))⟩
        dsimp only
        rw [hs, bitZ, if_pos hc]
      · refine ⟨⟨i + 1, 0, b8 l (8 * j).toNat (i + 1).toNat, 0, [], [], [], []⟩, ⟨by dsimp only; omega, by dsimp only; omega, rfl⟩, by dsimp only; omega, StW.fit (.cons Fit.rfl (.cons Fit.rfl (.cons Fit.rfl (.cons (Fit.si ?_) (.cons Fit.rfl .nil)))))⟩
        dsimp only
        rw [hs, bitZ, if_neg hc]; omega
      · refine ⟨⟨i + 1, 0, b8 l (8 * j).toNat (i + 1).toNat, 0, [], [], [], []⟩, ⟨by dsimp only; omega, by dsimp only; omega, rfl⟩, by dsimp only; omega, StW.fit (.cons Fit.rfl (.cons Fit.rfl (.cons Fit.rfl (.cons (Fit.si ?_) (.cons Fit.rfl .nil)))))⟩
        dsimp only
        rw [hs, List.getD_eq_getElem?_getD, List.getElem?_eq_none (by omega)]
        simp [bitZ, byteZ]
    · have hi8 : i = 8 := by omega
      subst hi8
      refine ⟨by rw [outL_length]; simp; omega, ⟨8 * (j + 1), j + 1, 0, 0, outL l (j + 1).toNat, [], [], []⟩, ⟨by dsimp only; omega, rfl, by dsimp only; omega, rfl⟩, by dsimp only; omega, StW.back rfl trivial (.cons (Low.pure rfl) (.cons (Low.fit (Low.pure rfl) (Fit.bs ?_)) (.cons (Low.fit (Low.pure rfl) (Fit.si ?_)) .nil)))⟩
      · dsimp only
        rw [toNat_succ h0, outL, show (8 * j).toNat = 8 * j.toNat by omega]
        rfl
      · dsimp only
        rw [wrap_i64 (by omega) (by omega)]; omega
  · unfold bytesL
    congr 1
    omega
theorem val_ok (l : List Int) (hl : l.length ≤ 60) : Tr (call Tryz.prog nohk (fu (hint1 25 0 (valH l))) 200 [] [] (.fn 25) [.X (.bs false l)] ⟨sl 10, .nil⟩ (fun w _ => some (.leaf (pureX w = true ∧ Fit w (.X (.si .u64 (valL l))))))) tt := by
  refine obl_tr (s := val_sh) ?_
  rw [val_run]
  refine ⟨⟨⟨0, 0, 0, 0, [], [], [], []⟩, ⟨Int.le_refl _, by dsimp only; omega, rfl⟩, StW.fit (.cons Fit.rfl (.cons (Fit.num rfl) (.cons (Fit.num rfl) .nil)))⟩, ?_⟩
  rintro ⟨i, j, m, n', s, t, u, ll⟩ ⟨h0, h1, h2⟩
  dsimp only at h0 h1 h2 ⊢
  subst h2
  have hb := b8_lt l 0 i.toNat
  have hp : (2 : Int) ^ i.toNat ≤ 1152921504606846976 := by
    have : (2 : Nat) ^ i.toNat ≤ 2 ^ 60 := Nat.pow_le_pow_right (by omega) (by omega)
    have h2 : ((2 ^ i.toNat : Nat) : Int) ≤ 1152921504606846976 := by omega
    simpa using h2
  have w2 : IntKind.i64.wrap (i + 1) = i + 1 := wrap_i64 (by omega) (by omega)
  have w3 : IntKind.u64.wrap (2 * b8 l 0 i.toNat) = 2 * b8 l 0 i.toNat := wrap_u64 (by omega) (by omega)
  have w4 : IntKind.u64.wrap (2 * b8 l 0 i.toNat + 1) = 2 * b8 l 0 i.toNat + 1 := wrap_u64 (by omega) (by omega)
  rw [w2, w3, w4]
  have hs : b8 l 0 (i + 1).toNat = 2 * b8 l 0 i.toNat + bitZ (l.getD i.toNat 0) := by rw [toNat_succ h0, b8, Nat.zero_add]
  refine ⟨fun hin => ⟨by omega, fun hc => ?_, fun hc => ?_⟩, fun hin => ⟨rfl, Fit.si ?_⟩⟩
  · refine ⟨⟨i + 1, 0, b8 l 0 (i + 1).toNat, 0, [], [], [], []⟩, ⟨by dsimp only; omega, by dsimp only; omega, rfl⟩, by dsimp only; omega, StW.fit (.cons Fit.rfl (.cons (Fit.si ?_) (.cons Fit.rfl .nil)))⟩
    dsimp only
    rw [hs, bitZ, if_pos hc]
  · refine ⟨⟨i + 1, 0, b8 l 0 (i + 1).toNat, 0, [], [], [], []⟩, ⟨by dsimp only; omega, by dsimp only; omega, rfl⟩, by dsimp only; omega, StW.fit (.cons Fit.rfl (.cons (Fit.si ?_) (.cons Fit.rfl .nil)))⟩
    dsimp only
    rw [hs, bitZ, if_neg hc]; omega
  · unfold valL
    congr 1
    omega
theorem bitOp_nat {k : IntKind} {m n : Nat} (hm : m < 2 ^ k.bits) (hn : n < 2 ^ k.bits) : bitOp .and k m n = k.wrap ((m &&& n : Nat) : Int) ∧ bitOp .or k m n = k.wrap ((m ||| n : Nat) : Int) ∧ bitOp .xor k m n = k.wrap ((m ^^^ n : Nat) : Int) := by
  have e1 : (BitVec.ofInt k.bits (m : Int)).toNat = m := by rw [BitVec.ofInt_natCast, BitVec.toNat_ofNat, Nat.mod_eq_of_lt hm]
  have e2 : (BitVec.ofInt k.bits (n : Int)).toNat = n := by rw [BitVec.ofInt_natCast, BitVec.toNat_ofNat, Nat.mod_eq_of_lt hn]
  refine ⟨?_, ?_, ?_⟩ <;> simp only [bitOp, BitVec.toNat_and, BitVec.toNat_or, BitVec.toNat_xor, e1, e2]
theorem and_one {x : Int} (h0 : 0 ≤ x) (h1 : x < 256) : bitOp .and .u8 x 1 = x % 2 := by
  obtain ⟨n, rfl⟩ := Int.eq_ofNat_of_zero_le h0
  have := (bitOp_nat (k := .u8) (m := n) (n := 1) (by simp [IntKind.bits]; omega) (by simp [IntKind.bits])).1
  rw [show ((1 : Nat) : Int) = 1 from rfl] at this
  rw [this, Nat.and_one_is_mod]
  rw [wrap_u8 (by omega) (by omega)]
  omega
theorem byteZ_le (n : Int) : 0 ≤ byteZ n ∧ byteZ n < 256 := by unfold byteZ; omega
theorem tex_ok (l : List Int) (n : Int) (hn : n ≤ 8 * l.length) (hl : l.length ≤ 100000000) : Tr (call Tryz.prog nohk (fu (hint1 26 0 (texH l n))) 200 [] [] (.fn 26) [.X (.bs false l), .X (.si .i64 n)] ⟨sl 10, .nil⟩ (fun w _ => some (.leaf (pureX w = true ∧ Fit w (.X (.bs false (textL l n.toNat))))))) tt := by
  refine obl_tr (s := tex_sh) ?_
  rw [tex_run]
  refine ⟨⟨⟨0, 0, 0, 0, [], [], [], []⟩, ⟨Int.le_refl _, by simp, rfl⟩, StW.fit (.cons Fit.rfl (.cons Fit.rfl (.cons (Fit.str rfl) (.cons (Fit.num rfl) .nil))))⟩, ?_⟩
  rintro ⟨i, j, m, n', s, t, u, ll⟩ ⟨h0, h1, h2⟩
  dsimp only at h0 h1 h2 ⊢
  subst h2
  refine ⟨fun hin => ?_, fun hin => ⟨rfl, Fit.bs ?_⟩⟩
  · have w2 : IntKind.i64.wrap (i + 1) = i + 1 := wrap_i64 (by omega) (by omega)
    have w3 : IntKind.i64.wrap (Int.tdiv i 8) = i / 8 := by rw [Int.tdiv_eq_ediv_of_nonneg h0]; exact wrap_i64 (by omega) (by omega)
    have w4 : IntKind.u64.wrap (IntKind.i64.wrap (7 - Int.tmod i 8)) = 7 - i % 8 := by
      rw [Int.tmod_eq_emod_of_nonneg h0, wrap_i64 (by omega) (by omega), wrap_u64 (by omega) (by omega)]
    rw [w2, w3, w4]
    have hB := byteZ_le (l.getD (i / 8).toNat 0)
    have hmin : min (7 - i % 8).toNat 8 = 7 - i.toNat % 8 := by omega
    rw [hmin]
    have hi8 : (i / 8).toNat = i.toNat / 8 := by omega
    rw [hi8] at hB ⊢
    generalize hbz : byteZ (l.getD (i.toNat / 8) 0) = B at *
    have hpos : (0 : Int) < ((2 ^ (7 - i.toNat % 8) : Nat) : Int) := by have : 0 < 2 ^ (7 - i.toNat % 8) := Nat.pow_pos (by omega); omega
    have hfd : Int.fdiv B ((2 ^ (7 - i.toNat % 8) : Nat) : Int) = B / 2 ^ (7 - i.toNat % 8) := by
      rw [Int.fdiv_eq_ediv_of_nonneg _ (by omega)]; simp
    have hq0 : 0 ≤ B / 2 ^ (7 - i.toNat % 8) := Int.ediv_nonneg hB.1 (Int.pow_nonneg (by omega))
    have hq1 : B / 2 ^ (7 - i.toNat % 8) < 256 := Int.lt_of_le_of_lt (Int.ediv_le_self _ hB.1) hB.2
    rw [hfd, and_one hq0 hq1]
    have step : ∀ (c : UInt8), (c.toNat : Int) = 48 + B / 2 ^ (7 - i.toNat % 8) % 2 → (List.length (textL l i.toNat) + List.length (intsZ [c]) ≤ 9223372036854775807) ∧ Fit (AV'.X (XV.bs false (textL l i.toNat ++ intsZ [c]))) (AV'.X (XV.bs false (textL l (i + 1).toNat))) := by
      intro c hc
      refine ⟨by rw [textL_length]; simp [intsZ]; omega, Fit.bs ?_⟩
      rw [toNat_succ h0, textL, hbz, intsZ_one, hc]
    refine ⟨by decide, ⟨by omega, by omega⟩, by decide, by omega, fun hc => ?_, fun hc => ?_⟩
    · obtain ⟨s1, s2⟩ := step 49 (by rw [hc]; rfl)
      exact ⟨s1, ⟨i + 1, 0, 0, 0, textL l (i + 1).toNat, [], [], []⟩, ⟨by dsimp only; omega, by dsimp only; omega, rfl⟩, by dsimp only; omega, StW.fit (.cons Fit.rfl (.cons Fit.rfl (.cons s2 (.cons Fit.rfl .nil))))⟩
    · obtain ⟨s1, s2⟩ := step 48 (by rw [show B / 2 ^ (7 - i.toNat % 8) % 2 = 0 by omega]; rfl)
      exact ⟨s1, ⟨i + 1, 0, 0, 0, textL l (i + 1).toNat, [], [], []⟩, ⟨by dsimp only; omega, by dsimp only; omega, rfl⟩, by dsimp only; omega, StW.fit (.cons Fit.rfl (.cons Fit.rfl (.cons s2 (.cons Fit.rfl .nil))))⟩
  · congr 1
    omega
end Go.Proofs.YtemmcnbfajlljaaGreatDoor
