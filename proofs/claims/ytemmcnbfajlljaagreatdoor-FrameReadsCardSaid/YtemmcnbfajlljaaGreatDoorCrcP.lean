/- The sum of bytes: what is left of crc.step's run and of tidepoleref23.Sum's is so. -/
import Derived.Test.YtemmcnbfajlljaaGreatDoorCrcR
import Derived.Test.YtemmcnbfajlljaaGreatDoorCrl
namespace Go.Proofs.YtemmcnbfajlljaaGreatDoor
open Go Go.TP Go.TP.Ry
set_option maxRecDepth 100000
theorem wrap_u32 (n : Int) : IntKind.u32.wrap n = n % 4294967296 := by simp [IntKind.wrap, IntKind.bits, IntKind.signed]
theorem xor_u32 (x y : BitVec 32) : bitOp .xor .u32 (x.toNat : Int) (y.toNat : Int) = ((x ^^^ y).toNat : Int) := by
  rw [(bitOp_nat (k := .u32) (m := x.toNat) (n := y.toNat) x.isLt y.isLt).2.2, wrap_u32, BitVec.toNat_xor]
  have := (x ^^^ y).isLt
  rw [BitVec.toNat_xor] at this
  omega
theorem shl_u32 (x : BitVec 32) : IntKind.u32.wrap ((x.toNat : Int) * ((2 ^ 1 : Nat) : Int)) = ((x <<< 1).toNat : Int) := by
  rw [wrap_u32, BitVec.toNat_shiftLeft, Nat.shiftLeft_eq]
  omega
theorem in_u32 {r c : Int} (h0 : 0 ≤ r) (h1 : r < 4294967296) (h2 : 0 ≤ c) (h3 : c < 256) : bitOp .xor .u32 r (IntKind.u32.wrap (IntKind.u32.wrap c * ((2 ^ 24 : Nat) : Int))) = ((cIn (BitVec.ofInt 32 r) c).toNat : Int) := by
  obtain ⟨n, rfl⟩ := Int.eq_ofNat_of_zero_le h0
  obtain ⟨m, rfl⟩ := Int.eq_ofNat_of_zero_le h2
  unfold cIn
  have e1 : ((n : Int)) = ((BitVec.ofNat 32 n).toNat : Int) := by rw [BitVec.toNat_ofNat]; omega
  have e2 : IntKind.u32.wrap (IntKind.u32.wrap (m : Int) * ((2 ^ 24 : Nat) : Int)) = ((BitVec.ofNat 32 (m * 16777216)).toNat : Int) := by rw [BitVec.toNat_ofNat, wrap_u32, wrap_u32]; omega
  rw [show ((m : Int) * 16777216) = ((m * 16777216 : Nat) : Int) by simp, BitVec.ofInt_natCast, BitVec.ofInt_natCast, ← xor_u32, ← e1, e2]
theorem msb_u32 (x : BitVec 32) : 2147483648 ≤ (x.toNat : Int) ↔ x.msb = true := by
  rw [BitVec.msb_eq_decide]
  simp
  omega
theorem step_ok (r c : Int) (h0 : 0 ≤ r) (h1 : r < 4294967296) (h2 : 0 ≤ c) (h3 : c < 256) : Tr (call Tryz.prog nohk (fu (hint1 103 0 (stpH r c))) 200 [] [] (.fn 103) [.X (.si .u32 r), .X (.si .u8 c)] ⟨sl 10, .nil⟩ (fun w _ => some (.leaf (Pur w ∧ Fit w (.X (.si .u32 (stI r c))))))) tt := by
  refine obl_tr (s := step_sh) ?_
  rw [step_run, in_u32 h0 h1 h2 h3, show stI r c = ((cIt (cIn (BitVec.ofInt 32 r) c) 8).toNat : Int) from rfl]
  generalize cIn (BitVec.ofInt 32 r) c = x at *
  refine ⟨⟨⟨0, 0, (x.toNat : Int), 0, [], [], [], []⟩, ⟨Int.le_refl _, by dsimp only; omega, rfl⟩, StW.fit (.cons Fit.rfl (.cons (Fit.num rfl) .nil))⟩, ?_⟩
  rintro ⟨i, j, m, n', s, t, u, ll⟩ ⟨g0, g1, g2⟩
  dsimp only at g0 g1 g2 ⊢
  subst g2
  have w2 : IntKind.i64.wrap (i + 1) = i + 1 := wrap_i64 (by omega) (by omega)
  have hs : cIt x (i + 1).toNat = cBit (cIt x i.toNat) := by rw [toNat_succ g0]; rfl
  rw [msb_u32, shl_u32, w2]
  refine ⟨fun hin => ⟨fun hm => ?_, fun hm => ?_⟩, fun hin => ⟨Pur.x rfl, Fit.si ?_⟩⟩
  · refine ⟨⟨i + 1, 0, ((cIt x (i + 1).toNat).toNat : Int), 0, [], [], [], []⟩, ⟨by dsimp only; omega, by dsimp only; omega, rfl⟩, by dsimp only; omega, StW.fit (.cons (Fit.si ?_) (.cons Fit.rfl .nil))⟩
    dsimp only
    rw [hs, cBit, if_pos hm, show (79764919 : Int) = (pol.toNat : Int) from rfl, xor_u32]
  · refine ⟨⟨i + 1, 0, ((cIt x (i + 1).toNat).toNat : Int), 0, [], [], [], []⟩, ⟨by dsimp only; omega, by dsimp only; omega, rfl⟩, by dsimp only; omega, StW.fit (.cons (Fit.si ?_) (.cons Fit.rfl .nil))⟩
    dsimp only
    rw [hs, cBit, if_neg hm]
  · rw [show i.toNat = 8 by omega]
theorem pol_txt : intsZ [48, 48, 48, 48, 48, 49, 48, 48, 49, 49, 48, 48, 48, 48, 48, 49, 48, 48, 48, 49, 49, 49, 48, 49, 49, 48, 49, 49, 48, 49, 49, 49] = regL pol := by decide
theorem one_txt : intsZ [49, 49, 49, 49, 49, 49, 49, 49, 49, 49, 49, 49, 49, 49, 49, 49, 49, 49, 49, 49, 49, 49, 49, 49, 49, 49, 49, 49, 49, 49, 49, 49] = regL (BitVec.allOnes 32) := by decide
theorem of_48 : (UInt8.ofNat (Int.toNat (48 : Int))) = 48 := rfl
theorem of_49 : (UInt8.ofNat (Int.toNat (49 : Int))) = 49 := rfl
theorem byteZ_reg (x : BitVec 32) (k : Nat) (h : k < 32) : byteZ ((regL x).getD k 0) = if x.getLsbD (31 - k) then 49 else 48 := by
  rw [reg_getD x k h]; split <;> rfl
theorem byte_bit (x : Int) : byteZ (48 + x % 2) = if decide (x % 2 = 1) = true then 49 else 48 := by
  rcases (show x % 2 = 0 ∨ x % 2 = 1 by omega) with h | h <;> rw [h] <;> decide
theorem neq_bits (a b : Bool) : ((if a = true then (49 : Int) else 48) ≠ if b = true then 49 else 48) → (a != b) = true := by cases a <;> cases b <;> simp
theorem eq_bits (a b : Bool) : ((if a = true then (49 : Int) else 48) = if b = true then 49 else 48) → ¬ (a != b) = true := by cases a <;> cases b <;> simp
theorem bnd (a b : List Int) (ha : a.length ≤ 100) (hb : b.length ≤ 100) : a.length + b.length ≤ 9223372036854775807 := by omega
theorem rsum_ok (l : List Int) (hb : isB l) (hl : (l.length : Int) ≤ 1000000) : Tr (call Tryz.prog hk2 (fu rsmH) 200 [] [] (.fn 46) [.X (.bs false l)] ⟨sl 10, .nil⟩ (fun w _ => some (.leaf (Pur w ∧ Fit w (.X (.si .u32 (cSum l))))))) tt := by
  refine obl_tr (s := rsum_sh) ?_
  rw [rsum_run, show IntKind.i64.wrap (8 * (l.length : Int)) = ((8 * l.length : Nat) : Int) by rw [wrap_i64 (by omega) (by omega)]; simp, Int.toNat_natCast, pol_txt, of_48, of_49, show intsZ [48] = [(48 : Int)] from rfl, show intsZ [49] = [(49 : Int)] from rfl]
  have hs := textL_length l (8 * l.length)
  have hbits := rGo_bytes hb l.length (Nat.le_refl _)
  have hch : ∀ i : Nat, i < 8 * l.length → byteZ ((textL l (8 * l.length)).getD i 0) = if isOne ((textL l (8 * l.length)).getD i 0) then 49 else 48 := fun i hi => by
    rw [textL_getD _ _ _ hi]
    unfold bitAt
    rw [isOne_bit]
    exact byte_bit _
  generalize textL l (8 * l.length) = s at *
  refine ⟨⟨by simp, by omega⟩, ⟨⟨0, 0, 0, 0, [], regL (BitVec.allOnes 32), s, []⟩, ⟨rfl, Int.le_refl _, by dsimp only; omega, rfl⟩, StW.fit (.cons Fit.rfl (.cons (Fit.str one_txt) (.cons (Fit.num rfl) .nil)))⟩, ?_⟩
  rintro ⟨i, j, m, n', s', t, u, ll⟩ ⟨g0, g1, g2, g3⟩
  dsimp only at g0 g1 g2 g3 ⊢
  subst g0 g3
  have w2 : i < u.length → IntKind.i64.wrap (i + 1) = i + 1 := fun _ => wrap_i64 (by omega) (by omega)
  have hgo : rGo u (i + 1).toNat = rBit (rGo u i.toNat) (isOne (u.getD i.toNat 0)) := by rw [toNat_succ g1]; rfl
  have hend : ¬ i < u.length → cSum l = ((~~~ rGo u i.toNat).toNat : Int) := fun h => by unfold cSum; rw [← hbits, show i.toNat = 8 * l.length by omega]
  generalize hx : rGo u i.toNat = x at *
  have hnext : List.take (Int.toNat ((List.length (regL x) : Int) - 1)) (List.drop (Int.toNat (1 : Int)) (regL x)) ++ [(48 : Int)] = regL (x <<< 1) := by
    rw [← reg_next x, regL_length, show Int.toNat (1 : Int) = 1 from rfl, List.take_of_length_le (by rw [List.length_drop, regL_length]; decide)]
  have hb0 : byteZ ((regL x).getD (Int.toNat 0) 0) = if x.msb then 49 else 48 := by
    rw [show Int.toNat 0 = 0 from rfl, byteZ_reg x 0 (by decide), BitVec.msb_eq_getLsbD_last]
  rw [hnext, reg_val, reg_val, hb0]
  have hlen := regL_length x
  have hchar : i < u.length → byteZ (u.getD i.toNat 0) = if isOne (u.getD i.toNat 0) then 49 else 48 := by
    exact fun h => hch _ (by omega)
  refine ⟨fun hin => ⟨by rw [hlen]; decide, by rw [List.length_take, List.length_drop, hlen]; decide, by omega, by rw [hlen]; decide, fun hne => ⟨⟨⟨0, 0, 0, 0, [], [], regL (x <<< 1), []⟩, ⟨rfl, Int.le_refl _, by dsimp only; omega, rfl⟩, StW.fit (.cons Fit.rfl (.cons Fit.rfl (.cons Fit.rfl (.cons (Fit.str rfl) (.cons (Fit.num rfl) .nil)))))⟩, ?_⟩, fun he => ?_⟩, fun hin => ⟨⟨⟨0, 0, 0, 0, [], [], [], []⟩, ⟨Int.le_refl _, by dsimp only; omega, rfl⟩, StW.fit (.cons Fit.rfl (.cons (Fit.str rfl) (.cons (Fit.num rfl) .nil)))⟩, ?_⟩⟩
  · rintro ⟨i', j', m', n'', s'', t', u', ll'⟩ ⟨f0, f1, f2, f3⟩
    dsimp only at f0 f1 f2 f3 ⊢
    subst f0 f3
    generalize hy : x <<< 1 = y at *
    have w3 : IntKind.i64.wrap (i' + 1) = i' + 1 := wrap_i64 (by omega) (by omega)
    have hly := regL_length y
    have hlp := regL_length pol
    have hlz := regL_length (y ^^^ pol)
    have hlt : ((regL (y ^^^ pol)).take i'.toNat).length ≤ 32 := by rw [List.length_take]; omega
    rw [w3]
    refine ⟨fun hi => ⟨by omega, by omega, ?_⟩, fun hi => ⟨⟨i + 1, 0, 0, 0, [], regL (rGo u (i + 1).toNat), u, []⟩, ⟨rfl, by dsimp only; omega, by dsimp only; omega, rfl⟩, by dsimp only; omega, ?_⟩⟩
    · have hk : i'.toNat < 32 := by omega
      have hz : (regL (y ^^^ pol)).take (i' + 1).toNat = (regL (y ^^^ pol)).take i'.toNat ++ [if (y.getLsbD (31 - i'.toNat) ^^ pol.getLsbD (31 - i'.toNat)) then 49 else 48] := by
        rw [toNat_succ f1, take_snoc (by omega), reg_getD _ _ hk, BitVec.getLsbD_xor]
      rw [byteZ_reg pol _ hk, byteZ_reg y _ hk]
      cases hp : pol.getLsbD (31 - i'.toNat) <;> cases hq : y.getLsbD (31 - i'.toNat) <;> rw [hp, hq] at hz
      all_goals refine ⟨fun h1 => ?_, fun h1 => ?_⟩
      all_goals first | exact absurd h1 (by decide) | skip
      all_goals try refine ⟨fun h2 => ?_, fun h2 => ?_⟩
      all_goals first | exact absurd h2 (by decide) | skip
      all_goals exact ⟨by simp only [List.length_cons, List.length_nil]; omega, ⟨i' + 1, 0, 0, 0, [], (regL (y ^^^ pol)).take (i' + 1).toNat, regL y, []⟩, ⟨rfl, by dsimp only; omega, by dsimp only; omega, rfl⟩, by dsimp only; omega, StW.back rfl trivial (.cons (Low.pure rfl) (.cons (Low.pure rfl) (.cons (Low.pure rfl) (.cons (Low.fit (Low.pure rfl) (Fit.bs hz.symm)) (.cons (Low.pure rfl) .nil)))))⟩
    · rw [w2 hin]
      refine StW.fit (.cons Fit.rfl (.cons (Fit.bs ?_) (.cons Fit.rfl .nil)))
      dsimp only
      rw [List.take_of_length_le (by omega), hgo, rBit, hy, if_pos]
      rw [hchar hin] at hne
      exact neq_bits _ _ hne
  · have he : byteZ (u.getD i.toNat 0) = if x.msb then 49 else 48 := by simpa using he
    refine ⟨⟨i + 1, 0, 0, 0, [], regL (rGo u (i + 1).toNat), u, []⟩, ⟨rfl, by dsimp only; omega, by dsimp only; omega, rfl⟩, by dsimp only; omega, ?_⟩
    rw [w2 hin]
    refine StW.fit (.cons Fit.rfl (.cons (Fit.bs ?_) (.cons Fit.rfl .nil)))
    dsimp only
    rw [hgo, rBit, if_neg]
    rw [hchar hin] at he
    exact eq_bits _ _ he
  · rintro ⟨i', j', m', n'', s'', t', u', ll'⟩ ⟨f1, f2, f3⟩
    dsimp only at f1 f2 f3 ⊢
    subst f3
    have w3 : IntKind.i64.wrap (i' + 1) = i' + 1 := wrap_i64 (by omega) (by omega)
    have hlz := regL_length (~~~ x)
    have hlt : ((regL (~~~ x)).take i'.toNat).length ≤ 32 := by rw [List.length_take]; omega
    rw [w3]
    refine ⟨fun hi => ⟨by omega, ?_⟩, fun hi => ⟨by omega, Pur.x rfl, Fit.si ?_⟩⟩
    · have hk : i'.toNat < 32 := by omega
      have hz : (regL (~~~ x)).take (i' + 1).toNat = (regL (~~~ x)).take i'.toNat ++ [if x.getLsbD (31 - i'.toNat) then 48 else 49] := by
        rw [toNat_succ f1, take_snoc (by omega), reg_getD _ _ hk, BitVec.getLsbD_not]
        have : 31 - i'.toNat < 32 := by omega
        cases x.getLsbD (31 - i'.toNat) <;> simp [this]
      rw [byteZ_reg x _ hk]
      cases hq : x.getLsbD (31 - i'.toNat) <;> rw [hq] at hz
      all_goals refine ⟨fun h1 => ?_, fun h1 => ?_⟩
      all_goals first | exact absurd h1 (by decide) | skip
      all_goals exact ⟨by simp only [List.length_cons, List.length_nil]; omega, ⟨i' + 1, 0, 0, 0, [], (regL (~~~ x)).take (i' + 1).toNat, [], []⟩, ⟨by dsimp only; omega, by dsimp only; omega, rfl⟩, by dsimp only; omega, StW.back rfl trivial (.cons (Low.pure rfl) (.cons (Low.fit (Low.pure rfl) (Fit.bs hz.symm)) (.cons (Low.pure rfl) .nil)))⟩
    · rw [List.take_of_length_le (by omega), val_reg, hend (by omega), wrap_u32]
      have := (~~~ x).isLt
      omega
end Go.Proofs.YtemmcnbfajlljaaGreatDoor
