/- tidepoleref24.Parse: what is left of its run is so. -/
import Derived.Test.YtemmcnbfajlljaaGreatDoorParR
import Derived.Test.YtemmcnbfajlljaaGreatDoorLenQ
namespace Go.Proofs.YtemmcnbfajlljaaGreatDoor
open Go Go.TP Go.TP.Ry
set_option maxRecDepth 100000
theorem take1 {l : List Int} (h : 1 ≤ l.length) : l.take 1 = [l.getD 0 0] := by
  match l with
  | a :: _ => rfl
theorem take2 {l : List Int} (h : 2 ≤ l.length) : l.take 2 = [l.getD 0 0, l.getD 1 0] := by
  match l with
  | [_] => simp at h
  | a :: b :: _ => rfl
theorem take3 {l : List Int} (h : 3 ≤ l.length) : l.take 3 = [l.getD 0 0, l.getD 1 0, l.getD 2 0] := by
  match l with
  | [_] => simp at h
  | [_, _] => simp at h
  | a :: b :: c :: _ => rfl
theorem take4 {l : List Int} (h : 4 ≤ l.length) : l.take 4 = [l.getD 0 0, l.getD 1 0, l.getD 2 0, l.getD 3 0] := by
  match l with
  | [_] => simp at h
  | [_, _] => simp at h
  | [_, _, _] => simp at h
  | a :: b :: c :: d :: _ => rfl
theorem isB.take {l : List Int} (h : isB l) (n : Nat) : isB (l.take n) := fun x hx => h x (List.mem_of_mem_take hx)
theorem vB_take (l : List Int) (n : Nat) : ∀ q, q < n → vB (l.take n) q = vB l q
  | 0, h => by simp [vB, List.getD_eq_getElem?_getD, List.getElem?_take, h]
  | q + 1, h => by
    rw [vB, vB, vB_take l n q (by omega)]
    simp [List.getD_eq_getElem?_getD, List.getElem?_take, h]
theorem vB_bound {l : List Int} (hb : isB l) : ∀ q, 0 ≤ vB l q ∧ vB l q < 64 * 256 ^ q
  | 0 => by have := hb.get 0; simp only [vB]; omega
  | q + 1 => by
    have h := vB_bound hb q
    have h2 := hb.get (q + 1)
    simp only [vB, Int.pow_succ]
    omega
/-- What a length's bytes are, by how many there are. -/
def lenB (n : Int) : List Int := if n < 64 then [n] else if n < 16384 then [64 + n / 256, n % 256] else if n < 4194304 then [128 + n / 65536, n / 256 % 256, n % 256] else [192 + n / 16777216, n / 65536 % 256, n / 256 % 256, n % 256]
theorem lenB_length (n : Int) : ((lenB n).length : Int) = szL n := by unfold lenB szL; repeat' split <;> simp_all
theorem lenB_take {l : List Int} (hb : isB l) {q : Nat} (hq : usL l = q + 1) (hl : q + 1 ≤ l.length) (hs : szL (vB l q) = usL l) : lenB (vB l q) = l.take (q + 1) := by
  have h0 := hb.get 0
  have h1 := hb.get 1
  have h2 := hb.get 2
  have h3 := hb.get 3
  have hq4 : q = 0 ∨ q = 1 ∨ q = 2 ∨ q = 3 := by unfold usL at hq; omega
  have hv0 : vB l 0 = l.getD 0 0 % 64 := rfl
  have hv1 : vB l 1 = l.getD 0 0 % 64 * 256 + l.getD 1 0 := rfl
  have hv2 : vB l 2 = (l.getD 0 0 % 64 * 256 + l.getD 1 0) * 256 + l.getD 2 0 := rfl
  have hv3 : vB l 3 = ((l.getD 0 0 % 64 * 256 + l.getD 1 0) * 256 + l.getD 2 0) * 256 + l.getD 3 0 := rfl
  replace hs := hs.trans hq
  unfold usL at hq
  rcases hq4 with rfl | rfl | rfl | rfl
  · rw [take1 hl]
    unfold lenB
    rw [if_pos (by omega), hv0]
    congr 1
    omega
  · rw [take2 hl]
    unfold szL at hs
    unfold lenB
    rw [if_neg (by split at hs <;> omega), if_pos (by repeat' split at hs <;> omega), hv1]
    congr 1
    · omega
    · congr 1; omega
  · rw [take3 hl]
    unfold szL at hs
    unfold lenB
    rw [if_neg (by split at hs <;> omega), if_neg (by repeat' split at hs <;> omega), if_pos (by repeat' split at hs <;> omega), hv2]
    congr 1
    · omega
    · congr 1
      · omega
      · congr 1; omega
  · rw [take4 hl]
    unfold szL at hs
    unfold lenB
    rw [if_neg (by split at hs <;> omega), if_neg (by repeat' split at hs <;> omega), if_neg (by repeat' split at hs <;> omega), hv3]
    congr 1
    · omega
    · congr 1
      · omega
      · congr 1
        · omega
        · congr 1; omega
theorem tup3 {a b c a' b' c' : AV} (h1 : Fit a a') (h2 : Fit b b') (h3 : Fit c c') : Fit (.X (.tup [a, b, c])) (.X (.tup [a', b', c'])) := Fit.tup (.cons h1 (.cons h2 (.cons h3 .nil)))
theorem pur3 {a b c : AV} (h1 : pureX a = true) (h2 : pureX b = true) (h3 : pureX c = true) : Pur (.X (.tup [a, b, c])) := Pur.tup (.cons (Pur.x h1) (.cons (Pur.x h2) (.cons (Pur.x h3) .nil)))
theorem bytesZ_len {a b : List Int} (h : bytesZ a = bytesZ b) : a.length = b.length := by
  have := congrArg List.length h
  simpa [bytesZ] using this
theorem ge_of {l : List Int} {q : Nat} (hl : l.length ≠ 0) (hq : usL l = q + 1) (hle : usL l ≤ l.length) : geL l = if szL (vB l q) ≠ usL l then 10 else 0 := by
  unfold geL
  rw [if_neg (by omega), show (usL l - 1).toNat = q by omega]
theorem par_ok (l : List Int) (hb : isB l) (hl : (l.length : Int) ≤ 1000000) : Tr (call Tryz.prog hk2 1000 200 [] [] (.fn 10) [.X (.bs false l)] ⟨sl 10, .nil⟩ (fun v _ => some (.leaf (Pur v ∧ Fit v (.X (.tup [.X (.si .i64 (gnL l)), .X (.si .i64 (guL l)), .X (.si .i64 (geL l))])))))) tt := by
  have h0 := hb.get 0
  refine obl_tr (s := par_sh) ?_
  rw [par_run]
  have hU : IntKind.i64.wrap (1 + IntKind.i64.wrap (Int.tdiv (IntKind.i64.wrap (byteZ (l.getD (Int.toNat 0) 0))) 64)) = usL l := by
    rw [show Int.toNat 0 = 0 from rfl, byteZ_of h0.1 h0.2, wrap_i64 (n := l.getD 0 0) (by omega) (by omega), Int.tdiv_eq_ediv_of_nonneg h0.1, wrap_i64 (n := l.getD 0 0 / 64) (by omega) (by omega), wrap_i64 (by omega) (by omega)]
    unfold usL; omega
  rw [hU]
  have hub : 1 ≤ usL l ∧ usL l ≤ 4 := by unfold usL; omega
  refine ⟨fun hz => ⟨pur3 rfl rfl rfl, ?_⟩, fun hz => ⟨⟨Int.le_refl _, by omega⟩, by decide, fun hlt => ⟨pur3 rfl rfl rfl, ?_⟩, fun hge => ?_⟩⟩
  · have e : geL l = 16 := by unfold geL; rw [if_pos (by omega)]
    refine tup3 (Fit.num ?_) (Fit.num ?_) (Fit.num e.symm) <;> simp [gnL, guL, e]
  · have e : geL l = 16 := by unfold geL; rw [if_pos (by omega)]
    refine tup3 (Fit.num ?_) (Fit.num ?_) (Fit.num e.symm) <;> simp [gnL, guL, e]
  obtain ⟨q, hq⟩ : ∃ q : Nat, usL l = q + 1 := ⟨(usL l - 1).toNat, by omega⟩
  have hW : IntKind.i64.wrap (8 * usL l) = 8 * usL l := wrap_i64 (by omega) (by omega)
  have e1 : List.take (usL l - 0).toNat (List.drop (Int.toNat 0) l) = l.take (q + 1) := by rw [show (usL l - 0).toNat = q + 1 by omega]; rfl
  have e2 : (8 * usL l).toNat = 8 * q + 8 := by omega
  have e3 : (l.take (q + 1)).length = q + 1 := by rw [List.length_take]; omega
  have hm := hb.take (q + 1)
  have e4 : List.take (((8 * q + 8 : Nat) : Int) - 2).toNat (List.drop (Int.toNat 2) (textL (l.take (q + 1)) (8 * q + 8))) = List.drop 2 (textL (l.take (q + 1)) (8 * q + 8)) := by
    rw [show Int.toNat 2 = 2 from rfl, List.take_of_length_le (by rw [List.length_drop, textL_length]; omega)]
  have e5 : valL (List.drop 2 (textL (l.take (q + 1)) (8 * q + 8))) = vB l q := by rw [val_text hm, vB_take l _ q (by omega)]
  have e6 : (List.drop 2 (textL (l.take (q + 1)) (8 * q + 8))).length = 8 * q + 6 := by rw [List.length_drop, textL_length]; omega
  have hN := vB_bound hb q
  have hp : (256 : Int) ^ q ≤ 16777216 := by
    have : (256 : Nat) ^ q ≤ 256 ^ 3 := Nat.pow_le_pow_right (by omega) (by omega)
    have h2 : ((256 ^ q : Nat) : Int) ≤ 16777216 := by omega
    simpa using h2
  have w1 : IntKind.i64.wrap (vB l q) = vB l q := wrap_i64 (by omega) (by omega)
  have w2 : IntKind.u64.wrap (vB l q) = vB l q := wrap_u64 (by omega) (by omega)
  rw [hW, e1, e2, textL_length, e4, e5, e6, w1, w2, e3]
  have hge' := ge_of (l := l) (q := q) (by omega) hq (by omega)
  have i00 : intsZ [48, 48] = [48, 48] := rfl
  have i01 : intsZ [48, 49] = [48, 49] := rfl
  have i10 : intsZ [49, 48] = [49, 48] := rfl
  have i11 : intsZ [49, 49] = [49, 49] := rfl
  have n6 : Int.toNat 6 = 6 := rfl
  have n14 : Int.toNat 14 = 14 := rfl
  have n22 : Int.toNat 22 = 22 := rfl
  have n30 : Int.toNat 30 = 30 := rfl
  rw [i00, i01, i10, i11, n6, n14, n22, n30]
  simp only [List.cons_append, List.nil_append]
  have leaf : ∀ L : List Int, L = lenB (vB l q) → (bytesZ L = bytesZ (l.take (q + 1)) → Pur (.X (.tup [.X (.si .i64 (vB l q)), .X (.si .i64 (usL l)), .I .i64 0])) ∧ Fit (.X (.tup [.X (.si .i64 (vB l q)), .X (.si .i64 (usL l)), .I .i64 0])) (.X (.tup [.X (.si .i64 (gnL l)), .X (.si .i64 (guL l)), .X (.si .i64 (geL l))]))) ∧
      (¬ bytesZ L = bytesZ (l.take (q + 1)) → Pur (.X (.tup [.I .i64 0, .I .i64 0, .I .i64 10])) ∧ Fit (.X (.tup [.I .i64 0, .I .i64 0, .I .i64 10])) (.X (.tup [.X (.si .i64 (gnL l)), .X (.si .i64 (guL l)), .X (.si .i64 (geL l))]))) := by
    rintro L rfl
    have hlen := lenB_length (vB l q)
    refine ⟨fun heq => ⟨pur3 rfl rfl rfl, ?_⟩, fun hne => ⟨pur3 rfl rfl rfl, ?_⟩⟩
    · have := bytesZ_len heq
      have hs : szL (vB l q) = usL l := by omega
      have e : geL l = 0 := by rw [hge', if_neg (by simpa using hs)]
      refine tup3 (Fit.si ?_) (Fit.si ?_) (Fit.num e.symm) <;> simp only [gnL, guL, e, if_true]
      rw [show (usL l - 1).toNat = q by omega]
    · have hs : szL (vB l q) ≠ usL l := fun hs => hne (by rw [lenB_take hb hq (by omega) hs])
      have e : geL l = 10 := by rw [hge', if_pos hs]
      refine tup3 (Fit.num ?_) (Fit.num ?_) (Fit.num e.symm) <;> simp [gnL, guL, e]
  have hlen : ∀ n : Int, ∀ m : Nat, (numL n m).length = m := numL_length
  have hb30 : vB l q < 1073741824 := by omega
  refine ⟨⟨Int.le_refl _, by omega, by omega⟩, ⟨by omega, by omega⟩, ⟨by decide, by omega, by omega⟩, by omega, ⟨Int.le_refl _, by omega, by omega⟩, fun c1 => ?_, fun c1 => ⟨fun c2 => ?_, fun c2 => ⟨fun c3 => ?_, fun c3 => ?_⟩⟩⟩
  · refine ⟨⟨hN.1, by omega, by omega⟩, by simp [hlen], ?_⟩
    exact leaf _ (by rw [bl1 hN.1 c1]; unfold lenB; rw [if_pos c1])
  · refine ⟨⟨hN.1, by omega, by omega⟩, by simp [hlen], ?_⟩
    exact leaf _ (by rw [bl2 hN.1 c2]; unfold lenB; rw [if_neg c1, if_pos c2])
  · refine ⟨⟨hN.1, by omega, by omega⟩, by simp [hlen], ?_⟩
    exact leaf _ (by rw [bl3 hN.1 c3]; unfold lenB; rw [if_neg c1, if_neg c2, if_pos c3])
  · refine ⟨⟨hN.1, by omega, by omega⟩, by simp [hlen], ?_⟩
    exact leaf _ (by rw [bl4 hN.1 hb30]; unfold lenB; rw [if_neg c1, if_neg c2, if_neg c3])
end Go.Proofs.YtemmcnbfajlljaaGreatDoor
