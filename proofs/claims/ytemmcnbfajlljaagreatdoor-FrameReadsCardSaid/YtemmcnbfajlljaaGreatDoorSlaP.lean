/- tidepoleref24.Len and Sealed as hooks; what is read and reckoned is handed on by names. -/
import Derived.Test.YtemmcnbfajlljaaGreatDoorSlaR
namespace Go.Proofs.YtemmcnbfajlljaaGreatDoor
open Go Go.TP Go.TP.Ry
set_option maxRecDepth 100000
theorem b8_at (v : Int) (n a : Nat) : ∀ k, a + k ≤ n → b8 (numL v n) a k = v / 2 ^ (n - a - k) % 2 ^ k
  | 0, _ => by simp [b8]
  | k + 1, h => by
    rw [b8, b8_at v n a k (by omega), numL_getD v n (a + k) (by omega), bitZ_bit, show n - 1 - (a + k) = n - a - (k + 1) by omega]
    obtain ⟨d, hd⟩ : ∃ d, n - a = k + 1 + d := ⟨n - a - k - 1, by omega⟩
    rw [show n - a - k = d + 1 by omega, show n - a - (k + 1) = d by omega, div_pow_succ]
    generalize v / 2 ^ d = w
    have h1 := Int.emod_add_mul_ediv w (2 ^ (k + 1))
    have h2 := Int.emod_add_mul_ediv (w / 2) (2 ^ k)
    have h3 : w / 2 / 2 ^ k = w / 2 ^ (k + 1) := by rw [Int.ediv_ediv_of_nonneg (by omega), Int.pow_succ, Int.mul_comm (2 ^ k) 2]
    rw [h3] at h2
    have h4 : (2 : Int) ^ (k + 1) * (w / 2 ^ (k + 1)) = 2 * (2 ^ k * (w / 2 ^ (k + 1))) := by rw [Int.pow_succ, Int.mul_comm (2 ^ k) 2, Int.mul_assoc]
    omega
theorem bl32 {n : Int} (h0 : 0 ≤ n) (h1 : n < 4294967296) : bytesL (numL n 32) = fourL n := by
  have h := b8_at n 32
  simp only [bytesL, numL_length, outL, List.nil_append, List.cons_append, Nat.reduceAdd, Nat.reduceDiv, Nat.reduceMul, Nat.mul_zero, Nat.mul_one]
  rw [h 0 8 (by decide), h 8 8 (by decide), h 16 8 (by decide), h 24 8 (by decide)]
  unfold fourL
  simp only [Nat.reduceSub, Int.reducePow, Int.ediv_one]
theorem len8_ok (n : Int) (h0 : 0 ≤ n) (h1 : n < 1073741824) : Tr (call Tryz.prog hk2 1000 200 [] [] (.fn 8) [.X (.si .i64 n)] ⟨sl 10, .nil⟩ (fun v _ => some (.leaf (Pur v ∧ Fit v (.X (.bs false (lenB n))))))) tt := by
  refine obl_tr (s := len8_sh) ?_
  rw [len8_run, wrap_u64 h0 (by omega)]
  have i00 : intsZ [48, 48] = [48, 48] := rfl
  have i01 : intsZ [48, 49] = [48, 49] := rfl
  have i10 : intsZ [49, 48] = [49, 48] := rfl
  have i11 : intsZ [49, 49] = [49, 49] := rfl
  have n6 : Int.toNat 6 = 6 := rfl
  have n14 : Int.toNat 14 = 14 := rfl
  have n22 : Int.toNat 22 = 22 := rfl
  have n30 : Int.toNat 30 = 30 := rfl
  rw [i00, i01, i10, i11, n6, n14, n22, n30]
  simp only [List.cons_append, List.nil_append]
  refine ⟨fun c1 => ⟨⟨h0, by omega, by omega⟩, by simp [numL_length], Pur.x rfl, Fit.bs ?_⟩, fun c1 => ⟨fun c2 => ⟨⟨h0, by omega, by omega⟩, by simp [numL_length], Pur.x rfl, Fit.bs ?_⟩, fun c2 => ⟨fun c3 => ⟨⟨h0, by omega, by omega⟩, by simp [numL_length], Pur.x rfl, Fit.bs ?_⟩, fun c3 => ⟨⟨h0, by omega, by omega⟩, by simp [numL_length], Pur.x rfl, Fit.bs ?_⟩⟩⟩⟩
  · rw [bl1 h0 c1, lenB, if_pos c1]
  · rw [bl2 h0 c2, lenB, if_neg c1, if_pos c2]
  · rw [bl3 h0 c3, lenB, if_neg c1, if_neg c2, if_pos c3]
  · rw [bl4 h0 h1, lenB, if_neg c1, if_neg c2, if_neg c3]
theorem cSum_bnd (l : List Int) : 0 ≤ cSum l ∧ cSum l < 4294967296 := by
  unfold cSum
  have := (~~~ (cGo l l.length)).isLt
  omega
theorem lenB_le (n : Int) : 1 ≤ (lenB n).length ∧ (lenB n).length ≤ 4 := by
  unfold lenB
  split
  · simp
  · split
    · simp
    · split <;> simp
theorem fourL_len (s : Int) : (fourL s).length = 4 := rfl
theorem seal_ok (l : List Int) (hb : isB l) (hl : (l.length : Int) ≤ 1000000) : Tr (call Tryz.prog hkL8 1000 200 [] [] (.fn 28) [.X (.bs false l)] ⟨sl 10, .nil⟩ (fun v _ => some (.leaf (Pur v ∧ Fit v (.X (.bs false (selL l))))))) tt := by
  refine obl_tr (s := seal_sh) ?_
  have hs := cSum_bnd l
  have hn := lenB_le (l.length : Int)
  rw [seal_run, wrap_u64 hs.1 (by omega), show Int.toNat 32 = 32 from rfl, bl32 hs.1 hs.2, fourL_len]
  refine ⟨⟨by omega, by omega⟩, by omega, ⟨hb, hl⟩, ⟨hs.1, by omega, by omega⟩, by rw [numL_length]; decide, by rw [List.length_append]; omega, Pur.x rfl, Fit.bs rfl⟩
/-- What is so of each length that is read. -/
def gotL (l : List Int) (e n u : Int) : Prop := e = geL l ∧ n = gnL l ∧ u = guL l ∧ 0 ≤ e ∧ 0 ≤ n ∧ n < 1073741824 ∧ 0 ≤ u ∧ u ≤ 4 ∧ u ≤ l.length
theorem got_ok {l : List Int} (hb : isB l) : gotL l (geL l) (gnL l) (guL l) := by
  have h0 := hb.get 0
  have hub : 1 ≤ usL l ∧ usL l ≤ 4 := by unfold usL; omega
  obtain ⟨q, hq⟩ : ∃ q : Nat, usL l = q + 1 := ⟨(usL l - 1).toNat, by omega⟩
  have hN := vB_bound hb q
  have hp : (256 : Int) ^ q ≤ 16777216 := by
    have : (256 : Nat) ^ q ≤ 256 ^ 3 := Nat.pow_le_pow_right (by omega) (by omega)
    have h2 : ((256 ^ q : Nat) : Int) ≤ 16777216 := by omega
    simpa using h2
  have he : geL l = 0 ∨ geL l = 10 ∨ geL l = 16 := by
    unfold geL
    split
    · exact .inr (.inr rfl)
    · split
      · exact .inr (.inl rfl)
      · exact .inl rfl
  have hle : geL l = 0 → usL l ≤ l.length := fun h => by
    unfold geL at h
    split at h
    · cases h
    · omega
  have e1 : geL l = 0 → gnL l = vB l q := fun h => by unfold gnL; rw [if_pos h, show (usL l - 1).toNat = q by omega]
  have e2 : geL l = 0 → guL l = usL l := fun h => by unfold guL; rw [if_pos h]
  have e3 : geL l ≠ 0 → gnL l = 0 := fun h => by unfold gnL; rw [if_neg h]
  have e4 : geL l ≠ 0 → guL l = 0 := fun h => by unfold guL; rw [if_neg h]
  unfold gotL
  by_cases hz : geL l = 0
  · have := hle hz; have := e1 hz; have := e2 hz
    exact ⟨rfl, rfl, rfl, by omega, by omega, by omega, by omega, by omega, by omega⟩
  · have := e3 hz; have := e4 hz
    exact ⟨rfl, rfl, rfl, by omega, by omega, by omega, by omega, by omega, by omega⟩
noncomputable section
def tripG (g : Gh) : AV := .X (.tup [.X (.si .i64 g.m), .X (.si .i64 g.n), .X (.si .i64 g.i)])
def getHook1 : FD R := fun vs H k => match vs with
  | [v] => asL0 .u8 H v fun l => need (isB l ∧ (l.length : Int) ≤ 1000000) (nam (fun g => gotL l g.i g.m g.n) fun g => k (tripG g) H)
  | _ => none
def parHook1 : FD R := fun vs H k => match vs with
  | [s] => asT s fun _ l => need (isB l ∧ (l.length : Int) ≤ 1000000) (nam (fun g => gotL l g.i g.m g.n) fun g => k (tripG g) H)
  | _ => none
def sumHook1 : FD R := fun vs H k => match vs with
  | [v] => asL0 .u8 H v fun l => need (isB l ∧ (l.length : Int) ≤ 1000000) (nam (fun g => g.m = cSum l ∧ 0 ≤ g.m ∧ g.m < 4294967296) fun g => k (.X (.si .u32 g.m)) H)
  | _ => none
def sealHook : FD R := fun vs H k => match vs with
  | [s] => asT s fun _ l => need (isB l ∧ (l.length : Int) ≤ 1000000) (nam (fun g => g.s = selL l ∧ (g.s.length : Int) = szL l.length + l.length + 4 ∧ 1 ≤ szL l.length ∧ szL l.length ≤ 4) fun g => k (.X (.bs false g.s)) H)
  | _ => none
theorem len_hook : HookF lenHook 8 := by
  intro vs H k r hr ρ h us hh hv
  unfold lenHook at hr
  split at hr
  · obtain ⟨kn, m, hr, f1⟩ := asK_some hr
    obtain ⟨⟨h0, h1⟩, hr⟩ := need_some hr
    exact pur_ret mixed hk2_ok wok1000 slok gl10 (.cons (Pur.x rfl) .nil) (Q := fun v => Fit v (.X (.bs false (lenB m)))) (len8_ok m h0 h1) hh (fits1 f1 hv) fun v hQ => ⟨_, hQ, Tr.any hr⟩
  · cases hr
theorem hkL8_ok : HookOk Tryz.prog hkL8 := by
  intro f g hg
  unfold hkL8 at hg
  split at hg
  · rename_i hb; obtain rfl := Nat.eq_of_beq_eq_true hb; cases hg; exact len_hook
  · exact hkL_ok f g hg
theorem need_mk {p : Prop} {x : Option R} {r : R} (hp : p) (hx : Tr x r) : Tr (need p x) r := ⟨hp, by rwa [ofO_tr (r := r)]⟩
theorem blk_mk {H : AH} {b : Pth} {B : AB} {k : AB → Option R} (hB : getT H.blocks b = some B) : blk H b k = k B := by
  obtain ⟨nx, t⟩ := H
  show getK t b k = _
  rw [getK_eq, hB]; rfl
/-- Two ways to go on behind the numbers of a slice. -/
theorem asL_map {k : IntKind} {H : AH} {v : AV} {κ κ' : List Int → Option R} {r : R} (hm : ∀ l, Tr (κ l) r → Tr (κ' l) r) (h : Tr (asL k H v κ) r) : Tr (asL k H v κ') r := by
  unfold asL at h ⊢
  split at h
  · exact hm _ h
  · exact hm _ h
  · exact hm _ h
  · replace h := blk_some h
    obtain ⟨B, hB, h⟩ := h
    replace h := cellsB_some h
    obtain ⟨T, m, s, cs, rfl, h⟩ := h
    obtain ⟨q, h⟩ := need_some h
    rw [blk_mk hB]
    exact need_mk q (hm _ h)
  · replace h := blk_some h
    obtain ⟨B, hB, h⟩ := h
    replace h := cellsB_some h
    obtain ⟨T, m, s, cs, rfl, h⟩ := h
    obtain ⟨q, h⟩ := need_some h
    rw [blk_mk hB]
    exact need_mk q (hm _ h)
  · cases h
theorem asL0_map {k : IntKind} {H : AH} {v : AV} {κ κ' : List Int → Option R} {r : R} (hm : ∀ l, Tr (κ l) r → Tr (κ' l) r) (h : Tr (asL0 k H v κ) r) : Tr (asL0 k H v κ') r := by
  unfold asL0 at h ⊢
  split at h
  · replace h := blk_some h
    obtain ⟨B, hB, h⟩ := h
    replace h := cellsB_some h
    obtain ⟨T, m, s, cs, rfl, h⟩ := h
    obtain ⟨q, h⟩ := need_some h
    rw [blk_mk hB]
    exact need_mk q (hm _ h)
  · exact asL_map hm h
theorem asT_map {v : AV} {κ κ' : Bool → List Int → Option R} {r : R} (hm : ∀ b l, Tr (κ b l) r → Tr (κ' b l) r) (h : Tr (asT v κ) r) : Tr (asT v κ') r := by
  unfold asT at h ⊢
  split at h
  · exact hm _ _ h
  · exact hm _ _ h
  · cases h
theorem get_hook1 : HookF getHook1 9 := by
  intro vs H k r hr ρ h us hh hv
  refine get_hook0 vs H k r ?_ ρ h us hh hv
  unfold getHook1 at hr
  unfold getHook0
  split at hr
  · refine asL0_map (fun l h => ?_) hr
    obtain ⟨q, h⟩ := need_some h
    exact need_mk q (nam_some h ⟨geL l, 0, gnL l, guL l, [], [], [], []⟩ (got_ok q.1))
  · cases hr
theorem par_hook1 : HookF parHook1 10 := by
  intro vs H k r hr ρ h us hh hv
  refine par_hook vs H k r ?_ ρ h us hh hv
  unfold parHook1 at hr
  unfold parHook
  split at hr
  · refine asT_map (fun b l h => ?_) hr
    obtain ⟨q, h⟩ := need_some h
    exact need_mk q (nam_some h ⟨geL l, 0, gnL l, guL l, [], [], [], []⟩ (got_ok q.1))
  · cases hr
theorem sum_hook1 : HookF sumHook1 57 := by
  intro vs H k r hr ρ h us hh hv
  refine sum_hook vs H k r ?_ ρ h us hh hv
  unfold sumHook1 at hr
  unfold sumHook
  split at hr
  · refine asL0_map (fun l h => ?_) hr
    obtain ⟨q, h⟩ := need_some h
    exact need_mk q (nam_some h ⟨0, 0, cSum l, 0, [], [], [], []⟩ ⟨rfl, cSum_bnd l⟩)
  · cases hr
theorem sel_len (l : List Int) : ((selL l).length : Int) = szL l.length + l.length + 4 := by
  unfold selL
  rw [List.length_append, List.length_append, fourL_len, ← lenB_length]
  omega
theorem szL_bnd (n : Int) : 1 ≤ szL n ∧ szL n ≤ 4 := by
  have := lenB_le n
  have := lenB_length n
  omega
theorem seal_hook : HookF sealHook 28 := by
  intro vs H k r hr ρ h us hh hv
  unfold sealHook at hr
  split at hr
  · obtain ⟨kn, l, hr, f1⟩ := asT_some hr
    obtain ⟨⟨hb, hl⟩, hr⟩ := need_some hr
    replace hr := nam_some hr ⟨0, 0, 0, 0, selL l, [], [], []⟩ ⟨rfl, sel_len l, szL_bnd _⟩
    exact pur_ret mixed hkL8_ok wok1000 slok gl10 (.cons (Pur.x rfl) .nil) (Q := fun v => Fit v (.X (.bs false (selL l)))) (seal_ok l hb hl) hh (fits1 f1 hv) fun v hQ => ⟨_, hQ, Tr.any hr⟩
  · cases hr
end
end Go.Proofs.YtemmcnbfajlljaaGreatDoor
