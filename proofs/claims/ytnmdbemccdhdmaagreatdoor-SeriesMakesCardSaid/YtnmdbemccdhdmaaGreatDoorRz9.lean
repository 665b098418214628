/- Ry is sound, part 9: stores, append. -/
import Derived.Test.YtnmdbemccdhdmaaGreatDoorRz8
namespace Go.TP
open Go
namespace Ry
variable {P : Program} {R : Type} {d : Option (Slot R)} {x y z : Operand} {xo yo zo : OD R}
theorem one1_ok {ρ : Rn} {v : AV} {u : Value} (h : one1 v = true) (hv : VR ρ v u) : u.oneCell' = true := by
  cases hv <;> first | rfl | cases h
theorem ones_ok {ρ : Rn} : ∀ {l : List AV} {us : List Value}, ones l = true → VRs ρ l us → ∀ u ∈ us, u.oneCell' = true
  | [], _, _, hv, u, hu => by cases hv; cases hu
  | v :: l, _, h, hv, u, hu => by
    cases hv with
    | cons h1 h2 =>
      have h : Bool.rec (motive := fun _ => Bool) false (ones l) (one1 v) = true := h
      cases ho : one1 v with
      | false => rw [ho] at h; cases h
      | true =>
        rw [ho] at h
        rcases List.mem_cons.1 hu with rfl | hu
        · exact one1_ok ho h1
        · exact ones_ok h h2 u hu
theorem open_some {m : Md} {k : Option R} {r : R} (h : open_ m k = some r) : m ≠ .ro ∧ k = some r := by
  cases m with
  | shut => exact ⟨by simp, h⟩
  | op sz => exact ⟨by simp, h⟩
  | ro => cases h
/-- Some cells of a block that may be turned. -/
theorem BR.over {ρ : Rn} {h : Heap} {lo : Lo} {T : Nat} {m : Md} {s : Nat} {cs us : List AV} {vs : List Value} {o : Nat} (hb : BR ρ h lo (.cells T m s cs)) (hm : m ≠ .ro) (hu : VRs ρ us vs) (hle : o + us.length ≤ cs.length) :
    ∃ cur, h[lo.g]? = some (.cells (List.toArray cur) T (0, 0)) ∧ o + vs.length ≤ cur.length ∧ ∀ h' s', h'[lo.g]? = some (.cells (cur.take o ++ vs ++ cur.drop (o + vs.length)).toArray T (0, 0)) →
      BR ρ h' lo (.cells T m s' (cs.take o ++ us ++ cs.drop (o + us.length))) := by
  have hl := hu.len
  cases m with
  | shut =>
    obtain ⟨ws, h1, h2⟩ := hb
    have hw := h1.len
    refine ⟨ws, h2, by omega, fun h' s' h3 => ⟨_, ((h1.take o).append hu).append (hl ▸ h1.drop _), h3⟩⟩
  | op sz =>
    obtain ⟨ws, rest, h1, h2, h3, h4⟩ := hb
    have hw := h1.len
    refine ⟨ws ++ rest, h2, by simp; omega, fun h' s' h5 => ⟨ws.take o ++ vs ++ ws.drop (o + vs.length), rest, ((h1.take o).append hu).append (hl ▸ h1.drop _), ?_, ?_, h4⟩⟩
    · rw [h5]
      rw [List.take_append_of_le_length (by omega), List.drop_append_of_le_length (by omega)]
      simp only [List.append_assoc]
    · rw [← h3]; simp; omega
  | ro => exact absurd rfl hm
theorem shapeB_size {t n : Nat} {b : Bool} (h : shapeB P t = some (b, n)) (w : World) : (sizeOf t).run P w = .ok n w := by
  cases b with
  | true => exact ((shapeB_agg h).spec w).2
  | false =>
    have h1 := ((shapeB_one h).spec w).2
    unfold shapeB at h
    split at h
    · cases h
    · cases h
    · rename_i inf dd hn1 hn2 h2 h3
      by_cases hz : inf.size = 1
      · have hb : Nat.beq inf.size 1 = true := by simp [hz]
        rw [hb] at h; cases h; exact h1
      · have hb : Nat.beq inf.size 1 = false := beq_ne hz
        rw [hb] at h; cases h
    · cases h
theorem eff_st {t n : Nat} {b : Bool} (ht : shapeB P t = some (b, n)) (hx : OpS P x xo) (hy : OpS P y yo) : EffS P (.store t x y) none (iSt n xo yo) := by
  intro cx κ e H r hr ρ h E hh he rd dst ty pos aft
  simp only [iSt, hx.eq] at hr
  replace hr := bind_some hr
  obtain ⟨v, hv, hr⟩ := hr
  replace hr := asP_some hr
  obtain ⟨b, o, rfl, hr⟩ := hr
  simp only [hy.eq] at hr
  replace hr := bind_some hr
  obtain ⟨u, hu, hr⟩ := hr
  replace hr := blk_some hr
  obtain ⟨B, hB, hr⟩ := hr
  replace hr := cellsB_some hr
  obtain ⟨T, m, s, cs, rfl, hr⟩ := hr
  replace hr := open_some hr
  obtain ⟨hm, hr⟩ := hr
  rw [ifK_eq] at hr
  split at hr
  · rename_i hc
    simp only [Bool.and_eq_true] at hc
    obtain ⟨hc1, hc2⟩ := hc
    have hc1 := Nat.eq_of_beq_eq_true hc1
    rw [overK_eq] at hr
    split at hr
    · rename_i hle
      rw [natK_eq] at hr
      replace hr := putB_some hr
      obtain ⟨a, h1, h2⟩ := hx.ok ρ H h e E _ hh he hv
      cases h1 with
      | P hρ =>
        rename_i lo
        obtain ⟨ua, h3, h4⟩ := hy.ok ρ H h e E _ hh he hu
        obtain ⟨us, h5, h6⟩ := h3.cells
        obtain ⟨lo', h7, h8⟩ := hh.blk b _ hB
        rw [hρ] at h7; cases h7
        obtain ⟨cur, h9, h10, h11⟩ := h8.over hm h6 hle
        have hul := h6.len
        refine ef_of_run (fun _ _ _ _ => rfl) (fun _ hc => by cases hc) fun σ w hA hw => ?_
        subst hw
        obtain ⟨h', e1, e2, e3, e4⟩ := run_stores_bk (P := P) us o 0 cur w h9 (by simpa using h10) (ones_ok hc2 h6)
        obtain ⟨k1, k2⟩ := hr_set hh hB hρ e2 e3 (h11 h' (s + 1) (by simpa using e4))
        refine ⟨undef, { w with heap := h' }, .inr ⟨rfl, ?_⟩, ⟨_, .X .undef, _, r, hr, k1, k2, .undef⟩, rfl, rfl, rfl⟩
        have hsz : us.length = n := by omega
        simp only [execOp, hA x _ h2, hA y _ h4, Instr.storeAt, Instr.sureAddr, storeVar, Sem.run_bind, Sem.run_pure, Result.andThen, h5]
        simp [shapeB_size ht w, e1, hsz]
    · cases hr
  · cases hr
/-- What is appended: a slice's elements, or so many zeros. -/
inductive Sc (P : Program) (el : TypeId) (size : Nat) (tx : TypeId) (x : Value) (n : Nat) (news : List Value) (w : World) : Prop where
  | sl : Src P size tx x n news w → Sc P el size tx x n news w
  | mk {k k' : IntKind} {inf : TypeInfo} {zv : Value} {zs : List Value} : P.underlying tx = some (.int k) → x = .int k' (n : Nat) → P.info? el = some inf → inf.zero = some zv → zv.cells = zs.toArray → zs.length = size → inf.bytes ≤ 1024 → n ≤ 1073741824 → news = (List.replicate n zs).flatten → (∀ u ∈ news, u.oneCell' = true) → Sc P el size tx x n news w
theorem Sc.one {el : TypeId} {size : Nat} {tx : TypeId} {x : Value} {n : Nat} {news : List Value} {w : World} (h : Sc P el size tx x n news w) : ∀ u ∈ news, u.oneCell' = true := by
  cases h with
  | sl h => exact h.one
  | mk _ _ _ _ _ _ _ _ _ h => exact h
theorem Sc.len {el : TypeId} {size : Nat} {tx : TypeId} {x : Value} {n : Nat} {news : List Value} {w : World} (h : Sc P el size tx x n news w) : news.length = n * size := by
  cases h with
  | sl h => exact h.newsLen
  | mk _ _ _ _ _ h6 _ _ h _ => rw [h]; simp [h6]
theorem zeroCells_eq {zs : List Value} {n : Nat} : Builtin.zeroCells zs.toArray n = (List.replicate n zs).flatten.toArray := rep_cells (by simp)
theorem wrap_nat {n : Nat} (h : n ≤ 1073741824) : IntKind.i64.wrap (n : Int) = n := wrap64 (by omega) (by omega)
theorem app_room {t tx ty el size : Nat} {inf : TypeInfo} {w : World} (ht : P.underlying t = some (.slice el)) (hi : P.info? el = some inf) (hsz : inf.size = size) {b off sLen sCap n : Nat} {x : Value} {news cur : List Value} {T : TypeId} (hs : Sc P el size tx x n news w)
    (hroom : sLen + n ≤ sCap) (hb : w.heap[b]? = some (.cells cur.toArray T (0, 0))) (hle : off + sLen * size + news.length ≤ cur.length) :
    ∃ h', (Builtin.append_ #[t, tx] ty #[.slice (some ⟨b, off, none⟩) sLen sCap, x]).run P w = .ok (.slice (some ⟨b, off, none⟩) (sLen + n) sCap) { w with heap := h' } ∧ h'.size = w.heap.size ∧ (∀ i, i ≠ b → h'[i]? = w.heap[i]?) ∧
      h'[b]? = some (.cells (cur.take (off + sLen * size) ++ news ++ cur.drop (off + sLen * size + news.length)).toArray T (0, 0)) := by
  obtain ⟨h', e1, e2, e3, e4⟩ := run_stores_bk (P := P) news (off + sLen * size) 0 cur w hb (by simpa using hle) hs.one
  refine ⟨h', ?_, e2, e3, by simpa using e4⟩
  subst hsz
  cases hs with
  | sl hs =>
    rcases hs.kind with ⟨e', hk⟩ | hk <;> simp [Builtin.append_, run_underlying ht, run_underlying hk, sizeOf, typeInfo, hi, hs.len, hroom, hs.cells, Addr.add_lit, e1]
  | mk hk hx hi' hz hzc hzl hby hn hnews _ =>
    rw [hi] at hi'
    cases hi'
    subst hx
    have hw := wrap_nat hn
    have hlt : ¬ ((n : Int) < 0) := by omega
    have hbig : ¬ ((n : Int) * inf.bytes > 281474976710656) := by
      have : n * inf.bytes ≤ 1073741824 * 1024 := Nat.mul_le_mul hn hby
      have h3 : ((n * inf.bytes : Nat) : Int) ≤ 281474976710656 := (by omega)
      rw [Int.natCast_mul] at h3
      omega
    by_cases h0 : n * inf.size = 0
    · have hnil : news = [] := by rw [hnews]; exact List.eq_nil_of_length_eq_zero (by simp [hzl, h0])
      subst hnil
      have e1' : h' = w.heap := by
        simp only [storeCells, Sem.run_pure] at e1
        injection e1 with _ h2
        exact (congrArg World.heap h2).symm
      subst e1'
      simp [Builtin.append_, run_underlying ht, run_underlying hk, sizeOf, typeInfo, hi, asInt, asIntOf, hw, hbig, hroom, h0, storeCells]
      exact fun hh => absurd hh hlt
    · simp [Builtin.append_, run_underlying ht, run_underlying hk, sizeOf, typeInfo, zeroValue, hi, hz, asInt, asIntOf, hw, hbig, hroom, h0, Addr.add_lit, hzc, zeroCells_eq, ← hnews, e1]
      exact fun hh => absurd hh hlt
theorem app_grow {t tx ty el size : Nat} {inf : TypeInfo} {z : Value} {zs : List Value} {w : World} (ht : P.underlying t = some (.slice el)) (hi : P.info? el = some inf) (hz : inf.zero = some z) (hzc : z.cells = zs.toArray) (hzl : zs.length = size) (hby : inf.bytes ≤ 1024) (hsz : inf.size = size) {base : Option Addr} {sLen sCap n : Nat} {x : Value} {news olds : List Value} (hs : Sc P el size tx x n news w)
    (hold : (Builtin.firstCells size sLen (.slice base sLen sCap)).run P w.drew = .ok olds.toArray w.drew) (hg : sCap < sLen + n) (hq : sLen + n ≤ 1073741824) :
    ∃ c, sLen + n ≤ c ∧ c ≤ maxLen ∧ ∃ rest, rest.length = (c - (sLen + n)) * size ∧ (Builtin.append_ #[t, tx] ty #[.slice base sLen sCap, x]).run P w = .ok (.slice (some ⟨w.heap.size, 0, none⟩) (sLen + n) c) { w with heap := w.heap.push (.cells (olds ++ news ++ rest).toArray el), drawn := w.drawn + 1 } := by
  have hfit : Builtin.nextslicecap (sLen + n) sCap * inf.bytes ≤ 281474976710656 := by
    have h1 := nextslicecap_le hg
    have : Builtin.nextslicecap (sLen + n) sCap * inf.bytes ≤ (2 * (sLen + n)) * 1024 := Nat.mul_le_mul h1 hby
    omega
  refine ⟨grownCap w (sLen + n) sCap el, grownCap_ge w _ _ _, grownCap_le_maxLen w _ _ _ (by simp only [maxLen]; omega), (List.replicate (grownCap w (sLen + n) sCap el - (sLen + n)) zs).flatten, by simp [hzl], ?_⟩
  have hzz : Builtin.zeroCells z.cells (grownCap w (sLen + n) sCap el - (sLen + n)) = (List.replicate (grownCap w (sLen + n) sCap el - (sLen + n)) zs).flatten.toArray := by rw [hzc, zeroCells_eq]
  subst hsz
  cases hs with
  | sl hs =>
    have := run_append_grow_src (P := P) w t tx ty el inf z ht hi hz base sLen sCap olds hold x n news hs hg (by omega) hfit
    rw [this, hzz, List.append_toArray]
    rfl
  | @mk k1 k2 inf2 zv2 zs2 hk hx hi' hz' hzc' hzl' hby' hn hnews _ =>
    rw [hi] at hi'
    cases hi'
    rw [hz] at hz'
    cases hz'
    subst hx
    rw [hzc] at hzc'
    have hzeq : zs = zs2 := by simpa using hzc'
    have hw := wrap_nat hn
    have hlt : ¬ ((n : Int) < 0) := by omega
    have hbig : ¬ ((n : Int) * inf.bytes > 281474976710656) := by
      have : n * inf.bytes ≤ 1073741824 * 1024 := Nat.mul_le_mul hn hby
      have h3 : ((n * inf.bytes : Nat) : Int) ≤ 281474976710656 := (by omega)
      rw [Int.natCast_mul] at h3
      omega
    have hnr : ¬ (sLen + n ≤ sCap) := by omega
    have h63' : ¬ (9223372036854775807 < ((sLen : Int) + (n : Int))) := by omega
    have h48' : ¬ (281474976710656 < Builtin.nextslicecap (sLen + n) sCap * inf.bytes) := by omega
    have hzz' := hzz
    simp only [grownCap] at hzz'
    by_cases h0 : n * inf.size = 0
    · have hnil : news = [] := by rw [hnews]; exact List.eq_nil_of_length_eq_zero (by rw [← hzeq]; simp [hzl, h0])
      subst hnil
      simp [Builtin.append_, run_underlying ht, run_underlying hk, sizeOf, typeInfo, zeroValue, hi, hz, asInt, asIntOf, hw, hlt, hbig, hnr, h63', h48', Question.forced, hold, newRow, grownCap, h0]
      rw [hzz', List.append_toArray]
      rfl
    · have hzn : Builtin.zeroCells z.cells n = news.toArray := by rw [hzc, zeroCells_eq, hnews, hzeq]
      simp [Builtin.append_, run_underlying ht, run_underlying hk, sizeOf, typeInfo, zeroValue, hi, hz, asInt, asIntOf, hw, hlt, hbig, hnr, h63', h48', Question.forced, hold, newRow, grownCap, h0]
      rw [hzz', hzn, List.append_toArray, List.append_toArray]
      rfl
theorem app_nothing {t tx ty el size : Nat} {inf : TypeInfo} {w : World} (ht : P.underlying t = some (.slice el)) (hi : P.info? el = some inf) (hsz : inf.size = size) {base : Option Addr} {sLen sCap : Nat} {x : Value} (hs : Sc P el size tx x 0 [] w) (hle : sLen ≤ sCap) :
    (Builtin.append_ #[t, tx] ty #[.slice base sLen sCap, x]).run P w = .ok (.slice base sLen sCap) w := by
  subst hsz
  cases hs with
  | sl hs => exact run_append_nothing w t tx ty el inf ht hi base sLen sCap hle x hs
  | @mk k1 k2 inf2 zv2 zs2 hk hx hi' hz' hzc' hzl' hby' hn hnews _ =>
    subst hx
    have hw : IntKind.i64.wrap 0 = 0 := by decide
    cases base <;> simp [Builtin.append_, run_underlying ht, run_underlying hk, sizeOf, typeInfo, hi, asInt, asIntOf, hw, hle, storeCells]
end Ry
end Go.TP
