/- Frames: how many of the first ones are right; what is handed out; what is wrong, one by one; the loops' next states. -/
import Derived.Test.YtemmcnbfajlljaaGreatDoorFrm
namespace Go.Proofs.YtemmcnbfajlljaaGreatDoor
open Go Go.TP Go.TP.Ry
theorem bad_le (l : List Int) (a : Int) : ∀ c, bad l a c ≤ c
  | 0 => Nat.le_refl _
  | c + 1 => by
    have := bad_le l a c
    rw [bad]
    split <;> omega
theorem bad_next {l : List Int} {a : Int} {k : Nat} (h : bad l a k = k) (h0 : (fEP l (ats l a k)).1 = 0) : bad l a (k + 1) = k + 1 := by rw [bad, if_pos ⟨h, h0⟩]
theorem bad_stop {l : List Int} {a : Int} {k : Nat} (h : bad l a k = k) (h0 : (fEP l (ats l a k)).1 ≠ 0) : ∀ d, bad l a (k + 1 + d) = k
  | 0 => by rw [Nat.add_zero, bad, if_neg (fun h' => h0 h'.2), h]
  | d + 1 => by
    have := bad_stop h h0 d
    rw [← Nat.add_assoc, bad, if_neg (by rw [this]; omega), this]
theorem bad_at {l : List Int} {a : Int} {k c : Nat} (h : bad l a k = k) (h0 : (fEP l (ats l a k)).1 ≠ 0) (hk : k < c) : bad l a c = k := by
  have := bad_stop h h0 (c - k - 1)
  rwa [show k + 1 + (c - k - 1) = c by omega] at this
/-! What is handed out. -/
theorem mad_err {w : Int × List Int × Int} {H' : AH} {po pi : Pth} {s s' : Nat} {x1 x2 x3 y1 : AV} (ho : getT H'.blocks po = some (.cells 83 .shut s [x1, x2, x3, .X (.ifc 81 (.P pi 0))])) (hi : getT H'.blocks pi = some (.cells 83 .shut s' [y1, .X (.str []), .I .i64 0, .X .nili]))
    (h1 : pureX x1 = true) (h2 : pureX x2 = true) (h3 : pureX x3 = true) (h4 : pureX y1 = true) (f1 : Fit x1 (.X (.si .i64 w.1))) (f2 : Fit x2 (.X (.bs false w.2.1))) (f3 : Fit x3 (.X (.si .i64 w.2.2))) (f4 : Fit y1 (.X (.si .i64 w.1)))
    (n1 : 10 ≤ num po) (n2 : 10 ≤ num pi) (hne : po ≠ pi) : Mad 10 (.X (.tup [.X .nils, .X (.ifc 81 (.P po 0))])) H' errV (errB w) := by
  intro n0
  have hs0 : sig n0 [(po, outErr w.1 w.2.1 w.2.2 (Pth.succ n0)), (pi, inErr w.1)] n0 = some po := by rw [sig, if_pos rfl]
  have hs1 : sig n0 [(po, outErr w.1 w.2.1 w.2.2 (Pth.succ n0)), (pi, inErr w.1)] (Pth.succ n0) = some pi := by
    rw [sig, if_neg (fun h => by have := congrArg num h; rw [num_succ] at this; omega), sig, if_pos rfl]
  refine ⟨[(po, outErr w.1 w.2.1 w.2.2 (Pth.succ n0)), (pi, inErr w.1)], rfl, ?_, fun x hx => ?_, ?_⟩
  · exact List.nodup_cons.2 ⟨fun h => hne (List.mem_singleton.1 h), List.nodup_cons.2 ⟨fun h => (by cases h), List.nodup_nil⟩⟩
  · rcases List.mem_cons.1 hx with rfl | hx
    · exact ⟨n1, _, _, _, _, _, _, ho, rfl, .cons ((LowF.pure h1).fit f1) (.cons ((LowF.pure h2).fit f2) (.cons ((LowF.pure h3).fit f3) (.cons (.ifc (.ptr (by rw [num_succ]; omega) hs1)) .nil)))⟩
    · obtain rfl := List.mem_singleton.1 hx
      exact ⟨n2, _, _, _, _, _, _, hi, rfl, .cons ((LowF.pure h4).fit f4) (.cons (.pure rfl) (.cons (.pure rfl) (.cons (.pure rfl) .nil)))⟩
  · exact .tup (.cons (.pure rfl) (.cons (.ifc (.ptr (Nat.le_refl _) hs0)) .nil))
theorem mad_ok {T s : Nat} {H' : AH} {p : Pth} {n n' : Int} {cs : List AV} {l : List Int} {x y : AV} (h : getT H'.blocks p = some (.cells T (.op 2) s cs)) (hc : cs = seqA .i64 l) (hn : n = n') (h1 : Pur x) (f1 : Fit x y) (hp : 10 ≤ num p) :
    Mad 10 (.X (.tup [.X (.ss p 0 n (some 0)), x])) H' (fun n0 => .X (.tup [.X (.ss n0 0 n' (some 0)), y])) (fun _ => [outB T l]) := by
  intro n0
  subst hn hc
  refine ⟨[(p, outB T l)], rfl, List.nodup_cons.2 ⟨fun h => (by cases h), List.nodup_nil⟩, fun x hx => ?_, ?_⟩
  · obtain rfl := List.mem_singleton.1 hx
    exact ⟨hp, _, _, _, _, _, _, h, rfl, LowFs.pure fun v hv => by obtain ⟨_, _, rfl⟩ := List.mem_map.1 hv; rfl⟩
  · exact .tup (.cons (.ss (Nat.le_refl _) (by rw [sig, if_pos rfl])) (.cons ((LowF.pur h1).fit f1) .nil))
theorem frQ_err {l : List Int} {v : AV} {H' : AH} {w : Int × List Int × Int} (hw : frW l = w) (h : w.1 ≠ 0) (hm : Mad 10 v H' errV (errB w)) : frQ l v H' := by
  subst hw
  exact ⟨fun _ => hm, fun h' => absurd h' h, fun h' => absurd h' h⟩
theorem frQ_nil {l : List Int} {v : AV} {H' : AH} (hw : (frW l).1 = 0) (hc : cntL l = 0) (h1 : Pur v) (h2 : Fit v (.X (.tup [.X .nils, .X .nili]))) : frQ l v H' := ⟨fun h => absurd hw h, fun _ _ => ⟨h1, h2⟩, fun _ h => absurd hc h⟩
theorem frQ_ok {l : List Int} {v : AV} {H' : AH} (hw : (frW l).1 = 0) (hc : cntL l ≠ 0) (hm : Mad 10 v H' (fun n0 => .X (.tup [.X (.ss n0 0 (cntL l) (some 0)), .X .nili])) (fun _ => [outB 49 (frL l)])) : frQ l v H' := ⟨fun h => absurd hw h, fun _ h => absurd h hc, fun _ _ => hm⟩
theorem rfQ_err {l : List Int} {v : AV} {H' : AH} {w : Int × List Int × Int} (hw : frW l = w) (h : w.1 ≠ 0) (h1 : Pur v) (h2 : Fit v (.X (.tup [.X .nils, wroV w]))) : rfQ l v H' := by
  subst hw
  exact ⟨fun _ => ⟨h1, h2⟩, fun h' => absurd h' h, fun h' => absurd h' h⟩
theorem rfQ_nil {l : List Int} {v : AV} {H' : AH} (hw : (frW l).1 = 0) (hc : cntL l = 0) (h1 : Pur v) (h2 : Fit v (.X (.tup [.X .nils, wroV (frW l)]))) : rfQ l v H' := ⟨fun h => absurd hw h, fun _ _ => ⟨h1, h2⟩, fun _ h => absurd hc h⟩
theorem rfQ_ok {l : List Int} {v : AV} {H' : AH} (hw : (frW l).1 = 0) (hc : cntL l ≠ 0) (hm : Mad 10 v H' (fun n0 => .X (.tup [.X (.ss n0 0 (cntL l) (some 0)), wroV (frW l)])) (fun _ => [outB 50 (frL l)])) : rfQ l v H' := ⟨fun h => absurd hw h, fun _ h => absurd h hc, fun _ _ => hm⟩
/-! What is wrong, one by one. -/
section
variable {l : List Int}
/-- All is right ahead of the frames. -/
structure HdOk (l : List Int) (e0 n0 u0 e1 n1 u1 e2 n2 u2 : Int) : Prop where
  g0 : e0 = geL (l.drop 2) ∧ n0 = gnL (l.drop 2) ∧ u0 = guL (l.drop 2)
  g1 : e1 = geL (l.drop (2 + u0).toNat) ∧ n1 = gnL (l.drop (2 + u0).toNat) ∧ u1 = guL (l.drop (2 + u0).toNat)
  g2 : e2 = geL (l.drop (2 + u0 + u1).toNat) ∧ n2 = gnL (l.drop (2 + u0 + u1).toNat) ∧ u2 = guL (l.drop (2 + u0 + u1).toNat)
theorem HdOk.eqs {e0 n0 u0 e1 n1 u1 e2 n2 u2 : Int} (h : HdOk l e0 n0 u0 e1 n1 u1 e2 n2 u2) : hA l = 2 + u0 ∧ hB l = 2 + u0 + u1 ∧ hC l = 2 + u0 + u1 + u2 ∧ cntL l = n2 := by
  obtain ⟨⟨_, _, a⟩, ⟨_, _, b⟩, ⟨_, c, d⟩⟩ := h
  have h1 : hA l = 2 + u0 := by unfold hA; rw [a]
  have h2 : hB l = 2 + u0 + u1 := by unfold hB; rw [h1, b]
  have h3 : hC l = 2 + u0 + u1 + u2 := by unfold hC; rw [h2, d]
  exact ⟨h1, h2, h3, by unfold cntL; rw [h2, c]⟩
theorem hd_bad {e : Int} {p : List Int} (h : hdEP l = (e, p)) (he : e ≠ 0) : frW l = (e, p, 0) := by
  unfold frW
  rw [if_pos (by rw [h]; exact he), h]
theorem hd_ok {e0 n0 u0 e1 n1 u1 e2 n2 u2 : Int} (h : HdOk l e0 n0 u0 e1 n1 u1 e2 n2 u2) (h0 : l.length ≠ 0) (h1 : l.getD 0 0 = 84) (h2 : l.length ≠ 1) (h3 : ¬ 1 < l.getD 1 0) (k0 : e0 = 0) (k1 : e1 = 0) (b0 : ¬ n0 < 1) (b1 : ¬ 1024 < n0) (b2 : ¬ n1 < 1) (b3 : ¬ 1048576 < n1) (k2 : e2 = 0) (b4 : ¬ 1024 < n2) : hdEP l = (0, []) := by
  obtain ⟨q1, q2, q3, q4⟩ := h.eqs
  obtain ⟨⟨p1, p2, p3⟩, ⟨p4, p5, p6⟩, ⟨p7, p8, p9⟩⟩ := h
  unfold hdEP
  rw [if_neg h0, if_neg (by simpa using h1), if_neg h2, if_neg h3, if_neg (by rw [← p1]; simpa using k0), q1, q2, if_neg (by rw [← p4]; simpa using k1), if_neg (by rw [← p2, ← p5]; omega), if_neg (by rw [← p7]; simpa using k2), if_neg (by rw [q4]; exact b4)]
theorem fr_stop {a : Int} {k c : Nat} (hd : hdEP l = (0, [])) (ha : hC l = a) (hc : (cntL l).toNat = c) (h : bad l a k = k) (hk : k < c) {e : Int} {p : List Int} (he : fEP l (ats l a k) = (e, p)) (he0 : e ≠ 0) : frW l = (e, p, (k : Int)) := by
  unfold frW
  rw [if_neg (by rw [hd]; simp), ha, hc]
  have hb := bad_at h (by rw [he]; exact he0) hk
  simp only [hb, if_pos hk, he]
theorem fr_end {a : Int} {c : Nat} (hd : hdEP l = (0, [])) (ha : hC l = a) (hc : (cntL l).toNat = c) (h : bad l a c = c) : frW l = if ats l a c ≠ l.length then (10, pEnd, 0) else (0, [], 0) := by
  unfold frW
  rw [if_neg (by rw [hd]; simp), ha, hc]
  simp only [h, Nat.lt_irrefl, if_false]
end
section
variable {l : List Int}
theorem hd_of {w : Int × List Int} (h : hdEP l = w) (hne : w.1 ≠ 0) : frW l = (w.1, w.2, 0) := hd_bad h hne
theorem hdE1 (h : (l.length : Int) = 0) : frW l = (16, pMark, 0) := hd_bad (by unfold hdEP; rw [if_pos (by omega)]) (by decide)
theorem hdE2 (h0 : (l.length : Int) ≠ 0) (h : l.getD 0 0 ≠ 84) : frW l = (10, pMark, 0) := hd_bad (by unfold hdEP; rw [if_neg (by omega), if_pos h]) (by decide)
theorem hdE3 (h1 : l.getD 0 0 = 84) (h : (l.length : Int) = 1) : frW l = (16, pVar, 0) := hd_bad (by unfold hdEP; rw [if_neg (by omega), if_neg (by omega), if_pos (by omega)]) (by decide)
theorem hdE4 (h0 : 1 < (l.length : Int)) (h1 : l.getD 0 0 = 84) (h : 1 < l.getD 1 0) : frW l = (25, pVar, 0) := hd_bad (by unfold hdEP; rw [if_neg (by omega), if_neg (by omega), if_neg (by omega), if_pos h]) (by decide)
theorem hdE5 {e0 : Int} (h0 : 1 < (l.length : Int)) (h1 : l.getD 0 0 = 84) (h3 : ¬ 1 < l.getD 1 0) (p0 : e0 = geL (l.drop 2)) (h : e0 ≠ 0) : frW l = (e0, pLim, 0) := by
  subst p0
  exact hd_bad (by unfold hdEP; rw [if_neg (by omega), if_neg (by omega), if_neg (by omega), if_neg h3, if_pos h]) h
/-- What is read there: an error, a number, how many bytes it has. -/
def At3 (d : List Int) (e n u : Int) : Prop := e = geL d ∧ n = gnL d ∧ u = guL d
variable {e0 n0 u0 e1 n1 u1 e2 n2 u2 : Int}
theorem hA_of (p0 : At3 (l.drop 2) e0 n0 u0) : hA l = 2 + u0 := by unfold hA; rw [p0.2.2]
theorem hB_of (p0 : At3 (l.drop 2) e0 n0 u0) (p1 : At3 (l.drop (2 + u0).toNat) e1 n1 u1) : hB l = 2 + u0 + u1 := by unfold hB; rw [hA_of p0, p1.2.2]
theorem hdE6 (h0 : 1 < (l.length : Int)) (h1 : l.getD 0 0 = 84) (h3 : ¬ 1 < l.getD 1 0) (p0 : At3 (l.drop 2) e0 n0 u0) (k0 : e0 = 0) (p1 : At3 (l.drop (2 + u0).toNat) e1 n1 u1) (h : e1 ≠ 0) : frW l = (e1, pLim, 0) := by
  refine hd_bad ?_ h
  have ha := hA_of p0
  obtain ⟨rfl, rfl, rfl⟩ := p0
  obtain ⟨rfl, rfl, rfl⟩ := p1
  unfold hdEP
  rw [if_neg (by omega), if_neg (by omega), if_neg (by omega), if_neg h3, if_neg (by omega), ha, if_pos h]
theorem hdE7 (h0 : 1 < (l.length : Int)) (h1 : l.getD 0 0 = 84) (h3 : ¬ 1 < l.getD 1 0) (p0 : At3 (l.drop 2) e0 n0 u0) (k0 : e0 = 0) (p1 : At3 (l.drop (2 + u0).toNat) e1 n1 u1) (k1 : e1 = 0) (h : n0 < 1 ∨ 1024 < n0 ∨ n1 < 1 ∨ 1048576 < n1) : frW l = (11, pLim, 0) := by
  refine hd_bad ?_ (by decide)
  have ha := hA_of p0
  obtain ⟨rfl, rfl, rfl⟩ := p0
  obtain ⟨rfl, rfl, rfl⟩ := p1
  unfold hdEP
  rw [if_neg (by omega), if_neg (by omega), if_neg (by omega), if_neg h3, if_neg (by omega), ha, if_neg (by omega), if_pos h]
theorem hdE8 (h0 : 1 < (l.length : Int)) (h1 : l.getD 0 0 = 84) (h3 : ¬ 1 < l.getD 1 0) (p0 : At3 (l.drop 2) e0 n0 u0) (k0 : e0 = 0) (p1 : At3 (l.drop (2 + u0).toNat) e1 n1 u1) (k1 : e1 = 0) (b : ¬ (n0 < 1 ∨ 1024 < n0 ∨ n1 < 1 ∨ 1048576 < n1)) (p2 : At3 (l.drop (2 + u0 + u1).toNat) e2 n2 u2) (h : e2 ≠ 0) : frW l = (e2, pChu, 0) := by
  refine hd_bad ?_ h
  have ha := hA_of p0
  have hb := hB_of p0 p1
  obtain ⟨rfl, rfl, rfl⟩ := p0
  obtain ⟨rfl, rfl, rfl⟩ := p1
  obtain ⟨rfl, rfl, rfl⟩ := p2
  unfold hdEP
  rw [if_neg (by omega), if_neg (by omega), if_neg (by omega), if_neg h3, if_neg (by omega), ha, hb, if_neg (by omega), if_neg b, if_pos h]
theorem hdE9 (h0 : 1 < (l.length : Int)) (h1 : l.getD 0 0 = 84) (h3 : ¬ 1 < l.getD 1 0) (p0 : At3 (l.drop 2) e0 n0 u0) (k0 : e0 = 0) (p1 : At3 (l.drop (2 + u0).toNat) e1 n1 u1) (k1 : e1 = 0) (b : ¬ (n0 < 1 ∨ 1024 < n0 ∨ n1 < 1 ∨ 1048576 < n1)) (p2 : At3 (l.drop (2 + u0 + u1).toNat) e2 n2 u2) (k2 : e2 = 0) (h : 1024 < n2) : frW l = (12, pChu, 0) := by
  refine hd_bad ?_ (by decide)
  have ha := hA_of p0
  have hb := hB_of p0 p1
  have hc := HdOk.eqs ⟨p0, p1, p2⟩
  obtain ⟨rfl, rfl, rfl⟩ := p0
  obtain ⟨rfl, rfl, rfl⟩ := p1
  obtain ⟨rfl, rfl, rfl⟩ := p2
  unfold hdEP
  rw [if_neg (by omega), if_neg (by omega), if_neg (by omega), if_neg h3, if_neg (by omega), ha, hb, if_neg (by omega), if_neg b, if_neg (by omega), if_pos (by rw [hc.2.2.2]; exact h)]
/-- All ahead of the k-th frame is right; it begins at m. -/
structure At (l : List Int) (a c k m : Int) : Prop where
  hd : hdEP l = (0, [])
  ha : hC l = a
  hc : cntL l = c
  k0 : 0 ≤ k
  hb : bad l a k.toNat = k.toNat
  hm : m = ats l a k.toNat
theorem at0 (h0 : 1 < (l.length : Int)) (h1 : l.getD 0 0 = 84) (h3 : ¬ 1 < l.getD 1 0) (p0 : At3 (l.drop 2) e0 n0 u0) (k0 : e0 = 0) (p1 : At3 (l.drop (2 + u0).toNat) e1 n1 u1) (k1 : e1 = 0) (b : ¬ (n0 < 1 ∨ 1024 < n0 ∨ n1 < 1 ∨ 1048576 < n1)) (p2 : At3 (l.drop (2 + u0 + u1).toNat) e2 n2 u2) (k2 : e2 = 0) (h : ¬ 1024 < n2) : At l (2 + u0 + u1 + u2) n2 0 (2 + u0 + u1 + u2) := by
  have hh : HdOk l e0 n0 u0 e1 n1 u1 e2 n2 u2 := ⟨p0, p1, p2⟩
  exact ⟨hd_ok hh (by omega) h1 (by omega) h3 k0 k1 (by omega) (by omega) (by omega) (by omega) k2 h, hh.eqs.2.2.1, hh.eqs.2.2.2, Int.le_refl _, rfl, rfl⟩
variable {a c k m : Int}
theorem At.next {i m' : Int} (h : At l a c k m) (h0 : 0 ≤ i) (hb : bad l a i.toNat = i.toNat) (hm : m' = ats l a i.toNat) : At l a c i m' := ⟨h.hd, h.ha, h.hc, h0, hb, hm⟩
theorem frS {e : Int} {p : List Int} (h : At l a c k m) (hk : k < c) (he : fEP l m = (e, p)) (hne : e ≠ 0) : frW l = (e, p, k) := by
  have k0 := h.k0
  have hh := fr_stop h.hd h.ha (congrArg Int.toNat h.hc) h.hb (by omega) (e := e) (p := p) (by rw [← h.hm]; exact he) hne
  rwa [show ((k.toNat : Nat) : Int) = k from Int.toNat_of_nonneg h.k0] at hh
theorem frZ (h : At l a c k m) (hk : k = c) (hne : m ≠ l.length) : frW l = (10, pEnd, 0) := by
  subst hk
  rw [fr_end h.hd h.ha (congrArg Int.toNat h.hc) h.hb, ← h.hm, if_pos hne]
theorem frZ0 (h : At l a c 0 m) (hc : ¬ 0 < c) (hn : 0 ≤ c) (hne : m ≠ l.length) : frW l = (10, pEnd, 0) := frZ h (by omega) hne
theorem frO (h : At l a c k m) (hk : k = c) (hne : m = l.length) : frW l = (0, [], 0) := by
  subst hk
  rw [fr_end h.hd h.ha (congrArg Int.toNat h.hc) h.hb, ← h.hm, if_neg (fun h => h hne)]
variable {e n u : Int}
theorem fE1 (p : At3 (l.drop m.toNat) e n u) (h : e ≠ 0) : fEP l m = (e, pLen) := by
  obtain ⟨rfl, rfl, rfl⟩ := p
  unfold fEP
  dsimp only
  rw [if_pos h]
theorem fE2 (p : At3 (l.drop m.toNat) e n u) (h0 : e = 0) (h : 2097152 < n) : fEP l m = (17, pLen) := by
  obtain ⟨rfl, rfl, rfl⟩ := p
  unfold fEP
  dsimp only
  rw [if_neg (by omega), if_pos h]
theorem fE3 (p : At3 (l.drop m.toNat) e n u) (h0 : e = 0) (h1 : ¬ 2097152 < n) (h : (l.length : Int) - (m + u) < n) : fEP l m = (16, pPay) := by
  obtain ⟨rfl, rfl, rfl⟩ := p
  unfold fEP
  dsimp only
  rw [if_neg (by omega), if_neg h1, if_pos h]
theorem fE4 (p : At3 (l.drop m.toNat) e n u) (h0 : e = 0) (h1 : ¬ 2097152 < n) (h2 : ¬ (l.length : Int) - (m + u) < n) (h : (l.length : Int) - (m + u) - n < 4) : fEP l m = (16, pSum) := by
  obtain ⟨rfl, rfl, rfl⟩ := p
  unfold fEP
  dsimp only
  rw [if_neg (by omega), if_neg h1, if_neg h2, if_pos h]
theorem fE5 (p : At3 (l.drop m.toNat) e n u) (h0 : e = 0) (h1 : ¬ 2097152 < n) (h2 : ¬ (l.length : Int) - (m + u) < n) (h3 : ¬ (l.length : Int) - (m + u) - n < 4) (h : fourL (cSum ((l.drop (m + u).toNat).take n.toNat)) ≠ (l.drop (m + u + n).toNat).take 4) : fEP l m = (27, pSum) := by
  obtain ⟨rfl, rfl, rfl⟩ := p
  unfold fEP
  dsimp only
  rw [if_neg (by omega), if_neg h1, if_neg h2, if_neg h3, if_pos h]
theorem fE6 (p : At3 (l.drop m.toNat) e n u) (h0 : e = 0) (h1 : ¬ 2097152 < n) (h2 : ¬ (l.length : Int) - (m + u) < n) (h3 : ¬ (l.length : Int) - (m + u) - n < 4) (h : fourL (cSum ((l.drop (m + u).toNat).take n.toNat)) = (l.drop (m + u + n).toNat).take 4) : fEP l m = (0, []) := by
  obtain ⟨rfl, rfl, rfl⟩ := p
  unfold fEP
  dsimp only
  rw [if_neg (by omega), if_neg h1, if_neg h2, if_neg h3, if_neg (fun h' => h' h)]
theorem pays_len (l : List Int) (a : Int) : ∀ k, (pays l a k).length = 2 * k
  | 0 => rfl
  | k + 1 => by rw [pays, List.length_append, pays_len l a k]; simp; omega
/-- One more is right. -/
theorem nextB {j n' : Int} {t u' : List Int} {ll : List (List Int)} (h : At l a c k m) (hk : k < c) (p : At3 (l.drop m.toNat) e n u) (hz : fEP l m = (0, [])) (m0 : 0 ≤ m) (n0 : 0 ≤ n) (u0 : 0 ≤ u) (hl : m + u + n + 4 ≤ l.length) :
    opB l a c ⟨k + 1, j, m + u + n + 4, n', pays l a k.toNat ++ [m + u, n], t, u', ll⟩ := by
  have hk1 : (k + 1).toNat = k.toNat + 1 := by have := h.k0; omega
  have k0 := h.k0
  refine ⟨by dsimp only; omega, by dsimp only; omega, ?_, ?_, ?_, by dsimp only; omega, hl⟩
  · dsimp only
    rw [hk1]
    exact bad_next h.hb (by rw [← h.hm, hz])
  · dsimp only
    rw [hk1, ats, nxt, ← h.hm, ← p.2.1, ← p.2.2]
  · dsimp only
    rw [hk1, pays, ← h.hm, ← p.2.1, ← p.2.2]
/-- This one is not. -/
theorem nextC {m' n' : Int} {s pl u' : List Int} {ll : List (List Int)} (h : At l a c k m) (hk : k < c) (hz : fEP l m = (e, pl)) (hne : e ≠ 0) : opC l a c ⟨k + 1, e, m', n', s, pl, u', ll⟩ := by
  have k0 := h.k0
  have hk1 : (k + 1 - 1).toNat = k.toNat := by omega
  refine ⟨by dsimp only; omega, by dsimp only; omega, ?_, ?_, ?_, hne⟩
  · dsimp only
    rw [hk1]; exact h.hb
  · dsimp only
    rw [hk1, ← h.hm, hz]
  · dsimp only
    rw [hk1, ← h.hm, hz]
end
theorem ltN {a b : Nat} (h : Nat.blt a b = true) : a < b := Nat.le_of_ble_eq_true h
theorem leN {a b : Nat} (h : Nat.ble a b = true) : a ≤ b := Nat.le_of_ble_eq_true h
/-! Blocks as they were and as they are told. -/
section
variable {n : Nat} {σ : Pth → Option Pth}
theorem chN {t0 t : PT AB} : chTR n σ t0 t .nil := trivial
theorem chD {t0 t l r : PT AB} {v : Option AB} (h1 : chBR n σ (topT t0) (topT t) v) (h2 : chTR n σ (leftT t0) (leftT t) l) (h3 : chTR n σ (rightT t0) (rightT t) r) : chTR n σ t0 t (.node v l r) := ⟨h1, h2, h3⟩
theorem chZ {v0 v : Option AB} : chBR n σ v0 v none := trivial
theorem chS {T0 T s0 s s' : Nat} {m0 m : Md} {cs0 cs cs' : List AV} (h : LowRs n σ cs cs') (hs : s' = s ∨ s0 < s') : chBR n σ (some (.cells T0 m0 s0 cs0)) (some (.cells T m s cs)) (some (.cells T m s' cs')) := ⟨_, _, rfl, h, hs⟩
theorem lowPurs : ∀ {l : List AV}, pureL l = true → LowRs n σ l l
  | [], _ => .nil
  | v :: l, hp => by
    have hp : Bool.rec (motive := fun _ => Bool) false (pureL l) (pureX v) = true := hp
    cases hx : pureX v with
    | false => rw [hx] at hp; cases hp
    | true => rw [hx] at hp; exact .cons (.pure hx) (lowPurs hp)
theorem lowSeq {k : IntKind} {l : List Int} : LowRs n σ (seqA k l) (seqA k l) := .pure fun v hv => by obtain ⟨_, _, rfl⟩ := List.mem_map.1 hv; rfl
theorem lowApp : ∀ {l l' m m' : List AV}, LowRs n σ l l' → LowRs n σ m m' → LowRs n σ (l ++ m) (l' ++ m')
  | _, _, _, _, .nil, h => h
  | _, _, _, _, .cons h1 h2, h => .cons h1 (lowApp h2 h)
theorem lowErrT (hn : 5 ≤ n) : LowRs n σ errT errT := .cons (.ifc (.agg (.cons (.ptr (Nat.lt_of_lt_of_le (by decide) hn)) .nil))) .nil
theorem lowMore {s s0 : List Int} {q x' y' : Int} {x y : AV} (hs : s = s0) (hq : q = s0.length) (hx : pureX x = true) (hy : pureX y = true) (fx : Fit x (.X (.si .i64 x'))) (fy : Fit y (.X (.si .i64 y'))) : LowRs n σ (List.take q.toNat (seqA .i64 s) ++ [x, y]) (seqA .i64 (s0 ++ [x', y'])) := by
  subst hs
  have : seqA .i64 (s ++ [x', y']) = seqA .i64 s ++ [.X (.si .i64 x'), .X (.si .i64 y')] := by simp [seqA]
  rw [this, List.take_of_length_le (by rw [seqA_length]; omega)]
  exact lowApp lowSeq (.cons ((LowR.pure hx).fit fx) (.cons ((LowR.pure hy).fit fy) .nil))
theorem lowTwo {x' y' : Int} {x y : AV} (hx : pureX x = true) (hy : pureX y = true) (fx : Fit x (.X (.si .i64 x'))) (fy : Fit y (.X (.si .i64 y'))) : LowRs n σ [x, y] (seqA .i64 ([] ++ [x', y'])) := .cons ((LowR.pure hx).fit fx) (.cons ((LowR.pure hy).fit fy) .nil)
end
/-! What is wrong, as a struct. -/
theorem rfE {l : List Int} {c p n : AV} {H' : AH} {w : Int × List Int × Int} (hw : frW l = w) (h : w.1 ≠ 0) (h1 : pureX c = true) (h2 : pureX p = true) (h3 : pureX n = true) (f1 : Fit c (.X (.si .i64 w.1))) (f2 : Fit p (.X (.bs false w.2.1))) (f3 : Fit n (.X (.si .i64 w.2.2))) :
    rfQ l (.X (.tup [.X .nils, .X (.agg [c, p, n])])) H' :=
  rfQ_err hw h (Pur.tup (.cons (.x rfl) (.cons (Pur.agg (.cons (.x h1) (.cons (.x h2) (.cons (.x h3) .nil)))) .nil))) (Fit.tup (.cons Fit.rfl (.cons (Fit.agg (.cons f1 (.cons f2 (.cons f3 .nil)))) .nil)))
/-- A payload's frame, and its sum. -/
theorem szL_of {d : List Int} {e n u : Int} (p : At3 d e n u) (h : e = 0) : szL n = u := by
  obtain ⟨rfl, rfl, rfl⟩ := p
  have h0 := h
  unfold geL at h
  unfold gnL guL
  rw [if_pos h0, if_pos h0]
  split at h
  · cases h
  · split at h
    · cases h
    · rename_i hh; exact Classical.not_not.1 hh
theorem lenB_szL {n : Int} : ((lenB n).length : Int) = szL n := by
  unfold lenB szL
  split
  · rfl
  · split
    · rfl
    · split <;> rfl
theorem sel_drop {p : List Int} {q : Int} (hq : q = szL p.length + p.length) : (selL p).drop q.toNat = fourL (cSum p) := by
  have h := lenB_szL (n := (p.length : Int))
  unfold selL
  rw [List.drop_append_of_le_length (by rw [List.length_append]; omega), List.drop_of_length_le (by rw [List.length_append]; omega)]
  rfl
theorem fourL_isB (s : Int) : isB (fourL s) := by
  intro x hx
  simp only [fourL, List.mem_cons, List.not_mem_nil, or_false] at hx
  rcases hx with rfl | rfl | rfl | rfl <;> omega
theorem bytesZ_inj : ∀ {a b : List Int}, isB a → isB b → bytesZ a = bytesZ b → a = b
  | [], [], _, _, _ => rfl
  | [], _ :: _, _, _, h => by cases h
  | _ :: _, [], _, _, h => by cases h
  | x :: a, y :: b, ha, hb, h => by
    have h : UInt8.ofNat x.toNat :: bytesZ a = UInt8.ofNat y.toNat :: bytesZ b := h
    obtain ⟨h1, h2⟩ := List.cons.inj h
    have hx := ha x (List.mem_cons_self ..)
    have hy := hb y (List.mem_cons_self ..)
    have h3 := congrArg UInt8.toNat h1
    simp only [UInt8.toNat_ofNat'] at h3
    rw [bytesZ_inj (fun z hz => ha z (List.mem_cons_of_mem _ hz)) (fun z hz => hb z (List.mem_cons_of_mem _ hz)) h2, show x = y by omega]
theorem isB.drop {l : List Int} (h : isB l) (n : Nat) : isB (l.drop n) := fun x hx => h x (List.mem_of_mem_drop hx)
theorem sumNe {l : List Int} {m e n u : Int} {s : List Int} (p : At3 (l.drop m.toNat) e n u) (h0 : e = 0) (hs : s = selL ((l.drop (m + u).toNat).take n.toNat)) (hm : 0 ≤ m + u) (hn : 0 ≤ n) (hle : m + u + n ≤ l.length) (h : ¬ bytesZ (s.drop (u + n).toNat) = bytesZ ((l.drop (m + u + n).toNat).take 4)) :
    fourL (cSum ((l.drop (m + u).toNat).take n.toNat)) ≠ (l.drop (m + u + n).toNat).take 4 := fun he => h (by
  rw [hs, sel_drop (by rw [len_part hm hn hle, szL_of p h0]), he])
theorem sumEq {l : List Int} {m e n u : Int} {s : List Int} (hb : isB l) (p : At3 (l.drop m.toNat) e n u) (h0 : e = 0) (hs : s = selL ((l.drop (m + u).toNat).take n.toNat)) (hm : 0 ≤ m + u) (hn : 0 ≤ n) (hle : m + u + n ≤ l.length) (h : bytesZ (s.drop (u + n).toNat) = bytesZ ((l.drop (m + u + n).toNat).take 4)) :
    fourL (cSum ((l.drop (m + u).toNat).take n.toNat)) = (l.drop (m + u + n).toNat).take 4 := by
  rw [hs, sel_drop (by rw [len_part hm hn hle, szL_of p h0])] at h
  exact bytesZ_inj (fourL_isB _) ((hb.drop _).take _) h
theorem rfO0 {l : List Int} {a c m : Int} {H' : AH} (h : At l a c 0 m) (hc : 0 = c) (hm : m = l.length) : rfQ l (.X (.tup [.X .nils, .X (.agg [.I .i64 0, .X (.str []), .I .i64 0])])) H' := by
  have hw := frO h hc hm
  refine rfQ_nil (by rw [hw]) (by rw [h.hc]; exact hc.symm) (Pur.tup (.cons (.x rfl) (.cons (Pur.agg (.cons (.x rfl) (.cons (.x rfl) (.cons (.x rfl) .nil)))) .nil))) ?_
  rw [hw]
  exact Fit.tup (.cons Fit.rfl (.cons (Fit.agg (.cons (Fit.num rfl) (.cons (Fit.str rfl) (.cons (Fit.num rfl) .nil)))) .nil))
theorem rfO {l s : List Int} {a c k m : Int} {H' : AH} {p : Pth} (h : At l a c k m) (hk : k = c) (h0 : 0 < c) (hm : m = l.length) (hs : s = pays l a k.toNat) (hp : getT H'.blocks p = some (outB 50 s)) (hn : 10 ≤ num p) : rfQ l (.X (.tup [.X (.ss p 0 k (some 0)), .X (.agg [.I .i64 0, .X (.str []), .I .i64 0])])) H' := by
  have hw := frO h hk hm
  refine rfQ_ok (by rw [hw]) (by rw [h.hc]; omega) (mad_ok hp ?_ (by rw [h.hc]; exact hk) (Pur.agg (.cons (.x rfl) (.cons (.x rfl) (.cons (.x rfl) .nil)))) ?_ hn)
  · rw [hs, frL, h.ha, h.hc, hk]
  · rw [hw]
    exact Fit.agg (.cons (Fit.num rfl) (.cons (Fit.str rfl) (.cons (Fit.num rfl) .nil)))
theorem frO0 {l : List Int} {a c m : Int} {H' : AH} (h : At l a c 0 m) (hc : 0 = c) (hm : m = l.length) : frQ l (.X (.tup [.X .nils, .X .nili])) H' := by
  have hw := frO h hc hm
  exact frQ_nil (by rw [hw]) (by rw [h.hc]; exact hc.symm) (Pur.tup (.cons (.x rfl) (.cons (.x rfl) .nil))) Fit.rfl
theorem frOk {l s : List Int} {a c k m : Int} {H' : AH} {p : Pth} (h : At l a c k m) (hk : k = c) (h0 : 0 < c) (hm : m = l.length) (hs : s = pays l a k.toNat) (hp : getT H'.blocks p = some (outB 49 s)) (hn : 10 ≤ num p) : frQ l (.X (.tup [.X (.ss p 0 k (some 0)), .X .nili])) H' := by
  have hw := frO h hk hm
  refine frQ_ok (by rw [hw]) (by rw [h.hc]; omega) (mad_ok hp ?_ (by rw [h.hc]; exact hk) (.x rfl) Fit.rfl hn)
  rw [hs, frL, h.ha, h.hc, hk]
/-- What conditions are brought to. -/
theorem nrmF : (∀ (k : IntKind) (n : Int), asI (.X (.si k n)) = n) ∧ (∀ n : Int, 0 ≤ n → n < 256 → byteZ n = n) ∧ (∀ n : Int, -9223372036854775808 ≤ n → n < 9223372036854775808 → IntKind.i64.wrap n = n) ∧
    (∀ (k : IntKind) (l : List Int) (o : Int), isAt (.int k) (seqA k l) o ↔ 0 ≤ o ∧ o < l.length) ∧ (∀ (k : IntKind) (l : List Int) (o : Int), intAt (seqA k l) o = l.getD o.toNat 0) ∧ (∀ (k : IntKind) (l : List Int), (seqA k l).length = l.length) ∧
    (∀ (k : IntKind) (l : List Int) (o n : Int), partA (seqA k l) o n = seqA k ((l.drop o.toNat).take n.toNat)) ∧ (∀ (k : IntKind) (l : List Int), (seqA k l).map intOf = l) ∧ (∀ (T : Nat) (o : Int), relO .ro T o = o - T) ∧ (∀ a b : Int, a + b - a = b) ∧ (∀ a b c : Int, a + b + c - a = b + c) ∧
    (∀ (l : List Int) (a : Int), 0 ≤ a → List.take ((l.length : Int) - a).toNat (l.drop a.toNat) = l.drop a.toNat) ∧ (∀ l : List Int, List.take ((l.length : Int) - 2).toNat (l.drop 2) = l.drop 2) ∧
    (∀ (l : List Int) (a : Int), 0 ≤ a → a ≤ l.length → ((l.drop a.toNat).length : Int) = l.length - a) ∧ (∀ l : List Int, 2 ≤ (l.length : Int) → ((l.drop 2).length : Int) = l.length - 2) ∧
    (∀ (l : List Int) (a n : Int), 0 ≤ a → 0 ≤ n → a + n ≤ l.length → ((List.take n.toNat (l.drop a.toNat)).length : Int) = n) :=
  ⟨fun _ _ => rfl, fun _ => byteZ_id, fun _ => wrap_i64, fun _ _ _ => isAt_seqA, fun _ _ _ => intAt_seqA, fun _ _ => seqA_length, fun _ _ _ _ => partA_seqA, fun _ _ => map_intOf_seqA, relO_ro, acl, acl2, fun _ _ => take_rest, fun _ => take_rest2, fun _ _ => len_rest, fun _ => len_rest2, fun _ _ _ => len_part⟩
theorem nrmG : (∀ n : Int, IntKind.u8.wrap n = n % 256) ∧ (∀ a b : Int, 0 ≤ b → Int.fdiv a b = a / b) ∧ (∀ a : Int, a * 1 = a) ∧ (∀ a : Int, 0 * a = 0) ∧ (∀ a : Int, 1 * a = a) ∧ (∀ a : Int, a + 0 = a) ∧ (∀ a : Int, 0 + a = a) ∧ (∀ a : Int, a - a = 0) ∧ (∀ (T : Nat) (o : Int), relO .shut T o = o) ∧ (∀ a b c d : AV, partA [a, b, c, d] 0 4 = [a, b, c, d]) ∧ (∀ (k : IntKind) (n : Int), intOf (.X (.si k n)) = n) ∧ Int.toNat 0 = 0 ∧ Int.toNat 1 = 1 ∧ (∀ n : Nat, Int.ofNat n = (n : Int)) :=
  ⟨wrap_u8d, fun _ _ => fdiv_nn, Int.mul_one, Int.zero_mul, Int.one_mul, Int.add_zero, Int.zero_add, Int.sub_self, fun _ _ => rfl, fun _ _ _ _ => rfl, fun _ _ => rfl, rfl, rfl, fun _ => rfl⟩
theorem areI4 {a b c d : Int} : areI .u8 [.X (.si .u8 a), .X (.si .u8 b), .X (.si .u8 c), .X (.si .u8 d)] := by
  have : ([.X (.si .u8 a), .X (.si .u8 b), .X (.si .u8 c), .X (.si .u8 d)] : List AV) = seqA .u8 [a, b, c, d] := rfl
  rw [this]; exact areI_seqA
theorem neN {a b : Pth} (h : Nat.beq (num a) (num b) = false) : a ≠ b := fun he => by subst he; rw [show Nat.beq (num a) (num a) = true from Nat.beq_refl _] at h; cases h
theorem nodup3 {a b c : Pth} (h1 : a ≠ b) (h2 : a ≠ c) (h3 : b ≠ c) : [a, b, c].Nodup := List.nodup_cons.2 ⟨fun h => (by rcases List.mem_cons.1 h with h | h; exact h1 h; exact h2 (List.mem_singleton.1 h)), List.nodup_cons.2 ⟨fun h => h3 (List.mem_singleton.1 h), List.nodup_cons.2 ⟨fun h => (by cases h), List.nodup_nil⟩⟩⟩
theorem sumOf {l L R : List Int} {B n x : Int} (hx : x = cSum (List.take (n + 4 - 4 - 0).toNat (List.drop B.toNat l))) (hL : L = fourL x) (hR : R = List.take (n + 4 - (n + 4 - 4)).toNat (List.drop (B + (n + 4 - 4)).toNat l)) : L = fourL (cSum (List.take n.toNat (List.drop B.toNat l))) ∧ R = List.take 4 (List.drop (B + n).toNat l) := by
  have e1 : n + 4 - 4 - 0 = n := by omega
  have e2 : n + 4 - (n + 4 - 4) = 4 := by omega
  have e3 : n + 4 - 4 = n := by omega
  rw [e1] at hx
  rw [e2, e3] at hR
  exact ⟨by rw [hL, hx], hR⟩
theorem frC {l : List Int} {a c k m : Int} {g : Gh} (h : At l a c k m) (hg : opC l a c g) : frW l = (g.j, g.t, g.i - 1) := by
  obtain ⟨h1, h2, h3, h4, h5, h6⟩ := hg
  exact frS (m := ats l a (g.i - 1).toNat) (h.next (by omega) h3 rfl) (by omega) (by rw [h4, h5]) h6
end Go.Proofs.YtemmcnbfajlljaaGreatDoor
