/- Frames, as numbers and lists: what frame.Frames and tidepoleref24.Frames come to; their loops. -/
import Derived.Test.YtemmcnbfajlljaaGreatDoorSlaP
namespace Go.Proofs.YtemmcnbfajlljaaGreatDoor
open Go Go.TP Go.TP.Ry
theorem take_rest {l : List Int} {a : Int} (h : 0 ≤ a) : List.take ((l.length : Int) - a).toNat (l.drop a.toNat) = l.drop a.toNat := List.take_of_length_le (by rw [List.length_drop]; omega)
theorem take_rest2 {l : List Int} : List.take ((l.length : Int) - 2).toNat (l.drop 2) = l.drop 2 := List.take_of_length_le (by rw [List.length_drop]; omega)
theorem len_rest {l : List Int} {a : Int} (h : 0 ≤ a) (h2 : a ≤ l.length) : ((l.drop a.toNat).length : Int) = l.length - a := by rw [List.length_drop]; omega
theorem len_rest2 {l : List Int} (h2 : 2 ≤ (l.length : Int)) : ((l.drop 2).length : Int) = l.length - 2 := by rw [List.length_drop]; omega
theorem len_part {l : List Int} {a n : Int} (h : 0 ≤ a) (h1 : 0 ≤ n) (h2 : a + n ≤ l.length) : ((List.take n.toNat (l.drop a.toNat)).length : Int) = n := by rw [List.length_take, List.length_drop]; omega
def pMark : List Int := intsZ [109, 97, 114, 107]
def pVar : List Int := intsZ [118, 97, 114, 105, 97, 110, 116]
def pLim : List Int := intsZ [108, 105, 109, 105, 116, 115]
def pChu : List Int := intsZ [99, 104, 117, 110, 107, 115]
def pLen : List Int := intsZ [108, 101, 110, 103, 116, 104]
def pPay : List Int := intsZ [112, 97, 121, 108, 111, 97, 100]
def pSum : List Int := intsZ [115, 117, 109]
def pEnd : List Int := intsZ [101, 110, 100]
/-- What is wrong with the frame that begins there (0: nothing), and where. -/
def fEP (l : List Int) (a : Int) : Int × List Int :=
  let d := l.drop a.toNat
  let b := a + guL d
  if geL d ≠ 0 then (geL d, pLen) else if 2097152 < gnL d then (17, pLen)
  else if (l.length : Int) - b < gnL d then (16, pPay) else if (l.length : Int) - b - gnL d < 4 then (16, pSum)
  else if fourL (cSum ((l.drop b.toNat).take (gnL d).toNat)) ≠ (l.drop (b + gnL d).toNat).take 4 then (27, pSum) else (0, [])
def nxt (l : List Int) (a : Int) : Int := a + guL (l.drop a.toNat) + gnL (l.drop a.toNat) + 4
/-- Where the k-th frame begins, if all ahead of it are right; what is told of these. -/
def ats (l : List Int) (a : Int) : Nat → Int
  | 0 => a
  | k + 1 => nxt l (ats l a k)
def pays (l : List Int) (a : Int) : Nat → List Int
  | 0 => []
  | k + 1 => pays l a k ++ [ats l a k + guL (l.drop (ats l a k).toNat), gnL (l.drop (ats l a k).toNat)]
/-- How many of the first ones are right. -/
def bad (l : List Int) (a : Int) : Nat → Nat
  | 0 => 0
  | c + 1 => if bad l a c = c ∧ (fEP l (ats l a c)).1 = 0 then c + 1 else bad l a c
def hA (l : List Int) : Int := 2 + guL (l.drop 2)
def hB (l : List Int) : Int := hA l + guL (l.drop (hA l).toNat)
def hC (l : List Int) : Int := hB l + guL (l.drop (hB l).toNat)
def cntL (l : List Int) : Int := gnL (l.drop (hB l).toNat)
/-- What is wrong with what stands ahead of the frames. -/
def hdEP (l : List Int) : Int × List Int :=
  if l.length = 0 then (16, pMark) else if l.getD 0 0 ≠ 84 then (10, pMark) else if l.length = 1 then (16, pVar) else if 1 < l.getD 1 0 then (25, pVar)
  else if geL (l.drop 2) ≠ 0 then (geL (l.drop 2), pLim) else if geL (l.drop (hA l).toNat) ≠ 0 then (geL (l.drop (hA l).toNat), pLim)
  else if gnL (l.drop 2) < 1 ∨ 1024 < gnL (l.drop 2) ∨ gnL (l.drop (hA l).toNat) < 1 ∨ 1048576 < gnL (l.drop (hA l).toNat) then (11, pLim)
  else if geL (l.drop (hB l).toNat) ≠ 0 then (geL (l.drop (hB l).toNat), pChu) else if 1024 < cntL l then (12, pChu) else (0, [])
/-- What is wrong: its number, its place, the number there. -/
def frW (l : List Int) : Int × List Int × Int :=
  if (hdEP l).1 ≠ 0 then ((hdEP l).1, (hdEP l).2, 0)
  else
    let c := (cntL l).toNat
    let k := bad l (hC l) c
    if k < c then ((fEP l (ats l (hC l) k)).1, (fEP l (ats l (hC l) k)).2, k)
    else if ats l (hC l) c ≠ l.length then (10, pEnd, 0) else (0, [], 0)
def frL (l : List Int) : List Int := pays l (hC l) (cntL l).toNat
noncomputable section
/-- At a loop's head: so many are right. -/
def opB (l : List Int) (a c : Int) (g : Gh) : Prop := 1 ≤ g.i ∧ g.i ≤ c ∧ bad l a g.i.toNat = g.i.toNat ∧ g.m = ats l a g.i.toNat ∧ g.s = pays l a g.i.toNat ∧ 0 ≤ g.m ∧ g.m ≤ l.length
def opC (l : List Int) (a c : Int) (g : Gh) : Prop := 1 ≤ g.i ∧ g.i ≤ c ∧ bad l a (g.i - 1).toNat = (g.i - 1).toNat ∧ g.j = (fEP l (ats l a (g.i - 1).toNat)).1 ∧ g.t = (fEP l (ats l a (g.i - 1).toNat)).2 ∧ g.j ≠ 0
def outB (T : Nat) (s : List Int) : AB := .cells T (.op 2) 0 (seqA .i64 s)
def inErr (j : Int) : AB := .cells 83 .shut 0 [.X (.si .i64 j), .X (.str []), .I .i64 0, .X .nili]
def outErr (j : Int) (t : List Int) (n : Int) (p : Pth) : AB := .cells 83 .shut 0 [.X (.si .i64 j), .X (.bs false t), .X (.si .i64 n), .X (.ifc 81 (.P p 0))]
def asI (v : AV) : Int := match v with
  | .X (.si _ n) => n
  | .I _ n => n
  | _ => 0
theorem asI_si {k : IntKind} {n : Int} : asI (.X (.si k n)) = n := rfl
theorem byteZ_id {n : Int} (h0 : 0 ≤ n) (h1 : n < 256) : byteZ n = n := by unfold byteZ; omega
theorem keep {a b : Prop} (h : a) (k : a → b) : a ∧ b := ⟨h, k h⟩
theorem byC {a : Prop} (h : ¬ a → False) : a := Classical.byContradiction h
/-- The loop of frame.open: t0 the bytes, t2 the variant, t3 the limits, t4 what is out, t6 the reader, t7 how many, t8 which one. -/
def opnF (l : List Int) (vs : List AV) (H : AH) : List LHd := match vs with
  | [v0, v2, v3, v4, .P pr o, v7, v8] => match getT H.blocks pr with
    | some (.cells T m s [cb, cat, e]) => match e with
      | .X .nili => [⟨fun _ => True, fun _ => (asI v7).toNat + 2, fun _ => [v0, v2, v3, v4, .P pr o, v7, v8], fun _ => H⟩,
          ⟨fun g => opB l (asI cat) (asI v7) g, fun g => (asI v7 - g.i).toNat + 1, fun g => [v0, v2, v3, .X (.ss H.next 0 g.i (some 0)), .P pr o, v7, .X (.si .i64 g.i)],
            fun g => heapN H.next (setT (some (.cells T m (s + 1) [cb, .X (.si .i64 g.m), .X .nili])) pr H.blocks) [(.z, outB 49 g.s)]⟩,
          ⟨fun g => opC l (asI cat) (asI v7) g, fun _ => 0, fun g => [v0, v2, v3, .X (.ss H.next 0 g.i (some 0)), .P pr o, v7, .X (.si .i64 g.i)],
            fun g => heapN H.next (setT (some (.cells T m (s + 1) [cb, .X (.si .i64 g.m), .X (.ifc 81 (.P (Pth.succ H.next) 0))])) pr H.blocks) [(.z, outB 49 g.s), (.z, outErr g.j g.t (g.i - 1) (Pth.succ (Pth.succ H.next))), (.z, inErr g.j)]⟩]
      | _ => [⟨fun _ => True, fun _ => 0, fun _ => [v0, v2, v3, v4, .P pr o, v7, v8], fun _ => H⟩]
    | _ => []
  | _ => []
def opnH (l : List Int) : LH := ([0, 2, 3, 4, 6, 7, 8], opnF l)
/-- The loop of tidepoleref24.Frames: t0 the text, t3 what is wrong, t4 where, t5 the lengths, t11 what is out, t12 which one. -/
def rfrF (l : List Int) (vs : List AV) (H : AH) : List LHd := match vs with
  | [v0, v3, v4, .P pr o, v11, v12] => match getT H.blocks pr with
    | some (.cells _ _ _ [_, _, v7]) => [⟨fun _ => True, fun _ => (asI v7).toNat + 2, fun _ => [v0, v3, v4, .P pr o, v11, v12], fun _ => H⟩,
          ⟨fun g => opB l (asI v4) (asI v7) g, fun g => (asI v7 - g.i).toNat + 1, fun g => [v0, v3, .X (.si .i64 g.m), .P pr o, .X (.ss H.next 0 g.i (some 0)), .X (.si .i64 g.i)], fun g => heapN H.next H.blocks [(.z, outB 50 g.s)]⟩]
    | _ => []
  | _ => []
def rfrH (l : List Int) : LH := ([0, 3, 4, 5, 11, 12], rfrF l)
/-- What is handed out. -/
def errV (n0 : Pth) : AV := .X (.tup [.X .nils, .X (.ifc 81 (.P n0 0))])
def errB (w : Int × List Int × Int) (n0 : Pth) : List AB := [outErr w.1 w.2.1 w.2.2 (Pth.succ n0), inErr w.1]
def frQ (l : List Int) (v : AV) (H' : AH) : Prop := ((frW l).1 ≠ 0 → Mad 10 v H' errV (errB (frW l))) ∧
  ((frW l).1 = 0 → cntL l = 0 → Pur v ∧ Fit v (.X (.tup [.X .nils, .X .nili]))) ∧ ((frW l).1 = 0 → cntL l ≠ 0 → Mad 10 v H' (fun n0 => .X (.tup [.X (.ss n0 0 (cntL l) (some 0)), .X .nili])) (fun _ => [outB 49 (frL l)]))
def wroV (w : Int × List Int × Int) : AV := .X (.agg [.X (.si .i64 w.1), .X (.bs false w.2.1), .X (.si .i64 w.2.2)])
def rfQ (l : List Int) (v : AV) (H' : AH) : Prop := ((frW l).1 ≠ 0 → Pur v ∧ Fit v (.X (.tup [.X .nils, wroV (frW l)]))) ∧
  ((frW l).1 = 0 → cntL l = 0 → Pur v ∧ Fit v (.X (.tup [.X .nils, wroV (frW l)]))) ∧ ((frW l).1 = 0 → cntL l ≠ 0 → Mad 10 v H' (fun n0 => .X (.tup [.X (.ss n0 0 (cntL l) (some 0)), wroV (frW l)])) (fun _ => [outB 50 (frL l)]))
def hkF : Nat → Option (FD R) := fun f => match Nat.beq f 9 with
  | true => some getHook1
  | false => match Nat.beq f 57 with
    | true => some sumHook1
    | false => match Nat.beq f 84 with
      | true => some eqlHook
      | false => match Nat.beq f 10 with
        | true => some parHook1
        | false => match Nat.beq f 28 with
          | true => some sealHook
          | false => hk0 f
/-- errors.errorType. -/
def glE : List (Nat × Nat × List AV) := [(0, 0, errT)]
theorem hkF_ok : HookOk Tryz.prog hkF := by
  intro f g hg
  unfold hkF at hg
  split at hg
  · rename_i hb; obtain rfl := Nat.eq_of_beq_eq_true hb; cases hg; exact get_hook1
  split at hg
  · rename_i hb; obtain rfl := Nat.eq_of_beq_eq_true hb; cases hg; exact sum_hook1
  split at hg
  · rename_i hb; obtain rfl := Nat.eq_of_beq_eq_true hb; cases hg; exact eql_hook
  split at hg
  · rename_i hb; obtain rfl := Nat.eq_of_beq_eq_true hb; cases hg; exact par_hook1
  split at hg
  · rename_i hb; obtain rfl := Nat.eq_of_beq_eq_true hb; cases hg; exact seal_hook
  · exact hk0_ok f g hg
end
end Go.Proofs.YtemmcnbfajlljaaGreatDoor
