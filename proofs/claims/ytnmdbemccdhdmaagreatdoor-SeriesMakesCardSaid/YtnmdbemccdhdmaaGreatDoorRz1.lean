/- Ry is sound, part 1: what the pieces come to; values and heaps that are told. -/
import Derived.Test.YtnmdbemccdhdmaaGreatDoorRy
namespace Go.TP
open Go
namespace Ry
theorem Pth.beq_eq : ∀ {p q : Pth}, Pth.beq p q = true → p = q
  | .z, .z, _ => rfl
  | .a p, .a q, h => by rw [Pth.beq_eq (p := p) (q := q) h]
  | .b p, .b q, h => by rw [Pth.beq_eq (p := p) (q := q) h]
  | .z, .a _, h => by cases h
  | .z, .b _, h => by cases h
  | .a _, .z, h => by cases h
  | .b _, .z, h => by cases h
  | .a _, .b _, h => by cases h
  | .b _, .a _, h => by cases h
theorem Pth.beq_self : ∀ (p : Pth), Pth.beq p p = true
  | .z => rfl
  | .a p => Pth.beq_self p
  | .b p => Pth.beq_self p
noncomputable instance : DecidableEq Pth := fun p q => match h : Pth.beq p q with
  | true => isTrue (Pth.beq_eq h)
  | false => isFalse fun hh => by rw [hh, Pth.beq_self] at h; cases h
section
variable {R α : Type}

def getT : PT α → Pth → Option α
  | .nil, _ => none
  | .node v l r, p => match p with
    | .z => v
    | .a p => getT l p
    | .b p => getT r p
def setT (v : Option α) : Pth → PT α → PT α
  | .z, t => match t with
    | .nil => .node v .nil .nil
    | .node _ l r => .node v l r
  | .a p, t => match t with
    | .nil => .node none (setT v p .nil) .nil
    | .node u l r => .node u (setT v p l) r
  | .b p, t => match t with
    | .nil => .node none .nil (setT v p .nil)
    | .node u l r => .node u l (setT v p r)
theorem getT_nil (p : Pth) : getT (.nil : PT α) p = none := by cases p <;> rfl
theorem getK_eq (t : PT α) : ∀ (p : Pth) (k : α → Option R), getK t p k = (getT t p).bind k := by
  induction t with
  | nil => intro p k; rw [getT_nil]; rfl
  | node v l r hl hr =>
    intro p k
    cases p with
    | z => cases v <;> rfl
    | a p => exact hl p k
    | b p => exact hr p k
theorem setK_eq (v : Option α) (p : Pth) : ∀ (t : PT α) (k : PT α → Option R), setK v p t k = k (setT v p t) := by
  induction p with
  | z => intro t k; cases t <;> rfl
  | a p ih => intro t k; cases t <;> exact ih _ _
  | b p ih => intro t k; cases t <;> exact ih _ _
theorem getT_setT (v : Option α) : ∀ (p : Pth) (t : PT α) (q : Pth), getT (setT v p t) q = if q = p then v else getT t q := by
  intro p
  induction p with
  | z => intro t q; cases t <;> cases q <;> simp [setT, getT]
  | a p ih => intro t q; cases t <;> cases q <;> simp [setT, getT, ih, getT_nil]
  | b p ih => intro t q; cases t <;> cases q <;> simp [setT, getT, ih, getT_nil]
@[simp] theorem natK_eq (n : Nat) (k : Nat → Option α) : natK n k = k n := by cases n <;> rfl
@[simp] theorem intK_eq (n : Int) (k : Int → Option α) : intK n k = k n := by cases n <;> simp [intK]
@[simp] theorem boolK_eq (b : Bool) (k : Bool → Option α) : boolK b k = k b := by cases b <;> rfl
@[simp] theorem ifK_eq (b : Bool) (x y : Option α) : ifK b x y = if b then x else y := by cases b <;> rfl
theorem bind_some {β : Type} {o : Option α} {k : α → Option β} {r : β} (h : o.bind k = some r) : ∃ v, o = some v ∧ k v = some r := Option.bind_eq_some_iff.1 h
theorem nth_eq (l : List AV) : ∀ (n : Nat) (k : AV → Option R), nth l n k = (l[n]?).bind k := by
  induction l with
  | nil => intro n k; rfl
  | cons v l ih => intro n k; cases n with
    | zero => rfl
    | succ n => exact ih n k
theorem dropK_eq (l : List AV) : ∀ (n : Nat) (k : List AV → Option R), dropK l n k = if n ≤ l.length then k (l.drop n) else none := by
  induction l with
  | nil => intro n k; cases n with
    | zero => exact (if_pos (Nat.le_refl _)).symm
    | succ n => exact (if_neg (by simp)).symm
  | cons v l ih => intro n k; cases n with
    | zero => exact (if_pos (Nat.zero_le _)).symm
    | succ n => exact (ih n k).trans (by simp)
theorem takeK_eq (l : List AV) : ∀ (n : Nat) (k : List AV → Option R), takeK l n k = if n ≤ l.length then k (l.take n) else none := by
  induction l with
  | nil => intro n k; cases n with
    | zero => exact (if_pos (Nat.le_refl _)).symm
    | succ n => exact (if_neg (by simp)).symm
  | cons v l ih => intro n k; cases n with
    | zero => exact (if_pos (Nat.zero_le _)).symm
    | succ n => exact (ih n (fun l => k (v :: l))).trans (by simp)
theorem over0_eq (us : List AV) : ∀ (l : List AV) (k : List AV → Option R), over0 us l k = if us.length ≤ l.length then k (us ++ l.drop us.length) else none := by
  induction us with
  | nil => intro l k; simp [over0]
  | cons u us ih => intro l k; cases l with
    | nil => simp [over0]
    | cons v l => have := ih l (fun l => k (u :: l)); simp only [over0] at this ⊢; simp [this]
theorem overK_eq (us : List AV) (l : List AV) : ∀ (n : Nat) (k : List AV → Option R), overK us l n k = if n + us.length ≤ l.length then k (l.take n ++ us ++ l.drop (n + us.length)) else none := by
  induction l with
  | nil => intro n k; cases n with
    | zero => exact (over0_eq us [] k).trans (by simp)
    | succ n => exact (if_neg (by simp)).symm
  | cons v l ih => intro n k; cases n with
    | zero => exact (over0_eq us (v :: l) k).trans (by simp)
    | succ n =>
      refine (ih n (fun l => k (v :: l))).trans ?_
      simp only [List.length_cons, List.take_succ_cons, List.cons_append, show n + 1 + us.length = (n + us.length) + 1 by omega, List.drop_succ_cons, Nat.add_le_add_iff_right]
theorem appK_eq (l m : List AV) : ∀ (k : List AV → Option R), appK l m k = k (l ++ m) := by
  induction l with
  | nil => intro k; rfl
  | cons v l ih => intro k; exact ih _
theorem repK_eq (z : List AV) (n : Nat) : ∀ (k : List AV → Option R), repK z n k = k (List.replicate n z).flatten := by
  induction n with
  | zero => intro k; rfl
  | succ n ih => intro k; have := ih (fun r => appK z r k); simp only [repK] at this ⊢; rw [this, appK_eq]; rfl
theorem asP_some {v : AV} {k : Pth → Nat → Option R} {r : R} (h : asP v k = some r) : ∃ b o, v = .P b o ∧ k b o = some r := by
  cases v with
  | P b o => exact ⟨b, o, rfl, h⟩
  | _ => cases h
theorem asB_some {v : AV} {k : Bool → Option R} {r : R} (h : asB v k = some r) : ∃ b, v = .B b ∧ k b = some r := by
  cases v with
  | B b => exact ⟨b, rfl, h⟩
  | _ => cases h
theorem asI_some {v : AV} {k : IntKind → Int → Option R} {r : R} (h : asI v k = some r) : ∃ ik n, v = .I ik n ∧ k ik n = some r := by
  cases v with
  | I ik n => exact ⟨ik, n, rfl, h⟩
  | _ => cases h
theorem asN_some {v : AV} {k : Nat → Option R} {r : R} (h : asN v k = some r) : ∃ ik n, v = .I ik (.ofNat n) ∧ k n = some r := by
  obtain ⟨ik, n, rfl, h⟩ := asI_some h
  cases n with
  | ofNat n => exact ⟨ik, n, rfl, h⟩
  | negSucc n => cases h
theorem wrapK_eq (k : IntKind) (z : Int) (κ : AV → Option R) : wrapK k z κ = κ (.I k (k.wrap z)) := by
  cases z with
  | negSucc m => simp [wrapK]
  | ofNat m =>
    simp only [wrapK, natK_eq, ifK_eq, intK_eq]
    split
    · rename_i h
      have : m < lim k := Nat.le_of_ble_eq_true h
      congr 2
      cases k <;> simp [IntKind.wrap, IntKind.bits, IntKind.signed, lim] at * <;> omega
    · rfl
@[simp] theorem out_eq (k : IntKind) (z : Int) (κ : AV → Option R) : out k z κ = κ (.I k z) := by simp [out]
@[simp] theorem outB_eq (b : Bool) (κ : AV → Option R) : outB b κ = κ (.B b) := by cases b <;> rfl
theorem num_succ (p : Pth) : num (Pth.succ p) = num p + 1 := by
  induction p with
  | z => rfl
  | a p ih => show Nat.add (Nat.mul 2 (num p)) 2 = Nat.add (Nat.mul 2 (num p)) 1 + 1; rfl
  | b p ih => show Nat.add (Nat.mul 2 (num (Pth.succ p))) 1 = Nat.add (Nat.mul 2 (num p)) 2 + 1; rw [ih]; show 2 * (num p + 1) + 1 = 2 * num p + 2 + 1; omega
theorem num_inj : ∀ {p q : Pth}, num p = num q → p = q
  | .z, .z, _ => rfl
  | .z, .a q, h => by have : 0 = 2 * num q + 1 := h; omega
  | .z, .b q, h => by have : 0 = 2 * num q + 2 := h; omega
  | .a p, .z, h => by have : 2 * num p + 1 = 0 := h; omega
  | .b p, .z, h => by have : 2 * num p + 2 = 0 := h; omega
  | .a p, .a q, h => by have : 2 * num p + 1 = 2 * num q + 1 := h; rw [num_inj (p := p) (q := q) (by omega)]
  | .b p, .b q, h => by have : 2 * num p + 2 = 2 * num q + 2 := h; rw [num_inj (p := p) (q := q) (by omega)]
  | .a p, .b q, h => by have : 2 * num p + 1 = 2 * num q + 2 := h; omega
  | .b p, .a q, h => by have : 2 * num p + 2 = 2 * num q + 1 := h; omega
theorem slP_some {n : Nat} {k : Pth → Option α} {r : α} (h : slP n k = some r) : ∃ p, num p = n ∧ k p = some r := by
  unfold slP at h
  rw [ifK_eq] at h
  split at h
  · rename_i hb; exact ⟨_, Nat.eq_of_beq_eq_true hb, h⟩
  · cases h
/-! Slots. -/
def oput {β : Type} (n : Nat) (x : β) (t : O8 β) : O8 β := match n with
  | 0 => { t with a := x }
  | 1 => { t with b := x }
  | 2 => { t with c := x }
  | 3 => { t with d := x }
  | 4 => { t with e := x }
  | 5 => { t with f := x }
  | 6 => { t with g := x }
  | _ => { t with h := x }
theorem selG_eq {β γ : Type} (n : Nat) (k : (O8 β → β) → γ) : selG n k = k (gsel n) := by unfold selG gsel; split <;> rfl
theorem selU_eq {β γ : Type} (n : Nat) (k : (Up β R → Up (O8 β) R) → γ) : selU n k = k (usel n) := by unfold selU usel; split <;> rfl
theorem usel_eq {β : Type} (n : Nat) (F : Up β R) (t : O8 β) (k : O8 β → Option R) : usel n F t k = F (gsel n t) fun b => k (oput n b t) := by
  cases t
  match n with
  | 0 => rfl
  | 1 => rfl
  | 2 => rfl
  | 3 => rfl
  | 4 => rfl
  | 5 => rfl
  | 6 => rfl
  | _ + 7 => rfl
theorem gsel_oput {β : Type} {m n : Nat} (hm : m < 8) (hn : n < 8) (x : β) (t : O8 β) : gsel m (oput n x t) = if m = n then x else gsel m t := by
  have h8 : ∀ k, k < 8 → k = 0 ∨ k = 1 ∨ k = 2 ∨ k = 3 ∨ k = 4 ∨ k = 5 ∨ k = 6 ∨ k = 7 := fun k hk => by omega
  rcases h8 m hm with rfl | rfl | rfl | rfl | rfl | rfl | rfl | rfl <;> rcases h8 n hn with rfl | rfl | rfl | rfl | rfl | rfl | rfl | rfl <;> rfl
def getE (e : EV) (n : Nat) : Option AV := if n < 512 then gsel (n % 8) (gsel (n / 8 % 8) (gsel (n / 64) e)) else none
def setE (v : Option AV) (n : Nat) (e : EV) : EV := if n < 512 then oput (n / 64) (oput (n / 8 % 8) (oput (n % 8) v (gsel (n / 8 % 8) (gsel (n / 64) e))) (gsel (n / 64) e)) e else e
theorem getE_setE (v : Option AV) (p : Nat) (e : EV) (q : Nat) : getE (setE v p e) q = if q = p ∧ p < 512 then v else getE e q := by
  unfold getE setE
  by_cases hp : p < 512
  · by_cases hq : q < 512
    · rw [if_pos hq, if_pos hp, gsel_oput (by omega) (by omega)]
      by_cases h1 : q / 64 = p / 64
      · rw [if_pos h1, gsel_oput (by omega) (by omega)]
        by_cases h2 : q / 8 % 8 = p / 8 % 8
        · rw [if_pos h2, gsel_oput (by omega) (by omega)]
          by_cases h3 : q % 8 = p % 8
          · rw [if_pos h3, if_pos ⟨by omega, hp⟩]
          · rw [if_neg h3, if_neg (by omega), h1, h2]
            simp [hq]
        · rw [if_neg h2, if_neg (fun h => h2 (by rw [h.1])), h1]
          simp [hq]
      · rw [if_neg h1, if_neg (fun h => h1 (by rw [h.1]))]
        simp [hq]
    · rw [if_neg hq, if_neg (by omega), if_neg hq]
  · rw [if_neg hp]
    by_cases hq : q < 512
    · rw [if_pos hq, if_neg (fun h => hp h.2)]
    · rw [if_neg hq, if_neg (fun h => hp h.2)]
theorem getE_other {v : Option AV} {p : Nat} {e : EV} {q : Nat} (h : q ≠ p) : getE (setE v p e) q = getE e q := by rw [getE_setE, if_neg (fun hh => h hh.1)]
theorem getE_del {p : Nat} {e : EV} : getE (setE none p e) p = none := by
  rw [getE_setE]
  split
  · rfl
  · rename_i h
    unfold getE
    rw [if_neg (fun hh => h ⟨rfl, hh⟩)]
theorem getE_e3 (n : Nat) : getE e3 n = none := by
  unfold getE
  split
  · have h1 : ∀ m, gsel m e3 = e2 := fun m => by unfold gsel; split <;> rfl
    have h2 : ∀ m, gsel m e2 = e1 := fun m => by unfold gsel; split <;> rfl
    have h3 : ∀ m, gsel m e1 = none := fun m => by unfold gsel; split <;> rfl
    rw [h1, h2, h3]
  · rfl
def SlotOk (s : Slot R) : Prop := ∀ v e k, s.S v e k = k (setE v s.p e)
theorem slS_some {n : Nat} {k : Slot R → Option α} {r : α} (h : slS n k = some r) : ∃ s : Slot R, s.p = n ∧ SlotOk s ∧ k s = some r := by
  unfold slS at h
  rw [ifK_eq] at h
  split at h
  · rename_i hb
    simp only [selU_eq] at h
    refine ⟨_, rfl, fun v e k => ?_, h⟩
    simp only [usel_eq]
    have hlt : n < 512 := Nat.le_of_ble_eq_true hb
    unfold setE
    rw [if_pos hlt]
    rfl
  · cases h
theorem slG_some {n : Nat} {k : (EV → Option AV) → Option α} {r : α} (h : slG n k = some r) : ∃ G, (∀ e, G e = getE e n) ∧ k G = some r := by
  unfold slG at h
  rw [ifK_eq] at h
  split at h
  · rename_i hb
    simp only [selG_eq] at h
    refine ⟨_, fun e => ?_, h⟩
    have hlt : n < 512 := Nat.le_of_ble_eq_true hb
    unfold getE
    rw [if_pos hlt]
    rfl
  · cases h
theorem oT_eq {G : EV → Option AV} {n : Nat} (hG : ∀ e, G e = getE e n) (e : EV) (k : AV → Option R) : oT G e k = (getE e n).bind k := by
  unfold oT
  rw [hG]
  cases getE e n <;> rfl
def DstOk (p : Option (Slot R)) : Prop := ∀ s, p = some s → SlotOk s
theorem dstK_some {d : Option Tmp} {k : Option (Slot R) → Option α} {r : α} (h : dstK d k = some r) : ∃ p, p.map Slot.p = d ∧ DstOk p ∧ k p = some r := by
  cases d with
  | none => exact ⟨none, rfl, fun _ h => (by cases h), h⟩
  | some t =>
    obtain ⟨s, h1, h2, h3⟩ := slS_some (show slS t (fun p => k (some p)) = some r from h)
    exact ⟨some s, by simp [h1], fun _ h => by cases h; exact h2, h3⟩
end

/-! ### Values -/
/-- Where a block lies; how many elements it has room for; what loop it is. -/
structure Lo where
  g : Nat
  c : Nat
  lp : Loop
  ids : List Nat
  z : Int
abbrev Rn := Pth → Option Lo
def Le (ρ ρ' : Rn) : Prop := ∀ b lo, ρ b = some lo → ρ' b = some lo
/-- How a number lies to another one. -/
def cmpZ : Nat → Int → Int → Bool
  | 0, z, c => decide (z < c)
  | 1, z, c => decide (z ≤ c)
  | 2, z, c => decide (c < z)
  | 3, z, c => decide (c ≤ z)
  | 4, z, c => decide (z = c)
  | _, z, c => !decide (z = c)
def CpR (c : Nat) : Cp → Nat → Prop
  | .kn n, m => m = n
  | .un d, m => m + d = c
mutual
inductive VR (ρ : Rn) : AV → Value → Prop where
  | I {k : IntKind} {n : Int} : VR ρ (.I k n) (.int k n)
  | B {b : Bool} : VR ρ (.B b) (.bool b)
  | P {b : Pth} {o : Nat} {lo : Lo} : ρ b = some lo → VR ρ (.P b o) (.pointer (some ⟨lo.g, o, none⟩))
  | S {b : Pth} {o n m : Nat} {cp : Cp} {lo : Lo} : ρ b = some lo → CpR lo.c cp m → n ≤ m → VR ρ (.S b o n cp) (.slice (some ⟨lo.g, o, none⟩) n m)
  | undef : VR ρ (.X .undef) undef
  | flt {k : FloatKind} {b : Nat} : VR ρ (.X (.flt k b)) (.float k b)
  | str {s : List UInt8} : VR ρ (.X (.str s)) (.string ⟨s.toArray⟩)
  | nilp : VR ρ (.X .nilp) (.pointer none)
  | nils : VR ρ (.X .nils) (.slice none 0 0)
  | slz {g o m : Nat} : VR ρ (.X .slz) (.slice (some ⟨g, o, none⟩) 0 m)
  | nilf : VR ρ (.X .nilf) .nilFunc
  | nilm : VR ρ (.X .nilm) (.map none)
  | nili : VR ρ (.X .nili) .nilIface
  | fn {f : Nat} {first cap : List AV} {fs cs : List Value} : VRs ρ first fs → VRs ρ cap cs → VR ρ (.X (.fn f first cap)) (.func (.func f) fs.toArray cs.toArray)
  | yld {l : Pth} {lo : Lo} : ρ l = some lo → VR ρ (.X (.yld l)) (.func (.yield lo.g) #[] #[])
  | ifc {t : Nat} {v : AV} {u : Value} : VR ρ v u → VR ρ (.X (.ifc t v)) (.iface t u)
  | agg {l : List AV} {us : List Value} : VRs ρ l us → VR ρ (.X (.agg l)) (.agg us.toArray)
  | tup {l : List AV} {us : List Value} : VRs ρ l us → VR ρ (.X (.tup l)) (.tuple us.toArray)
  | sym {p : Pth} {fs : List (Nat × Int × Bool)} {lo : Lo} : ρ p = some lo → (∀ f ∈ fs, cmpZ f.1 lo.z f.2.1 = f.2.2) → VR ρ (.X (.sym p fs)) (.int .i64 lo.z)
inductive VRs (ρ : Rn) : List AV → List Value → Prop where
  | nil : VRs ρ [] []
  | cons {v : AV} {l : List AV} {u : Value} {us : List Value} : VR ρ v u → VRs ρ l us → VRs ρ (v :: l) (u :: us)
end
theorem Le.refl (ρ : Rn) : Le ρ ρ := fun _ _ h => h
theorem Le.trans {ρ ρ' ρ'' : Rn} (x : Le ρ ρ') (y : Le ρ' ρ'') : Le ρ ρ'' := fun b lo h => y b lo (x b lo h)
mutual
theorem VR.mono {ρ ρ' : Rn} (hl : Le ρ ρ') : ∀ {v : AV} {u : Value}, VR ρ v u → VR ρ' v u
  | _, _, .I => .I
  | _, _, .B => .B
  | _, _, .P h => .P (hl _ _ h)
  | _, _, .S h h1 h2 => .S (hl _ _ h) h1 h2
  | _, _, .undef => .undef
  | _, _, .flt => .flt
  | _, _, .str => .str
  | _, _, .nilp => .nilp
  | _, _, .nils => .nils
  | _, _, .slz => .slz
  | _, _, .nilf => .nilf
  | _, _, .nilm => .nilm
  | _, _, .nili => .nili
  | _, _, .fn h1 h2 => .fn (VRs.mono hl h1) (VRs.mono hl h2)
  | _, _, .yld h => .yld (hl _ _ h)
  | _, _, .ifc h => .ifc (VR.mono hl h)
  | _, _, .agg h => .agg (VRs.mono hl h)
  | _, _, .tup h => .tup (VRs.mono hl h)
  | _, _, .sym h h1 => .sym (hl _ _ h) h1
theorem VRs.mono {ρ ρ' : Rn} (hl : Le ρ ρ') : ∀ {l : List AV} {us : List Value}, VRs ρ l us → VRs ρ' l us
  | _, _, .nil => .nil
  | _, _, .cons h1 h2 => .cons (VR.mono hl h1) (VRs.mono hl h2)
end
section
variable {ρ : Rn}
theorem VRs.len {l : List AV} {us : List Value} (h : VRs ρ l us) : us.length = l.length := by
  induction l generalizing us with
  | nil => cases h; rfl
  | cons v l ih => cases h with
    | cons h1 h2 => simp [ih h2]
theorem VRs.get {l : List AV} {us : List Value} (h : VRs ρ l us) : ∀ {n : Nat} {v : AV}, l[n]? = some v → ∃ u, us[n]? = some u ∧ VR ρ v u := by
  induction l generalizing us with
  | nil => intro n v hv; simp at hv
  | cons w l ih =>
    intro n v hv
    cases h with
    | cons h1 h2 => cases n with
      | zero => simp at hv; subst hv; exact ⟨_, rfl, h1⟩
      | succ n => simp at hv; obtain ⟨u, h3, h4⟩ := ih h2 hv; exact ⟨u, by simpa using h3, h4⟩
theorem VRs.append {l m : List AV} {us vs : List Value} (h : VRs ρ l us) (h' : VRs ρ m vs) : VRs ρ (l ++ m) (us ++ vs) := by
  induction l generalizing us with
  | nil => cases h; exact h'
  | cons w l ih => cases h with
    | cons h1 h2 => exact .cons h1 (ih h2)
theorem VRs.take {l : List AV} {us : List Value} (h : VRs ρ l us) : ∀ (n : Nat), VRs ρ (l.take n) (us.take n) := by
  induction l generalizing us with
  | nil => intro n; cases h; simp; exact .nil
  | cons w l ih => intro n; cases h with
    | cons h1 h2 => cases n with
      | zero => exact .nil
      | succ n => exact .cons h1 (ih h2 n)
theorem VRs.drop {l : List AV} {us : List Value} (h : VRs ρ l us) : ∀ (n : Nat), VRs ρ (l.drop n) (us.drop n) := by
  induction l generalizing us with
  | nil => intro n; cases h; simp; exact .nil
  | cons w l ih => intro n; cases h with
    | cons h1 h2 => cases n with
      | zero => exact .cons h1 h2
      | succ n => exact ih h2 n
theorem VRs.rep {z : List AV} {us : List Value} (h : VRs ρ z us) (n : Nat) : VRs ρ (List.replicate n z).flatten (List.replicate n us).flatten := by
  induction n with
  | zero => exact .nil
  | succ n ih => exact VRs.append h ih
/-- The cells of a value. -/
theorem VR.cells {v : AV} {u : Value} (h : VR ρ v u) : ∃ us, u.cells = us.toArray ∧ VRs ρ (cellsOf v) us := by
  cases h <;> first
    | exact ⟨_, rfl, .cons (by constructor <;> assumption) .nil⟩
    | exact ⟨_, rfl, ‹_›⟩
    | exact ⟨_, rfl, .cons (.fn ‹_› ‹_›) .nil⟩
    | exact ⟨_, rfl, .cons (.ifc ‹_›) .nil⟩
    | exact ⟨_, rfl, .cons (.tup ‹_›) .nil⟩
    | exact ⟨_, rfl, .cons (.sym ‹_› ‹_›) .nil⟩
end
mutual
theorem ofV_VR (ρ : Rn) : ∀ {u : Value} {v : AV}, ofV u = some v → VR ρ v u
  | .bool _, _, h => by cases h; exact .B
  | .int _ _, _, h => by cases h; exact .I
  | .float _ _, _, h => by cases h; exact .flt
  | .string s, _, h => by cases h; exact .str
  | .pointer none, _, h => by cases h; exact .nilp
  | .pointer (some _), _, h => by simp [ofV] at h
  | .slice a n m, _, h => by
    unfold ofV at h
    split at h <;> first | (cases h; done) | skip
    all_goals (rename_i heq; first | (cases heq; cases h; exact .nils) | cases heq | cases h)
  | .map none, _, h => by cases h; exact .nilm
  | .map (some _), _, h => by simp [ofV] at h
  | .nilFunc, _, h => by cases h; exact .nilf
  | .nilIface, _, h => by cases h; exact .nili
  | .agg cs, _, h => by
    unfold ofV at h
    split at h
    · rename_i l hl; cases h
      exact .agg (ofVs_VRs ρ hl)
    · cases h
  | .iface t v, _, h => by
    unfold ofV at h
    split at h
    · rename_i l hl; cases h; exact .ifc (ofV_VR ρ hl)
    · cases h
  | .complex _ _ _, _, h => by simp [ofV] at h
  | .chan _, _, h => by simp [ofV] at h
  | .func _ _ _, _, h => by simp [ofV] at h
  | .tuple _, _, h => by simp [ofV] at h
theorem ofVs_VRs (ρ : Rn) : ∀ {us : List Value} {l : List AV}, ofVs us = some l → VRs ρ l us
  | [], _, h => by cases h; exact .nil
  | u :: us, _, h => by
    unfold ofVs at h
    split at h
    · cases h
    · rename_i a ha
      split at h
      · cases h
      · rename_i l hl; cases h
        exact .cons (ofV_VR ρ ha) (ofVs_VRs ρ hl)
end
end Ry
end Go.TP
