/- Ry is sound, part 3: operations that leave the heap as it is. -/
import Derived.Test.YtnmdbemccdhdmaaGreatDoorRz2
import Derived.Test.YtnmdbemccdhdmaaGreatDoorSp
import Derived.Lib.SliceRun
import Derived.WalkSpells
import Derived.Laws.BytesString
import Derived.Laws.Slices
namespace Go.TP
open Go
namespace Ry
variable {P : Program} {R : Type}

def blkOf : Option AV → Option Pth
  | some (.P b _) => some b
  | some (.S b _ _ _) => some b
  | _ => none
/-- What the operation reads is in h' as it is in h. -/
def RdOk (ρ : Rn) (op : Op) (e : EV) (h h' : Heap) : Prop := ∀ x, reads op = some x → ∀ b, blkOf (vOp e x) = some b → ∀ lo, ρ b = some lo → h'[lo.g]? = h[lo.g]?
/-- An operation that leaves the heap as it is. -/
def DatS (P : Program) (op : Op) (d : Option (Slot R)) (i : Ins R) : Prop :=
  ∀ cx κ e H r, i cx κ e H = some r → ∃ v, put d v κ e H = some r ∧ ∀ ρ h E, HR P ρ H h → ER ρ e E →
    ∃ u, VR ρ v u ∧ ∀ h', RdOk ρ op e h h' → ∀ dst ty pos aft g, Ev P E h' ⟨dst, op, ty, pos, aft, g⟩ u
variable {d : Option (Slot R)} {x y z : Operand} {xo yo zo : OD R}
theorem dat_mv (hx : OpS P x xo) : DatS P (.move x) d (iMv d xo) := by
  intro cx κ e H r hr
  simp only [iMv, hx.eq] at hr
  obtain ⟨v, hv, hr⟩ := bind_some hr
  refine ⟨v, hr, fun ρ h E hh he => ?_⟩
  obtain ⟨u, h1, h2⟩ := hx.ok ρ H h e E v hh he hv
  exact ⟨u, h1, fun h' _ dst ty pos aft g => o_mv h2⟩
theorem dat_as (hx : OpS P x xo) : DatS P (.assign x) d (iMv d xo) := by
  intro cx κ e H r hr
  simp only [iMv, hx.eq] at hr
  obtain ⟨v, hv, hr⟩ := bind_some hr
  refine ⟨v, hr, fun ρ h E hh he => ?_⟩
  obtain ⟨u, h1, h2⟩ := hx.ok ρ H h e E v hh he hv
  exact ⟨u, h1, fun h' _ dst ty pos aft g => o_as h2⟩
theorem dat_pick (hz : OpS P z zo) (hx : OpS P x xo) (hy : OpS P y yo) : DatS P (.pick z x y) d (iPick d zo xo yo) := by
  intro cx κ e H r hr
  simp only [iPick, hz.eq] at hr
  obtain ⟨c, hc, hr⟩ := bind_some hr
  obtain ⟨b, rfl, hr⟩ := asB_some hr
  cases b with
  | true =>
    simp only [hx.eq] at hr
    obtain ⟨v, hv, hr⟩ := bind_some hr
    refine ⟨v, hr, fun ρ h E hh he => ?_⟩
    obtain ⟨c', k1, k2⟩ := hz.ok ρ H h e E _ hh he hc
    cases k1
    obtain ⟨u, h1, h2⟩ := hx.ok ρ H h e E v hh he hv
    exact ⟨u, h1, fun h' _ dst ty pos aft g => o_pt k2 rfl h2⟩
  | false =>
    simp only [hy.eq] at hr
    obtain ⟨v, hv, hr⟩ := bind_some hr
    refine ⟨v, hr, fun ρ h E hh he => ?_⟩
    obtain ⟨c', k1, k2⟩ := hz.ok ρ H h e E _ hh he hc
    cases k1
    obtain ⟨u, h1, h2⟩ := hy.ok ρ H h e E v hh he hv
    exact ⟨u, h1, fun h' _ dst ty pos aft g => o_pf k2 rfl h2⟩
/-- What a two-sided operation comes to. -/
def BinS (P : Program) (op : BinOp) (t : TypeId) (y : Operand) (f : Bin R) : Prop :=
  ∀ a b k r, f a b k = some r → ∃ v, k v = some r ∧ ∀ ρ ua ub, VR ρ a ua → VR ρ b ub → ∃ u, VR ρ v u ∧
    ∀ (E : Env) (h : Heap) (x : Operand) (u' : TypeId) dst ty pos aft g, ev E x = some ua → ev E y = some ub → Ev P E h ⟨dst, .binOp op t x y u', ty, pos, aft, g⟩ u
theorem dat_bin {op : BinOp} {t u : TypeId} {f : Bin R} (hf : BinS P op t y f) (hx : OpS P x xo) (hy : OpS P y yo) : DatS P (.binOp op t x y u) d (iBin d f xo yo) := by
  intro cx κ e H r hr
  simp only [iBin, hx.eq, hy.eq] at hr
  obtain ⟨a, ha, hr⟩ := bind_some hr
  obtain ⟨b, hb, hr⟩ := bind_some hr
  obtain ⟨v, hr, hv⟩ := hf a b _ r hr
  refine ⟨v, hr, fun ρ h E hh he => ?_⟩
  obtain ⟨ua, h1, h2⟩ := hx.ok ρ H h e E a hh he ha
  obtain ⟨ub, h3, h4⟩ := hy.ok ρ H h e E b hh he hb
  obtain ⟨u, h5, h6⟩ := hv ρ ua ub h1 h3
  exact ⟨u, h5, fun h' _ dst ty pos aft g => h6 E h' x _ dst ty pos aft g h2 h4⟩
theorem kEq_eq {a b : IntKind} (h : kEq a b = true) : a = b := by cases a <;> cases b <;> first | rfl | cases h
theorem binS_two {op : BinOp} {t : TypeId} {f : IntKind → Int → Int → (AV → Option R) → Option R} {g : Bin R}
    (hf : ∀ ik m n k r, f ik m n k = some r → ∃ v, k v = some r ∧ ∀ ρ, ∃ u, VR ρ v u ∧ ∀ (E : Env) (h : Heap) (x : Operand) (u' : TypeId) dst ty pos aft g, ev E x = some (.int ik m) → ev E y = some (.int ik n) → Ev P E h ⟨dst, .binOp op t x y u', ty, pos, aft, g⟩ u)
    (hg : BinS P op t y g) : BinS P op t y (two f g) := by
  intro a b k r hr
  cases a with
  | I ik m => cases b with
    | I jk n =>
      simp only [two, ifK_eq] at hr
      split at hr
      · rename_i hk
        obtain rfl := kEq_eq hk
        obtain ⟨v, h1, h2⟩ := hf _ _ _ _ _ hr
        refine ⟨v, h1, fun ρ ua ub ha hb => ?_⟩
        cases ha; cases hb
        exact h2 ρ
      · cases hr
    | _ => cases hr
  | _ => exact hg _ _ _ _ hr
theorem binS_twoS {op : BinOp} {t : TypeId} {f : IntKind → Int → Int → (AV → Option R) → Option R}
    (hf : ∀ ik m jk n k r, f ik m n k = some r → ∃ v, k v = some r ∧ ∀ ρ, ∃ u, VR ρ v u ∧ ∀ (E : Env) (h : Heap) (x : Operand) (u' : TypeId) dst ty pos aft g, ev E x = some (.int ik m) → ev E y = some (.int jk n) → Ev P E h ⟨dst, .binOp op t x y u', ty, pos, aft, g⟩ u) :
    BinS P op t y (twoS f none2) := by
  intro a b k r hr
  cases a with
  | I ik m => cases b with
    | I jk n =>
      obtain ⟨v, h1, h2⟩ := hf _ _ jk _ _ _ hr
      refine ⟨v, h1, fun ρ ua ub ha hb => ?_⟩
      cases ha; cases hb
      exact h2 ρ
    | _ => cases hr
  | _ => cases hr
theorem binS_none {op : BinOp} {t : TypeId} : BinS P op t y (none2 : Bin R) := fun _ _ _ _ h => by cases h
theorem strs_some {f : List UInt8 → List UInt8 → (AV → Option R) → Option R} {a b : AV} {k : AV → Option R} {r : R} (h : strs f a b k = some r) : ∃ s t, a = .X (.str s) ∧ b = .X (.str t) ∧ f s t k = some r := by
  unfold strs at h
  split at h
  · exact ⟨_, _, rfl, rfl, h⟩
  · cases h
theorem strEq_eq : ∀ (a b : List UInt8), strEq a b = (a == b)
  | [], [] => rfl
  | [], _ :: _ => rfl
  | _ :: _, [] => rfl
  | u :: a, v :: b => by
    change (Bool.rec (motive := fun _ => Bool) false (strEq a b) (Nat.beq u.toNat v.toNat)) = _
    rw [strEq_eq a b, List.cons_beq_cons]
    cases hb : Nat.beq u.toNat v.toNat with
    | true =>
      have : u = v := UInt8.toNat_inj.1 (Nat.eq_of_beq_eq_true hb)
      simp [this]
    | false =>
      have : ¬ u = v := fun he => by rw [he] at hb; simp at hb
      simp [this]
theorem toList_mk (s : List UInt8) : (⟨s.toArray⟩ : ByteArray).toList = s := by
  rw [ByteArray.toList_eq]
theorem shAmt_some {ik : IntKind} {n : Int} {k : Nat → Option R} {r : R} (h : shAmt ik n k = some r) : ∃ s : Nat, n = Int.ofNat s ∧ (0 : Int) ≤ s ∧ k (min s ik.bits) = some r := by
  cases n with
  | negSucc n => cases h
  | ofNat s =>
    refine ⟨s, rfl, by omega, ?_⟩
    simp only [shAmt, ifK_eq] at h
    split at h
    · rename_i hb
      have := Nat.le_of_ble_eq_true hb
      rwa [Nat.min_eq_left this]
    · rename_i hb
      have : ¬ s ≤ ik.bits := fun hh => hb (Nat.ble_eq_true_of_le hh)
      rwa [Nat.min_eq_right (by omega)]
theorem pow_cast (n : Nat) : ((2 ^ n : Nat) : Int) = 2 ^ n := by simp
theorem factK_some {o : Nat} {c : Int} {k : Bool → Option R} {r : R} : ∀ {fs : List (Nat × Int × Bool)}, factK o c fs k = some r → ∃ b, (o, c, b) ∈ fs ∧ k b = some r
  | [], h => by cases h
  | f :: l, h => by
    unfold factK at h
    rw [ifK_eq] at h
    split at h
    · rename_i hc
      simp only [Bool.and_eq_true, decide_eq_true_eq] at hc
      rw [boolK_eq] at h
      have := Nat.eq_of_beq_eq_true hc.1
      obtain ⟨o', c', b⟩ := f
      simp only at this hc h
      obtain ⟨_, rfl⟩ := hc
      subst this
      exact ⟨b, List.mem_cons_self .., h⟩
    · obtain ⟨b, h1, h2⟩ := factK_some h
      exact ⟨b, List.mem_cons_of_mem _ h1, h2⟩
theorem binS_sym {op : BinOp} {t : TypeId} {o : Nat} {g : Bin R} (hop : ∀ (E : Env) (h : Heap) (x : Operand) (u' : TypeId) dst ty pos aft gd (m n : Int), ev E x = some (.int .i64 m) → ev E y = some (.int .i64 n) → Ev P E h ⟨dst, .binOp op t x y u', ty, pos, aft, gd⟩ (.bool (cmpZ o m n))) (hg : BinS P op t y g) : BinS P op t y (symB o g) := by
  intro a b k r hr
  unfold symB at hr
  split at hr
  · obtain ⟨q, h1, h2⟩ := factK_some hr
    rw [outB_eq] at h2
    refine ⟨_, h2, fun ρ ua ub ha hb => ?_⟩
    cases hb
    cases ha with
    | sym h3 h4 =>
      have := h4 _ h1
      refine ⟨_, .B, fun E h x u' dst ty pos aft gd k1 k2 => ?_⟩
      have h5 := hop E h x u' dst ty pos aft gd _ _ k1 k2
      rw [this] at h5
      exact h5
  · exact hg a b k r hr
theorem binF_ok {op : BinOp} {t : TypeId} {f : Bin R} (h : binF op = some f) (hne : op ≠ .eql ∧ op ≠ .neq) : BinS P op t y f := by
  cases op with
  | eql => exact absurd rfl hne.1
  | neq => exact absurd rfl hne.2
  | add =>
    cases h
    refine binS_two (fun ik m n k r hr => ?_) (fun a b k r hr => ?_)
    · rw [wrapK_eq] at hr
      exact ⟨_, hr, fun ρ => ⟨_, .I, fun E h x u' dst ty pos aft g h1 h2 => o_add h1 h2⟩⟩
    · obtain ⟨s, s2, rfl, rfl, hr2⟩ := strs_some hr
      split at hr2
      · rename_i hle
        refine ⟨_, hr2, fun ρ ua ub ha hb => ?_⟩
        cases ha; cases hb
        refine ⟨_, .str, fun E h x u' dst ty pos aft g h1 h2 => ?_⟩
        have := o_sadd (P := P) (h := h) (d := dst) (ty := ty) (pos := pos) (aft := aft) (g := g) (t := t) (u := u') h1 h2 (by
          have : s.length + s2.length ≤ 9223372036854775807 := by simpa using hle
          simp [ByteArray.size]; omega)
        rw [show (⟨(s ++ s2).toArray⟩ : ByteArray) = ⟨s.toArray⟩ ++ ⟨s2.toArray⟩ by ext1; simp [ByteArray.data_append]]
        exact this
      · cases hr2
  | sub =>
    cases h
    refine binS_two (fun ik m n k r hr => ?_) binS_none
    rw [wrapK_eq] at hr
    exact ⟨_, hr, fun ρ => ⟨_, .I, fun E h x u' dst ty pos aft g h1 h2 => o_sub h1 h2⟩⟩
  | mul =>
    cases h
    refine binS_two (fun ik m n k r hr => ?_) binS_none
    rw [wrapK_eq] at hr
    exact ⟨_, hr, fun ρ => ⟨_, .I, fun E h x u' dst ty pos aft g h1 h2 => o_mul h1 h2⟩⟩
  | quo =>
    cases h
    refine binS_two (fun ik m n k r hr => ?_) binS_none
    by_cases hn : n = 0
    · simp [hn] at hr
    · simp only [hn, decide_false, cond_false, wrapK_eq] at hr
      exact ⟨_, hr, fun ρ => ⟨_, .I, fun E h x u' dst ty pos aft g h1 h2 => o_quo h1 h2 hn⟩⟩
  | rem =>
    cases h
    refine binS_two (fun ik m n k r hr => ?_) binS_none
    by_cases hn : n = 0
    · simp [hn] at hr
    · simp only [hn, decide_false, cond_false, out_eq] at hr
      exact ⟨_, hr, fun ρ => ⟨_, .I, fun E h x u' dst ty pos aft g h1 h2 => o_rem h1 h2 hn⟩⟩
  | and =>
    cases h
    refine binS_two (fun ik m n k r hr => ?_) binS_none
    rw [out_eq] at hr
    exact ⟨_, hr, fun ρ => ⟨_, .I, fun E h x u' dst ty pos aft g h1 h2 => o_and h1 h2⟩⟩
  | or =>
    cases h
    refine binS_two (fun ik m n k r hr => ?_) binS_none
    rw [out_eq] at hr
    exact ⟨_, hr, fun ρ => ⟨_, .I, fun E h x u' dst ty pos aft g h1 h2 => o_or h1 h2⟩⟩
  | xor =>
    cases h
    refine binS_two (fun ik m n k r hr => ?_) binS_none
    rw [out_eq] at hr
    exact ⟨_, hr, fun ρ => ⟨_, .I, fun E h x u' dst ty pos aft g h1 h2 => o_xor h1 h2⟩⟩
  | andNot =>
    cases h
    refine binS_two (fun ik m n k r hr => ?_) binS_none
    rw [out_eq] at hr
    exact ⟨_, hr, fun ρ => ⟨_, .I, fun E h x u' dst ty pos aft g h1 h2 => o_andNot h1 h2⟩⟩
  | shl =>
    cases h
    refine binS_twoS (fun ik m jk n k r hr => ?_)
    obtain ⟨s, rfl, hs, hr⟩ := shAmt_some hr
    rw [wrapK_eq] at hr
    refine ⟨_, hr, fun ρ => ⟨_, .I, fun E h x u' dst ty pos aft g h1 h2 => ?_⟩⟩
    have := o_shl (P := P) (h := h) (d := dst) (ty := ty) (pos := pos) (aft := aft) (g := g) (t := t) (u := u') h1 h2 (by omega)
    rw [show Int.mul m (Int.ofNat (Nat.pow 2 (min s ik.bits))) = m * 2 ^ (min (Int.ofNat s).toNat ik.bits) by simp [pow_cast]]
    exact this
  | shr =>
    cases h
    refine binS_twoS (fun ik m jk n k r hr => ?_)
    obtain ⟨s, rfl, hs, hr⟩ := shAmt_some hr
    rw [out_eq] at hr
    refine ⟨_, hr, fun ρ => ⟨_, .I, fun E h x u' dst ty pos aft g h1 h2 => ?_⟩⟩
    have := o_shr (P := P) (h := h) (d := dst) (ty := ty) (pos := pos) (aft := aft) (g := g) (t := t) (u := u') h1 h2 (by omega)
    rw [show Int.fdiv m (Int.ofNat (Nat.pow 2 (min s ik.bits))) = m.fdiv (2 ^ (min (Int.ofNat s).toNat ik.bits)) by simp [pow_cast]]
    exact this
  | lss =>
    cases h
    refine binS_two (fun ik m n k r hr => ?_) (binS_sym (fun E h x u' dst ty pos aft g m n h1 h2 => o_lss h1 h2) binS_none)
    rw [outB_eq] at hr
    exact ⟨_, hr, fun ρ => ⟨_, .B, fun E h x u' dst ty pos aft g h1 h2 => o_lss h1 h2⟩⟩
  | leq =>
    cases h
    refine binS_two (fun ik m n k r hr => ?_) (binS_sym (fun E h x u' dst ty pos aft g m n h1 h2 => o_leq h1 h2) binS_none)
    rw [outB_eq] at hr
    exact ⟨_, hr, fun ρ => ⟨_, .B, fun E h x u' dst ty pos aft g h1 h2 => o_leq h1 h2⟩⟩
  | gtr =>
    cases h
    refine binS_two (fun ik m n k r hr => ?_) (binS_sym (fun E h x u' dst ty pos aft g m n h1 h2 => o_gtr h1 h2) binS_none)
    rw [outB_eq] at hr
    exact ⟨_, hr, fun ρ => ⟨_, .B, fun E h x u' dst ty pos aft g h1 h2 => o_gtr h1 h2⟩⟩
  | geq =>
    cases h
    refine binS_two (fun ik m n k r hr => ?_) (binS_sym (fun E h x u' dst ty pos aft g m n h1 h2 => o_geq h1 h2) binS_none)
    rw [outB_eq] at hr
    exact ⟨_, hr, fun ρ => ⟨_, .B, fun E h x u' dst ty pos aft g h1 h2 => o_geq h1 h2⟩⟩
theorem binF_eql {t : TypeId} {f : Bin R} (h : binF .eql = some f) : BinS P .eql t y f := by
  cases h
  refine binS_two (fun ik m n k r hr => ?_) (binS_sym (fun E h x u' dst ty pos aft g m n h1 h2 => o_eql h1 h2) fun a b k r hr => ?_)
  · rw [outB_eq] at hr
    exact ⟨_, hr, fun ρ => ⟨_, .B, fun E h x u' dst ty pos aft g h1 h2 => o_eql h1 h2⟩⟩
  · obtain ⟨s, s2, rfl, rfl, hr2⟩ := strs_some hr
    rw [outB_eq, strEq_eq] at hr2
    refine ⟨_, hr2, fun ρ ua ub ha hb => ?_⟩
    cases ha; cases hb
    refine ⟨_, .B, fun E h x u' dst ty pos aft g h1 h2 => ?_⟩
    have := o_seq (P := P) (h := h) (d := dst) (ty := ty) (pos := pos) (aft := aft) (g := g) (t := t) (u := u') h1 h2
    rwa [toList_mk, toList_mk] at this
theorem binF_neq {t : TypeId} {f : Bin R} (h : binF .neq = some f) : BinS P .neq t y f := by
  cases h
  refine binS_two (fun ik m n k r hr => ?_) (binS_sym (fun E h x u' dst ty pos aft g m n h1 h2 => by
    have := o_neq (P := P) (h := h) (d := dst) (ty := ty) (pos := pos) (aft := aft) (g := g) (t := t) (u := u') h1 h2
    rwa [show decide (m ≠ n) = cmpZ 5 m n by simp [cmpZ]] at this) fun a b k r hr => ?_)
  · rw [outB_eq] at hr
    refine ⟨_, hr, fun ρ => ⟨_, .B, fun E h x u' dst ty pos aft g h1 h2 => ?_⟩⟩
    have := o_neq (P := P) (h := h) (d := dst) (ty := ty) (pos := pos) (aft := aft) (g := g) (t := t) (u := u') h1 h2
    rwa [show decide (m ≠ n) = !decide (m = n) by simp] at this
  · obtain ⟨s, s2, rfl, rfl, hr2⟩ := strs_some hr
    rw [outB_eq, strEq_eq] at hr2
    refine ⟨_, hr2, fun ρ ua ub ha hb => ?_⟩
    cases ha; cases hb
    refine ⟨_, .B, fun E h x u' dst ty pos aft g h1 h2 => ?_⟩
    have := o_sne (P := P) (h := h) (d := dst) (ty := ty) (pos := pos) (aft := aft) (g := g) (t := t) (u := u') h1 h2
    rwa [toList_mk, toList_mk] at this
/-- The two ways to ask for equality. -/
def EqF : BinOp → (Bool → Bool) → Prop
  | .eql, f => f = fun b => b
  | .neq, f => f = fun b => !b
  | _, _ => False
theorem binS_bool {op : BinOp} {f : Bool → Bool} (hf : EqF op f) {t : TypeId} (ht : P.underlying t = some .bool) : BinS P op t y (eqBool f : Bin R) := by
  intro a b k r hr
  obtain ⟨p, rfl, hr1⟩ := asB_some hr
  obtain ⟨q, rfl, hr2⟩ := asB_some hr1
  rw [outB_eq] at hr2
  refine ⟨_, hr2, fun ρ ua ub ha hb => ?_⟩
  cases ha; cases hb
  refine ⟨_, .B, fun E h x u' dst ty pos aft g h1 h2 => ?_⟩
  cases op with
  | eql => cases hf; exact o_beq ht h1 h2
  | neq => cases hf; exact o_bne ht h1 h2
  | _ => exact hf.elim
theorem binS_ptr {op : BinOp} {f : Bool → Bool} (hf : EqF op f) {t e : TypeId} (ht : P.underlying t = some (.pointer e)) : BinS P op t y (nilPtr f : Bin R) := by
  have hp : Ptr P t := by simp [Ptr, ptrB, ht]
  intro a b k r hr
  have key : ∃ p : Bool, k (.B (f p)) = some r ∧ ∀ ρ ua ub, VR ρ a ua → VR ρ b ub → ub = .pointer none ∧ ∃ q, ua = .pointer q ∧ q.isNone = p := by
    unfold nilPtr at hr
    split at hr
    · rw [outB_eq] at hr
      refine ⟨true, hr, fun ρ ua ub ha hb => ?_⟩
      cases ha; cases hb
      exact ⟨rfl, none, rfl, rfl⟩
    · rw [outB_eq] at hr
      refine ⟨false, hr, fun ρ ua ub ha hb => ?_⟩
      cases ha; cases hb
      exact ⟨rfl, _, rfl, rfl⟩
    · cases hr
  obtain ⟨p, hr, hv⟩ := key
  refine ⟨_, hr, fun ρ ua ub ha hb => ?_⟩
  obtain ⟨rfl, q, rfl, hq⟩ := hv ρ ua ub ha hb
  refine ⟨_, .B, fun E h x u' dst ty pos aft g h1 h2 => ?_⟩
  cases op with
  | eql => cases hf; subst hq; exact o_peq hp h1 h2
  | neq => cases hf; subst hq; exact o_pne hp h1 h2
  | _ => exact hf.elim
theorem binS_ifc {op : BinOp} {f : Bool → Bool} (hf : EqF op f) {t : TypeId} {ms : Array (String × TypeId)} (ht : P.underlying t = some (.interface ms)) (hy : isNilI y = true) : BinS P op t y (nilIfc f : Bin R) := by
  have hp : Ifc P t := by simp [Ifc, ifcB, ht]
  obtain rfl : y = .const .nilIface := by
    unfold isNilI at hy
    split at hy
    · rfl
    · cases hy
  intro a b k r hr
  have key : ∃ p : Bool, k (.B (f p)) = some r ∧ ∀ ρ ua, VR ρ a ua → isIface ua = true ∧ isNil ua = p := by
    unfold nilIfc at hr
    split at hr
    · rw [outB_eq] at hr
      refine ⟨true, hr, fun ρ ua ha => ?_⟩
      cases ha
      exact ⟨rfl, rfl⟩
    · rw [outB_eq] at hr
      refine ⟨false, hr, fun ρ ua ha => ?_⟩
      cases ha
      exact ⟨rfl, rfl⟩
    · cases hr
  obtain ⟨p, hr, hv⟩ := key
  refine ⟨_, hr, fun ρ ua ub ha hb => ?_⟩
  obtain ⟨h1, h2⟩ := hv ρ ua ha
  refine ⟨_, .B, fun E h x u' dst ty pos aft g h3 h4 => ?_⟩
  cases op with
  | eql => cases hf; subst h2; exact o_ieq hp h1 h3
  | neq => cases hf; subst h2; exact o_ine hp h1 h3
  | _ => exact hf.elim
theorem binS_sl {op : BinOp} {f : Bool → Bool} (hf : EqF op f) {t e : TypeId} (ht : P.underlying t = some (.slice e)) : BinS P op t y (nilSl f : Bin R) := by
  intro a b k r hr
  have key : ∃ p : Bool, k (.B (f p)) = some r ∧ ∀ ρ ua ub, VR ρ a ua → VR ρ b ub → ub = .slice none 0 0 ∧ ∃ q n c, ua = .slice q n c ∧ q.isNone = p := by
    unfold nilSl at hr
    split at hr
    · rw [outB_eq] at hr
      refine ⟨true, hr, fun ρ ua ub ha hb => ?_⟩
      cases ha; cases hb
      exact ⟨rfl, none, _, _, rfl, rfl⟩
    · rw [outB_eq] at hr
      refine ⟨false, hr, fun ρ ua ub ha hb => ?_⟩
      cases ha; cases hb
      exact ⟨rfl, _, _, _, rfl, rfl⟩
    · cases hr
  obtain ⟨p, hr, hv⟩ := key
  refine ⟨_, hr, fun ρ ua ub ha hb => ?_⟩
  obtain ⟨rfl, q, n, c, rfl, hq⟩ := hv ρ ua ub ha hb
  refine ⟨_, .B, fun E h x u' dst ty pos aft g h1 h2 => ?_⟩
  cases op with
  | eql => cases hf; subst hq; exact o_bin h1 h2 (fun _ => rfl) fun w => Lib.run_eql_slice_nil w t e q n c 0 0 ht
  | neq => cases hf; subst hq; exact o_bin h1 h2 (fun _ => rfl) fun w => run_neq_slice_nil_any w t e q n c 0 0 ht
  | _ => exact hf.elim
/-! Structs of numbers. -/
def intAt (xs : Array Value) (o : Nat) : Int := match xs[o]? with
  | some (.int _ n) => n
  | _ => 0
theorem run_eqfs {d : Nat} {w : World} (us ws : Array Value) : ∀ (l : List Field) (r : Bool), (∀ f ∈ l, ∃ k' k a b, f.name ≠ "_" ∧ P.underlying f.type = some (.int k') ∧ us[f.offset]? = some (.int k a) ∧ ws[f.offset]? = some (.int k b)) →
    (r = l.all fun f => intAt us f.offset == intAt ws f.offset) →
    (forIn l ((none, ()) : Option Bool × Unit) (fun f (_ : Option Bool × Unit) => (if f.name ≠ "_" then do
          let __do_lift ← part f.type us f.offset
          let __do_lift_1 ← part f.type ws f.offset
          let __do_lift ← Op.equalIn (d + 1) f.type __do_lift __do_lift_1
          if (!__do_lift) = true then pure (ForInStep.done (some false, ()))
            else pure (ForInStep.yield (none, ()))
        else pure (ForInStep.yield (none, ())) : Sem (ForInStep (Option Bool × Unit))))).run P w = .ok (if r then none else some false, ()) w := by
  intro l
  induction l with
  | nil => intro r _ hr; subst hr; rfl
  | cons f l ih =>
    intro r hf hr
    obtain ⟨k', k, a, b, h1, h2, h3, h4⟩ := hf f (List.mem_cons_self ..)
    have hag : (isAgg f.type).run P w = .ok false w := by
      unfold isAgg
      rw [Sem.run_bind, run_underlying h2]
      rfl
    have hp : ∀ (xs : Array Value) v, xs[f.offset]? = some v → (part f.type xs f.offset).run P w = .ok v w := by
      intro xs v hv
      unfold part
      rw [Sem.run_bind, hag]
      simp [Result.andThen, hv]
    have heq : (Op.equalIn (d + 1) f.type (.int k a) (.int k b)).run P w = .ok (a == b) w := by
      unfold Op.equalIn
      rw [Sem.run_bind, run_underlying h2]
      simp [Result.andThen]
    rw [List.forIn_cons]
    simp only [ne_eq, h1, not_false_eq_true, if_true, Sem.run_bind, hp us _ h3, hp ws _ h4, heq, Result.andThen]
    have hall : r = ((a == b) && l.all fun f => intAt us f.offset == intAt ws f.offset) := by
      rw [hr, List.all_cons]
      congr 1
      simp [intAt, h3, h4]
    cases hab : (a == b) with
    | false =>
      rw [hall, hab]
      simp
    | true =>
      have := ih _ (fun f hm => hf f (List.mem_cons_of_mem _ hm)) rfl
      rw [hall, hab]
      simp only [Bool.not_true, Bool.false_eq_true, if_false, Sem.run_pure, Bool.true_and, Result.andThen]
      exact this
theorem run_eqst {t : Nat} {fs : Array Field} (ht : P.underlying t = some (.struct fs)) (hst : P.stoodInHeld t = false) {d : Nat} {w : World} (us ws : Array Value) (r : Bool) (hf : ∀ f ∈ fs.toList, ∃ k' k a b, f.name ≠ "_" ∧ P.underlying f.type = some (.int k') ∧ us[f.offset]? = some (.int k a) ∧ ws[f.offset]? = some (.int k b))
    (hr : r = fs.toList.all fun f => intAt us f.offset == intAt ws f.offset) : (Op.equalIn (d + 2) t (.agg us) (.agg ws)).run P w = .ok r w := by
  have key := run_eqfs (P := P) (d := d) (w := w) us ws fs.toList r hf hr
  rw [Array.forIn_toList] at key
  unfold Op.equalIn
  rw [Sem.run_bind, run_underlying ht]
  simp only [Result.andThen, program, Sem.run_bind, Sem.run, hst, Bool.false_eq_true, if_false]
  erw [key]
  cases r <;> rfl
theorem not_guard {t : Nat} {fs : Array Field} (ht : P.underlying t = some (.struct fs)) (hf : ∀ f ∈ fs.toList, ∃ k', P.underlying f.type = some (.int k')) (d : Nat) : P.eqGuardType (d + 2) t = false := by
  unfold Program.eqGuardType
  rw [ht]
  simp only [Array.any_eq_false]
  intro i hi
  obtain ⟨k', hk⟩ := hf fs[i] (by simp)
  unfold Program.eqGuardType
  rw [hk]
  simp
theorem eqCell_some {x y : AV} {k : Bool → Option R} {r : R} (h : eqCell x y k = some r) : ∃ b, k b = some r ∧ ∀ ρ u w, VR ρ x u → VR ρ y w → ∃ kk m n, u = .int kk m ∧ w = .int kk n ∧ b = (m == n) := by
  unfold eqCell at h
  split at h
  · rw [ifK_eq] at h
    split at h
    · rename_i hk
      obtain rfl := kEq_eq hk
      rw [boolK_eq] at h
      refine ⟨_, h, fun ρ u w hu hw => ?_⟩
      cases hu; cases hw
      exact ⟨_, _, _, rfl, rfl, rfl⟩
    · cases h
  · rw [ifK_eq] at h
    split at h
    · rename_i hk
      have := Pth.beq_eq hk
      subst this
      refine ⟨true, h, fun ρ u w hu hw => ?_⟩
      cases hu with
      | sym h1 h2 =>
        cases hw with
        | sym h3 h4 =>
          rw [h1] at h3
          cases h3
          exact ⟨_, _, _, rfl, rfl, by simp⟩
    · cases h
  · cases h
theorem eqOff_some {l m : List AV} {k : Bool → Option R} {r : R} : ∀ {os : List Nat} {b : Bool}, eqOff l m os b k = some r → ∃ c, k c = some r ∧ ∀ ρ us ws, VRs ρ l us → VRs ρ m ws → (c = (b && os.all fun o => intAt us.toArray o == intAt ws.toArray o)) ∧ ∀ o ∈ os, ∃ kk a c, us.toArray[o]? = some (.int kk a) ∧ ws.toArray[o]? = some (.int kk c)
  | [], b, h => ⟨b, h, fun ρ us ws _ _ => ⟨by simp, fun o ho => by cases ho⟩⟩
  | o :: os, b, h => by
    unfold eqOff at h
    split at h
    · rename_i x y hx hy
      obtain ⟨c, h1, h2⟩ := eqCell_some h
      rw [boolK_eq] at h1
      obtain ⟨c', h3, h4⟩ := eqOff_some h1
      refine ⟨c', h3, fun ρ us ws hl hm => ?_⟩
      obtain ⟨h5, h6⟩ := h4 ρ us ws hl hm
      obtain ⟨u, h7, h8⟩ := hl.get hx
      obtain ⟨w, h9, h10⟩ := hm.get hy
      obtain ⟨kk, a, c2, rfl, rfl, rfl⟩ := h2 ρ u w h8 h10
      have e1 : us.toArray[o]? = some (.int kk a) := by simpa using h7
      have e2 : ws.toArray[o]? = some (.int kk c2) := by simpa using h9
      refine ⟨?_, fun o' ho => ?_⟩
      · rw [h5, List.all_cons, show intAt us.toArray o = a by simp [intAt, e1], show intAt ws.toArray o = c2 by simp [intAt, e2], Bool.and_assoc]
      · rcases List.mem_cons.1 ho with rfl | ho
        · exact ⟨kk, a, c2, e1, e2⟩
        · exact h6 o' ho
    · cases h
theorem binS_agg {op : BinOp} {f : Bool → Bool} (hf : EqF op f) {t : TypeId} {offs : List Nat} (ht : eqOffs P t = some offs) : BinS P op t y (aggEq f offs : Bin R) := by
  unfold eqOffs at ht
  split at ht
  · rename_i fs hu
    split at ht
    · rename_i hc
      cases ht
      simp only [Bool.and_eq_true, Bool.not_eq_true', List.all_eq_true, bne_iff_ne] at hc
      obtain ⟨hc1, hc2⟩ := hc
      have hint : ∀ f ∈ fs.toList, ∃ k', P.underlying f.type = some (.int k') := fun f hm => by
        have := (hc1 f hm).2
        split at this
        · rename_i k' hk; exact ⟨k', hk⟩
        · cases this
      intro a b k r hr
      unfold aggEq at hr
      split at hr
      · rename_i l m
        obtain ⟨c, h1, h2⟩ := eqOff_some hr
        rw [outB_eq] at h1
        refine ⟨_, h1, fun ρ ua ub ha hb => ?_⟩
        cases ha with
        | agg hl =>
          rename_i us
          cases hb with
          | agg hm =>
            rename_i ws
            obtain ⟨h3, h4⟩ := h2 ρ us ws hl hm
            have hrun : ∀ w : World, (Op.equal t (.agg us.toArray) (.agg ws.toArray)).run P w = .ok c w := fun w => by
              refine run_eqst hu hc2 (d := 9998) us.toArray ws.toArray c (fun g hg => ?_) (by rw [h3, List.all_map, Bool.true_and]; rfl)
              obtain ⟨k', hk⟩ := hint g hg
              obtain ⟨kk, x, z, e1, e2⟩ := h4 g.offset (List.mem_map_of_mem hg)
              exact ⟨k', kk, x, z, (hc1 g hg).1, hk, e1, e2⟩
            have hgd : ∀ (op : BinOp) (x : Operand) (w : World), (eqGuard op t x y (.agg us.toArray) (.agg ws.toArray)).run P w = .ok () w := fun op x w => by
              obtain ⟨n, hn⟩ : ∃ n, P.depth = n + 2 := ⟨2 * (P.types.size + Made.depth), rfl⟩
              have hg : P.eqGuardType P.depth t = false := by rw [hn]; exact not_guard hu hint n
              cases op <;> simp [eqGuard, program, Sem.run, Result.andThen, hg]
            refine ⟨_, .B, fun E h x u' dst ty pos aft g k1 k2 => ?_⟩
            cases op with
            | eql =>
              cases hf
              refine o_bin k1 k2 (hgd _ x) fun w => ?_
              simp only [binOp, Sem.run_bind, hrun w, Result.andThen, Sem.run_pure]
            | neq =>
              cases hf
              refine o_bin k1 k2 (hgd _ x) fun w => ?_
              simp only [binOp, Sem.run_bind, hrun w, Result.andThen, Sem.run_pure]
            | _ => exact hf.elim
      · cases hr
    · cases ht
  · cases ht
theorem eqT_ok {op : BinOp} {f : Bool → Bool} (hf : EqF op f) {t : TypeId} {g : Option (Bin R)} {b : Bin R} (hg : ∀ b, g = some b → BinS P op t y b) (h : eqT P t y f g = some b) : BinS P op t y b := by
  unfold eqT at h
  split at h
  · exact hg _ h
  · exact hg _ h
  · rename_i ht; cases h; exact binS_bool hf ht
  · rename_i ht; cases h; exact binS_ptr hf ht
  · rename_i ht
    split at h
    · rename_i hy; cases h; exact binS_ifc hf ht hy
    · cases h
  · rename_i ht; cases h; exact binS_sl hf ht
  · split at h
    · rename_i ht; cases h; exact binS_agg hf ht
    · cases h
  · cases h
theorem binT_ok {op : BinOp} {t : TypeId} {b : Bin R} (h : binT P op t y = some b) : BinS P op t y b := by
  unfold binT at h
  split at h
  · exact eqT_ok (op := .eql) rfl (fun b hb => binF_eql hb) h
  · exact eqT_ok (op := .neq) rfl (fun b hb => binF_neq hb) h
  · rename_i h1 h2; exact binF_ok h ⟨h1, h2⟩
end Ry
end Go.TP
