/- The engine, part 2: operations that leave the heap as it is. -/
import Derived.Test.YtnmdbemccdhdmaaGreatDoorCore
import Derived.Laws.Bits
import Derived.Laws.Cells
import Derived.Laws.Entries
import Derived.Laws.Build
import Derived.Tactics
import Derived.Laws.Small
import Derived.Laws.Pointers
import Derived.WideLaws
namespace Go.TP
open Go

def cel (h : Heap) (b o : Nat) : Option Value :=
  match h[b]? with
  | some (.cells c _ _) => c[o]?
  | _ => none
theorem cell_cel {w : World} {h : Heap} (hw : w.heap = h) (b o : Nat) : w.cell? ⟨b, o, none⟩ = cel h b o := by
  subst hw
  unfold World.cell? cel
  cases w.heap[b]? with
  | none => rfl
  | some x => cases x <;> rfl
theorem addr_add (b o n : Nat) : (⟨b, o, none⟩ : Addr).add n = ⟨b, o + n, none⟩ := by
  unfold Addr.add
  split
  · rename_i hn; simp [hn]
  · rfl

/-! ### What is asked of the program's types: closed facts -/
def foB (P : Program) (s i off : Nat) : Bool :=
  match P.underlying s with
  | some (.struct fs) => match fs[i]? with
    | some f => f.offset == off && (match P.info? f.type with | some inf => inf.size != 0 | none => false)
    | none => false
  | _ => false
/-- Field i of struct type s lies so many cells behind its beginning. -/
def Fo (P : Program) (s i off : Nat) : Prop := foB P s i off = true
def oneB (P : Program) (t : Nat) : Bool :=
  match P.underlying t, P.info? t with
  | some (.struct _), _ => false
  | some (.array _ _), _ => false
  | some _, some inf => inf.size == 1
  | _, _ => false
/-- A type of one cell. -/
def One (P : Program) (t : Nat) : Prop := oneB P t = true
def aggB (P : Program) (t n : Nat) : Bool :=
  match P.underlying t, P.info? t with
  | some (.struct _), some inf => inf.size == n
  | some (.array _ _), some inf => inf.size == n
  | _, _ => false
/-- A struct or an array of n cells. -/
def Agg (P : Program) (t n : Nat) : Prop := aggB P t n = true
def slcB (P : Program) (t e size : Nat) : Bool :=
  match P.underlying t, P.info? e with
  | some (.slice e'), some inf => e' == e && inf.size == size
  | _, _ => false
/-- A slice type: its elements' type, of so many cells. -/
def Slc (P : Program) (t e size : Nat) : Prop := slcB P t e size = true
def intB (P : Program) (t : Nat) (k : IntKind) : Bool :=
  match P.underlying t with
  | some (.int k') => k' == k
  | _ => false
def Itk (P : Program) (t : Nat) (k : IntKind) : Prop := intB P t k = true
def someB (P : Program) (t : Nat) : Bool := (P.underlying t).isSome
def Tyk (P : Program) (t : Nat) : Prop := someB P t = true
def strB (P : Program) (t : Nat) : Bool := match P.underlying t with | some .string => true | _ => false
def Str (P : Program) (t : Nat) : Prop := strB P t = true
def concB (P : Program) (t : Nat) : Bool := match P.underlying t with | some (.interface _) => false | some _ => true | none => false
def Conc (P : Program) (t : Nat) : Prop := concB P t = true
/-- A type's zero value, its size in cells, its bytes. -/
def Inf (P : Program) (t : Nat) (z : Value) (size bytes : Nat) : Prop := (P.info? t).map (fun i => (i.zero, i.size, i.bytes)) = some (some z, size, bytes)

section
variable {P : Program}
theorem Fo.spec {s i off : Nat} (hf : Fo P s i off) : ∃ fs f inf, P.underlying s = some (.struct fs) ∧ fs[i]? = some f ∧ f.offset = off ∧ P.info? f.type = some inf ∧ inf.size ≠ 0 := by
  unfold Fo foB at hf
  split at hf
  · rename_i fs h1
    split at hf
    · rename_i f h2
      simp only [Bool.and_eq_true, beq_iff_eq] at hf
      obtain ⟨h3, h4⟩ := hf
      split at h4
      · rename_i inf h5; exact ⟨fs, f, inf, h1, h2, h3, h5, by simpa using h4⟩
      · cases h4
    · cases hf
  · cases hf
theorem One.spec {t : Nat} (ho : One P t) (w : World) : (isAgg t).run P w = .ok false w ∧ (sizeOf t).run P w = .ok 1 w := by
  unfold One oneB at ho
  split at ho
  · cases ho
  · cases ho
  · rename_i d inf h0 h1 h2 h3
    have h4 : inf.size = 1 := by simpa using ho
    constructor
    · unfold isAgg
      rw [Sem.run_bind, run_underlying h2]
      cases d <;> first | rfl | exact (h0 _ rfl).elim | exact (h1 _ _ rfl).elim
    · simp [sizeOf, typeInfo, h3, h4]
  · cases ho
theorem Agg.spec {t n : Nat} (ho : Agg P t n) (w : World) : (isAgg t).run P w = .ok true w ∧ (sizeOf t).run P w = .ok n w := by
  unfold Agg aggB at ho
  split at ho
  · rename_i fs inf h2 h3
    have h4 : inf.size = n := by simpa using ho
    exact ⟨by simp [isAgg, run_underlying h2], by simp [sizeOf, typeInfo, h3, h4]⟩
  · rename_i a b inf h2 h3
    have h4 : inf.size = n := by simpa using ho
    exact ⟨by simp [isAgg, run_underlying h2], by simp [sizeOf, typeInfo, h3, h4]⟩
  · cases ho
theorem Slc.spec {t e size : Nat} (ho : Slc P t e size) : P.underlying t = some (.slice e) ∧ ∃ inf, P.info? e = some inf ∧ inf.size = size := by
  unfold Slc slcB at ho
  split at ho
  · rename_i e' inf h2 h3
    simp only [Bool.and_eq_true, beq_iff_eq] at ho
    exact ⟨ho.1 ▸ h2, inf, h3, ho.2⟩
  · cases ho
theorem Itk.spec {t : Nat} {k : IntKind} (ho : Itk P t k) : P.underlying t = some (.int k) := by
  unfold Itk intB at ho
  split at ho
  · rename_i k' h2
    have : k' = k := by simpa using ho
    rw [h2, this]
  · cases ho
theorem Str.spec {t : Nat} (ho : Str P t) : P.underlying t = some .string := by
  unfold Str strB at ho
  split at ho
  · assumption
  · cases ho
theorem Inf.spec {t : Nat} {z : Value} {size bytes : Nat} (hi : Inf P t z size bytes) : ∃ i, P.info? t = some i ∧ i.zero = some z ∧ i.size = size ∧ i.bytes = bytes := by
  obtain ⟨i, h1, h2⟩ := Option.map_eq_some_iff.1 hi
  simp only [Prod.mk.injEq] at h2
  exact ⟨i, h1, h2.1, h2.2.1, h2.2.2⟩
end

/-! ### The rules -/
section
variable {P : Program} {e : Env} {h : Heap} {d : Option Tmp} {ty : TypeId} {pos : String} {aft : Array Edge} {g : Option (Nat × Bool)}

theorem o_mv {x : Operand} {v : Value} (hx : ev e x = some v) : Ev P e h ⟨d, .move x, ty, pos, aft, g⟩ v :=
  fun ρ w hA _ => ⟨by simp [execOp, hA x v hx], rfl⟩
theorem o_as {x : Operand} {v : Value} (hx : ev e x = some v) : Ev P e h ⟨d, .assign x, ty, pos, aft, g⟩ v :=
  fun ρ w hA _ => ⟨by simp [execOp, hA x v hx], rfl⟩
theorem o_pt {c x y : Operand} {b : Bool} {v : Value} (hc : ev e c = some (.bool b)) (hb : b = true) (hx : ev e x = some v) : Ev P e h ⟨d, .pick c x y, ty, pos, aft, g⟩ v :=
  fun ρ w hA _ => ⟨by simp [execOp, hA c _ hc, hA x v hx, asBool, hb], rfl⟩
theorem o_pf {c x y : Operand} {b : Bool} {v : Value} (hc : ev e c = some (.bool b)) (hb : b = false) (hy : ev e y = some v) : Ev P e h ⟨d, .pick c x y, ty, pos, aft, g⟩ v :=
  fun ρ w hA _ => ⟨by simp [execOp, hA c _ hc, hA y v hy, asBool, hb], rfl⟩
theorem o_nc {x : Operand} {a : Addr} (hx : ev e x = some (.pointer (some a))) : Ev P e h ⟨d, .nilCheck x, ty, pos, aft, g⟩ (.pointer (some a)) :=
  fun ρ w hA _ => ⟨by simp [execOp, hA x _ hx], rfl⟩
theorem o_nci {x : Operand} {t : TypeId} {v : Value} (hx : ev e x = some (.iface t v)) : Ev P e h ⟨d, .nilCheck x, ty, pos, aft, g⟩ (.iface t v) :=
  fun ρ w hA _ => ⟨by simp [execOp, hA x _ hx], rfl⟩
theorem o_ex {x : Operand} {vs : Array Value} {i : Nat} {v : Value} (hx : ev e x = some (.tuple vs)) (hi : vs[i]? = some v) : Ev P e h ⟨d, .extract x i, ty, pos, aft, g⟩ v :=
  fun ρ w hA _ => ⟨by simp [execOp, hA x _ hx, Instr.extract, hi], rfl⟩
theorem o_fa {s i off b o : Nat} {x : Operand} (hf : Fo P s i off) (hx : ev e x = some (.pointer (some ⟨b, o, none⟩))) : Ev P e h ⟨d, .fieldAddr s x i, ty, pos, aft, g⟩ (.pointer (some ⟨b, o + off, none⟩)) := by
  intro ρ w hA _
  obtain ⟨fs, f, inf, h1, h2, h3, h4, h5⟩ := hf.spec
  refine ⟨?_, rfl⟩
  simp [execOp, hA x _ hx, Instr.fieldAt, run_underlying h1, h2, Instr.sureAddr, fieldPlace, sizeOf, typeInfo, h4, h5, h3, addr_add]
theorem o_ld {t b o : Nat} {x : Operand} {v : Value} (ht : One P t) (hx : ev e x = some (.pointer (some ⟨b, o, none⟩))) (hc : cel h b o = some v) : Ev P e h ⟨d, .load t x, ty, pos, aft, g⟩ v := by
  intro ρ w hA hw
  refine ⟨?_, rfl⟩
  simp [execOp, hA x _ hx, Instr.loadAt, Instr.sureAddr, loadVar, (ht.spec w).1, load, Sem.run, cell_cel hw, hc]
theorem o_lda {t n b o : Nat} {x : Operand} {vs : List Value} (ht : Agg P t n) (hx : ev e x = some (.pointer (some ⟨b, o, none⟩))) (hn : vs.length = n) (hc : ∀ j v, vs[j]? = some v → cel h b (o + j) = some v) :
    Ev P e h ⟨d, .load t x, ty, pos, aft, g⟩ (.agg vs.toArray) := by
  intro ρ w hA hw
  refine ⟨?_, rfl⟩
  subst hn
  have hl := run_loadCells_list (P := P) (w := w) ⟨b, o, none⟩ vs (fun j v hv => by rw [addr_add, cell_cel hw]; exact hc j v hv)
  simp [execOp, hA x _ hx, Instr.loadAt, Instr.sureAddr, loadVar, (ht.spec w).1, (ht.spec w).2, hl]

/-! whole numbers -/
theorem binOp_int_other {op : BinOp} {t : TypeId} {k : IntKind} {m n : Int} {w : World} (x y : Operand) (h1 : op ≠ .shl) (h2 : op ≠ .shr) :
    (do eqGuard op t x y (.int k m) (.int k n); binOp op t (.int k m) (.int k n) : Sem Value).run P w =
      (match op with
        | .add | .sub | .mul => Op.intArith op k m n
        | .quo | .rem => Op.intDiv op k m n
        | .and | .or | .xor | .andNot => Op.intBits op k m n
        | _ => Op.intCmp op m n : Sem Value).run P w := by
  cases op <;> first | exact absurd rfl h1 | exact absurd rfl h2 | simp [eqGuard, binOp]
variable {x y : Operand} {t u : TypeId} {k : IntKind} {m n : Int}
theorem o_add (hx : ev e x = some (.int k m)) (hy : ev e y = some (.int k n)) : Ev P e h ⟨d, .binOp .add t x y u, ty, pos, aft, g⟩ (.int k (k.wrap (m + n))) :=
  fun ρ w hA _ => ⟨by simp [execOp, hA x _ hx, hA y _ hy, eqGuard, binOp, Op.intArith], rfl⟩
theorem o_sub (hx : ev e x = some (.int k m)) (hy : ev e y = some (.int k n)) : Ev P e h ⟨d, .binOp .sub t x y u, ty, pos, aft, g⟩ (.int k (k.wrap (m - n))) :=
  fun ρ w hA _ => ⟨by simp [execOp, hA x _ hx, hA y _ hy, eqGuard, binOp, Op.intArith], rfl⟩
theorem o_mul (hx : ev e x = some (.int k m)) (hy : ev e y = some (.int k n)) : Ev P e h ⟨d, .binOp .mul t x y u, ty, pos, aft, g⟩ (.int k (k.wrap (m * n))) :=
  fun ρ w hA _ => ⟨by simp [execOp, hA x _ hx, hA y _ hy, eqGuard, binOp, Op.intArith], rfl⟩
theorem wrap_in (k : IntKind) {z : Int} (h1 : k.min ≤ z) (h2 : z ≤ k.max) : k.wrap z = z := by
  cases k <;> simp [IntKind.wrap, IntKind.min, IntKind.max, IntKind.bits, IntKind.signed] at * <;> omega
theorem wrap64 {z : Int} (h1 : -9223372036854775808 ≤ z) (h2 : z ≤ 9223372036854775807) : IntKind.i64.wrap z = z := by
  simp [IntKind.wrap, IntKind.bits, IntKind.signed]; omega
/-- int's sum within its bounds. -/
theorem o_addi {r : Int} (hx : ev e x = some (.int .i64 m)) (hy : ev e y = some (.int .i64 n)) (hr : m + n = r) (hb : -9223372036854775808 ≤ r ∧ r ≤ 9223372036854775807) : Ev P e h ⟨d, .binOp .add t x y u, ty, pos, aft, g⟩ (.int .i64 r) := by
  have := o_add (P := P) (h := h) (d := d) (ty := ty) (pos := pos) (aft := aft) (g := g) (t := t) (u := u) hx hy
  rwa [hr, wrap64 hb.1 hb.2] at this
theorem o_subi {r : Int} (hx : ev e x = some (.int .i64 m)) (hy : ev e y = some (.int .i64 n)) (hr : m - n = r) (hb : -9223372036854775808 ≤ r ∧ r ≤ 9223372036854775807) : Ev P e h ⟨d, .binOp .sub t x y u, ty, pos, aft, g⟩ (.int .i64 r) := by
  have := o_sub (P := P) (h := h) (d := d) (ty := ty) (pos := pos) (aft := aft) (g := g) (t := t) (u := u) hx hy
  rwa [hr, wrap64 hb.1 hb.2] at this
theorem o_muli {r : Int} (hx : ev e x = some (.int .i64 m)) (hy : ev e y = some (.int .i64 n)) (hr : m * n = r) (hb : -9223372036854775808 ≤ r ∧ r ≤ 9223372036854775807) : Ev P e h ⟨d, .binOp .mul t x y u, ty, pos, aft, g⟩ (.int .i64 r) := by
  have := o_mul (P := P) (h := h) (d := d) (ty := ty) (pos := pos) (aft := aft) (g := g) (t := t) (u := u) hx hy
  rwa [hr, wrap64 hb.1 hb.2] at this
theorem o_quo (hx : ev e x = some (.int k m)) (hy : ev e y = some (.int k n)) (hn : n ≠ 0) : Ev P e h ⟨d, .binOp .quo t x y u, ty, pos, aft, g⟩ (.int k (k.wrap (m.tdiv n))) :=
  fun ρ w hA _ => ⟨by simp [execOp, hA x _ hx, hA y _ hy, eqGuard, binOp, Op.intDiv, hn], rfl⟩
theorem o_rem (hx : ev e x = some (.int k m)) (hy : ev e y = some (.int k n)) (hn : n ≠ 0) : Ev P e h ⟨d, .binOp .rem t x y u, ty, pos, aft, g⟩ (.int k (m.tmod n)) :=
  fun ρ w hA _ => ⟨by simp [execOp, hA x _ hx, hA y _ hy, eqGuard, binOp, Op.intDiv, hn], rfl⟩
/-- The bits of two numbers together. -/
def bitOp (op : BinOp) (k : IntKind) (m n : Int) : Int :=
  let a := BitVec.ofInt k.bits m
  let b := BitVec.ofInt k.bits n
  k.wrap ((match op with | .and => a &&& b | .or => a ||| b | .xor => a ^^^ b | _ => a &&& ~~~b).toNat : Int)
theorem o_and (hx : ev e x = some (.int k m)) (hy : ev e y = some (.int k n)) : Ev P e h ⟨d, .binOp .and t x y u, ty, pos, aft, g⟩ (.int k (bitOp .and k m n)) :=
  fun ρ w hA _ => ⟨by simp [execOp, hA x _ hx, hA y _ hy, eqGuard, binOp, Op.intBits, bitOp], rfl⟩
theorem o_or (hx : ev e x = some (.int k m)) (hy : ev e y = some (.int k n)) : Ev P e h ⟨d, .binOp .or t x y u, ty, pos, aft, g⟩ (.int k (bitOp .or k m n)) :=
  fun ρ w hA _ => ⟨by simp [execOp, hA x _ hx, hA y _ hy, eqGuard, binOp, Op.intBits, bitOp], rfl⟩
theorem o_xor (hx : ev e x = some (.int k m)) (hy : ev e y = some (.int k n)) : Ev P e h ⟨d, .binOp .xor t x y u, ty, pos, aft, g⟩ (.int k (bitOp .xor k m n)) :=
  fun ρ w hA _ => ⟨by simp [execOp, hA x _ hx, hA y _ hy, eqGuard, binOp, Op.intBits, bitOp], rfl⟩
theorem o_andNot (hx : ev e x = some (.int k m)) (hy : ev e y = some (.int k n)) : Ev P e h ⟨d, .binOp .andNot t x y u, ty, pos, aft, g⟩ (.int k (bitOp .andNot k m n)) :=
  fun ρ w hA _ => ⟨by simp [execOp, hA x _ hx, hA y _ hy, eqGuard, binOp, Op.intBits, bitOp], rfl⟩
variable {k' : IntKind}
theorem o_shl (hx : ev e x = some (.int k m)) (hy : ev e y = some (.int k' n)) (hn : 0 ≤ n) : Ev P e h ⟨d, .binOp .shl t x y u, ty, pos, aft, g⟩ (.int k (k.wrap (m * 2 ^ (min n.toNat k.bits)))) :=
  fun ρ w hA _ => ⟨by simp [execOp, hA x _ hx, hA y _ hy, eqGuard, binOp, Op.shift, show ¬ n < 0 by omega], rfl⟩
theorem o_shr (hx : ev e x = some (.int k m)) (hy : ev e y = some (.int k' n)) (hn : 0 ≤ n) : Ev P e h ⟨d, .binOp .shr t x y u, ty, pos, aft, g⟩ (.int k (m.fdiv (2 ^ (min n.toNat k.bits)))) :=
  fun ρ w hA _ => ⟨by simp [execOp, hA x _ hx, hA y _ hy, eqGuard, binOp, Op.shift, show ¬ n < 0 by omega], rfl⟩
theorem o_lss (hx : ev e x = some (.int k m)) (hy : ev e y = some (.int k n)) : Ev P e h ⟨d, .binOp .lss t x y u, ty, pos, aft, g⟩ (.bool (decide (m < n))) :=
  fun ρ w hA _ => ⟨by simp [execOp, hA x _ hx, hA y _ hy, eqGuard, binOp, Op.intCmp], rfl⟩
theorem o_leq (hx : ev e x = some (.int k m)) (hy : ev e y = some (.int k n)) : Ev P e h ⟨d, .binOp .leq t x y u, ty, pos, aft, g⟩ (.bool (decide (m ≤ n))) :=
  fun ρ w hA _ => ⟨by simp [execOp, hA x _ hx, hA y _ hy, eqGuard, binOp, Op.intCmp], rfl⟩
theorem o_gtr (hx : ev e x = some (.int k m)) (hy : ev e y = some (.int k n)) : Ev P e h ⟨d, .binOp .gtr t x y u, ty, pos, aft, g⟩ (.bool (decide (n < m))) :=
  fun ρ w hA _ => ⟨by simp [execOp, hA x _ hx, hA y _ hy, eqGuard, binOp, Op.intCmp], rfl⟩
theorem o_geq (hx : ev e x = some (.int k m)) (hy : ev e y = some (.int k n)) : Ev P e h ⟨d, .binOp .geq t x y u, ty, pos, aft, g⟩ (.bool (decide (n ≤ m))) :=
  fun ρ w hA _ => ⟨by simp [execOp, hA x _ hx, hA y _ hy, eqGuard, binOp, Op.intCmp], rfl⟩
theorem o_eql (hx : ev e x = some (.int k m)) (hy : ev e y = some (.int k n)) : Ev P e h ⟨d, .binOp .eql t x y u, ty, pos, aft, g⟩ (.bool (decide (m = n))) :=
  fun ρ w hA _ => ⟨by simp [execOp, hA x _ hx, hA y _ hy, eqGuard, binOp, Op.intCmp]; rfl, rfl⟩
theorem o_neq (hx : ev e x = some (.int k m)) (hy : ev e y = some (.int k n)) : Ev P e h ⟨d, .binOp .neq t x y u, ty, pos, aft, g⟩ (.bool (decide (m ≠ n))) :=
  fun ρ w hA _ => ⟨by simp [execOp, hA x _ hx, hA y _ hy, eqGuard, binOp, Op.intCmp, bne]; rfl, rfl⟩
theorem o_not {b : Bool} (hx : ev e x = some (.bool b)) : Ev P e h ⟨d, .unOp .not t x, ty, pos, aft, g⟩ (.bool (!b)) :=
  fun ρ w hA _ => ⟨by simp [execOp, hA x _ hx, Op.unary], rfl⟩
theorem o_neg (hx : ev e x = some (.int k m)) : Ev P e h ⟨d, .unOp .neg t x, ty, pos, aft, g⟩ (.int k (k.wrap (0 - m))) :=
  fun ρ w hA _ => ⟨by simp [execOp, hA x _ hx, Op.unary, Op.intArith], rfl⟩
theorem o_com (hx : ev e x = some (.int k m)) : Ev P e h ⟨d, .unOp .xor t x, ty, pos, aft, g⟩ (.int k (bitOp .xor k (if k.signed then -1 else k.max) m)) :=
  fun ρ w hA _ => ⟨by simp [execOp, hA x _ hx, Op.unary, Op.intBits, bitOp], rfl⟩
theorem o_cv {src dst : TypeId} (hs : Tyk P src) (ht : Itk P dst k') (hx : ev e x = some (.int k m)) : Ev P e h ⟨d, .convert src dst x, ty, pos, aft, g⟩ (.int k' (k'.wrap m)) := by
  intro ρ w hA _
  refine ⟨?_, rfl⟩
  obtain ⟨ds, h1⟩ := Option.isSome_iff_exists.1 hs
  simp [execOp, hA x _ hx, convert, run_underlying h1, run_underlying ht.spec, Conv.intToInt]
/-- Any two-sided operation, by what it comes to. -/
theorem o_bin {op : BinOp} {vx vy v : Value} (hx : ev e x = some vx) (hy : ev e y = some vy) (hg : ∀ w : World, (eqGuard op t x y vx vy).run P w = .ok () w) (hb : ∀ w : World, (binOp op t vx vy).run P w = .ok v w) :
    Ev P e h ⟨d, .binOp op t x y u, ty, pos, aft, g⟩ v := by
  intro ρ w hA _
  refine ⟨?_, rfl⟩
  simp only [execOp, hA x _ hx, hA y _ hy, Sem.run_bind, hg, hb, Result.andThen]
  rfl
theorem o_beq {a b : Bool} (ht : P.underlying t = some .bool) (hx : ev e x = some (.bool a)) (hy : ev e y = some (.bool b)) : Ev P e h ⟨d, .binOp .eql t x y u, ty, pos, aft, g⟩ (.bool (a == b)) :=
  o_bin hx hy (fun _ => rfl) fun w => run_eql_bool w t a b ht
theorem o_bne {a b : Bool} (ht : P.underlying t = some .bool) (hx : ev e x = some (.bool a)) (hy : ev e y = some (.bool b)) : Ev P e h ⟨d, .binOp .neq t x y u, ty, pos, aft, g⟩ (.bool (!(a == b))) :=
  o_bin hx hy (fun _ => rfl) fun w => run_neq_bool w t a b ht
def ptrB (P : Program) (t : Nat) : Bool := match P.underlying t with | some (.pointer _) => true | _ => false
/-- A pointer type. -/
def Ptr (P : Program) (t : Nat) : Prop := ptrB P t = true
theorem Ptr.spec (hp : Ptr P t) : P.underlying t = some (.pointer (P.pointee t)) := by
  unfold Ptr ptrB at hp
  unfold Program.pointee
  split at hp
  · rename_i e' he; simp [he]
  · cases hp
def ifcB (P : Program) (t : Nat) : Bool := match P.underlying t with | some (.interface _) => true | _ => false
def Ifc (P : Program) (t : Nat) : Prop := ifcB P t = true
theorem Ifc.spec (hp : Ifc P t) : P.underlying t = some (.interface (P.methodsAt t)) := by
  unfold Ifc ifcB at hp
  unfold Program.methodsAt
  split at hp
  · rename_i e' he; simp [he]
  · cases hp
/-- A pointer against nil: is it nil? -/
theorem o_peq {p : Option Addr} (ht : Ptr P t) (hx : ev e x = some (.pointer p)) (hy : ev e y = some (.pointer none)) : Ev P e h ⟨d, .binOp .eql t x y u, ty, pos, aft, g⟩ (.bool p.isNone) :=
  o_bin hx hy (fun _ => rfl) fun w => run_eql_pointer_nil w t p ht.spec
theorem o_pne {p : Option Addr} (ht : Ptr P t) (hx : ev e x = some (.pointer p)) (hy : ev e y = some (.pointer none)) : Ev P e h ⟨d, .binOp .neq t x y u, ty, pos, aft, g⟩ (.bool (!p.isNone)) :=
  o_bin hx hy (fun _ => rfl) fun w => run_neq_pointer_nil w t p ht.spec
def isNil : Value → Bool
  | .nilIface => true
  | _ => false
def isIface : Value → Bool
  | .nilIface => true
  | .iface _ _ => true
  | _ => false
/-- An interface value against the literal nil. -/
theorem o_ieq {v : Value} (ht : Ifc P t) (hv : isIface v = true) (hx : ev e x = some v) : Ev P e h ⟨d, .binOp .eql t x (.const .nilIface) u, ty, pos, aft, g⟩ (.bool (isNil v)) := by
  cases v with
  | nilIface => exact o_bin hx rfl (fun w => by simp [eqGuard]) fun w => run_eql_nil_nil w t ht.spec
  | iface _ _ => exact o_bin hx rfl (fun _ => rfl) fun w => run_eql_held_nil w t _ _ ht.spec
  | _ => simp [isIface] at hv
theorem o_ine {v : Value} (ht : Ifc P t) (hv : isIface v = true) (hx : ev e x = some v) : Ev P e h ⟨d, .binOp .neq t x (.const .nilIface) u, ty, pos, aft, g⟩ (.bool (!isNil v)) := by
  cases v with
  | nilIface => exact o_bin hx rfl (fun w => by simp [eqGuard]) fun w => run_neq_nil_nil w t ht.spec
  | iface _ _ => exact o_bin hx rfl (fun _ => rfl) fun w => run_neq_held_nil w t _ _ ht.spec
  | _ => simp [isIface] at hv
theorem o_seq {a b : ByteArray} (hx : ev e x = some (.string a)) (hy : ev e y = some (.string b)) : Ev P e h ⟨d, .binOp .eql t x y u, ty, pos, aft, g⟩ (.bool (a.toList == b.toList)) :=
  fun ρ w hA _ => ⟨by simp [execOp, hA x _ hx, hA y _ hy, eqGuard, binOp, Op.stringOp], rfl⟩
theorem o_sne {a b : ByteArray} (hx : ev e x = some (.string a)) (hy : ev e y = some (.string b)) : Ev P e h ⟨d, .binOp .neq t x y u, ty, pos, aft, g⟩ (.bool (!(a.toList == b.toList))) :=
  fun ρ w hA _ => ⟨by simp [execOp, hA x _ hx, hA y _ hy, eqGuard, binOp, Op.stringOp], rfl⟩
theorem o_sadd {a b : ByteArray} (hx : ev e x = some (.string a)) (hy : ev e y = some (.string b)) (hn : (a.size : Int) + b.size ≤ 9223372036854775807) : Ev P e h ⟨d, .binOp .add t x y u, ty, pos, aft, g⟩ (.string (a ++ b)) := by
  refine o_bin hx hy (fun _ => rfl) fun w => ?_
  have : ¬ ((a.size + b.size : Nat) : Int) > IntKind.i64.max := by simp [IntKind.max, IntKind.bits, IntKind.signed]; omega
  simp only [binOp, Op.stringOp, if_neg this]
  rfl
theorem o_mi {v : Value} (ht : Conc P t) (hx : ev e x = some v) : Ev P e h ⟨d, .makeInterface t x, ty, pos, aft, g⟩ (.iface t v) := by
  intro ρ w hA _
  refine ⟨?_, rfl⟩
  unfold Conc concB at ht
  split at ht
  · cases ht
  · rename_i d' hd' hne
    simp only [execOp, hA x _ hx, Instr.makeInterface, Sem.run_bind, run_underlying hne, Result.andThen]
    cases d' <;> first | rfl | exact (hd' _ rfl).elim
  · cases ht
theorem o_mf {fn : Fn} {first captured : Array Operand} {fs cs : List Value} (hf : evs e first.toList = some fs) (hc : evs e captured.toList = some cs) : Ev P e h ⟨d, .makeFunc fn first captured, ty, pos, aft, g⟩ (.func fn fs.toArray cs.toArray) := by
  intro ρ w hA _
  refine ⟨?_, rfl⟩
  have h1 : first.map ρ = fs.toArray := by rw [← hA.evs hf, ← Array.toList_map, Array.toArray_toList]
  have h2 : captured.map ρ = cs.toArray := by rw [← hA.evs hc, ← Array.toList_map, Array.toArray_toList]
  simp [execOp, Instr.makeFunc, h1, h2]
/-- A field of a struct by value. -/
theorem o_fd1 {s i off : Nat} {cs : Array Value} {v : Value} (hs : Fo P s i off) (h1 : ∀ w : World, ∀ fs f, P.underlying s = some (.struct fs) → fs[i]? = some f → (isAgg f.type).run P w = .ok false w) (hx : ev e x = some (.agg cs)) (hv : cs[off]? = some v) :
    Ev P e h ⟨d, .field s x i, ty, pos, aft, g⟩ v := by
  intro ρ w hA _
  refine ⟨?_, rfl⟩
  obtain ⟨fs, f, inf, h2, h3, h4, _, _⟩ := hs.spec
  simp [execOp, hA x _ hx, Instr.field, run_underlying h2, h3, part, asAgg, h1 w fs f h2 h3, h4, hv]
/-- A builtin function that leaves the heap alone. -/
theorem resolve_builtin (b : Builtin) (args : Array Operand) (at_ : Array TypeId) (ty : TypeId) : ∃ cs, ∀ ρ, resolve ρ ⟨.builtin b, args, at_⟩ ty = (pure { target := .builtin b at_ ty cs, args := args.map ρ } : Sem Deferred) := ⟨_, fun _ => rfl⟩
theorem o_bi {b : Builtin} {args : Array Operand} {at_ : Array TypeId} {vals : List Value} {v : Value} (hargs : evs e args.toList = some vals) (hr : ∀ (w : World) cs, (builtin b at_ ty cs vals.toArray).run P w = .ok (.value v) w) :
    Ev P e h ⟨d, .call ⟨.builtin b, args, at_⟩, ty, pos, aft, g⟩ v := by
  intro ρ w hA _
  obtain ⟨cs, h1⟩ := resolve_builtin b args at_ ty
  have h2 : args.map ρ = vals.toArray := by rw [← hA.evs hargs, ← Array.toList_map, Array.toArray_toList]
  refine ⟨?_, ?_⟩
  · simp only [execOp, h1, h2]
    exact hr w cs
  · simp only [Oper.about, h1]
    rfl
/-- len -/
theorem o_len_s {s : ByteArray} (ht : Str P t) (hx : ev e x = some (.string s)) : Ev P e h ⟨d, .call ⟨.builtin .len, #[x], #[t]⟩, ty, pos, aft, g⟩ (.int .i64 (s.size : Nat)) :=
  o_bi (vals := [.string s]) (by simp [evs, hx]) fun w cs => by simp [builtin, Builtin.len_, run_underlying ht.spec, goInt]
theorem run_len_sl {v : Value} {n : Nat} (ht : ∃ e', P.underlying t = some (.slice e')) (hv : ∃ A c, v = .slice A n c) (w : World) : (Builtin.len_ #[t] ty #[v]).run P w = .ok (.int .i64 n) w := by
  obtain ⟨e', h1⟩ := ht
  obtain ⟨A, c, rfl⟩ := hv
  simp [Builtin.len_, run_underlying h1, goInt]
def slcTB (P : Program) (t : Nat) : Bool := match P.underlying t with | some (.slice _) => true | _ => false
/-- A slice type. -/
def SlcT (P : Program) (t : Nat) : Prop := slcTB P t = true
theorem SlcT.spec (hp : SlcT P t) : ∃ e', P.underlying t = some (.slice e') := by
  unfold SlcT slcTB at hp
  split at hp
  · exact ⟨_, ‹_›⟩
  · cases hp
/-- The number of elements that a slice value shows. -/
def sn : Value → Nat
  | .slice _ n _ => n
  | _ => 0
def sb : Value → Nat
  | .slice (some a) _ _ => a.block
  | _ => 0
def so : Value → Nat
  | .slice (some a) _ _ => a.off
  | _ => 0
def sc : Value → Nat
  | .slice _ _ c => c
  | _ => 0
def isSlice : Value → Bool
  | .slice none n _ => n == 0
  | .slice (some a) _ _ => a.spot.isNone
  | _ => false
theorem o_len {v : Value} (ht : SlcT P t) (hv : isSlice v = true) (hx : ev e x = some v) : Ev P e h ⟨d, .call ⟨.builtin .len, #[x], #[t]⟩, ty, pos, aft, g⟩ (.int .i64 (sn v : Nat)) := by
  refine o_bi (vals := [v]) (by simp [evs, hx]) fun w cs => ?_
  have : ∃ A c, v = .slice A (sn v) c := by
    cases v with
    | slice A n c => exact ⟨_, _, rfl⟩
    | _ => simp [isSlice] at hv
  simp only [builtin, Sem.run_bind, run_len_sl ht.spec this w]
  rfl
/-- The address of an element. -/
theorem o_ia {t el size i : Nat} {v : Value} (ht : Slc P t el size) (hv : isSlice v = true) (hx : ev e x = some v) (hy : ev e y = some (.int k m)) (hm : m = (i : Nat)) (hi : i < sn v) :
    Ev P e h ⟨d, .indexAddr t x y, ty, pos, aft, g⟩ (.pointer (some ⟨sb v, so v + i * size, none⟩)) := by
  intro ρ w hA _
  refine ⟨?_, rfl⟩
  obtain ⟨h1, inf, h2, h3⟩ := ht.spec
  cases v with
  | slice a n c =>
    cases a with
    | none => simp [isSlice] at hv; simp [sn, hv] at hi
    | some a =>
      obtain ⟨b, o, sp⟩ := a
      have hsp : sp = none := by simpa [isSlice] using hv
      subst hsp
      simp only [sn] at hi
      subst hm
      have hr : (Instr.indexAt t (.slice (some ⟨b, o, none⟩) n c) (.int k (i : Nat))).run P w = .ok (.pointer (some ⟨b, o + i * size, none⟩)) w := by
        simp [Instr.indexAt, asIntOf, run_underlying h1, sizeOf, typeInfo, h2, h3, addr_add, hi]
      simp only [execOp, hA x _ hx, hA y _ hy, Sem.run_bind, hr]
      rfl
  | _ => simp [isSlice] at hv
/-- A byte of a string. -/
theorem o_ixs {s : ByteArray} {i : Nat} {b : UInt8} (ht : Str P t) (hx : ev e x = some (.string s)) (hy : ev e y = some (.int k m)) (hm : m = (i : Nat)) (hi : s[i]? = some b) :
    Ev P e h ⟨d, .index t x y, ty, pos, aft, g⟩ (.int .u8 b.toNat) := by
  intro ρ w hA _
  refine ⟨?_, rfl⟩
  subst hm
  simp [execOp, hA x _ hx, hA y _ hy, Instr.index, asIntOf, run_underlying ht.spec, hi]
theorem o_max {at_ : Array TypeId} (hx : ev e x = some (.int k m)) (hy : ev e y = some (.int k' n)) : Ev P e h ⟨d, .call ⟨.builtin .max, #[x, y], at_⟩, ty, pos, aft, g⟩ (.int k (max m n)) :=
  o_bi (vals := [.int k m, .int k' n]) (by simp [evs, hx, hy]) fun w cs => by
    have : max m n = if n > m then n else m := by rw [Int.max_def]; split <;> split <;> omega
    simp [builtin, Builtin.max_, Builtin.max2, this]
theorem o_min {at_ : Array TypeId} (hx : ev e x = some (.int k m)) (hy : ev e y = some (.int k' n)) : Ev P e h ⟨d, .call ⟨.builtin .min, #[x, y], at_⟩, ty, pos, aft, g⟩ (.int k (min m n)) :=
  o_bi (vals := [.int k m, .int k' n]) (by simp [evs, hx, hy]) fun w cs => by
    have : min m n = if n < m then n else m := by rw [Int.min_def]; split <;> split <;> omega
    simp [builtin, Builtin.min_, Builtin.min2, this]
end
end Go.TP
