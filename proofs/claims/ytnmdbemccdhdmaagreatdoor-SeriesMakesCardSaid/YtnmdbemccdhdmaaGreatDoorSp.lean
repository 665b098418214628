/- The engine, part 7: slices of numbers and of spans; structs that are built. -/
import Derived.Test.YtnmdbemccdhdmaaGreatDoorDraw
namespace Go.TP
open Go

theorem bnot_t {b : Bool} (h : (!b) = true) : b = false := by cases b <;> simp_all
theorem bnot_f {b : Bool} (h : (!b) = false) : b = true := by cases b <;> simp_all
/-- The element at a place; d: there is none. -/
def nd {α : Type} (d : α) (xs : List α) (k : Nat) : α := xs.getD k d
theorem drop_getD {α : Type} {xs : List α} {k : Nat} (d : α) (h : k < xs.length) : xs.drop k = nd d xs k :: xs.drop (k + 1) := by
  unfold nd
  rw [List.drop_eq_getElem_cons h, List.getD_eq_getElem?_getD, List.getElem?_eq_getElem h]
  rfl
theorem take_getD {α : Type} {xs : List α} {k : Nat} (d : α) (h : k < xs.length) : xs.take (k + 1) = xs.take k ++ [nd d xs k] := by
  unfold nd
  rw [List.take_succ_eq_append_getElem h, List.getD_eq_getElem?_getD, List.getElem?_eq_getElem h]
  rfl
def ints (k : IntKind) (xs : List Int) : List Value := xs.map fun x => .int k x
def spCells (s : Int × Int) : List Value := [.int .i64 s.1, .int .i64 s.2]
def spans (xs : List (Int × Int)) : List Value := xs.flatMap spCells
section
variable {k : IntKind} {xs ys : List Int} {ss ts : List (Int × Int)} {i : Nat} {c : Cm} {π : Col} {h : Heap} {v : Value} {T sz : Nat} {cs : List Value}
theorem ints_length : (ints k xs).length = xs.length := by simp [ints]
theorem ints_append : ints k (xs ++ ys) = ints k xs ++ ints k ys := by simp [ints]
theorem ints_get (hi : i < xs.length) : (ints k xs)[i * 1]? = some (.int k (nd 0 xs i)) := by
  unfold nd
  rw [Nat.mul_one, ints, List.getElem?_map, List.getElem?_eq_getElem hi, List.getD_eq_getElem?_getD, List.getElem?_eq_getElem hi]
  rfl
theorem ints_ones (k : IntKind) (xs : List Int) : ∀ x ∈ ints k xs, x.oneCell' = true := by
  intro x hx
  obtain ⟨y, _, rfl⟩ := List.mem_map.1 hx
  rfl
theorem spans_length : (spans ss).length = ss.length * 2 := by
  induction ss with
  | nil => rfl
  | cons s ss ih =>
    have : (spans (s :: ss)).length = 2 + (spans ss).length := by simp [spans, spCells]; omega
    rw [this, ih, List.length_cons]; omega
theorem spans_append : spans (ss ++ ts) = spans ss ++ spans ts := by simp [spans]
theorem spans_get (hi : i < ss.length) : ((spans ss).drop (i * 2)).take 2 = [.int .i64 (nd (0, 0) ss i).1, .int .i64 (nd (0, 0) ss i).2] := by
  unfold nd
  induction ss generalizing i with
  | nil => cases hi
  | cons s ss ih =>
    cases i with
    | zero => rfl
    | succ i =>
      have h1 : spans (s :: ss) = [.int .i64 s.1, .int .i64 s.2] ++ spans ss := rfl
      rw [h1, show (i + 1) * 2 = 2 + i * 2 by omega, ← List.drop_drop]
      have := ih (i := i) (by simpa using hi)
      simpa using this
theorem spans_ones (ss : List (Int × Int)) : ∀ x ∈ spans ss, x.oneCell' = true := by
  intro x hx
  obtain ⟨s, _, hs⟩ := List.mem_flatMap.1 hx
  simp [spCells] at hs
  rcases hs with rfl | rfl <;> rfl
theorem Sl.len_ints (f : Sl c π h 1 v (ints k xs)) : sn v = xs.length := by have := f.len; rw [ints_length] at this; omega
theorem Ow.len_ints (f : Ow c π h T 1 v (ints k xs)) : sn v = xs.length := by have := f.len; rw [ints_length] at this; omega
theorem Sl.len_spans (f : Sl c π h 2 v (spans ss)) : sn v = ss.length := by have := f.len; rw [spans_length] at this; omega
theorem Ow.len_spans (f : Ow c π h T 2 v (spans ss)) : sn v = ss.length := by have := f.len; rw [spans_length] at this; omega
theorem Sl.lt_len {m : Nat} (_f : Sl c π h sz v cs) (he : sn v = m) (hi : i < m) : i < sn v := by omega
theorem Sl.bd_ints (f : Sl c π h 1 v (ints k xs)) : xs.length ≤ 68719476736 := f.len_ints ▸ f.bd
theorem Sl.bd_spans (f : Sl c π h 2 v (spans ss)) : ss.length ≤ 68719476736 := f.len_spans ▸ f.bd
theorem isSlice_one (h : isSlice v = true) : v.oneCell' = true := by cases v <;> first | rfl | (simp [isSlice] at h)
theorem Ow.lenle (f : Ow c π h T sz v cs) : sn v ≤ 68719476736 := f.bd
end
section
variable {P : Program} {e : Env} {h : Heap} {d : Option Tmp} {ty : TypeId} {pos : String} {aft : Array Edge} {g : Option (Nat × Bool)} {x : Operand} {t : TypeId} {v : Value}
theorem o_lenx {c : Cm} {π : Col} {sz m : Nat} {cs : List Value} (ht : SlcT P t) (f : Sl c π h sz v cs) (hx : ev e x = some v) (he : sn v = m) : Ev P e h ⟨d, .call ⟨.builtin .len, #[x], #[t]⟩, ty, pos, aft, g⟩ (.int .i64 (m : Nat)) := he ▸ o_len ht f.is hx
theorem o_len0 (ht : SlcT P t) (hx : ev e x = some (.slice none 0 0)) : Ev P e h ⟨d, .call ⟨.builtin .len, #[x], #[t]⟩, ty, pos, aft, g⟩ (.int .i64 0) := o_len ht rfl hx
theorem o_lenr {b n : Nat} (ht : SlcT P t) (hx : ev e x = some (.slice (some ⟨b, 0, none⟩) n n)) : Ev P e h ⟨d, .call ⟨.builtin .len, #[x], #[t]⟩, ty, pos, aft, g⟩ (.int .i64 (n : Nat)) := o_len ht rfl hx
def fxB (P : Program) (t i : Nat) : Bool :=
  match P.underlying t with
  | some (.struct fs) => match fs[i]? with
    | some f => match P.underlying f.type with
      | some (.struct _) => false
      | some (.array _ _) => false
      | some _ => true
      | none => false
    | none => true
  | _ => true
theorem fx_of {t i : Nat} (hb : fxB P t i = true) : ∀ (w : World) (fs : Array Field) (f : Field), P.underlying t = some (.struct fs) → fs[i]? = some f → (isAgg f.type).run P w = .ok false w := by
  intro w fs f h1 h2
  unfold fxB at hb
  rw [h1] at hb
  simp only [h2] at hb
  unfold isAgg
  cases hu : P.underlying f.type with
  | none => rw [hu] at hb; cases hb
  | some dd =>
    rw [hu] at hb
    rw [Sem.run_bind, run_underlying hu]
    cases dd <;> first | rfl | cases hb

def arrB (P : Program) (t n el sz : Nat) : Bool :=
  match P.underlying t, P.info? el with
  | some (.array n' e'), some inf => n' == n && e' == el && inf.size == sz
  | _, _ => false
/-- An array type. -/
def Arr (P : Program) (t n el sz : Nat) : Prop := arrB P t n el sz = true
/-- The address of an array's element. -/
theorem o_iaa {t n el sz i b o : Nat} {y : Operand} {k : IntKind} {m : Int} (ht : Arr P t n el sz) (hx : ev e x = some (.pointer (some ⟨b, o, none⟩))) (hy : ev e y = some (.int k m)) (hm : m = (i : Nat)) (hi : i < n) :
    Ev P e h ⟨d, .indexAddr t x y, ty, pos, aft, g⟩ (.pointer (some ⟨b, o + i * sz, none⟩)) := by
  intro ρ w hA _
  refine ⟨?_, rfl⟩
  unfold Arr arrB at ht
  split at ht
  · rename_i n' e' inf h1 h2
    simp only [Bool.and_eq_true, beq_iff_eq] at ht
    obtain ⟨⟨rfl, rfl⟩, h3⟩ := ht
    subst hm
    have hr : (Instr.indexAt t (.pointer (some ⟨b, o, none⟩)) (.int k (i : Nat))).run P w = .ok (.pointer (some ⟨b, o + i * sz, none⟩)) w := by
      simp [Instr.indexAt, asIntOf, run_underlying h1, sizeOf, typeInfo, h2, h3, addr_add, hi, Instr.sureAddr]
    simp only [execOp, hA x _ hx, hA y _ hy, Sem.run_bind, hr]
    rfl
  · cases ht

/-! ### A struct that is built -/
def fill2 (places : List (Nat × Nat)) : List Value → List (Nat × List Value) → Option (List Value)
  | cells, [] => some cells
  | cells, (i, us) :: rest =>
    match places[i]? with
    | none => none
    | some (off, size) => if us.length = size ∧ off + us.length ≤ cells.length then fill2 places (cells.take off ++ us ++ cells.drop (off + us.length)) rest else none
def CellsOf : List Value → List (List Value) → Prop
  | [], [] => True
  | u :: us, cs :: css => u.cells = cs.toArray ∧ CellsOf us css
  | _, _ => False
theorem foldl_splice (off : Nat) : ∀ (us : List Value) (j : Nat) (zs : Array Value), off + j + us.length ≤ zs.size → (us.zipIdx j).foldl (fun cs (p : Value × Nat) => cs.setIfInBounds (off + p.2) p.1) zs = (zs.toList.take (off + j) ++ us ++ zs.toList.drop (off + j + us.length)).toArray := by
  intro us
  induction us with
  | nil => intro j zs _; simp
  | cons y us ih =>
    intro j zs hk
    simp only [List.length_cons] at hk
    rw [List.zipIdx_cons, List.foldl_cons, ih (j + 1) _ (by simp; omega)]
    congr 1
    have hlt : off + j < zs.toList.length := by simp; omega
    simp only [Array.toList_setIfInBounds]
    rw [show off + (j + 1) = (off + j) + 1 by omega, List.take_succ_eq_append_getElem (by simpa using hlt)]
    rw [List.drop_set_of_lt (by omega), List.take_set_of_le (Nat.le_refl _)]
    simp only [List.getElem_set_self, List.append_assoc, List.cons_append, List.nil_append, List.length_cons]
    rw [show off + j + 1 + us.length = off + j + (us.length + 1) by omega]
theorem fill_fill2 (places : Array (Nat × Nat)) : ∀ (is : List Nat) (us : List Value) (css : List (List Value)) (zs cs : List Value), CellsOf us css → fill2 places.toList zs (is.zip css) = some cs → is.length = us.length → Instr.fill (places[·]?) zs.toArray (is.zip us) = some cs.toArray
  | [], [], [], zs, cs, _, hf, _ => by simp [fill2] at hf; simp [Instr.fill, hf]
  | i :: is, u :: us, us' :: css, zs, cs, hc, hf, hl => by
    obtain ⟨h1, h2⟩ := hc
    simp only [List.zip_cons_cons, fill2] at hf
    simp only [List.zip_cons_cons, Instr.fill]
    cases hp : places[i]? with
    | none => rw [Array.getElem?_toList, hp] at hf; cases hf
    | some q =>
      obtain ⟨off, size⟩ := q
      rw [Array.getElem?_toList, hp] at hf
      simp only at hf ⊢
      split at hf
      · rename_i hk
        have hsz : u.cells.size = us'.length := by rw [h1]; simp
        rw [if_neg (by simp [hsz, hk.1]; omega)]
        have he : Array.foldl (fun cs (x : Value × Nat) => match x with | (c, j) => cs.setIfInBounds (off + j) c) zs.toArray u.cells.zipIdx = (zs.take off ++ us' ++ zs.drop (off + us'.length)).toArray := by
          have h0 := foldl_splice off us' 0 zs.toArray (by simpa using hk.2)
          simp only [Nat.add_zero] at h0
          rw [h1, ← Array.foldl_toList, Array.toList_zipIdx]
          exact h0
        rw [he]
        exact fill_fill2 places is us css _ cs h2 hf (by simpa using hl)
      · cases hf
  | [], [], _ :: _, _, _, hc, _, _ => hc.elim
  | [], _ :: _, _, _, _, _, _, hl => by simp at hl
  | _ :: _, [], _, _, _, _, _, hl => by simp at hl
  | _ :: _, _ :: _, [], _, _, hc, _, _ => hc.elim
/-- Where a struct's fields lie. -/
def Bd (P : Program) (t : Nat) (places : List (Nat × Nat)) : Prop :=
  (match P.underlying t with
  | some (.struct fs) => some (fs.toList.map fun f => (f.offset, (P.info? f.type).map (·.size)))
  | _ => none) = some (places.map fun p => (p.1, some p.2))
theorem run_places (w : World) : ∀ (fs : List Field) (places : List (Nat × Nat)), fs.map (fun f => (f.offset, (P.info? f.type).map (·.size))) = places.map (fun p => (p.1, some p.2)) →
    (fs.mapM fun f => do Pure.pure (f.offset, ← sizeOf f.type) : Sem (List (Nat × Nat))).run P w = .ok places w
  | [], [], _ => rfl
  | [], _ :: _, h => by cases h
  | _ :: _, [], h => by cases h
  | f :: fs, p :: ps, h => by
    simp only [List.map_cons, List.cons.injEq, Prod.mk.injEq] at h
    obtain ⟨⟨h1, h2⟩, h3⟩ := h
    obtain ⟨i, h4, h5⟩ := Option.map_eq_some_iff.1 h2
    have ih := run_places w fs ps h3
    have hso : (sizeOf f.type).run P w = .ok p.2 w := by simp [sizeOf, typeInfo, h4, h5]
    simp only [List.mapM_cons, Sem.run_bind, hso, ih, Result.andThen, Sem.run_pure, h1]
theorem o_bd {t size bytes : Nat} {zs cs : List Value} {places : List (Nat × Nat)} {is : List Nat} {xs : List Operand} {us : List Value} {css : List (List Value)} {parts : Array (Nat × Operand)} (hb : Bd P t places) (hi : Inf P t (.agg zs.toArray) size bytes)
    (hparts : parts.toList = is.zip xs) (hlen : is.length = us.length) (hx : evs e xs = some us) (hc : CellsOf us css) (hf : fill2 places zs (is.zip css) = some cs) : Ev P e h ⟨d, .build t parts, ty, pos, aft, g⟩ (.agg cs.toArray) := by
  intro ρ w hA _
  refine ⟨?_, rfl⟩
  obtain ⟨i, h1, h2, h3, h4⟩ := hi.spec
  unfold Bd at hb
  split at hb
  · rename_i fs hu
    have hpl := run_places (P := P) w fs.toList places (by simpa using hb)
    have hm : (parts.map fun (i, x) => (i, ρ x)).toList = is.zip us := by
      rw [Array.toList_map, hparts, ← hA.evs hx, List.zip_map_right]
      rfl
    have hfill := fill_fill2 places.toArray is us css zs cs hc (by simpa using hf) hlen
    have hpl' : (fs.mapM fun f => do Pure.pure (f.offset, ← sizeOf f.type) : Sem (Array (Nat × Nat))).run P w = .ok places.toArray w := by
      rw [← Array.toArray_toList (xs := fs), List.mapM_toArray]
      simp only [map_eq_pure_bind, Sem.run_bind, hpl, Result.andThen, Sem.run_pure]
    have hz : (zeroValue t).run P w = .ok (.agg zs.toArray) w := by simp [zeroValue, typeInfo, h1, h2]
    simp only [execOp, Instr.build, Sem.run_bind, hz, run_underlying hu, hpl', Result.andThen, Value.cells, hm, hfill, Sem.run_pure]
  · cases hb
end
end Go.TP
