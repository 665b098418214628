/- The engine, part 3: colours of blocks; what may have turned from one heap to a later one; facts. -/
import Derived.Test.YtnmdbemccdhdmaaGreatDoorOps
import Derived.Maps.AppendAt
import Derived.Deep.AppendSrc
import Derived.Deep.Upon
namespace Go.TP
open Go

/-- A colour: a depth, and a path. (0, []) is what is read alone. -/
abbrev Col := Nat × List Nat
abbrev Cm := Nat → Col
def ro : Col := (0, [])

/-- From (c, h) to (c', h'): blocks of colours in S, and new ones, alone have turned; new ones have colours of a depth below n. -/
structure Mod (n : Nat) (S : Col → Prop) (c : Cm) (h : Heap) (c' : Cm) (h' : Heap) : Prop where
  size : h.size ≤ h'.size
  col : ∀ b, b < h.size → c' b = c b
  same : ∀ b, b < h.size → ¬ S (c b) → h'[b]? = h[b]?
  lvl : ∀ b, h.size ≤ b → b < h'.size → (c' b).1 < n
def none_ : Col → Prop := fun _ => False
def only (π : Col) : Col → Prop := fun ρ => ρ = π
/-- A colour and all that lie under it. -/
def under (π : Col) : Col → Prop := fun ρ => ρ.1 = π.1 ∧ π.2 <:+ ρ.2

section
variable {n n' : Nat} {S S' : Col → Prop} {c c' c1 c2 : Cm} {h h' h1 h2 : Heap}
theorem Mod.refl (n : Nat) (S : Col → Prop) (c : Cm) (h : Heap) : Mod n S c h c h := ⟨Nat.le_refl _, fun _ _ => rfl, fun _ _ _ => rfl, fun _ h1 h2 => by omega⟩
theorem Mod.trans (x : Mod n S c h c1 h1) (y : Mod n S' c1 h1 c2 h2) (hS : ∀ b, b < h.size → S' (c b) → S (c b)) : Mod n S c h c2 h2 := by
  refine ⟨Nat.le_trans x.size y.size, fun b hb => (y.col b (Nat.lt_of_lt_of_le hb x.size)).trans (x.col b hb), fun b hb hn => ?_, fun b hb hb2 => ?_⟩
  · rw [y.same b (Nat.lt_of_lt_of_le hb x.size) (fun h' => hn (hS b hb (x.col b hb ▸ h'))), x.same b hb hn]
  · rcases Nat.lt_or_ge b h1.size with hlt | hge
    · rw [y.col b hlt]; exact x.lvl b hb hlt
    · exact y.lvl b hge hb2
theorem Mod.weak (x : Mod n S c h c' h') (hn : n ≤ n') (hS : ∀ π, S π → S' π) : Mod n' S' c h c' h' :=
  ⟨x.size, x.col, fun b hb hh => x.same b hb (fun h' => hh (hS _ h')), fun b h1 h2 => Nat.lt_of_lt_of_le (x.lvl b h1 h2) hn⟩
theorem Mod.cel (x : Mod n S c h c' h') {b o : Nat} {v : Value} (hv : cel h b o = some v) (hS : ¬ S (c b)) : TP.cel h' b o = some v := by
  have hb : b < h.size := by
    unfold TP.cel at hv
    split at hv
    · rename_i heq; exact (Array.getElem?_eq_some_iff.1 heq).1
    · cases hv
  unfold TP.cel at hv ⊢
  rw [x.same b hb hS]
  exact hv
theorem cel_lt {b o : Nat} {v : Value} (hv : cel h b o = some v) : b < h.size := by
  unfold TP.cel at hv
  split at hv
  · rename_i heq; exact (Array.getElem?_eq_some_iff.1 heq).1
  · cases hv
end

/-- Every block of colour π has then colour ρ. -/
def Turn (c c' : Cm) (π ρ : Col) : Prop := ∀ b, c b = π → c' b = ρ

/-! ### Facts -/
/-- A block known whole. -/
structure Bk (c : Cm) (π : Col) (h : Heap) (b : Nat) (T : TypeId) (cs : List Value) : Prop where
  col : c b = π
  get : h[b]? = some (.cells cs.toArray T (0, 0))
/-- A slice value: its elements' cells. -/
structure Sl (c : Cm) (π : Col) (h : Heap) (sz : Nat) (v : Value) (cs : List Value) : Prop where
  is : isSlice v = true
  len : cs.length = sn v * sz
  cap : sn v ≤ sc v
  bd : sn v ≤ 68719476736
  col : cs ≠ [] → c (sb v) = π
  get : ∀ j u, cs[j]? = some u → cel h (sb v) (so v + j) = some u
/-- A slice that is being built: nil, or at the head of a block of its own. -/
structure Ow (c : Cm) (π : Col) (h : Heap) (T : TypeId) (sz : Nat) (v : Value) (cs : List Value) : Prop where
  len : cs.length = sn v * sz
  bd : sn v ≤ 68719476736
  ex : (v = .slice none 0 0 ∧ cs = []) ∨ ∃ g cap cur, v = .slice (some ⟨g, 0, none⟩) (sn v) cap ∧ c g = π ∧ h[g]? = some (.cells cur T (0, 0)) ∧ sn v ≤ cap ∧ cap ≤ maxLen ∧ cur.size = cap * sz ∧ cur.toList.take (sn v * sz) = cs

section
variable {n : Nat} {S : Col → Prop} {c c' : Cm} {h h' : Heap} {π ρ : Col} {b sz : Nat} {T : TypeId} {v : Value} {cs : List Value}
theorem Bk.lt (f : Bk c π h b T cs) : b < h.size := (Array.getElem?_eq_some_iff.1 f.get).1
theorem Bk.step (f : Bk c π h b T cs) (x : Mod n S c h c' h') (hS : ¬ S π) : Bk c' π h' b T cs :=
  ⟨(x.col b f.lt).trans f.col, (x.same b f.lt (f.col ▸ hS)).trans f.get⟩
theorem Bk.turn (f : Bk c π h b T cs) (t : Turn c c' π ρ) : Bk c' ρ h b T cs := ⟨t b f.col, f.get⟩
theorem Bk.cel (f : Bk c π h b T cs) (j : Nat) : TP.cel h b j = cs[j]? := by simp [TP.cel, f.get]
theorem Sl.lt (f : Sl c π h sz v cs) (hc : cs ≠ []) : sb v < h.size := by
  cases cs with
  | nil => exact absurd rfl hc
  | cons u cs => exact cel_lt (f.get 0 u rfl)
theorem Sl.step (f : Sl c π h sz v cs) (x : Mod n S c h c' h') (hS : ¬ S π) : Sl c' π h' sz v cs :=
  ⟨f.is, f.len, f.cap, f.bd, fun hc => (x.col _ (f.lt hc)).trans (f.col hc), fun j u hu => x.cel (f.get j u hu) (f.col (by intro h0; rw [h0] at hu; cases hu) ▸ hS)⟩
theorem Sl.turn (f : Sl c π h sz v cs) (t : Turn c c' π ρ) : Sl c' ρ h sz v cs := ⟨f.is, f.len, f.cap, f.bd, fun hc => t _ (f.col hc), f.get⟩
theorem Sl.nil (c : Cm) (π : Col) (h : Heap) (sz : Nat) : Sl c π h sz (.slice none 0 0) [] := ⟨rfl, by simp [sn], by simp [sn], by simp [sn], fun h => absurd rfl h, fun j u hu => by cases hu⟩
theorem Ow.step (f : Ow c π h T sz v cs) (x : Mod n S c h c' h') (hS : ¬ S π) : Ow c' π h' T sz v cs := by
  refine ⟨f.len, f.bd, f.ex.imp id ?_⟩
  rintro ⟨g, cap, cur, h1, h2, h3, h4⟩
  have hg := (Array.getElem?_eq_some_iff.1 h3).1
  exact ⟨g, cap, cur, h1, (x.col g hg).trans h2, (x.same g hg (h2 ▸ hS)).trans h3, h4⟩
theorem Ow.turn (f : Ow c π h T sz v cs) (t : Turn c c' π ρ) : Ow c' ρ h T sz v cs :=
  ⟨f.len, f.bd, f.ex.imp id fun ⟨g, cap, cur, h1, h2, h3⟩ => ⟨g, cap, cur, h1, t g h2, h3⟩⟩
theorem Ow.nil (c : Cm) (π : Col) (h : Heap) (T : TypeId) (sz : Nat) : Ow c π h T sz (.slice none 0 0) [] := ⟨by simp [sn], by simp [sn], .inl ⟨rfl, rfl⟩⟩
theorem Ow.is (f : Ow c π h T sz v cs) : isSlice v = true := by
  rcases f.ex with ⟨rfl, _⟩ | ⟨g, cap, cur, h1, _⟩
  · rfl
  · rw [h1]; rfl
theorem Ow.sl (f : Ow c π h T sz v cs) : Sl c π h sz v cs := by
  rcases f.ex with ⟨rfl, rfl⟩ | ⟨g, cap, cur, h1, h2, h3, h4, h5, h6, h7⟩
  · exact Sl.nil _ _ _ _
  · have e1 : sb v = g := by rw [h1]; rfl
    have e2 : so v = 0 := by rw [h1]; rfl
    have e3 : sc v = cap := by rw [h1]; rfl
    refine ⟨f.is, f.len, by omega, f.bd, fun _ => e1 ▸ h2, fun j u hu => ?_⟩
    rw [e1, e2]
    simp only [cel, h3, Nat.zero_add]
    rw [← h7, List.getElem?_take] at hu
    split at hu
    · simpa using hu
    · cases hu
theorem Bk.sl (f : Bk c π h b T cs) (hn : cs.length = n * sz) (hb : n ≤ 68719476736) : Sl c π h sz (.slice (some ⟨b, 0, none⟩) n n) cs :=
  ⟨rfl, by simpa [sn] using hn, Nat.le_refl _, hb, fun _ => f.col, fun j u hu => by simpa [so, sb, f.cel] using hu⟩
theorem Bk.ow (f : Bk c π h b T cs) (hn : cs.length = n * sz) (hb : n ≤ 68719476736) : Ow c π h T sz (.slice (some ⟨b, 0, none⟩) n n) cs :=
  ⟨by simpa [sn] using hn, hb, .inr ⟨b, n, cs.toArray, rfl, f.col, f.get, Nat.le_refl _, by simp only [maxLen]; omega, by simpa using hn, by simp [sn, ← hn]⟩⟩
end
end Go.TP
