/- The abstract memory's blocks, how they lie in the machine's memory, and what keeps that: a new block, a store, another world. -/
import Derived.Test.YtdhbclplondmjaaCVal
set_option linter.unusedVariables false
set_option linter.unusedSimpArgs false
namespace Go.Proofs.Ytdhbclplondmjaa.C
open Go.RowKit

/-- A block: a row of cells (sz: an element's cells; own: made by the call; live: it may be read), or a map. -/
inductive Blk where
  | row (sz : Nat) (cells : List Value) (own live : Bool)
  | map (es : List (Value × Value))

abbrev Heap := List Blk

def Blk.mine : Blk → Bool
  | .row _ _ own live => own && live
  | .map _ => true

/-- What is of one's own in the machine's memory and holds these cells. -/
def RowAt (μ : Mu) (w : World) (l : Loc) (cs : List Value) : Prop :=
  ∃ arr e fr, w.heap[l.blk]? = some (.cells arr e fr) ∧ arr.size = l.top ∧ (∀ i, i < arr.size → ¬ (fr.1 ≤ i ∧ i < fr.2)) ∧
    ∀ (i : Nat) (v : Value), cs[i]? = some v → ∃ v', arr[l.sh + i]? = some v' ∧ VR μ v v'

def MapAt (μ : Mu) (w : World) (l : Loc) (es : List (Value × Value)) : Prop :=
  ∃ ms clock, w.heap[l.blk]? = some (.map ms clock) ∧ VRs μ (es.map (·.1)) (ms.toList.map (·.key)) ∧ VRs μ (es.map (·.2)) (ms.toList.map (·.val))

structure HR (base : Nat) (F : Nat → Prop) (μ : Mu) (H : Heap) (w : World) : Prop where
  own : ∀ b sz cs l, H[b]? = some (.row sz cs true true) → μ b = some l → l.sz = sz ∧ base ≤ l.blk ∧ ¬ F l.blk ∧ RowAt μ w l cs
  ro : ∀ b sz cs l, H[b]? = some (.row sz cs false true) → μ b = some l → l.sz = sz ∧ l.blk < base ∧
    ∀ (i : Nat) (v : Value), cs[i]? = some v → ∃ v', w.cell? ⟨l.blk, l.sh + i, none⟩ = some v' ∧ VR μ v v'
  maps : ∀ b es l, H[b]? = some (.map es) → μ b = some l → base ≤ l.blk ∧ ¬ F l.blk ∧ MapAt μ w l es
  inj : ∀ b b' k k' l l', H[b]? = some k → H[b']? = some k' → k.mine = true → k'.mine = true → b ≠ b' → μ b = some l → μ b' = some l' → l.blk ≠ l'.blk
  far : ∀ k, F k → k < w.heap.size
  base_le : base ≤ w.heap.size

/-- What a step leaves alone. -/
structure Fr (base : Nat) (F : Nat → Prop) (w w' : World) : Prop where
  os : w'.os = w.os
  tape : w'.tape = w.tape
  output : w'.output = w.output
  size : w.heap.size ≤ w'.heap.size
  block : ∀ k, (k < base ∨ F k) → w'.heap[k]? = w.heap[k]?

theorem Fr.refl (base : Nat) (F : Nat → Prop) (w : World) : Fr base F w w := ⟨rfl, rfl, rfl, Nat.le_refl _, fun _ _ => rfl⟩
theorem Fr.trans {base : Nat} {F : Nat → Prop} {a b c : World} (h : Fr base F a b) (k : Fr base F b c) : Fr base F a c :=
  ⟨k.os.trans h.os, k.tape.trans h.tape, k.output.trans h.output, Nat.le_trans h.size k.size, fun i hi => (k.block i hi).trans (h.block i hi)⟩
theorem Fr.below {F : Nat → Prop} {w w' : World} (h : Fr w.heap.size F w w') : Below w.heap.size w w' := ⟨h.os, h.tape, h.output, h.size, fun k hk => h.block k (.inl hk)⟩
theorem Fr.alloc {base : Nat} {F : Nat → Prop} {w : World} (o : Obj) (hb : base ≤ w.heap.size) (hf : ∀ k, F k → k < w.heap.size) : Fr base F w (w.alloc o) :=
  ⟨rfl, rfl, rfl, by simp, fun k hk => Below.heap_alloc w o k (hk.elim (fun h => Nat.lt_of_lt_of_le h hb) (hf k))⟩
theorem Fr.drew {base : Nat} {F : Nat → Prop} {w : World} : Fr base F w w.drew := ⟨rfl, rfl, rfl, Nat.le_refl _, fun _ _ => rfl⟩
theorem Fr.setCell {base : Nat} {F : Nat → Prop} {w : World} (p : Addr) (u : Value) (hb : base ≤ p.block) (hf : ¬ F p.block) : Fr base F w (w.setCell p u) :=
  ⟨rfl, rfl, rfl, by simp [World.setCell], fun k hk => Below.heap_setCell w p u k (fun e => hk.elim (fun h => by omega) (fun h => hf (e ▸ h)))⟩
theorem Fr.weaken {base : Nat} {F G : Nat → Prop} {w w' : World} (h : Fr base G w w') (hi : ∀ k, F k → G k) : Fr base F w w' :=
  ⟨h.os, h.tape, h.output, h.size, fun k hk => h.block k (hk.imp id (hi k))⟩

theorem cell_of_heap {w w' : World} {a : Addr} (h : w'.heap[a.block]? = w.heap[a.block]?) : w'.cell? a = w.cell? a := World.cell?_of_block (w := w) h

theorem RowAt.mono {μ ν : Mu} (hm : MuLe μ ν) {w w' : World} {l : Loc} {cs : List Value} (h : RowAt μ w l cs) (hw : w'.heap[l.blk]? = w.heap[l.blk]?) : RowAt ν w' l cs := by
  obtain ⟨arr, e, fr, h1, h2, h3, h4⟩ := h
  exact ⟨arr, e, fr, hw.trans h1, h2, h3, fun i v hv => let ⟨v', a, b⟩ := h4 i v hv; ⟨v', a, b.mono hm⟩⟩
theorem RowAt.lt {μ : Mu} {w : World} {l : Loc} {cs : List Value} (h : RowAt μ w l cs) : l.blk < w.heap.size := by
  obtain ⟨arr, e, fr, h1, _⟩ := h
  exact (Array.getElem?_eq_some_iff.1 h1).1
theorem MapAt.mono {μ ν : Mu} (hm : MuLe μ ν) {w w' : World} {l : Loc} {es : List (Value × Value)} (h : MapAt μ w l es) (hw : w'.heap[l.blk]? = w.heap[l.blk]?) : MapAt ν w' l es := by
  obtain ⟨ms, c, h1, h2, h3⟩ := h
  exact ⟨ms, c, hw.trans h1, h2.mono hm, h3.mono hm⟩
theorem MapAt.lt {μ : Mu} {w : World} {l : Loc} {es : List (Value × Value)} (h : MapAt μ w l es) : l.blk < w.heap.size := by
  obtain ⟨ms, c, h1, _⟩ := h
  exact (Array.getElem?_eq_some_iff.1 h1).1

/-- Another world in which nothing that counts has changed. -/
theorem HR.world {base : Nat} {F : Nat → Prop} {μ : Mu} {H : Heap} {w w' : World} (h : HR base F μ H w) (hw : ∀ k, k < w.heap.size → w'.heap[k]? = w.heap[k]?) (hs : w.heap.size ≤ w'.heap.size) : HR base F μ H w' where
  own b sz cs l hb hl := let ⟨a, c, d, e⟩ := h.own b sz cs l hb hl; ⟨a, c, d, e.mono (MuLe.refl _) (hw _ e.lt)⟩
  ro b sz cs l hb hl := let ⟨a, c, d⟩ := h.ro b sz cs l hb hl
    ⟨a, c, fun i v hv => let ⟨v', x, y⟩ := d i v hv; ⟨v', (cell_of_heap (hw _ (Nat.lt_of_lt_of_le c h.base_le))).trans x, y⟩⟩
  maps b es l hb hl := let ⟨a, c, d⟩ := h.maps b es l hb hl; ⟨a, c, d.mono (MuLe.refl _) (hw _ d.lt)⟩
  inj := h.inj
  far k hk := Nat.lt_of_lt_of_le (h.far k hk) hs
  base_le := Nat.le_trans h.base_le hs

theorem HR.drew {base : Nat} {F : Nat → Prop} {μ : Mu} {H : Heap} {w : World} (h : HR base F μ H w) : HR base F μ H w.drew := h.world (fun _ _ => rfl) (Nat.le_refl _)

/-- A map of abstract blocks, with one more. -/
def Mu.set (μ : Mu) (b : Nat) (l : Loc) : Mu := fun x => if x = b then some l else μ x
theorem Mu.set_same (μ : Mu) (b : Nat) (l : Loc) : μ.set b l b = some l := by simp [Mu.set]
theorem Mu.set_ne (μ : Mu) {b x : Nat} (l : Loc) (h : x ≠ b) : μ.set b l x = μ x := by simp [Mu.set, h]
theorem Mu.le_set {μ : Mu} {b : Nat} {l : Loc} (h : μ b = none) : MuLe μ (μ.set b l) := by
  intro x k hx
  have : x ≠ b := by rintro rfl; simp [h] at hx
  rw [Mu.set_ne _ _ this]; exact hx

theorem getElem?_snoc {α : Type} (l : List α) (x : α) (i : Nat) : (l ++ [x])[i]? = if i = l.length then some x else l[i]? := by
  rcases Nat.lt_trichotomy i l.length with h | h | h
  · rw [List.getElem?_append_left h, if_neg (by omega)]
  · subst h; simp
  · rw [if_neg (by omega), List.getElem?_eq_none (by simp; omega), List.getElem?_eq_none (by omega)]

/-- A new row. -/
theorem HR.new {base : Nat} {F : Nat → Prop} {μ : Mu} {H : Heap} {w : World} (h : HR base F μ H w) (hfree : μ H.length = none) (arr : Array Value) (e : TypeId) (fr : Nat × Nat) (sz : Nat) (cs : List Value)
    (hfr : ∀ i, i < arr.size → ¬ (fr.1 ≤ i ∧ i < fr.2)) (hcs : ∀ (i : Nat) (v : Value), cs[i]? = some v → ∃ v', arr[i]? = some v' ∧ VR μ v v') :
    HR base F (μ.set H.length ⟨w.heap.size, 0, arr.size, sz⟩) (H ++ [.row sz cs true true]) (w.alloc (.cells arr e fr)) := by
  have hm : MuLe μ (μ.set H.length ⟨w.heap.size, 0, arr.size, sz⟩) := Mu.le_set hfree
  have hold : ∀ k, k < w.heap.size → (w.alloc (.cells arr e fr)).heap[k]? = w.heap[k]? := fun k hk => Below.heap_alloc w _ k hk
  have key : ∀ {b : Nat} {x : Blk} {l : Loc}, (H ++ [Blk.row sz cs true true])[b]? = some x → (μ.set H.length ⟨w.heap.size, 0, arr.size, sz⟩) b = some l →
      (b = H.length ∧ x = .row sz cs true true ∧ l = ⟨w.heap.size, 0, arr.size, sz⟩) ∨ (b ≠ H.length ∧ H[b]? = some x ∧ μ b = some l) := by
    intro b x l hb hl
    rw [getElem?_snoc] at hb
    by_cases e : b = H.length
    · subst e; rw [if_pos rfl] at hb; rw [Mu.set_same] at hl; simp at hb hl; exact .inl ⟨rfl, hb.symm, hl.symm⟩
    · rw [if_neg e] at hb; rw [Mu.set_ne _ _ e] at hl; exact .inr ⟨e, hb, hl⟩
  refine ⟨?_, ?_, ?_, ?_, ?_, ?_⟩
  · intro b sz' cs' l hb hl
    rcases key hb hl with ⟨rfl, hx, rfl⟩ | ⟨hne, hb, hl⟩
    · simp only [Blk.row.injEq, and_true] at hx
      obtain ⟨rfl, rfl⟩ := hx
      refine ⟨rfl, h.base_le, fun hF => Nat.lt_irrefl _ (h.far _ hF), arr, e, fr, heap_alloc_new w _, rfl, hfr, fun i v hv => ?_⟩
      obtain ⟨v', a, b⟩ := hcs i v hv
      exact ⟨v', by simpa using a, b.mono hm⟩
    · obtain ⟨a, c, d, g⟩ := h.own b sz' cs' l hb hl
      exact ⟨a, c, d, g.mono hm (hold _ g.lt)⟩
  · intro b sz' cs' l hb hl
    rcases key hb hl with ⟨rfl, hx, rfl⟩ | ⟨hne, hb, hl⟩
    · simp at hx
    · obtain ⟨a, c, d⟩ := h.ro b sz' cs' l hb hl
      refine ⟨a, c, fun i v hv => ?_⟩
      obtain ⟨v', x, y⟩ := d i v hv
      exact ⟨v', (cell_of_heap (hold _ (Nat.lt_of_lt_of_le c h.base_le))).trans x, y.mono hm⟩
  · intro b es l hb hl
    rcases key hb hl with ⟨rfl, hx, rfl⟩ | ⟨hne, hb, hl⟩
    · simp at hx
    · obtain ⟨a, c, d⟩ := h.maps b es l hb hl
      exact ⟨a, c, d.mono hm (hold _ d.lt)⟩
  · have lt : ∀ {b : Nat} {k : Blk} {l : Loc}, H[b]? = some k → k.mine = true → μ b = some l → l.blk < w.heap.size := by
      intro b k l hb hk hl
      cases k with
      | row sz2 cs2 own live =>
        simp [Blk.mine] at hk
        obtain ⟨rfl, rfl⟩ := hk
        exact (h.own b sz2 cs2 l hb hl).2.2.2.lt
      | map es => exact (h.maps b es l hb hl).2.2.lt
    intro b b' k k' l l' hb hb' hk hk' hne hl hl'
    rcases key hb hl with ⟨rfl, rfl, rfl⟩ | ⟨h1, hb, hl⟩ <;> rcases key hb' hl' with ⟨rfl, rfl, rfl⟩ | ⟨h2, hb', hl'⟩
    · exact absurd rfl hne
    · have := lt hb' hk' hl'; simp; omega
    · have := lt hb hk hl; simp; omega
    · exact h.inj b b' k k' l l' hb hb' hk hk' hne hl hl'
  · intro k hk
    have := h.far k hk
    simp; omega
  · have := h.base_le
    simp; omega

end Go.Proofs.Ytdhbclplondmjaa.C
