/- Texts of one's own, laid together: CVal, CMem, CMem2, CDef -/
import Derived.Calls
import Derived.Below
import Derived.RowKit3
import Derived.KernelRfl
import Derived.Laws.Sem
section
/- The abstract memory: values with abstract addresses, what relates them to the machine's values, and the relation's plain laws. -/
set_option linter.unusedVariables false
set_option linter.unusedSimpArgs false
namespace Go.Proofs.Ytdhbclplondmjaa.C
open Go.RowKit

/-- Where an abstract block lies: the machine's block, the shift, where its cells end, the size of an element. -/
structure Loc where
  blk : Nat
  sh : Nat
  top : Nat
  sz : Nat

abbrev Mu := Nat → Option Loc

/-- A capacity that isn't known: at least the length. -/
def unk : Nat := 18446744073709551616

mutual
/-- An abstract value and the machine's. 'undef' is whatever it is. -/
inductive VR (μ : Mu) : Value → Value → Prop
  | undef (v : Value) : VR μ (.tuple #[]) v
  | skip : VR μ (.chan none) (.tuple #[])
  | yield {b : Nat} {l : Loc} (h : μ b = some l) : VR μ (.chan (some b)) (.func (.yield l.blk) #[] #[])
  | bool (b : Bool) : VR μ (.bool b) (.bool b)
  | int (k : IntKind) (n : Int) : VR μ (.int k n) (.int k n)
  | string (s : ByteArray) : VR μ (.string s) (.string s)
  | nilPtr : VR μ (.pointer none) (.pointer none)
  | nilMap : VR μ (.map none) (.map none)
  | nilFunc : VR μ .nilFunc .nilFunc
  | nilIface : VR μ .nilIface .nilIface
  | nilSlice : VR μ (.slice none 0 0) (.slice none 0 0)
  | ptr {b o : Nat} {l : Loc} (h : μ b = some l) : VR μ (.pointer (some ⟨b, o, none⟩)) (.pointer (some ⟨l.blk, l.sh + o, none⟩))
  | slice {b o n c c' : Nat} {l : Loc} (h : μ b = some l) (hn : n ≤ c') (hc : c = unk ∨ c = c') (ht : l.sh + o + c' * l.sz ≤ l.top) :
      VR μ (.slice (some ⟨b, o, none⟩) n c) (.slice (some ⟨l.blk, l.sh + o, none⟩) n c')
  | sliceZ (a a' : Addr) : VR μ (.slice (some a) 0 0) (.slice (some a') 0 0)
  | sliceE (a a' : Addr) : VR μ (.slice (some a) 0 unk) (.slice (some a') 0 0)
  | map {b : Nat} {l : Loc} (h : μ b = some l) : VR μ (.map (some b)) (.map (some l.blk))
  | func (fn : Fn) {f f' c c' : List Value} (hf : VRs μ f f') (hc : VRs μ c c') : VR μ (.func fn f.toArray c.toArray) (.func fn f'.toArray c'.toArray)
  | iface (t : TypeId) {v v' : Value} (h : VR μ v v') : VR μ (.iface t v) (.iface t v')
  | agg {c c' : List Value} (h : VRs μ c c') : VR μ (.agg c.toArray) (.agg c'.toArray)
  | tuple {c c' : List Value} (h : VRs μ c c') : VR μ (.tuple c.toArray) (.tuple c'.toArray)
inductive VRs (μ : Mu) : List Value → List Value → Prop
  | nil : VRs μ [] []
  | cons {v v' : Value} {l l' : List Value} (h : VR μ v v') (t : VRs μ l l') : VRs μ (v :: l) (v' :: l')
end

def MuLe (μ ν : Mu) : Prop := ∀ b l, μ b = some l → ν b = some l
theorem MuLe.refl (μ : Mu) : MuLe μ μ := fun _ _ h => h
theorem MuLe.trans {a b c : Mu} (h : MuLe a b) (k : MuLe b c) : MuLe a c := fun x l e => k x l (h x l e)

mutual
theorem VR.mono {μ ν : Mu} (hm : MuLe μ ν) : ∀ {v v' : Value}, VR μ v v' → VR ν v v'
  | _, _, .undef v => .undef v
  | _, _, .skip => .skip
  | _, _, .yield h => .yield (hm _ _ h)
  | _, _, .bool b => .bool b
  | _, _, .int k n => .int k n
  | _, _, .string s => .string s
  | _, _, .nilPtr => .nilPtr
  | _, _, .nilMap => .nilMap
  | _, _, .nilFunc => .nilFunc
  | _, _, .nilIface => .nilIface
  | _, _, .nilSlice => .nilSlice
  | _, _, .ptr h => .ptr (hm _ _ h)
  | _, _, .slice h a b c => .slice (hm _ _ h) a b c
  | _, _, .sliceZ a a' => .sliceZ a a'
  | _, _, .sliceE a a' => .sliceE a a'
  | _, _, .map h => .map (hm _ _ h)
  | _, _, .func fn a b => .func fn (VRs.mono hm a) (VRs.mono hm b)
  | _, _, .iface t h => .iface t (VR.mono hm h)
  | _, _, .agg h => .agg (VRs.mono hm h)
  | _, _, .tuple h => .tuple (VRs.mono hm h)
theorem VRs.mono {μ ν : Mu} (hm : MuLe μ ν) : ∀ {l l' : List Value}, VRs μ l l' → VRs ν l l'
  | _, _, .nil => .nil
  | _, _, .cons h t => .cons (VR.mono hm h) (VRs.mono hm t)
end

theorem VRs.length {μ : Mu} : ∀ {l l' : List Value}, VRs μ l l' → l'.length = l.length
  | _, _, .nil => rfl
  | _, _, .cons _ t => by simp [VRs.length t]

theorem VRs.get {μ : Mu} : ∀ {l l' : List Value}, VRs μ l l' → ∀ (i : Nat) (v : Value), l[i]? = some v → ∃ v', l'[i]? = some v' ∧ VR μ v v'
  | _, _, .nil, i, v, h => by simp at h
  | _, _, .cons h t, 0, v, e => by simp at e; subst e; exact ⟨_, rfl, h⟩
  | _, _, .cons h t, i + 1, v, e => by simpa using VRs.get t i v (by simpa using e)

theorem VRs.of_get {μ : Mu} : ∀ {l l' : List Value}, l'.length = l.length → (∀ (i : Nat) (v : Value), l[i]? = some v → ∃ v', l'[i]? = some v' ∧ VR μ v v') → VRs μ l l'
  | [], [], _, _ => .nil
  | [], _ :: _, h, _ => by simp at h
  | _ :: _, [], h, _ => by simp at h
  | v :: l, v' :: l', h, hg => by
    refine .cons ?_ (VRs.of_get (by simpa using h) (fun i u e => by simpa using hg (i + 1) u (by simpa using e)))
    obtain ⟨u, hu, hr⟩ := hg 0 v rfl
    simp at hu; subst hu; exact hr

theorem VRs.append {μ : Mu} : ∀ {a a' b b' : List Value}, VRs μ a a' → VRs μ b b' → VRs μ (a ++ b) (a' ++ b')
  | _, _, _, _, .nil, h => h
  | _, _, _, _, .cons h t, k => .cons h (VRs.append t k)

theorem VRs.set {μ : Mu} : ∀ {l l' : List Value}, VRs μ l l' → ∀ i {v v' : Value}, VR μ v v' → VRs μ (l.set i v) (l'.set i v')
  | _, _, .nil, i, _, _, _ => .nil
  | _, _, .cons h t, 0, _, _, k => .cons k t
  | _, _, .cons h t, i + 1, _, _, k => .cons h (VRs.set t i k)

theorem VRs.take {μ : Mu} : ∀ {l l' : List Value}, VRs μ l l' → ∀ n, VRs μ (l.take n) (l'.take n)
  | _, _, .nil, n => by simpa using VRs.nil
  | _, _, .cons h t, 0 => .nil
  | _, _, .cons h t, n + 1 => .cons h (VRs.take t n)

theorem VRs.drop {μ : Mu} : ∀ {l l' : List Value}, VRs μ l l' → ∀ n, VRs μ (l.drop n) (l'.drop n)
  | _, _, .nil, n => by simpa using VRs.nil
  | _, _, .cons h t, 0 => .cons h t
  | _, _, .cons h t, n + 1 => by simpa using VRs.drop t n

theorem VRs.refl_of {μ : Mu} {l : List Value} (h : ∀ v ∈ l, VR μ v v) : VRs μ l l := by
  induction l with
  | nil => exact .nil
  | cons v l ih => exact .cons (h v List.mem_cons_self) (ih fun u hu => h u (List.mem_cons_of_mem _ hu))

/-- The slots. -/
def SR (μ : Mu) (s : List Value) (t : Array Value) : Prop := t.size = s.length ∧ VRs μ s t.toList

theorem SR.get {μ : Mu} {s : List Value} {t : Array Value} (h : SR μ s t) (i : Nat) : VR μ (s.getD i undef) (t.getD i undef) := by
  rcases Nat.lt_or_ge i s.length with hi | hi
  · obtain ⟨v', e, hv⟩ := h.2.get i s[i] (by simp [hi])
    have e2 : t[i]? = some v' := by simpa using e
    simp only [List.getD_eq_getElem?_getD, List.getElem?_eq_getElem hi, Option.getD_some, Array.getD_eq_getD_getElem?, e2]
    exact hv
  · simp only [List.getD_eq_getElem?_getD, List.getElem?_eq_none hi, Option.getD_none]
    exact .undef _

theorem SR.put {μ : Mu} {s : List Value} {t : Array Value} (h : SR μ s t) (i : Nat) {v v' : Value} (hv : VR μ v v') : SR μ (s.set i v) (t.setIfInBounds i v') :=
  ⟨by simpa using h.1, by simpa using h.2.set i hv⟩

theorem SR.mono {μ ν : Mu} (hm : MuLe μ ν) {s : List Value} {t : Array Value} (h : SR μ s t) : SR ν s t := ⟨h.1, h.2.mono hm⟩

end Go.Proofs.Ytdhbclplondmjaa.C

end

section
/- The abstract memory's blocks, how they lie in the machine's memory, and what keeps that: a new block, a store, another world. -/
set_option linter.unusedVariables false
set_option linter.unusedSimpArgs false
namespace Go.Proofs.Ytdhbclplondmjaa.C
open Go.RowKit

/-- A block: a row of cells (sz: an element's cells; own: made by the call; live: it may be read), or a map. -/
inductive Blk where
  | row (sz : Nat) (cells : List Value) (own live : Bool)
  | map (es : List (Value × Value))

abbrev Heap := List Blk

def Blk.mine : Blk → Bool
  | .row _ _ own live => own && live
  | .map _ => true

/-- What is of one's own in the machine's memory and holds these cells. -/
def RowAt (μ : Mu) (w : World) (l : Loc) (cs : List Value) : Prop :=
  ∃ arr e fr, w.heap[l.blk]? = some (.cells arr e fr) ∧ arr.size = l.top ∧ (∀ i, i < arr.size → ¬ (fr.1 ≤ i ∧ i < fr.2)) ∧
    ∀ (i : Nat) (v : Value), cs[i]? = some v → ∃ v', arr[l.sh + i]? = some v' ∧ VR μ v v'

def MapAt (μ : Mu) (w : World) (l : Loc) (es : List (Value × Value)) : Prop :=
  ∃ ms clock, w.heap[l.blk]? = some (.map ms clock) ∧ VRs μ (es.map (·.1)) (ms.toList.map (·.key)) ∧ VRs μ (es.map (·.2)) (ms.toList.map (·.val))

structure HR (base : Nat) (F : Nat → Prop) (μ : Mu) (H : Heap) (w : World) : Prop where
  own : ∀ b sz cs l, H[b]? = some (.row sz cs true true) → μ b = some l → l.sz = sz ∧ base ≤ l.blk ∧ ¬ F l.blk ∧ RowAt μ w l cs
  ro : ∀ b sz cs l, H[b]? = some (.row sz cs false true) → μ b = some l → l.sz = sz ∧ l.blk < base ∧
    ∀ (i : Nat) (v : Value), cs[i]? = some v → ∃ v', w.cell? ⟨l.blk, l.sh + i, none⟩ = some v' ∧ VR μ v v'
  maps : ∀ b es l, H[b]? = some (.map es) → μ b = some l → base ≤ l.blk ∧ ¬ F l.blk ∧ MapAt μ w l es
  inj : ∀ b b' k k' l l', H[b]? = some k → H[b']? = some k' → k.mine = true → k'.mine = true → b ≠ b' → μ b = some l → μ b' = some l' → l.blk ≠ l'.blk
  far : ∀ k, F k → k < w.heap.size
  base_le : base ≤ w.heap.size

/-- What a step leaves alone. -/
structure Fr (base : Nat) (F : Nat → Prop) (w w' : World) : Prop where
  os : w'.os = w.os
  tape : w'.tape = w.tape
  output : w'.output = w.output
  size : w.heap.size ≤ w'.heap.size
  block : ∀ k, (k < base ∨ F k) → w'.heap[k]? = w.heap[k]?

theorem Fr.refl (base : Nat) (F : Nat → Prop) (w : World) : Fr base F w w := ⟨rfl, rfl, rfl, Nat.le_refl _, fun _ _ => rfl⟩
theorem Fr.trans {base : Nat} {F : Nat → Prop} {a b c : World} (h : Fr base F a b) (k : Fr base F b c) : Fr base F a c :=
  ⟨k.os.trans h.os, k.tape.trans h.tape, k.output.trans h.output, Nat.le_trans h.size k.size, fun i hi => (k.block i hi).trans (h.block i hi)⟩
theorem Fr.below {F : Nat → Prop} {w w' : World} (h : Fr w.heap.size F w w') : Below w.heap.size w w' := ⟨h.os, h.tape, h.output, h.size, fun k hk => h.block k (.inl hk)⟩
theorem Fr.alloc {base : Nat} {F : Nat → Prop} {w : World} (o : Obj) (hb : base ≤ w.heap.size) (hf : ∀ k, F k → k < w.heap.size) : Fr base F w (w.alloc o) :=
  ⟨rfl, rfl, rfl, by simp, fun k hk => Below.heap_alloc w o k (hk.elim (fun h => Nat.lt_of_lt_of_le h hb) (hf k))⟩
theorem Fr.drew {base : Nat} {F : Nat → Prop} {w : World} : Fr base F w w.drew := ⟨rfl, rfl, rfl, Nat.le_refl _, fun _ _ => rfl⟩
theorem Fr.setCell {base : Nat} {F : Nat → Prop} {w : World} (p : Addr) (u : Value) (hb : base ≤ p.block) (hf : ¬ F p.block) : Fr base F w (w.setCell p u) :=
  ⟨rfl, rfl, rfl, by simp [World.setCell], fun k hk => Below.heap_setCell w p u k (fun e => hk.elim (fun h => by omega) (fun h => hf (e ▸ h)))⟩
theorem Fr.weaken {base : Nat} {F G : Nat → Prop} {w w' : World} (h : Fr base G w w') (hi : ∀ k, F k → G k) : Fr base F w w' :=
  ⟨h.os, h.tape, h.output, h.size, fun k hk => h.block k (hk.imp id (hi k))⟩

theorem cell_of_heap {w w' : World} {a : Addr} (h : w'.heap[a.block]? = w.heap[a.block]?) : w'.cell? a = w.cell? a := World.cell?_of_block (w := w) h

theorem RowAt.mono {μ ν : Mu} (hm : MuLe μ ν) {w w' : World} {l : Loc} {cs : List Value} (h : RowAt μ w l cs) (hw : w'.heap[l.blk]? = w.heap[l.blk]?) : RowAt ν w' l cs := by
  obtain ⟨arr, e, fr, h1, h2, h3, h4⟩ := h
  exact ⟨arr, e, fr, hw.trans h1, h2, h3, fun i v hv => let ⟨v', a, b⟩ := h4 i v hv; ⟨v', a, b.mono hm⟩⟩
theorem RowAt.lt {μ : Mu} {w : World} {l : Loc} {cs : List Value} (h : RowAt μ w l cs) : l.blk < w.heap.size := by
  obtain ⟨arr, e, fr, h1, _⟩ := h
  exact (Array.getElem?_eq_some_iff.1 h1).1
theorem MapAt.mono {μ ν : Mu} (hm : MuLe μ ν) {w w' : World} {l : Loc} {es : List (Value × Value)} (h : MapAt μ w l es) (hw : w'.heap[l.blk]? = w.heap[l.blk]?) : MapAt ν w' l es := by
  obtain ⟨ms, c, h1, h2, h3⟩ := h
  exact ⟨ms, c, hw.trans h1, h2.mono hm, h3.mono hm⟩
theorem MapAt.lt {μ : Mu} {w : World} {l : Loc} {es : List (Value × Value)} (h : MapAt μ w l es) : l.blk < w.heap.size := by
  obtain ⟨ms, c, h1, _⟩ := h
  exact (Array.getElem?_eq_some_iff.1 h1).1

/-- Another world in which nothing that counts has changed. -/
theorem HR.world {base : Nat} {F : Nat → Prop} {μ : Mu} {H : Heap} {w w' : World} (h : HR base F μ H w) (hw : ∀ k, k < w.heap.size → w'.heap[k]? = w.heap[k]?) (hs : w.heap.size ≤ w'.heap.size) : HR base F μ H w' where
  own b sz cs l hb hl := let ⟨a, c, d, e⟩ := h.own b sz cs l hb hl; ⟨a, c, d, e.mono (MuLe.refl _) (hw _ e.lt)⟩
  ro b sz cs l hb hl := let ⟨a, c, d⟩ := h.ro b sz cs l hb hl
    ⟨a, c, fun i v hv => let ⟨v', x, y⟩ := d i v hv; ⟨v', (cell_of_heap (hw _ (Nat.lt_of_lt_of_le c h.base_le))).trans x, y⟩⟩
  maps b es l hb hl := let ⟨a, c, d⟩ := h.maps b es l hb hl; ⟨a, c, d.mono (MuLe.refl _) (hw _ d.lt)⟩
  inj := h.inj
  far k hk := Nat.lt_of_lt_of_le (h.far k hk) hs
  base_le := Nat.le_trans h.base_le hs

theorem HR.drew {base : Nat} {F : Nat → Prop} {μ : Mu} {H : Heap} {w : World} (h : HR base F μ H w) : HR base F μ H w.drew := h.world (fun _ _ => rfl) (Nat.le_refl _)

/-- A map of abstract blocks, with one more. -/
def Mu.set (μ : Mu) (b : Nat) (l : Loc) : Mu := fun x => if x = b then some l else μ x
theorem Mu.set_same (μ : Mu) (b : Nat) (l : Loc) : μ.set b l b = some l := by simp [Mu.set]
theorem Mu.set_ne (μ : Mu) {b x : Nat} (l : Loc) (h : x ≠ b) : μ.set b l x = μ x := by simp [Mu.set, h]
theorem Mu.le_set {μ : Mu} {b : Nat} {l : Loc} (h : μ b = none) : MuLe μ (μ.set b l) := by
  intro x k hx
  have : x ≠ b := by rintro rfl; simp [h] at hx
  rw [Mu.set_ne _ _ this]; exact hx

theorem getElem?_snoc {α : Type} (l : List α) (x : α) (i : Nat) : (l ++ [x])[i]? = if i = l.length then some x else l[i]? := by
  rcases Nat.lt_trichotomy i l.length with h | h | h
  · rw [List.getElem?_append_left h, if_neg (by omega)]
  · subst h; simp
  · rw [if_neg (by omega), List.getElem?_eq_none (by simp; omega), List.getElem?_eq_none (by omega)]

/-- A new row. -/
theorem HR.new {base : Nat} {F : Nat → Prop} {μ : Mu} {H : Heap} {w : World} (h : HR base F μ H w) (hfree : μ H.length = none) (arr : Array Value) (e : TypeId) (fr : Nat × Nat) (sz : Nat) (cs : List Value)
    (hfr : ∀ i, i < arr.size → ¬ (fr.1 ≤ i ∧ i < fr.2)) (hcs : ∀ (i : Nat) (v : Value), cs[i]? = some v → ∃ v', arr[i]? = some v' ∧ VR μ v v') :
    HR base F (μ.set H.length ⟨w.heap.size, 0, arr.size, sz⟩) (H ++ [.row sz cs true true]) (w.alloc (.cells arr e fr)) := by
  have hm : MuLe μ (μ.set H.length ⟨w.heap.size, 0, arr.size, sz⟩) := Mu.le_set hfree
  have hold : ∀ k, k < w.heap.size → (w.alloc (.cells arr e fr)).heap[k]? = w.heap[k]? := fun k hk => Below.heap_alloc w _ k hk
  have key : ∀ {b : Nat} {x : Blk} {l : Loc}, (H ++ [Blk.row sz cs true true])[b]? = some x → (μ.set H.length ⟨w.heap.size, 0, arr.size, sz⟩) b = some l →
      (b = H.length ∧ x = .row sz cs true true ∧ l = ⟨w.heap.size, 0, arr.size, sz⟩) ∨ (b ≠ H.length ∧ H[b]? = some x ∧ μ b = some l) := by
    intro b x l hb hl
    rw [getElem?_snoc] at hb
    by_cases e : b = H.length
    · subst e; rw [if_pos rfl] at hb; rw [Mu.set_same] at hl; simp at hb hl; exact .inl ⟨rfl, hb.symm, hl.symm⟩
    · rw [if_neg e] at hb; rw [Mu.set_ne _ _ e] at hl; exact .inr ⟨e, hb, hl⟩
  refine ⟨?_, ?_, ?_, ?_, ?_, ?_⟩
  · intro b sz' cs' l hb hl
    rcases key hb hl with ⟨rfl, hx, rfl⟩ | ⟨hne, hb, hl⟩
    · simp only [Blk.row.injEq, and_true] at hx
      obtain ⟨rfl, rfl⟩ := hx
      refine ⟨rfl, h.base_le, fun hF => Nat.lt_irrefl _ (h.far _ hF), arr, e, fr, heap_alloc_new w _, rfl, hfr, fun i v hv => ?_⟩
      obtain ⟨v', a, b⟩ := hcs i v hv
      exact ⟨v', by simpa using a, b.mono hm⟩
    · obtain ⟨a, c, d, g⟩ := h.own b sz' cs' l hb hl
      exact ⟨a, c, d, g.mono hm (hold _ g.lt)⟩
  · intro b sz' cs' l hb hl
    rcases key hb hl with ⟨rfl, hx, rfl⟩ | ⟨hne, hb, hl⟩
    · simp at hx
    · obtain ⟨a, c, d⟩ := h.ro b sz' cs' l hb hl
      refine ⟨a, c, fun i v hv => ?_⟩
      obtain ⟨v', x, y⟩ := d i v hv
      exact ⟨v', (cell_of_heap (hold _ (Nat.lt_of_lt_of_le c h.base_le))).trans x, y.mono hm⟩
  · intro b es l hb hl
    rcases key hb hl with ⟨rfl, hx, rfl⟩ | ⟨hne, hb, hl⟩
    · simp at hx
    · obtain ⟨a, c, d⟩ := h.maps b es l hb hl
      exact ⟨a, c, d.mono hm (hold _ d.lt)⟩
  · have lt : ∀ {b : Nat} {k : Blk} {l : Loc}, H[b]? = some k → k.mine = true → μ b = some l → l.blk < w.heap.size := by
      intro b k l hb hk hl
      cases k with
      | row sz2 cs2 own live =>
        simp [Blk.mine] at hk
        obtain ⟨rfl, rfl⟩ := hk
        exact (h.own b sz2 cs2 l hb hl).2.2.2.lt
      | map es => exact (h.maps b es l hb hl).2.2.lt
    intro b b' k k' l l' hb hb' hk hk' hne hl hl'
    rcases key hb hl with ⟨rfl, rfl, rfl⟩ | ⟨h1, hb, hl⟩ <;> rcases key hb' hl' with ⟨rfl, rfl, rfl⟩ | ⟨h2, hb', hl'⟩
    · exact absurd rfl hne
    · have := lt hb' hk' hl'; simp; omega
    · have := lt hb hk hl; simp; omega
    · exact h.inj b b' k k' l l' hb hb' hk hk' hne hl hl'
  · intro k hk
    have := h.far k hk
    simp; omega
  · have := h.base_le
    simp; omega

end Go.Proofs.Ytdhbclplondmjaa.C

end

section
/- More of the abstract memory: a store, a block that dies, a machine's block that another abstract block takes over, maps. -/
set_option linter.unusedVariables false
set_option linter.unusedSimpArgs false
namespace Go.Proofs.Ytdhbclplondmjaa.C
open Go.RowKit

variable {base : Nat} {F : Nat → Prop} {μ : Mu} {H : Heap} {w : World}

theorem HR.mine_lt (h : HR base F μ H w) {b : Nat} {k : Blk} {l : Loc} (hb : H[b]? = some k) (hk : k.mine = true) (hl : μ b = some l) : l.blk < w.heap.size ∧ base ≤ l.blk ∧ ¬ F l.blk := by
  cases k with
  | row sz cs own live =>
    simp [Blk.mine] at hk
    obtain ⟨rfl, rfl⟩ := hk
    obtain ⟨_, a, c, d⟩ := h.own b sz cs l hb hl
    exact ⟨d.lt, a, c⟩
  | map es =>
    obtain ⟨a, c, d⟩ := h.maps b es l hb hl
    exact ⟨d.lt, a, c⟩

/-- A write into a machine's block that no live block has. -/
theorem HR.elsewhere (h : HR base F μ H w) {p : Addr} (u : Value) (hb : base ≤ p.block) (hf : ¬ F p.block)
    (hno : ∀ b k l, H[b]? = some k → k.mine = true → μ b = some l → l.blk ≠ p.block) : HR base F μ H (w.setCell p u) where
  own b sz cs l hb' hl := let ⟨a, c, d, e⟩ := h.own b sz cs l hb' hl; ⟨a, c, d, e.mono (MuLe.refl _) (Below.heap_setCell w p u _ (hno b _ l hb' rfl hl))⟩
  ro b sz cs l hb' hl := let ⟨a, c, d⟩ := h.ro b sz cs l hb' hl
    ⟨a, c, fun i v hv => let ⟨v', x, y⟩ := d i v hv; ⟨v', (cell_of_heap (Below.heap_setCell w p u _ (by simp; omega))).trans x, y⟩⟩
  maps b es l hb' hl := let ⟨a, c, d⟩ := h.maps b es l hb' hl; ⟨a, c, d.mono (MuLe.refl _) (Below.heap_setCell w p u _ (hno b _ l hb' rfl hl))⟩
  inj := h.inj
  far k hk := by simpa [World.setCell] using h.far k hk
  base_le := by simpa [World.setCell] using h.base_le

/-- A block dies: nothing is said of it any more. -/
theorem HR.kill (h : HR base F μ H w) (b0 : Nat) {sz : Nat} {cs : List Value} {own : Bool} (h0 : H[b0]? = some (.row sz cs own true)) : HR base F μ (H.set b0 (.row sz cs own false)) w := by
  have key : ∀ {b : Nat} {x : Blk}, (H.set b0 (.row sz cs own false))[b]? = some x → (b = b0 ∧ x = .row sz cs own false) ∨ (b ≠ b0 ∧ H[b]? = some x) := by
    intro b x hx
    rw [List.getElem?_set] at hx
    by_cases e : b0 = b
    · subst e; rw [if_pos rfl] at hx; split at hx <;> simp at hx; exact .inl ⟨rfl, hx.symm⟩
    · rw [if_neg e] at hx; exact .inr ⟨fun q => e q.symm, hx⟩
  refine ⟨?_, ?_, ?_, ?_, h.far, h.base_le⟩
  · intro b sz' cs' l hb hl
    rcases key hb with ⟨rfl, hx⟩ | ⟨_, hb⟩
    · simp at hx
    · exact h.own b sz' cs' l hb hl
  · intro b sz' cs' l hb hl
    rcases key hb with ⟨rfl, hx⟩ | ⟨_, hb⟩
    · simp at hx
    · exact h.ro b sz' cs' l hb hl
  · intro b es l hb hl
    rcases key hb with ⟨rfl, hx⟩ | ⟨_, hb⟩
    · simp at hx
    · exact h.maps b es l hb hl
  · intro b b' k k' l l' hb hb' hk hk' hne hl hl'
    rcases key hb with ⟨rfl, rfl⟩ | ⟨_, hb⟩
    · simp [Blk.mine] at hk
    · rcases key hb' with ⟨rfl, rfl⟩ | ⟨_, hb'⟩
      · simp [Blk.mine] at hk'
      · exact h.inj b b' k k' l l' hb hb' hk hk' hne hl hl'

/-- A machine's block that no live block has is taken over by a new abstract block. -/
theorem HR.adopt (h : HR base F μ H w) (hfree : μ H.length = none) (x : Blk) (l0 : Loc) (hb0 : base ≤ l0.blk) (hf0 : ¬ F l0.blk)
    (hno : ∀ b k l, H[b]? = some k → k.mine = true → μ b = some l → l.blk ≠ l0.blk)
    (hx : (∃ cs, x = .row l0.sz cs true true ∧ RowAt (μ.set H.length l0) w l0 cs) ∨ (∃ es, x = .map es ∧ MapAt (μ.set H.length l0) w l0 es)) :
    HR base F (μ.set H.length l0) (H ++ [x]) w := by
  have hm : MuLe μ (μ.set H.length l0) := Mu.le_set hfree
  have key : ∀ {b : Nat} {y : Blk} {l : Loc}, (H ++ [x])[b]? = some y → (μ.set H.length l0) b = some l → (b = H.length ∧ y = x ∧ l = l0) ∨ (b ≠ H.length ∧ H[b]? = some y ∧ μ b = some l) := by
    intro b y l hb hl
    rw [getElem?_snoc] at hb
    by_cases e : b = H.length
    · subst e; rw [if_pos rfl] at hb; rw [Mu.set_same] at hl; simp at hb hl; exact .inl ⟨rfl, hb.symm, hl.symm⟩
    · rw [if_neg e] at hb; rw [Mu.set_ne _ _ e] at hl; exact .inr ⟨e, hb, hl⟩
  refine ⟨?_, ?_, ?_, ?_, h.far, h.base_le⟩
  · intro b sz' cs' l hb hl
    rcases key hb hl with ⟨rfl, hy, rfl⟩ | ⟨hne, hb, hl⟩
    · rcases hx with ⟨cs, rfl, hr⟩ | ⟨es, rfl, _⟩
      · simp only [Blk.row.injEq, and_true] at hy
        obtain ⟨rfl, rfl⟩ := hy
        exact ⟨rfl, hb0, hf0, hr⟩
      · simp at hy
    · obtain ⟨a, c, d, g⟩ := h.own b sz' cs' l hb hl
      exact ⟨a, c, d, g.mono hm rfl⟩
  · intro b sz' cs' l hb hl
    rcases key hb hl with ⟨rfl, hy, rfl⟩ | ⟨hne, hb, hl⟩
    · rcases hx with ⟨cs, rfl, hr⟩ | ⟨es, rfl, _⟩ <;> simp at hy
    · obtain ⟨a, c, d⟩ := h.ro b sz' cs' l hb hl
      exact ⟨a, c, fun i v hv => let ⟨v', p, q⟩ := d i v hv; ⟨v', p, q.mono hm⟩⟩
  · intro b es' l hb hl
    rcases key hb hl with ⟨rfl, hy, rfl⟩ | ⟨hne, hb, hl⟩
    · rcases hx with ⟨cs, rfl, hr⟩ | ⟨es, rfl, hr⟩
      · simp at hy
      · simp only [Blk.map.injEq] at hy
        subst hy
        exact ⟨hb0, hf0, hr⟩
    · obtain ⟨a, c, d⟩ := h.maps b es' l hb hl
      exact ⟨a, c, d.mono hm rfl⟩
  · intro b b' k k' l l' hb hb' hk hk' hne hl hl'
    rcases key hb hl with ⟨rfl, rfl, rfl⟩ | ⟨h1, hb2, hl2⟩ <;> rcases key hb' hl' with ⟨rfl, rfl, rfl⟩ | ⟨h2, hb3, hl3⟩
    · exact absurd rfl hne
    · exact (hno b' k' l' hb3 hk' hl3).symm
    · exact hno b k l hb2 hk hl2
    · exact h.inj b b' k k' l l' hb2 hb3 hk hk' hne hl2 hl3

/-- A store into a live row of one's own. -/
theorem HR.store (h : HR base F μ H w) {b sz : Nat} {cs : List Value} {l : Loc} (hb : H[b]? = some (.row sz cs true true)) (hl : μ b = some l) (i : Nat) (hi : i < cs.length) {v v' : Value} (hv : VR μ v v') :
    HR base F μ (H.set b (.row sz (cs.set i v) true true)) (w.setCell ⟨l.blk, l.sh + i, none⟩ v') := by
  obtain ⟨e1, e2, e3, arr, e, fr, g1, g2, g3, g4⟩ := h.own b sz cs l hb hl
  obtain ⟨v0, hv0, _⟩ := g4 i cs[i] (by simp [hi])
  have hlt : l.sh + i < arr.size := (Array.getElem?_eq_some_iff.1 hv0).1
  have hnew : (w.setCell ⟨l.blk, l.sh + i, none⟩ v').heap[l.blk]? = some (.cells (arr.setIfInBounds (l.sh + i) v') e fr) := by
    simp [World.setCell, Array.getElem?_modify, g1]
  have hother : ∀ k, k ≠ l.blk → (w.setCell ⟨l.blk, l.sh + i, none⟩ v').heap[k]? = w.heap[k]? := fun k hk => Below.heap_setCell w _ v' k hk
  have hblt : b < H.length := (List.getElem?_eq_some_iff.1 hb).1
  have key : ∀ {c : Nat} {x : Blk}, (H.set b (.row sz (cs.set i v) true true))[c]? = some x → (c = b ∧ x = .row sz (cs.set i v) true true) ∨ (c ≠ b ∧ H[c]? = some x) := by
    intro c x hx
    rw [List.getElem?_set] at hx
    by_cases e : b = c
    · subst e; rw [if_pos rfl, if_pos hblt] at hx; simp at hx; exact .inl ⟨rfl, hx.symm⟩
    · rw [if_neg e] at hx; exact .inr ⟨fun q => e q.symm, hx⟩
  refine ⟨?_, ?_, ?_, ?_, ?_, ?_⟩
  · intro c sz' cs' l' hc hl'
    rcases key hc with ⟨rfl, hx⟩ | ⟨hne, hc⟩
    · simp only [Blk.row.injEq, and_true] at hx
      obtain ⟨rfl, rfl⟩ := hx
      rw [hl] at hl'; simp at hl'; subst hl'
      refine ⟨e1, e2, e3, _, e, fr, hnew, by simpa using g2, by simpa using g3, fun j u hu => ?_⟩
      rw [List.getElem?_set] at hu
      by_cases q : i = j
      · subst q
        rw [if_pos rfl, if_pos hi] at hu
        simp at hu; subst hu
        exact ⟨v', by simp [hlt], hv⟩
      · rw [if_neg q] at hu
        obtain ⟨u', x, y⟩ := g4 j u hu
        exact ⟨u', by rw [Array.getElem?_setIfInBounds_ne (by omega)]; exact x, y⟩
    · obtain ⟨a, c1, d, g⟩ := h.own c sz' cs' l' hc hl'
      exact ⟨a, c1, d, g.mono (MuLe.refl _) (hother _ (h.inj c b _ _ l' l hc hb rfl rfl hne hl' hl))⟩
  · intro c sz' cs' l' hc hl'
    rcases key hc with ⟨rfl, hx⟩ | ⟨hne, hc⟩
    · simp at hx
    · obtain ⟨a, c1, d⟩ := h.ro c sz' cs' l' hc hl'
      exact ⟨a, c1, fun j u hu => let ⟨u', x, y⟩ := d j u hu; ⟨u', (cell_of_heap (hother _ (by simp; omega))).trans x, y⟩⟩
  · intro c es l' hc hl'
    rcases key hc with ⟨rfl, hx⟩ | ⟨hne, hc⟩
    · simp at hx
    · obtain ⟨a, c1, d⟩ := h.maps c es l' hc hl'
      exact ⟨a, c1, d.mono (MuLe.refl _) (hother _ (h.inj c b _ _ l' l hc hb rfl rfl hne hl' hl))⟩
  · intro c c' k k' m m' hc hc' hk hk' hne hm hm'
    rcases key hc with ⟨rfl, rfl⟩ | ⟨h1, hc2⟩ <;> rcases key hc' with ⟨rfl, rfl⟩ | ⟨h2, hc3⟩
    · exact absurd rfl hne
    · exact h.inj _ c' _ k' m m' hb hc3 rfl hk' hne hm hm'
    · exact h.inj c _ k _ m m' hc2 hb hk rfl hne hm hm'
    · exact h.inj c c' k k' m m' hc2 hc3 hk hk' hne hm hm'
  · intro k hk; simpa [World.setCell] using h.far k hk
  · simpa [World.setCell] using h.base_le

end Go.Proofs.Ytdhbclplondmjaa.C

end

section
/- The abstract machine: what each operation, each piece of code and each call computes over abstract memory. -/
set_option linter.unusedVariables false
set_option linter.unusedSimpArgs false
namespace Go.Proofs.Ytdhbclplondmjaa.C
open Go.RowKit

inductive UD where
  | bool | int (k : IntKind) | string | slice (e : TypeId) | struct (fs : List (TypeId × Nat)) | array (n : Nat) (e : TypeId)
  | pointer (e : TypeId) | map (k e : TypeId) | func | iface | other

structure TI where
  desc : UD
  zero : Value
  size : Nat
  bytes : Nat

/-- A program's types and functions, as far as they are told. -/
structure Tab where
  T : TypeId → Option TI
  fn : FuncId → Option Func
  /-- methods: type, name, function, pointer receiver (called by a pointer: the receiver itself) -/
  meth : TypeId → String → Option (FuncId × Option TypeId)
  /-- functions whose behaviour is given -/
  ext : FuncId → Option (List Value → List Blk → Option (Value × List Blk))
  /-- structs of plain cells that are compared: what the cells are -/
  eqs : TypeId → Option (List UD) := fun _ => none

def Tab.d (T : Tab) (t : TypeId) : Option UD := (T.T t).map TI.desc

def TI.agg (i : TI) : Bool := match i.desc with | .struct _ | .array _ _ => true | _ => false

def plain : Value → Bool
  | .bool _ | .int _ _ | .string _ | .pointer none | .map none | .nilFunc | .nilIface | .slice none 0 0 => true
  | _ => false

def ev (s : List Value) : Operand → Value
  | .tmp t => s.getD t undef
  | .const v => if plain v then v else undef
  | .func f => .func (.func f) #[] #[]
  | .global _ => undef

def oneCell : Value → Bool
  | .agg _ | .tuple _ | .chan _ => false
  | _ => true

def cellsOf : Value → List Value
  | .agg cs => cs.toList
  | v => [v]

def readCells (H : Heap) (b o n : Nat) : Option (List Value) :=
  match H[b]? with
  | some (.row _ cs _ true) => if o + n ≤ cs.length then some ((cs.drop o).take n) else none
  | _ => none

def setCells (cs : List Value) : Nat → List Value → List Value
  | _, [] => cs
  | o, v :: vs => setCells (cs.set o v) (o + 1) vs

def writeCells (H : Heap) (b o : Nat) (vs : List Value) : Option Heap :=
  if vs.all oneCell then
    match H[b]? with
    | some (.row sz cs true true) => if o + vs.length ≤ cs.length then some (H.set b (.row sz (setCells cs o vs) true true)) else none
    | _ => none
  else none

def newRow (H : Heap) (sz : Nat) (cs : List Value) : Value × Heap := (.pointer (some ⟨H.length, 0, none⟩), H ++ [.row sz cs true true])

def isTuple : Value → Bool
  | .tuple _ => true
  | _ => false

def fillParts (size : Nat → Option (Nat × Nat)) (cells : List Value) : List (Nat × Value) → Option (List Value)
  | [] => some cells
  | (i, v) :: rest =>
    match size i with
    | none => none
    | some (off, n) => if (cellsOf v).length = n ∧ off + n ≤ cells.length ∧ isTuple v = false then fillParts size (setCells cells off (cellsOf v)) rest else none

def repCells (z : List Value) : Nat → List Value
  | 0 => []
  | n + 1 => z ++ repCells z n

def binInt (op : BinOp) (k : IntKind) (a b : Int) : Option Value :=
  match op with
  | .add => some (.int k (k.wrap (a + b)))
  | .sub => some (.int k (k.wrap (a - b)))
  | .mul => some (.int k (k.wrap (a * b)))
  | .quo => if b = 0 then none else some (.int k (k.wrap (a.tdiv b)))
  | .rem => if b = 0 then none else some (.int k (a.tmod b))
  | .and => some (.int k (k.wrap (BitVec.ofInt k.bits a &&& BitVec.ofInt k.bits b).toNat))
  | .or => some (.int k (k.wrap (BitVec.ofInt k.bits a ||| BitVec.ofInt k.bits b).toNat))
  | .xor => some (.int k (k.wrap (BitVec.ofInt k.bits a ^^^ BitVec.ofInt k.bits b).toNat))
  | .andNot => some (.int k (k.wrap (BitVec.ofInt k.bits a &&& ~~~BitVec.ofInt k.bits b).toNat))
  | .eql => some (.bool (a == b))
  | .neq => some (.bool (a != b))
  | .lss => some (.bool (a < b))
  | .leq => some (.bool (a ≤ b))
  | .gtr => some (.bool (a > b))
  | .geq => some (.bool (a ≥ b))
  | _ => none

def binStr (op : BinOp) (x y : ByteArray) : Option Value :=
  match op with
  | .add => if ((x.size + y.size : Nat) : Int) > IntKind.i64.max then none else some (.string (x ++ y))
  | .eql => some (.bool (x.toList == y.toList))
  | .neq => some (.bool (!(x.toList == y.toList)))
  | .lss => some (.bool (Op.bytesLess x.toList y.toList))
  | .leq => some (.bool (Op.bytesLess x.toList y.toList || x.toList == y.toList))
  | .gtr => some (.bool (!(Op.bytesLess x.toList y.toList || x.toList == y.toList)))
  | .geq => some (.bool (!(Op.bytesLess x.toList y.toList)))
  | _ => none

def nilEq : UD → Value → Value → Option Bool
  | .slice _, .slice none _ _, .slice b _ _ => some b.isNone
  | .slice _, .slice _ _ _, .slice none _ _ => some false
  | .pointer _, .pointer none, .pointer b => some b.isNone
  | .pointer _, .pointer _, .pointer none => some false
  | .iface, .nilIface, .iface _ _ => some false
  | .iface, .iface _ _, .nilIface => some false
  | .bool, .bool a, .bool b => some (a == b)
  | _, _, _ => none

/-- Structs of plain cells. -/
def aggEq : List UD → List Value → List Value → Option Bool
  | [], [], [] => some true
  | .string :: us, .string a :: l, .string b :: m => (aggEq us l m).map fun r => (a.toList == b.toList) && r
  | .int _ :: us, .int k1 a :: l, .int k2 b :: m => if k1 = k2 then (aggEq us l m).map fun r => (a == b) && r else none
  | .bool :: us, .bool a :: l, .bool b :: m => (aggEq us l m).map fun r => (a == b) && r
  | _, _, _ => none

def binOp (T : Tab) (op : BinOp) (t : TypeId) (x y : Value) : Option Value :=
  match x, y with
  | .int k a, .int k' b =>
    match op with
    | .shl => if b < 0 then none else some (.int k (k.wrap (a * 2 ^ (min b.toNat k.bits))))
    | .shr => if b < 0 then none else some (.int k (a.fdiv (2 ^ (min b.toNat k.bits))))
    | op => if k = k' then binInt op k a b else none
  | .string a, .string b => binStr op a b
  | .agg xs, .agg ys =>
    match op, (T.eqs t).bind fun us => aggEq us xs.toList ys.toList with
    | .eql, some r => some (.bool r)
    | .neq, some r => some (.bool (!r))
    | _, _ => none
  | x, y =>
    match op, (T.T t).bind fun i => nilEq i.desc x y with
    | .eql, some r => some (.bool r)
    | .neq, some r => some (.bool (!r))
    | _, _ => none

def unOp (op : UnOp) (x : Value) : Option Value :=
  match op, x with
  | .neg, .int k n => some (.int k (k.wrap (0 - n)))
  | .not, .bool b => some (.bool (!b))
  | .xor, .int k n => some (.int k (k.wrap (BitVec.ofInt k.bits (if k.signed then -1 else k.max) ^^^ BitVec.ofInt k.bits n).toNat))
  | _, _ => none

def bnd (v : Value) (y : Nat) : Option Nat :=
  match v with
  | .int _ i => if 0 ≤ i ∧ i ≤ y then some i.toNat else none
  | _ => none

def szAt (H : Heap) (b : Nat) : Option Nat :=
  match H[b]? with
  | some (.row sz _ _ true) => some sz
  | _ => none

/-- 'xs[lo:hi]', 'xs[lo:hi:mx]': the limit is what the capacity is known to be. -/
def cutSlice (H : Heap) (sz : Nat) (a : Option Addr) (n c : Nat) (l h : Nat) (m : Option Nat) : Option Value :=
  match a with
  | none => if n = 0 ∧ c = 0 then some (.slice none 0 0) else none
  | some ⟨b, o, none⟩ =>
    match m with
    | some m => if m = l then some (.slice (some ⟨b, o, none⟩) 0 0) else if szAt H b = some sz then some (.slice (some ⟨b, o + l * sz, none⟩) (h - l) (m - l)) else none
    | none =>
      if c = l ∧ c ≠ unk then some (.slice (some ⟨b, o, none⟩) 0 0)
      else if szAt H b = some sz then some (.slice (some ⟨b, o + l * sz, none⟩) (h - l) (if c = unk then unk else c - l)) else none
  | _ => none

def sliceVal (T : Tab) (H : Heap) (t : TypeId) (x : Value) (lo hi mx : Option Value) : Option Value :=
  match T.d t, x with
  | some .string, .string s =>
    match mx with
    | some _ => none
    | none =>
      (match hi with | some v => bnd v s.size | none => some s.size).bind fun h =>
      (match lo with | some v => bnd v h | none => some 0).bind fun l => some (.string (s.extract l h))
  | some (.slice e), .slice a n c =>
    (T.T e).bind fun ei =>
    match mx with
    | some v =>
      (bnd v (if c = unk then n else c)).bind fun m =>
      (match hi with | some v => bnd v m | none => none).bind fun h =>
      (match lo with | some v => bnd v h | none => some 0).bind fun l => cutSlice H ei.size a n c l h (some m)
    | none =>
      (match hi with | some v => bnd v (if c = unk then n else c) | none => some n).bind fun h =>
      (match lo with | some v => bnd v h | none => some 0).bind fun l => cutSlice H ei.size a n c l h none
  | _, _ => none

def indexAddr (T : Tab) (t : TypeId) (x i : Value) : Option Value :=
  match T.d t, x, i with
  | some (.slice e), .slice (some ⟨b, o, none⟩) n _, .int _ i =>
    match T.T e with
    | some ei => if 0 ≤ i ∧ i < n ∧ 0 < ei.size then some (.pointer (some ⟨b, o + i.toNat * ei.size, none⟩)) else none
    | none => none
  | some (.array n e), .pointer (some ⟨b, o, none⟩), .int _ i =>
    match T.T e with
    | some ei => if 0 ≤ i ∧ i < n ∧ 0 < ei.size then some (.pointer (some ⟨b, o + i.toNat * ei.size, none⟩)) else none
    | none => none
  | _, _, _ => none

def vBox (T : Tab) (H : Heap) (e : TypeId) (v : Value) : Option (Value × Heap) := if isTuple v then none else (T.T e).map fun i => newRow H i.size (cellsOf v)

def vBuild (T : Tab) (t : TypeId) (parts : List (Nat × Value)) : Option Value := do
  let i ← T.T t
  match i.desc with
  | .struct fs => do
    let places ← fs.mapM fun f => (T.T f.1).map fun k => (f.2, k.size)
    let cs ← fillParts (fun j => places[j]?) (cellsOf i.zero) parts
    some (.agg cs.toArray)
  | .array _ e => do
    let ei ← T.T e
    let cs ← fillParts (fun j => some (j * ei.size, ei.size)) (cellsOf i.zero) parts
    some (.agg cs.toArray)
  | _ => none

def vBuildSlice (T : Tab) (H : Heap) (t : TypeId) (n : Nat) (parts : List (Nat × Value)) : Option (Value × Heap) := do
  let i ← T.T t
  match i.desc with
  | .slice e => do
    let ei ← T.T e
    if n * ei.size > 65536 then none else
    let cs ← fillParts (fun j => some (j * ei.size, ei.size)) (repCells (cellsOf ei.zero) n) parts
    some (.slice (some ⟨H.length, 0, none⟩) n n, H ++ [.row ei.size cs true true])
  | _ => none

def vLoad (T : Tab) (H : Heap) (t : TypeId) (a : Value) : Option Value := do
  let i ← T.T t
  match a with
  | .pointer (some ⟨b, o, none⟩) => do
    let cs ← readCells H b o i.size
    if i.agg then some (.agg cs.toArray) else match cs with | [v] => some v | _ => none
  | _ => none

def vStore (T : Tab) (H : Heap) (t : TypeId) (a v : Value) : Option Heap := do
  let i ← T.T t
  match a with
  | .pointer (some ⟨b, o, none⟩) => if (cellsOf v).length = i.size then writeCells H b o (cellsOf v) else none
  | _ => none

def vNilCheck (x : Value) : Option Value :=
  match x with
  | .pointer (some a) => some (.pointer (some a))
  | .func (.func f) a c => some (.func (.func f) a c)
  | .iface t v => some (.iface t v)
  | _ => none

def vConvert (T : Tab) (src dst : TypeId) (x : Value) : Option Value :=
  match T.d src, T.d dst, x with
  | some (.int _), some (.int k), .int _ n => some (.int k (k.wrap n))
  | some .string, some .string, .string b => some (.string b)
  | _, _, _ => none

def vMakeIface (T : Tab) (t : TypeId) (x : Value) : Option Value :=
  match T.d t with
  | some .iface | some .other | none => none
  | some _ => some (.iface t x)

def vMakeSlice (T : Tab) (H : Heap) (t : TypeId) (n c : Value) : Option (Value × Heap) := do
  let i ← T.T t
  match i.desc, n, c with
  | .slice e, .int .i64 l, .int .i64 m => do
    let ei ← T.T e
    if 0 ≤ l ∧ l ≤ m ∧ m * ei.bytes ≤ 2 ^ 40 ∧ 0 < ei.size ∧ m ≤ 2 ^ 40 then
      some (.slice (some ⟨H.length, 0, none⟩) l.toNat m.toNat, H ++ [.row ei.size (repCells (cellsOf ei.zero) m.toNat) true true])
    else none
  | _, _, _ => none

def vFieldAddr (T : Tab) (t : TypeId) (x : Value) (f : Nat) : Option Value := do
  let i ← T.T t
  match i.desc, x with
  | .struct fs, .pointer (some ⟨b, o, none⟩) => do
    let f ← fs[f]?
    let k ← T.T f.1
    if 0 < k.size then some (.pointer (some ⟨b, o + f.2, none⟩)) else none
  | _, _ => none

def vField (T : Tab) (t : TypeId) (x : Value) (f : Nat) : Option Value := do
  let i ← T.T t
  match i.desc, x with
  | .struct fs, .agg cs => do
    let f ← fs[f]?
    let k ← T.T f.1
    if k.agg then (if f.2 + k.size ≤ cs.size then some (.agg ((cs.toList.drop f.2).take k.size).toArray) else none) else cs.toList[f.2]?
  | _, _ => none

def vIndex (T : Tab) (t : TypeId) (x i : Value) : Option Value :=
  match T.d t, x, i with
  | some .string, .string b, .int _ j => if 0 ≤ j then (b.data.toList[j.toNat]?).map fun c => .int .u8 c.toNat else none
  | _, _, _ => none

def vExtract (x : Value) (i : Nat) : Option Value :=
  match x with
  | .tuple vs => vs.toList[i]?
  | _ => none

def vAssert (T : Tab) (x : Value) (t : TypeId) : Option Value :=
  match T.d t, x with
  | some .iface, _ | some .other, _ | none, _ => none
  | some _, .iface u v => if u = t then some v else none
  | _, _ => none

def vLen (T : Tab) (t : TypeId) (x : Value) : Option Value :=
  match T.d t, x with
  | some .string, .string b => some (.int .i64 b.size)
  | some (.slice _), .slice _ n _ => some (.int .i64 n)
  | _, _ => none

def srcCells (H : Heap) (a2 : Option Addr) (m size : Nat) : Option (List Value) :=
  match a2 with
  | none => if m = 0 then some [] else none
  | some ⟨b, o, none⟩ => if m = 0 then some [] else readCells H b o (m * size)
  | _ => none

/-- Is there certainly no room, or certainly room, or is it open? -/
def vAppend (T : Tab) (H : Heap) (t : TypeId) (x y : Value) : Option (Value × Heap) := do
  let i ← T.T t
  match i.desc, x, y with
  | .slice e, .slice a n c, .slice a2 m _ => do
    let ei ← T.T e
    if 0 < ei.size ∧ 0 < ei.bytes ∧ (n + m) * ei.bytes ≤ 2 ^ 40 ∧ n + m ≤ 2 ^ 40 then do
      let new ← srcCells H a2 m ei.size
      if new.all oneCell then
        if n = 0 ∧ c = 0 then
          if m = 0 then some (.slice a 0 0, H) else some (.slice (some ⟨H.length, 0, none⟩) m unk, H ++ [.row ei.size new true true])
        else match a with
          | some ⟨b, o, none⟩ =>
            if c = unk then
              match H[b]? with
              | some (.row sz cs true true) =>
                if sz = ei.size ∧ o + n * ei.size ≤ cs.length then
                  some (.slice (some ⟨H.length, 0, none⟩) (n + m) unk, (H.set b (.row sz cs true false)) ++ [.row ei.size ((cs.drop o).take (n * ei.size) ++ new) true true])
                else none
              | _ => none
            else if n + m ≤ c then
              match H[b]? with
              | some (.row sz cs true true) =>
                if sz = ei.size then (writeCells H b (o + n * ei.size) new).map fun H' => (.slice (some ⟨b, o, none⟩) (n + m) c, H') else none
              | _ => none
            else do
              let old ← readCells H b o (n * ei.size)
              some (.slice (some ⟨H.length, 0, none⟩) (n + m) unk, H ++ [.row ei.size (old ++ new) true true])
          | _ => none
      else none
    else none
  | _, _, _ => none

/-- 'clear' of a slice -/
def vClear (T : Tab) (H : Heap) (t : TypeId) (x : Value) : Option Heap :=
  match T.d t, x with
  | some (.slice e), .slice a n _ =>
    if n = 0 then some H else
    match a, T.T e with
    | some ⟨b, o, none⟩, some ei => writeCells H b o (repCells (cellsOf ei.zero) n)
    | _, _ => none
  | _, _ => none

/-- 'copy' of slices -/
def vCopy (T : Tab) (H : Heap) (t : TypeId) (x y : Value) : Option (Value × Heap) :=
  match T.d t, x, y with
  | some (.slice e), .slice a n _, .slice a2 m _ =>
    match T.T e with
    | some ei =>
      if min m n = 0 then some (.int .i64 0, H) else
      match a, a2 with
      | some ⟨b, o, none⟩, some ⟨b2, o2, none⟩ => (readCells H b2 o2 (min m n * ei.size)).bind fun cs => (writeCells H b o cs).map fun H' => (.int .i64 (min m n : Nat), H')
      | _, _ => none
    | none => none
  | _, _, _ => none

def vBuiltin (T : Tab) (H : Heap) (b : Builtin) (xs : List Value) (ts : List TypeId) : Option (Value × Heap) :=
  match b, xs, ts with
  | .len, [x], [t] => (vLen T t x).map fun v => (v, H)
  | .max, [.int k x, .int _ y], _ => some (.int k (if y > x then y else x), H)
  | .min, [.int k x, .int _ y], _ => some (.int k (if y < x then y else x), H)
  | .clear, [x], [t] => (vClear T H t x).map fun H' => (undef, H')
  | .append, [x, y], [t, u] => if t = u then vAppend T H t x y else none
  | .copy, [x, y], [t, u] => vCopy T H t x y
  | _, _, _ => none

/-- Maps by strings. -/
def lookE : List (Value × Value) → ByteArray → Option (Option Value)
  | [], _ => some none
  | (.string a, v) :: l, s => if s == a then some (some v) else lookE l s
  | _ :: _, _ => none

def setE : List (Value × Value) → ByteArray → Value → Option (List (Value × Value))
  | [], s, v => some [(.string s, v)]
  | (.string a, u) :: l, s, v => if s == a then some ((.string s, v) :: l) else (setE l s v).map fun l' => (.string a, u) :: l'
  | _ :: _, _, _ => none

def entriesOf (H : Heap) (x : Value) : Option (List (Value × Value)) :=
  match x with
  | .map none => some []
  | .map (some b) => match H[b]? with | some (.map es) => some es | _ => none
  | _ => none

def vLookup (T : Tab) (H : Heap) (t : TypeId) (x k : Value) (ok : Bool) : Option Value :=
  match T.d t, k with
  | some (.map kt et), .string s =>
    match T.d kt, T.T et with
    | some .string, some ei => (entriesOf H x).bind fun es => (lookE es s).map fun r => if ok then .tuple #[r.getD ei.zero, .bool r.isSome] else r.getD ei.zero
    | _, _ => none
  | _, _ => none

def vMapUpdate (T : Tab) (H : Heap) (t : TypeId) (m k v : Value) : Option Heap :=
  match T.d t, m, k with
  | some (.map kt _), .map (some b), .string s =>
    match T.d kt, H[b]? with
    | some .string, some (.map es) => (setE es s v).map fun es' => H.set b (.map es')
    | _, _ => none
  | _, _, _ => none

/-- '[]byte(s)' -/
def vBytes0 (T : Tab) (H : Heap) (src dst : TypeId) (x : Value) : Option (Value × Heap) :=
  match T.d src, T.d dst, x with
  | some .string, some (.slice e), .string s =>
    match T.T e with
    | some ei => match ei.desc with
      | .int .u8 => if ei.size = 1 then some (.slice (some ⟨H.length, 0, none⟩) s.size unk, H ++ [.row 1 (s.data.toList.map fun b => .int .u8 b.toNat) true true]) else none
      | _ => none
    | none => none
  | _, _, _ => none

/-- 'string(b)' -/
def bytesIn : List Value → Option (List UInt8)
  | [] => some []
  | .int .u8 k :: l => if 0 ≤ k ∧ k < 256 then (bytesIn l).map fun r => UInt8.ofNat k.toNat :: r else none
  | _ :: _ => none

def vString (T : Tab) (H : Heap) (src dst : TypeId) (x : Value) : Option Value :=
  match T.d src, T.d dst, x with
  | some (.slice e), some .string, .slice (some ⟨b, o, none⟩) n _ =>
    match T.T e with
    | some ei => match ei.desc with
      | .int .u8 => (readCells H b o n).bind fun cs => (bytesIn cs).map fun l => .string ⟨l.toArray⟩
      | _ => none
    | none => none
  | _, _, _ => none

def vBytes (T : Tab) (H : Heap) (src dst : TypeId) (x : Value) : Option (Value × Heap) :=
  match vBytes0 T H src dst x with
  | some r => some r
  | none => (vString T H src dst x).map fun v => (v, H)

/-- The operations that make no call. -/
def opEval (T : Tab) (s : List Value) (H : Heap) (o : Op) : Option (Value × Heap) :=
  match o with
  | .move x | .assign x => some (ev s x, H)
  | .pick c a b => match ev s c with | .bool t => some (if t then ev s a else ev s b, H) | _ => none
  | .alloc e => (T.T e).bind fun i => vBox T H e i.zero
  | .box e x => vBox T H e (ev s x)
  | .build t parts => (vBuild T t (parts.toList.map fun p => (p.1, ev s p.2))).map fun v => (v, H)
  | .buildSlice t n parts => vBuildSlice T H t n (parts.toList.map fun p => (p.1, ev s p.2))
  | .load t a => (vLoad T H t (ev s a)).map fun v => (v, H)
  | .store t a v => (vStore T H t (ev s a) (ev s v)).map fun H' => (undef, H')
  | .nilCheck x => (vNilCheck (ev s x)).map fun v => (v, H)
  | .binOp op t x y _ => (binOp T op t (ev s x) (ev s y)).map fun v => (v, H)
  | .unOp op _ x => (unOp op (ev s x)).map fun v => (v, H)
  | .convert src dst x => match vConvert T src dst (ev s x) with | some v => some (v, H) | none => vBytes T H src dst (ev s x)
  | .makeMap _ none => some (.map (some H.length), H ++ [.map []])
  | .lookup t x k ok => (vLookup T H t (ev s x) (ev s k) ok).map fun v => (v, H)
  | .mapUpdate t m k v => (vMapUpdate T H t (ev s m) (ev s k) (ev s v)).map fun H' => (undef, H')
  | .makeInterface t x => (vMakeIface T t (ev s x)).map fun v => (v, H)
  | .makeFunc fn first captured => some (.func fn ((first.toList.map (ev s)).toArray) ((captured.toList.map (ev s)).toArray), H)
  | .makeSlice t n c => vMakeSlice T H t (ev s n) (ev s c)
  | .slice t x lo hi mx => (sliceVal T H t (ev s x) (lo.map (ev s)) (hi.map (ev s)) (mx.map (ev s))).map fun v => (v, H)
  | .fieldAddr t x f => (vFieldAddr T t (ev s x) f).map fun v => (v, H)
  | .field t x f => (vField T t (ev s x) f).map fun v => (v, H)
  | .indexAddr t x i => (indexAddr T t (ev s x) (ev s i)).map fun v => (v, H)
  | .index t x i => (vIndex T t (ev s x) (ev s i)).map fun v => (v, H)
  | .extract x i => (vExtract (ev s x) i).map fun v => (v, H)
  | .typeAssert x _ t false => (vAssert T (ev s x) t).map fun v => (v, H)
  | .call { callee := .builtin b, args, argTypes } => vBuiltin T H b (args.toList.map (ev s)) argTypes.toList
  | _ => none

end Go.Proofs.Ytdhbclplondmjaa.C

end
