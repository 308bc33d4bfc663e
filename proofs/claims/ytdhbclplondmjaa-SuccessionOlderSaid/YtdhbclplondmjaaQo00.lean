/- Texts of one's own, laid together: CVal, CMem, CMem2, CDef, CTy, CPure, CSlice, CBlock, CStore, CApp, CApp2, CMap, CCopy, COp, CEval, CSound, CRun, CCall -/
import Derived.Calls
import Derived.Below
import Derived.RowKit3
import Derived.KernelRfl
import Derived.Laws.Sem
import Derived.Laws.Entries
import Derived.Laws.Cells
import Derived.ChangeKeysEq
import Derived.Laws.Tables
import Derived.Laws.IdiomCopy
import Derived.Laws.Append
import Derived.Laws.AppendOwn
import Derived.IntWalk
import Derived.Laws.IdiomMaps
import Derived.Lib.ConvBytes
import Derived.Laws.IdiomStrings
import Derived.Orders
/- The abstract memory: values with abstract addresses, what relates them to the machine's values, and the relation's plain laws. -/
set_option linter.unusedVariables false
set_option linter.unusedSimpArgs false
namespace Go.Proofs.Ytdhbclplondmjaa.C
open Go.RowKit

/-- Where an abstract block lies: the machine's block, the shift, where its cells end, the size of an element. -/
structure Loc where
  blk : Nat
  sh : Nat
  top : Nat
  sz : Nat

abbrev Mu := Nat → Option Loc

/-- A capacity that isn't known: at least the length. -/
def unk : Nat := 18446744073709551616

mutual
/-- An abstract value and the machine's. 'undef' is whatever it is. -/
inductive VR (μ : Mu) : Value → Value → Prop
  | undef (v : Value) : VR μ (.tuple #[]) v
  | skip : VR μ (.chan none) (.tuple #[])
  | yield {b : Nat} {l : Loc} (h : μ b = some l) : VR μ (.chan (some b)) (.func (.yield l.blk) #[] #[])
  | bool (b : Bool) : VR μ (.bool b) (.bool b)
  | int (k : IntKind) (n : Int) : VR μ (.int k n) (.int k n)
  | string (s : ByteArray) : VR μ (.string s) (.string s)
  | nilPtr : VR μ (.pointer none) (.pointer none)
  | nilMap : VR μ (.map none) (.map none)
  | nilFunc : VR μ .nilFunc .nilFunc
  | nilIface : VR μ .nilIface .nilIface
  | nilSlice : VR μ (.slice none 0 0) (.slice none 0 0)
  | ptr {b o : Nat} {l : Loc} (h : μ b = some l) : VR μ (.pointer (some ⟨b, o, none⟩)) (.pointer (some ⟨l.blk, l.sh + o, none⟩))
  | slice {b o n c c' : Nat} {l : Loc} (h : μ b = some l) (hn : n ≤ c') (hc : c = unk ∨ c = c') (ht : l.sh + o + c' * l.sz ≤ l.top) :
      VR μ (.slice (some ⟨b, o, none⟩) n c) (.slice (some ⟨l.blk, l.sh + o, none⟩) n c')
  | sliceZ (a a' : Addr) : VR μ (.slice (some a) 0 0) (.slice (some a') 0 0)
  | sliceE (a a' : Addr) : VR μ (.slice (some a) 0 unk) (.slice (some a') 0 0)
  | map {b : Nat} {l : Loc} (h : μ b = some l) : VR μ (.map (some b)) (.map (some l.blk))
  | func (fn : Fn) {f f' c c' : List Value} (hf : VRs μ f f') (hc : VRs μ c c') : VR μ (.func fn f.toArray c.toArray) (.func fn f'.toArray c'.toArray)
  | iface (t : TypeId) {v v' : Value} (h : VR μ v v') : VR μ (.iface t v) (.iface t v')
  | agg {c c' : List Value} (h : VRs μ c c') : VR μ (.agg c.toArray) (.agg c'.toArray)
  | tuple {c c' : List Value} (h : VRs μ c c') : VR μ (.tuple c.toArray) (.tuple c'.toArray)
inductive VRs (μ : Mu) : List Value → List Value → Prop
  | nil : VRs μ [] []
  | cons {v v' : Value} {l l' : List Value} (h : VR μ v v') (t : VRs μ l l') : VRs μ (v :: l) (v' :: l')
end

def MuLe (μ ν : Mu) : Prop := ∀ b l, μ b = some l → ν b = some l
theorem MuLe.refl (μ : Mu) : MuLe μ μ := fun _ _ h => h
theorem MuLe.trans {a b c : Mu} (h : MuLe a b) (k : MuLe b c) : MuLe a c := fun x l e => k x l (h x l e)

mutual
theorem VR.mono {μ ν : Mu} (hm : MuLe μ ν) : ∀ {v v' : Value}, VR μ v v' → VR ν v v'
  | _, _, .undef v => .undef v
  | _, _, .skip => .skip
  | _, _, .yield h => .yield (hm _ _ h)
  | _, _, .bool b => .bool b
  | _, _, .int k n => .int k n
  | _, _, .string s => .string s
  | _, _, .nilPtr => .nilPtr
  | _, _, .nilMap => .nilMap
  | _, _, .nilFunc => .nilFunc
  | _, _, .nilIface => .nilIface
  | _, _, .nilSlice => .nilSlice
  | _, _, .ptr h => .ptr (hm _ _ h)
  | _, _, .slice h a b c => .slice (hm _ _ h) a b c
  | _, _, .sliceZ a a' => .sliceZ a a'
  | _, _, .sliceE a a' => .sliceE a a'
  | _, _, .map h => .map (hm _ _ h)
  | _, _, .func fn a b => .func fn (VRs.mono hm a) (VRs.mono hm b)
  | _, _, .iface t h => .iface t (VR.mono hm h)
  | _, _, .agg h => .agg (VRs.mono hm h)
  | _, _, .tuple h => .tuple (VRs.mono hm h)
theorem VRs.mono {μ ν : Mu} (hm : MuLe μ ν) : ∀ {l l' : List Value}, VRs μ l l' → VRs ν l l'
  | _, _, .nil => .nil
  | _, _, .cons h t => .cons (VR.mono hm h) (VRs.mono hm t)
end

theorem VRs.length {μ : Mu} : ∀ {l l' : List Value}, VRs μ l l' → l'.length = l.length
  | _, _, .nil => rfl
  | _, _, .cons _ t => by simp [VRs.length t]

theorem VRs.get {μ : Mu} : ∀ {l l' : List Value}, VRs μ l l' → ∀ (i : Nat) (v : Value), l[i]? = some v → ∃ v', l'[i]? = some v' ∧ VR μ v v'
  | _, _, .nil, i, v, h => by simp at h
  | _, _, .cons h t, 0, v, e => by simp at e; subst e; exact ⟨_, rfl, h⟩
  | _, _, .cons h t, i + 1, v, e => by simpa using VRs.get t i v (by simpa using e)

theorem VRs.of_get {μ : Mu} : ∀ {l l' : List Value}, l'.length = l.length → (∀ (i : Nat) (v : Value), l[i]? = some v → ∃ v', l'[i]? = some v' ∧ VR μ v v') → VRs μ l l'
  | [], [], _, _ => .nil
  | [], _ :: _, h, _ => by simp at h
  | _ :: _, [], h, _ => by simp at h
  | v :: l, v' :: l', h, hg => by
    refine .cons ?_ (VRs.of_get (by simpa using h) (fun i u e => by simpa using hg (i + 1) u (by simpa using e)))
    obtain ⟨u, hu, hr⟩ := hg 0 v rfl
    simp at hu; subst hu; exact hr

theorem VRs.append {μ : Mu} : ∀ {a a' b b' : List Value}, VRs μ a a' → VRs μ b b' → VRs μ (a ++ b) (a' ++ b')
  | _, _, _, _, .nil, h => h
  | _, _, _, _, .cons h t, k => .cons h (VRs.append t k)

theorem VRs.set {μ : Mu} : ∀ {l l' : List Value}, VRs μ l l' → ∀ i {v v' : Value}, VR μ v v' → VRs μ (l.set i v) (l'.set i v')
  | _, _, .nil, i, _, _, _ => .nil
  | _, _, .cons h t, 0, _, _, k => .cons k t
  | _, _, .cons h t, i + 1, _, _, k => .cons h (VRs.set t i k)

theorem VRs.take {μ : Mu} : ∀ {l l' : List Value}, VRs μ l l' → ∀ n, VRs μ (l.take n) (l'.take n)
  | _, _, .nil, n => by simpa using VRs.nil
  | _, _, .cons h t, 0 => .nil
  | _, _, .cons h t, n + 1 => .cons h (VRs.take t n)

theorem VRs.drop {μ : Mu} : ∀ {l l' : List Value}, VRs μ l l' → ∀ n, VRs μ (l.drop n) (l'.drop n)
  | _, _, .nil, n => by simpa using VRs.nil
  | _, _, .cons h t, 0 => .cons h t
  | _, _, .cons h t, n + 1 => by simpa using VRs.drop t n

theorem VRs.refl_of {μ : Mu} {l : List Value} (h : ∀ v ∈ l, VR μ v v) : VRs μ l l := by
  induction l with
  | nil => exact .nil
  | cons v l ih => exact .cons (h v List.mem_cons_self) (ih fun u hu => h u (List.mem_cons_of_mem _ hu))

/-- The slots. -/
def SR (μ : Mu) (s : List Value) (t : Array Value) : Prop := t.size = s.length ∧ VRs μ s t.toList

theorem SR.get {μ : Mu} {s : List Value} {t : Array Value} (h : SR μ s t) (i : Nat) : VR μ (s.getD i undef) (t.getD i undef) := by
  rcases Nat.lt_or_ge i s.length with hi | hi
  · obtain ⟨v', e, hv⟩ := h.2.get i s[i] (by simp [hi])
    have e2 : t[i]? = some v' := by simpa using e
    simp only [List.getD_eq_getElem?_getD, List.getElem?_eq_getElem hi, Option.getD_some, Array.getD_eq_getD_getElem?, e2]
    exact hv
  · simp only [List.getD_eq_getElem?_getD, List.getElem?_eq_none hi, Option.getD_none]
    exact .undef _

theorem SR.put {μ : Mu} {s : List Value} {t : Array Value} (h : SR μ s t) (i : Nat) {v v' : Value} (hv : VR μ v v') : SR μ (s.set i v) (t.setIfInBounds i v') :=
  ⟨by simpa using h.1, by simpa using h.2.set i hv⟩

theorem SR.mono {μ ν : Mu} (hm : MuLe μ ν) {s : List Value} {t : Array Value} (h : SR μ s t) : SR ν s t := ⟨h.1, h.2.mono hm⟩

end Go.Proofs.Ytdhbclplondmjaa.C

/- The abstract memory's blocks, how they lie in the machine's memory, and what keeps that: a new block, a store, another world. -/
set_option linter.unusedVariables false
set_option linter.unusedSimpArgs false
namespace Go.Proofs.Ytdhbclplondmjaa.C
open Go.RowKit

/-- A block: a row of cells (sz: an element's cells; own: made by the call; live: it may be read), or a map. -/
inductive Blk where
  | row (sz : Nat) (cells : List Value) (own live : Bool)
  | map (es : List (Value × Value))

abbrev Heap := List Blk

def Blk.mine : Blk → Bool
  | .row _ _ own live => own && live
  | .map _ => true

/-- What is of one's own in the machine's memory and holds these cells. -/
def RowAt (μ : Mu) (w : World) (l : Loc) (cs : List Value) : Prop :=
  ∃ arr e fr, w.heap[l.blk]? = some (.cells arr e fr) ∧ arr.size = l.top ∧ (∀ i, i < arr.size → ¬ (fr.1 ≤ i ∧ i < fr.2)) ∧
    ∀ (i : Nat) (v : Value), cs[i]? = some v → ∃ v', arr[l.sh + i]? = some v' ∧ VR μ v v'

def MapAt (μ : Mu) (w : World) (l : Loc) (es : List (Value × Value)) : Prop :=
  ∃ ms clock, w.heap[l.blk]? = some (.map ms clock) ∧ VRs μ (es.map (·.1)) (ms.toList.map (·.key)) ∧ VRs μ (es.map (·.2)) (ms.toList.map (·.val))

structure HR (base : Nat) (F : Nat → Prop) (μ : Mu) (H : Heap) (w : World) : Prop where
  own : ∀ b sz cs l, H[b]? = some (.row sz cs true true) → μ b = some l → l.sz = sz ∧ base ≤ l.blk ∧ ¬ F l.blk ∧ RowAt μ w l cs
  ro : ∀ b sz cs l, H[b]? = some (.row sz cs false true) → μ b = some l → l.sz = sz ∧ l.blk < base ∧
    ∀ (i : Nat) (v : Value), cs[i]? = some v → ∃ v', w.cell? ⟨l.blk, l.sh + i, none⟩ = some v' ∧ VR μ v v'
  maps : ∀ b es l, H[b]? = some (.map es) → μ b = some l → base ≤ l.blk ∧ ¬ F l.blk ∧ MapAt μ w l es
  inj : ∀ b b' k k' l l', H[b]? = some k → H[b']? = some k' → k.mine = true → k'.mine = true → b ≠ b' → μ b = some l → μ b' = some l' → l.blk ≠ l'.blk
  far : ∀ k, F k → k < w.heap.size
  base_le : base ≤ w.heap.size

/-- What a step leaves alone. -/
structure Fr (base : Nat) (F : Nat → Prop) (w w' : World) : Prop where
  os : w'.os = w.os
  tape : w'.tape = w.tape
  output : w'.output = w.output
  size : w.heap.size ≤ w'.heap.size
  block : ∀ k, (k < base ∨ F k) → w'.heap[k]? = w.heap[k]?

theorem Fr.refl (base : Nat) (F : Nat → Prop) (w : World) : Fr base F w w := ⟨rfl, rfl, rfl, Nat.le_refl _, fun _ _ => rfl⟩
theorem Fr.trans {base : Nat} {F : Nat → Prop} {a b c : World} (h : Fr base F a b) (k : Fr base F b c) : Fr base F a c :=
  ⟨k.os.trans h.os, k.tape.trans h.tape, k.output.trans h.output, Nat.le_trans h.size k.size, fun i hi => (k.block i hi).trans (h.block i hi)⟩
theorem Fr.below {F : Nat → Prop} {w w' : World} (h : Fr w.heap.size F w w') : Below w.heap.size w w' := ⟨h.os, h.tape, h.output, h.size, fun k hk => h.block k (.inl hk)⟩
theorem Fr.alloc {base : Nat} {F : Nat → Prop} {w : World} (o : Obj) (hb : base ≤ w.heap.size) (hf : ∀ k, F k → k < w.heap.size) : Fr base F w (w.alloc o) :=
  ⟨rfl, rfl, rfl, by simp, fun k hk => Below.heap_alloc w o k (hk.elim (fun h => Nat.lt_of_lt_of_le h hb) (hf k))⟩
theorem Fr.drew {base : Nat} {F : Nat → Prop} {w : World} : Fr base F w w.drew := ⟨rfl, rfl, rfl, Nat.le_refl _, fun _ _ => rfl⟩
theorem Fr.setCell {base : Nat} {F : Nat → Prop} {w : World} (p : Addr) (u : Value) (hb : base ≤ p.block) (hf : ¬ F p.block) : Fr base F w (w.setCell p u) :=
  ⟨rfl, rfl, rfl, by simp [World.setCell], fun k hk => Below.heap_setCell w p u k (fun e => hk.elim (fun h => by omega) (fun h => hf (e ▸ h)))⟩
theorem Fr.weaken {base : Nat} {F G : Nat → Prop} {w w' : World} (h : Fr base G w w') (hi : ∀ k, F k → G k) : Fr base F w w' :=
  ⟨h.os, h.tape, h.output, h.size, fun k hk => h.block k (hk.imp id (hi k))⟩

theorem cell_of_heap {w w' : World} {a : Addr} (h : w'.heap[a.block]? = w.heap[a.block]?) : w'.cell? a = w.cell? a := World.cell?_of_block (w := w) h

theorem RowAt.mono {μ ν : Mu} (hm : MuLe μ ν) {w w' : World} {l : Loc} {cs : List Value} (h : RowAt μ w l cs) (hw : w'.heap[l.blk]? = w.heap[l.blk]?) : RowAt ν w' l cs := by
  obtain ⟨arr, e, fr, h1, h2, h3, h4⟩ := h
  exact ⟨arr, e, fr, hw.trans h1, h2, h3, fun i v hv => let ⟨v', a, b⟩ := h4 i v hv; ⟨v', a, b.mono hm⟩⟩
theorem RowAt.lt {μ : Mu} {w : World} {l : Loc} {cs : List Value} (h : RowAt μ w l cs) : l.blk < w.heap.size := by
  obtain ⟨arr, e, fr, h1, _⟩ := h
  exact (Array.getElem?_eq_some_iff.1 h1).1
theorem MapAt.mono {μ ν : Mu} (hm : MuLe μ ν) {w w' : World} {l : Loc} {es : List (Value × Value)} (h : MapAt μ w l es) (hw : w'.heap[l.blk]? = w.heap[l.blk]?) : MapAt ν w' l es := by
  obtain ⟨ms, c, h1, h2, h3⟩ := h
  exact ⟨ms, c, hw.trans h1, h2.mono hm, h3.mono hm⟩
theorem MapAt.lt {μ : Mu} {w : World} {l : Loc} {es : List (Value × Value)} (h : MapAt μ w l es) : l.blk < w.heap.size := by
  obtain ⟨ms, c, h1, _⟩ := h
  exact (Array.getElem?_eq_some_iff.1 h1).1

/-- Another world in which nothing that counts has changed. -/
theorem HR.world {base : Nat} {F : Nat → Prop} {μ : Mu} {H : Heap} {w w' : World} (h : HR base F μ H w) (hw : ∀ k, k < w.heap.size → w'.heap[k]? = w.heap[k]?) (hs : w.heap.size ≤ w'.heap.size) : HR base F μ H w' where
  own b sz cs l hb hl := let ⟨a, c, d, e⟩ := h.own b sz cs l hb hl; ⟨a, c, d, e.mono (MuLe.refl _) (hw _ e.lt)⟩
  ro b sz cs l hb hl := let ⟨a, c, d⟩ := h.ro b sz cs l hb hl
    ⟨a, c, fun i v hv => let ⟨v', x, y⟩ := d i v hv; ⟨v', (cell_of_heap (hw _ (Nat.lt_of_lt_of_le c h.base_le))).trans x, y⟩⟩
  maps b es l hb hl := let ⟨a, c, d⟩ := h.maps b es l hb hl; ⟨a, c, d.mono (MuLe.refl _) (hw _ d.lt)⟩
  inj := h.inj
  far k hk := Nat.lt_of_lt_of_le (h.far k hk) hs
  base_le := Nat.le_trans h.base_le hs

theorem HR.drew {base : Nat} {F : Nat → Prop} {μ : Mu} {H : Heap} {w : World} (h : HR base F μ H w) : HR base F μ H w.drew := h.world (fun _ _ => rfl) (Nat.le_refl _)

/-- A map of abstract blocks, with one more. -/
def Mu.set (μ : Mu) (b : Nat) (l : Loc) : Mu := fun x => if x = b then some l else μ x
theorem Mu.set_same (μ : Mu) (b : Nat) (l : Loc) : μ.set b l b = some l := by simp [Mu.set]
theorem Mu.set_ne (μ : Mu) {b x : Nat} (l : Loc) (h : x ≠ b) : μ.set b l x = μ x := by simp [Mu.set, h]
theorem Mu.le_set {μ : Mu} {b : Nat} {l : Loc} (h : μ b = none) : MuLe μ (μ.set b l) := by
  intro x k hx
  have : x ≠ b := by rintro rfl; simp [h] at hx
  rw [Mu.set_ne _ _ this]; exact hx

theorem getElem?_snoc {α : Type} (l : List α) (x : α) (i : Nat) : (l ++ [x])[i]? = if i = l.length then some x else l[i]? := by
  rcases Nat.lt_trichotomy i l.length with h | h | h
  · rw [List.getElem?_append_left h, if_neg (by omega)]
  · subst h; simp
  · rw [if_neg (by omega), List.getElem?_eq_none (by simp; omega), List.getElem?_eq_none (by omega)]

/-- A new row. -/
theorem HR.new {base : Nat} {F : Nat → Prop} {μ : Mu} {H : Heap} {w : World} (h : HR base F μ H w) (hfree : μ H.length = none) (arr : Array Value) (e : TypeId) (fr : Nat × Nat) (sz : Nat) (cs : List Value)
    (hfr : ∀ i, i < arr.size → ¬ (fr.1 ≤ i ∧ i < fr.2)) (hcs : ∀ (i : Nat) (v : Value), cs[i]? = some v → ∃ v', arr[i]? = some v' ∧ VR μ v v') :
    HR base F (μ.set H.length ⟨w.heap.size, 0, arr.size, sz⟩) (H ++ [.row sz cs true true]) (w.alloc (.cells arr e fr)) := by
  have hm : MuLe μ (μ.set H.length ⟨w.heap.size, 0, arr.size, sz⟩) := Mu.le_set hfree
  have hold : ∀ k, k < w.heap.size → (w.alloc (.cells arr e fr)).heap[k]? = w.heap[k]? := fun k hk => Below.heap_alloc w _ k hk
  have key : ∀ {b : Nat} {x : Blk} {l : Loc}, (H ++ [Blk.row sz cs true true])[b]? = some x → (μ.set H.length ⟨w.heap.size, 0, arr.size, sz⟩) b = some l →
      (b = H.length ∧ x = .row sz cs true true ∧ l = ⟨w.heap.size, 0, arr.size, sz⟩) ∨ (b ≠ H.length ∧ H[b]? = some x ∧ μ b = some l) := by
    intro b x l hb hl
    rw [getElem?_snoc] at hb
    by_cases e : b = H.length
    · subst e; rw [if_pos rfl] at hb; rw [Mu.set_same] at hl; simp at hb hl; exact .inl ⟨rfl, hb.symm, hl.symm⟩
    · rw [if_neg e] at hb; rw [Mu.set_ne _ _ e] at hl; exact .inr ⟨e, hb, hl⟩
  refine ⟨?_, ?_, ?_, ?_, ?_, ?_⟩
  · intro b sz' cs' l hb hl
    rcases key hb hl with ⟨rfl, hx, rfl⟩ | ⟨hne, hb, hl⟩
    · simp only [Blk.row.injEq, and_true] at hx
      obtain ⟨rfl, rfl⟩ := hx
      refine ⟨rfl, h.base_le, fun hF => Nat.lt_irrefl _ (h.far _ hF), arr, e, fr, heap_alloc_new w _, rfl, hfr, fun i v hv => ?_⟩
      obtain ⟨v', a, b⟩ := hcs i v hv
      exact ⟨v', by simpa using a, b.mono hm⟩
    · obtain ⟨a, c, d, g⟩ := h.own b sz' cs' l hb hl
      exact ⟨a, c, d, g.mono hm (hold _ g.lt)⟩
  · intro b sz' cs' l hb hl
    rcases key hb hl with ⟨rfl, hx, rfl⟩ | ⟨hne, hb, hl⟩
    · simp at hx
    · obtain ⟨a, c, d⟩ := h.ro b sz' cs' l hb hl
      refine ⟨a, c, fun i v hv => ?_⟩
      obtain ⟨v', x, y⟩ := d i v hv
      exact ⟨v', (cell_of_heap (hold _ (Nat.lt_of_lt_of_le c h.base_le))).trans x, y.mono hm⟩
  · intro b es l hb hl
    rcases key hb hl with ⟨rfl, hx, rfl⟩ | ⟨hne, hb, hl⟩
    · simp at hx
    · obtain ⟨a, c, d⟩ := h.maps b es l hb hl
      exact ⟨a, c, d.mono hm (hold _ d.lt)⟩
  · have lt : ∀ {b : Nat} {k : Blk} {l : Loc}, H[b]? = some k → k.mine = true → μ b = some l → l.blk < w.heap.size := by
      intro b k l hb hk hl
      cases k with
      | row sz2 cs2 own live =>
        simp [Blk.mine] at hk
        obtain ⟨rfl, rfl⟩ := hk
        exact (h.own b sz2 cs2 l hb hl).2.2.2.lt
      | map es => exact (h.maps b es l hb hl).2.2.lt
    intro b b' k k' l l' hb hb' hk hk' hne hl hl'
    rcases key hb hl with ⟨rfl, rfl, rfl⟩ | ⟨h1, hb, hl⟩ <;> rcases key hb' hl' with ⟨rfl, rfl, rfl⟩ | ⟨h2, hb', hl'⟩
    · exact absurd rfl hne
    · have := lt hb' hk' hl'; simp; omega
    · have := lt hb hk hl; simp; omega
    · exact h.inj b b' k k' l l' hb hb' hk hk' hne hl hl'
  · intro k hk
    have := h.far k hk
    simp; omega
  · have := h.base_le
    simp; omega

end Go.Proofs.Ytdhbclplondmjaa.C

/- More of the abstract memory: a store, a block that dies, a machine's block that another abstract block takes over, maps. -/
set_option linter.unusedVariables false
set_option linter.unusedSimpArgs false
namespace Go.Proofs.Ytdhbclplondmjaa.C
open Go.RowKit

variable {base : Nat} {F : Nat → Prop} {μ : Mu} {H : Heap} {w : World}

theorem HR.mine_lt (h : HR base F μ H w) {b : Nat} {k : Blk} {l : Loc} (hb : H[b]? = some k) (hk : k.mine = true) (hl : μ b = some l) : l.blk < w.heap.size ∧ base ≤ l.blk ∧ ¬ F l.blk := by
  cases k with
  | row sz cs own live =>
    simp [Blk.mine] at hk
    obtain ⟨rfl, rfl⟩ := hk
    obtain ⟨_, a, c, d⟩ := h.own b sz cs l hb hl
    exact ⟨d.lt, a, c⟩
  | map es =>
    obtain ⟨a, c, d⟩ := h.maps b es l hb hl
    exact ⟨d.lt, a, c⟩

/-- A write into a machine's block that no live block has. -/
theorem HR.elsewhere (h : HR base F μ H w) {p : Addr} (u : Value) (hb : base ≤ p.block) (hf : ¬ F p.block)
    (hno : ∀ b k l, H[b]? = some k → k.mine = true → μ b = some l → l.blk ≠ p.block) : HR base F μ H (w.setCell p u) where
  own b sz cs l hb' hl := let ⟨a, c, d, e⟩ := h.own b sz cs l hb' hl; ⟨a, c, d, e.mono (MuLe.refl _) (Below.heap_setCell w p u _ (hno b _ l hb' rfl hl))⟩
  ro b sz cs l hb' hl := let ⟨a, c, d⟩ := h.ro b sz cs l hb' hl
    ⟨a, c, fun i v hv => let ⟨v', x, y⟩ := d i v hv; ⟨v', (cell_of_heap (Below.heap_setCell w p u _ (by simp; omega))).trans x, y⟩⟩
  maps b es l hb' hl := let ⟨a, c, d⟩ := h.maps b es l hb' hl; ⟨a, c, d.mono (MuLe.refl _) (Below.heap_setCell w p u _ (hno b _ l hb' rfl hl))⟩
  inj := h.inj
  far k hk := by simpa [World.setCell] using h.far k hk
  base_le := by simpa [World.setCell] using h.base_le

/-- A block dies: nothing is said of it any more. -/
theorem HR.kill (h : HR base F μ H w) (b0 : Nat) {sz : Nat} {cs : List Value} {own : Bool} (h0 : H[b0]? = some (.row sz cs own true)) : HR base F μ (H.set b0 (.row sz cs own false)) w := by
  have key : ∀ {b : Nat} {x : Blk}, (H.set b0 (.row sz cs own false))[b]? = some x → (b = b0 ∧ x = .row sz cs own false) ∨ (b ≠ b0 ∧ H[b]? = some x) := by
    intro b x hx
    rw [List.getElem?_set] at hx
    by_cases e : b0 = b
    · subst e; rw [if_pos rfl] at hx; split at hx <;> simp at hx; exact .inl ⟨rfl, hx.symm⟩
    · rw [if_neg e] at hx; exact .inr ⟨fun q => e q.symm, hx⟩
  refine ⟨?_, ?_, ?_, ?_, h.far, h.base_le⟩
  · intro b sz' cs' l hb hl
    rcases key hb with ⟨rfl, hx⟩ | ⟨_, hb⟩
    · simp at hx
    · exact h.own b sz' cs' l hb hl
  · intro b sz' cs' l hb hl
    rcases key hb with ⟨rfl, hx⟩ | ⟨_, hb⟩
    · simp at hx
    · exact h.ro b sz' cs' l hb hl
  · intro b es l hb hl
    rcases key hb with ⟨rfl, hx⟩ | ⟨_, hb⟩
    · simp at hx
    · exact h.maps b es l hb hl
  · intro b b' k k' l l' hb hb' hk hk' hne hl hl'
    rcases key hb with ⟨rfl, rfl⟩ | ⟨_, hb⟩
    · simp [Blk.mine] at hk
    · rcases key hb' with ⟨rfl, rfl⟩ | ⟨_, hb'⟩
      · simp [Blk.mine] at hk'
      · exact h.inj b b' k k' l l' hb hb' hk hk' hne hl hl'

/-- A machine's block that no live block has is taken over by a new abstract block. -/
theorem HR.adopt (h : HR base F μ H w) (hfree : μ H.length = none) (x : Blk) (l0 : Loc) (hb0 : base ≤ l0.blk) (hf0 : ¬ F l0.blk)
    (hno : ∀ b k l, H[b]? = some k → k.mine = true → μ b = some l → l.blk ≠ l0.blk)
    (hx : (∃ cs, x = .row l0.sz cs true true ∧ RowAt (μ.set H.length l0) w l0 cs) ∨ (∃ es, x = .map es ∧ MapAt (μ.set H.length l0) w l0 es)) :
    HR base F (μ.set H.length l0) (H ++ [x]) w := by
  have hm : MuLe μ (μ.set H.length l0) := Mu.le_set hfree
  have key : ∀ {b : Nat} {y : Blk} {l : Loc}, (H ++ [x])[b]? = some y → (μ.set H.length l0) b = some l → (b = H.length ∧ y = x ∧ l = l0) ∨ (b ≠ H.length ∧ H[b]? = some y ∧ μ b = some l) := by
    intro b y l hb hl
    rw [getElem?_snoc] at hb
    by_cases e : b = H.length
    · subst e; rw [if_pos rfl] at hb; rw [Mu.set_same] at hl; simp at hb hl; exact .inl ⟨rfl, hb.symm, hl.symm⟩
    · rw [if_neg e] at hb; rw [Mu.set_ne _ _ e] at hl; exact .inr ⟨e, hb, hl⟩
  refine ⟨?_, ?_, ?_, ?_, h.far, h.base_le⟩
  · intro b sz' cs' l hb hl
    rcases key hb hl with ⟨rfl, hy, rfl⟩ | ⟨hne, hb, hl⟩
    · rcases hx with ⟨cs, rfl, hr⟩ | ⟨es, rfl, _⟩
      · simp only [Blk.row.injEq, and_true] at hy
        obtain ⟨rfl, rfl⟩ := hy
        exact ⟨rfl, hb0, hf0, hr⟩
      · simp at hy
    · obtain ⟨a, c, d, g⟩ := h.own b sz' cs' l hb hl
      exact ⟨a, c, d, g.mono hm rfl⟩
  · intro b sz' cs' l hb hl
    rcases key hb hl with ⟨rfl, hy, rfl⟩ | ⟨hne, hb, hl⟩
    · rcases hx with ⟨cs, rfl, hr⟩ | ⟨es, rfl, _⟩ <;> simp at hy
    · obtain ⟨a, c, d⟩ := h.ro b sz' cs' l hb hl
      exact ⟨a, c, fun i v hv => let ⟨v', p, q⟩ := d i v hv; ⟨v', p, q.mono hm⟩⟩
  · intro b es' l hb hl
    rcases key hb hl with ⟨rfl, hy, rfl⟩ | ⟨hne, hb, hl⟩
    · rcases hx with ⟨cs, rfl, hr⟩ | ⟨es, rfl, hr⟩
      · simp at hy
      · simp only [Blk.map.injEq] at hy
        subst hy
        exact ⟨hb0, hf0, hr⟩
    · obtain ⟨a, c, d⟩ := h.maps b es' l hb hl
      exact ⟨a, c, d.mono hm rfl⟩
  · intro b b' k k' l l' hb hb' hk hk' hne hl hl'
    rcases key hb hl with ⟨rfl, rfl, rfl⟩ | ⟨h1, hb2, hl2⟩ <;> rcases key hb' hl' with ⟨rfl, rfl, rfl⟩ | ⟨h2, hb3, hl3⟩
    · exact absurd rfl hne
    · exact (hno b' k' l' hb3 hk' hl3).symm
    · exact hno b k l hb2 hk hl2
    · exact h.inj b b' k k' l l' hb2 hb3 hk hk' hne hl2 hl3

/-- A store into a live row of one's own. -/
theorem HR.store (h : HR base F μ H w) {b sz : Nat} {cs : List Value} {l : Loc} (hb : H[b]? = some (.row sz cs true true)) (hl : μ b = some l) (i : Nat) (hi : i < cs.length) {v v' : Value} (hv : VR μ v v') :
    HR base F μ (H.set b (.row sz (cs.set i v) true true)) (w.setCell ⟨l.blk, l.sh + i, none⟩ v') := by
  obtain ⟨e1, e2, e3, arr, e, fr, g1, g2, g3, g4⟩ := h.own b sz cs l hb hl
  obtain ⟨v0, hv0, _⟩ := g4 i cs[i] (by simp [hi])
  have hlt : l.sh + i < arr.size := (Array.getElem?_eq_some_iff.1 hv0).1
  have hnew : (w.setCell ⟨l.blk, l.sh + i, none⟩ v').heap[l.blk]? = some (.cells (arr.setIfInBounds (l.sh + i) v') e fr) := by
    simp [World.setCell, Array.getElem?_modify, g1]
  have hother : ∀ k, k ≠ l.blk → (w.setCell ⟨l.blk, l.sh + i, none⟩ v').heap[k]? = w.heap[k]? := fun k hk => Below.heap_setCell w _ v' k hk
  have hblt : b < H.length := (List.getElem?_eq_some_iff.1 hb).1
  have key : ∀ {c : Nat} {x : Blk}, (H.set b (.row sz (cs.set i v) true true))[c]? = some x → (c = b ∧ x = .row sz (cs.set i v) true true) ∨ (c ≠ b ∧ H[c]? = some x) := by
    intro c x hx
    rw [List.getElem?_set] at hx
    by_cases e : b = c
    · subst e; rw [if_pos rfl, if_pos hblt] at hx; simp at hx; exact .inl ⟨rfl, hx.symm⟩
    · rw [if_neg e] at hx; exact .inr ⟨fun q => e q.symm, hx⟩
  refine ⟨?_, ?_, ?_, ?_, ?_, ?_⟩
  · intro c sz' cs' l' hc hl'
    rcases key hc with ⟨rfl, hx⟩ | ⟨hne, hc⟩
    · simp only [Blk.row.injEq, and_true] at hx
      obtain ⟨rfl, rfl⟩ := hx
      rw [hl] at hl'; simp at hl'; subst hl'
      refine ⟨e1, e2, e3, _, e, fr, hnew, by simpa using g2, by simpa using g3, fun j u hu => ?_⟩
      rw [List.getElem?_set] at hu
      by_cases q : i = j
      · subst q
        rw [if_pos rfl, if_pos hi] at hu
        simp at hu; subst hu
        exact ⟨v', by simp [hlt], hv⟩
      · rw [if_neg q] at hu
        obtain ⟨u', x, y⟩ := g4 j u hu
        exact ⟨u', by rw [Array.getElem?_setIfInBounds_ne (by omega)]; exact x, y⟩
    · obtain ⟨a, c1, d, g⟩ := h.own c sz' cs' l' hc hl'
      exact ⟨a, c1, d, g.mono (MuLe.refl _) (hother _ (h.inj c b _ _ l' l hc hb rfl rfl hne hl' hl))⟩
  · intro c sz' cs' l' hc hl'
    rcases key hc with ⟨rfl, hx⟩ | ⟨hne, hc⟩
    · simp at hx
    · obtain ⟨a, c1, d⟩ := h.ro c sz' cs' l' hc hl'
      exact ⟨a, c1, fun j u hu => let ⟨u', x, y⟩ := d j u hu; ⟨u', (cell_of_heap (hother _ (by simp; omega))).trans x, y⟩⟩
  · intro c es l' hc hl'
    rcases key hc with ⟨rfl, hx⟩ | ⟨hne, hc⟩
    · simp at hx
    · obtain ⟨a, c1, d⟩ := h.maps c es l' hc hl'
      exact ⟨a, c1, d.mono (MuLe.refl _) (hother _ (h.inj c b _ _ l' l hc hb rfl rfl hne hl' hl))⟩
  · intro c c' k k' m m' hc hc' hk hk' hne hm hm'
    rcases key hc with ⟨rfl, rfl⟩ | ⟨h1, hc2⟩ <;> rcases key hc' with ⟨rfl, rfl⟩ | ⟨h2, hc3⟩
    · exact absurd rfl hne
    · exact h.inj _ c' _ k' m m' hb hc3 rfl hk' hne hm hm'
    · exact h.inj c _ k _ m m' hc2 hb hk rfl hne hm hm'
    · exact h.inj c c' k k' m m' hc2 hc3 hk hk' hne hm hm'
  · intro k hk; simpa [World.setCell] using h.far k hk
  · simpa [World.setCell] using h.base_le

end Go.Proofs.Ytdhbclplondmjaa.C

/- The abstract machine: what each operation, each piece of code and each call computes over abstract memory. -/
set_option linter.unusedVariables false
set_option linter.unusedSimpArgs false
namespace Go.Proofs.Ytdhbclplondmjaa.C
open Go.RowKit

inductive UD where
  | bool | int (k : IntKind) | string | slice (e : TypeId) | struct (fs : List (TypeId × Nat)) | array (n : Nat) (e : TypeId)
  | pointer (e : TypeId) | map (k e : TypeId) | func | iface | other

structure TI where
  desc : UD
  zero : Value
  size : Nat
  bytes : Nat

/-- A program's types and functions, as far as they are told. -/
structure Tab where
  T : TypeId → Option TI
  fn : FuncId → Option Func
  /-- methods: type, name, function, pointer receiver (called by a pointer: the receiver itself) -/
  meth : TypeId → String → Option (FuncId × Option TypeId)
  /-- functions whose behaviour is given -/
  ext : FuncId → Option (List Value → List Blk → Option (Value × List Blk))

def Tab.d (T : Tab) (t : TypeId) : Option UD := (T.T t).map TI.desc

def TI.agg (i : TI) : Bool := match i.desc with | .struct _ | .array _ _ => true | _ => false

def plain : Value → Bool
  | .bool _ | .int _ _ | .string _ | .pointer none | .map none | .nilFunc | .nilIface | .slice none 0 0 => true
  | _ => false

def ev (s : List Value) : Operand → Value
  | .tmp t => s.getD t undef
  | .const v => if plain v then v else undef
  | .func f => .func (.func f) #[] #[]
  | .global _ => undef

def oneCell : Value → Bool
  | .agg _ | .tuple _ | .chan _ => false
  | _ => true

def cellsOf : Value → List Value
  | .agg cs => cs.toList
  | v => [v]

def readCells (H : Heap) (b o n : Nat) : Option (List Value) :=
  match H[b]? with
  | some (.row _ cs _ true) => if o + n ≤ cs.length then some ((cs.drop o).take n) else none
  | _ => none

def setCells (cs : List Value) : Nat → List Value → List Value
  | _, [] => cs
  | o, v :: vs => setCells (cs.set o v) (o + 1) vs

def writeCells (H : Heap) (b o : Nat) (vs : List Value) : Option Heap :=
  if vs.all oneCell then
    match H[b]? with
    | some (.row sz cs true true) => if o + vs.length ≤ cs.length then some (H.set b (.row sz (setCells cs o vs) true true)) else none
    | _ => none
  else none

def newRow (H : Heap) (sz : Nat) (cs : List Value) : Value × Heap := (.pointer (some ⟨H.length, 0, none⟩), H ++ [.row sz cs true true])

def isTuple : Value → Bool
  | .tuple _ => true
  | _ => false

def fillParts (size : Nat → Option (Nat × Nat)) (cells : List Value) : List (Nat × Value) → Option (List Value)
  | [] => some cells
  | (i, v) :: rest =>
    match size i with
    | none => none
    | some (off, n) => if (cellsOf v).length = n ∧ off + n ≤ cells.length ∧ isTuple v = false then fillParts size (setCells cells off (cellsOf v)) rest else none

def repCells (z : List Value) : Nat → List Value
  | 0 => []
  | n + 1 => z ++ repCells z n

def binInt (op : BinOp) (k : IntKind) (a b : Int) : Option Value :=
  match op with
  | .add => some (.int k (k.wrap (a + b)))
  | .sub => some (.int k (k.wrap (a - b)))
  | .mul => some (.int k (k.wrap (a * b)))
  | .quo => if b = 0 then none else some (.int k (k.wrap (a.tdiv b)))
  | .rem => if b = 0 then none else some (.int k (a.tmod b))
  | .and => some (.int k (k.wrap (BitVec.ofInt k.bits a &&& BitVec.ofInt k.bits b).toNat))
  | .or => some (.int k (k.wrap (BitVec.ofInt k.bits a ||| BitVec.ofInt k.bits b).toNat))
  | .xor => some (.int k (k.wrap (BitVec.ofInt k.bits a ^^^ BitVec.ofInt k.bits b).toNat))
  | .andNot => some (.int k (k.wrap (BitVec.ofInt k.bits a &&& ~~~BitVec.ofInt k.bits b).toNat))
  | .eql => some (.bool (a == b))
  | .neq => some (.bool (a != b))
  | .lss => some (.bool (a < b))
  | .leq => some (.bool (a ≤ b))
  | .gtr => some (.bool (a > b))
  | .geq => some (.bool (a ≥ b))
  | _ => none

def binStr (op : BinOp) (x y : ByteArray) : Option Value :=
  match op with
  | .add => if ((x.size + y.size : Nat) : Int) > IntKind.i64.max then none else some (.string (x ++ y))
  | .eql => some (.bool (x.toList == y.toList))
  | .neq => some (.bool (!(x.toList == y.toList)))
  | .lss => some (.bool (Op.bytesLess x.toList y.toList))
  | .leq => some (.bool (Op.bytesLess x.toList y.toList || x.toList == y.toList))
  | .gtr => some (.bool (!(Op.bytesLess x.toList y.toList || x.toList == y.toList)))
  | .geq => some (.bool (!(Op.bytesLess x.toList y.toList)))
  | _ => none

def nilEq : UD → Value → Value → Option Bool
  | .slice _, .slice none _ _, .slice b _ _ => some b.isNone
  | .slice _, .slice _ _ _, .slice none _ _ => some false
  | .pointer _, .pointer none, .pointer b => some b.isNone
  | .pointer _, .pointer _, .pointer none => some false
  | .iface, .nilIface, .iface _ _ => some false
  | .iface, .iface _ _, .nilIface => some false
  | .bool, .bool a, .bool b => some (a == b)
  | _, _, _ => none

def binOp (T : Tab) (op : BinOp) (t : TypeId) (x y : Value) : Option Value :=
  match x, y with
  | .int k a, .int k' b =>
    match op with
    | .shl => if b < 0 then none else some (.int k (k.wrap (a * 2 ^ (min b.toNat k.bits))))
    | .shr => if b < 0 then none else some (.int k (a.fdiv (2 ^ (min b.toNat k.bits))))
    | op => if k = k' then binInt op k a b else none
  | .string a, .string b => binStr op a b
  | x, y =>
    match op, (T.T t).bind fun i => nilEq i.desc x y with
    | .eql, some r => some (.bool r)
    | .neq, some r => some (.bool (!r))
    | _, _ => none

def unOp (op : UnOp) (x : Value) : Option Value :=
  match op, x with
  | .neg, .int k n => some (.int k (k.wrap (0 - n)))
  | .not, .bool b => some (.bool (!b))
  | .xor, .int k n => some (.int k (k.wrap (BitVec.ofInt k.bits (if k.signed then -1 else k.max) ^^^ BitVec.ofInt k.bits n).toNat))
  | _, _ => none

def bnd (v : Value) (y : Nat) : Option Nat :=
  match v with
  | .int _ i => if 0 ≤ i ∧ i ≤ y then some i.toNat else none
  | _ => none

def szAt (H : Heap) (b : Nat) : Option Nat :=
  match H[b]? with
  | some (.row sz _ _ true) => some sz
  | _ => none

/-- 'xs[lo:hi]', 'xs[lo:hi:mx]': the limit is what the capacity is known to be. -/
def cutSlice (H : Heap) (sz : Nat) (a : Option Addr) (n c : Nat) (l h : Nat) (m : Option Nat) : Option Value :=
  match a with
  | none => if n = 0 ∧ c = 0 then some (.slice none 0 0) else none
  | some ⟨b, o, none⟩ =>
    match m with
    | some m => if m = l then some (.slice (some ⟨b, o, none⟩) 0 0) else if szAt H b = some sz then some (.slice (some ⟨b, o + l * sz, none⟩) (h - l) (m - l)) else none
    | none =>
      if c = l ∧ c ≠ unk then some (.slice (some ⟨b, o, none⟩) 0 0)
      else if szAt H b = some sz then some (.slice (some ⟨b, o + l * sz, none⟩) (h - l) (if c = unk then unk else c - l)) else none
  | _ => none

def sliceVal (T : Tab) (H : Heap) (t : TypeId) (x : Value) (lo hi mx : Option Value) : Option Value :=
  match T.d t, x with
  | some .string, .string s =>
    match mx with
    | some _ => none
    | none =>
      (match hi with | some v => bnd v s.size | none => some s.size).bind fun h =>
      (match lo with | some v => bnd v h | none => some 0).bind fun l => some (.string (s.extract l h))
  | some (.slice e), .slice a n c =>
    (T.T e).bind fun ei =>
    match mx with
    | some v =>
      (bnd v (if c = unk then n else c)).bind fun m =>
      (match hi with | some v => bnd v m | none => none).bind fun h =>
      (match lo with | some v => bnd v h | none => some 0).bind fun l => cutSlice H ei.size a n c l h (some m)
    | none =>
      (match hi with | some v => bnd v (if c = unk then n else c) | none => some n).bind fun h =>
      (match lo with | some v => bnd v h | none => some 0).bind fun l => cutSlice H ei.size a n c l h none
  | _, _ => none

def indexAddr (T : Tab) (t : TypeId) (x i : Value) : Option Value :=
  match T.d t, x, i with
  | some (.slice e), .slice (some ⟨b, o, none⟩) n _, .int _ i =>
    match T.T e with
    | some ei => if 0 ≤ i ∧ i < n ∧ 0 < ei.size then some (.pointer (some ⟨b, o + i.toNat * ei.size, none⟩)) else none
    | none => none
  | some (.array n e), .pointer (some ⟨b, o, none⟩), .int _ i =>
    match T.T e with
    | some ei => if 0 ≤ i ∧ i < n ∧ 0 < ei.size then some (.pointer (some ⟨b, o + i.toNat * ei.size, none⟩)) else none
    | none => none
  | _, _, _ => none

def vBox (T : Tab) (H : Heap) (e : TypeId) (v : Value) : Option (Value × Heap) := if isTuple v then none else (T.T e).map fun i => newRow H i.size (cellsOf v)

def vBuild (T : Tab) (t : TypeId) (parts : List (Nat × Value)) : Option Value := do
  let i ← T.T t
  match i.desc with
  | .struct fs => do
    let places ← fs.mapM fun f => (T.T f.1).map fun k => (f.2, k.size)
    let cs ← fillParts (fun j => places[j]?) (cellsOf i.zero) parts
    some (.agg cs.toArray)
  | .array _ e => do
    let ei ← T.T e
    let cs ← fillParts (fun j => some (j * ei.size, ei.size)) (cellsOf i.zero) parts
    some (.agg cs.toArray)
  | _ => none

def vBuildSlice (T : Tab) (H : Heap) (t : TypeId) (n : Nat) (parts : List (Nat × Value)) : Option (Value × Heap) := do
  let i ← T.T t
  match i.desc with
  | .slice e => do
    let ei ← T.T e
    if n * ei.size > 65536 then none else
    let cs ← fillParts (fun j => some (j * ei.size, ei.size)) (repCells (cellsOf ei.zero) n) parts
    some (.slice (some ⟨H.length, 0, none⟩) n n, H ++ [.row ei.size cs true true])
  | _ => none

def vLoad (T : Tab) (H : Heap) (t : TypeId) (a : Value) : Option Value := do
  let i ← T.T t
  match a with
  | .pointer (some ⟨b, o, none⟩) => do
    let cs ← readCells H b o i.size
    if i.agg then some (.agg cs.toArray) else match cs with | [v] => some v | _ => none
  | _ => none

def vStore (T : Tab) (H : Heap) (t : TypeId) (a v : Value) : Option Heap := do
  let i ← T.T t
  match a with
  | .pointer (some ⟨b, o, none⟩) => if (cellsOf v).length = i.size then writeCells H b o (cellsOf v) else none
  | _ => none

def vNilCheck (x : Value) : Option Value :=
  match x with
  | .pointer (some a) => some (.pointer (some a))
  | .func (.func f) a c => some (.func (.func f) a c)
  | .iface t v => some (.iface t v)
  | _ => none

def vConvert (T : Tab) (src dst : TypeId) (x : Value) : Option Value :=
  match T.d src, T.d dst, x with
  | some (.int _), some (.int k), .int _ n => some (.int k (k.wrap n))
  | some .string, some .string, .string b => some (.string b)
  | _, _, _ => none

def vMakeIface (T : Tab) (t : TypeId) (x : Value) : Option Value :=
  match T.d t with
  | some .iface | some .other | none => none
  | some _ => some (.iface t x)

def vMakeSlice (T : Tab) (H : Heap) (t : TypeId) (n c : Value) : Option (Value × Heap) := do
  let i ← T.T t
  match i.desc, n, c with
  | .slice e, .int .i64 l, .int .i64 m => do
    let ei ← T.T e
    if 0 ≤ l ∧ l ≤ m ∧ m * ei.bytes ≤ 2 ^ 40 ∧ 0 < ei.size ∧ m ≤ 2 ^ 40 then
      some (.slice (some ⟨H.length, 0, none⟩) l.toNat m.toNat, H ++ [.row ei.size (repCells (cellsOf ei.zero) m.toNat) true true])
    else none
  | _, _, _ => none

def vFieldAddr (T : Tab) (t : TypeId) (x : Value) (f : Nat) : Option Value := do
  let i ← T.T t
  match i.desc, x with
  | .struct fs, .pointer (some ⟨b, o, none⟩) => do
    let f ← fs[f]?
    let k ← T.T f.1
    if 0 < k.size then some (.pointer (some ⟨b, o + f.2, none⟩)) else none
  | _, _ => none

def vField (T : Tab) (t : TypeId) (x : Value) (f : Nat) : Option Value := do
  let i ← T.T t
  match i.desc, x with
  | .struct fs, .agg cs => do
    let f ← fs[f]?
    let k ← T.T f.1
    if k.agg then (if f.2 + k.size ≤ cs.size then some (.agg ((cs.toList.drop f.2).take k.size).toArray) else none) else cs.toList[f.2]?
  | _, _ => none

def vIndex (T : Tab) (t : TypeId) (x i : Value) : Option Value :=
  match T.d t, x, i with
  | some .string, .string b, .int _ j => if 0 ≤ j then (b.data.toList[j.toNat]?).map fun c => .int .u8 c.toNat else none
  | _, _, _ => none

def vExtract (x : Value) (i : Nat) : Option Value :=
  match x with
  | .tuple vs => vs.toList[i]?
  | _ => none

def vAssert (T : Tab) (x : Value) (t : TypeId) : Option Value :=
  match T.d t, x with
  | some .iface, _ | some .other, _ | none, _ => none
  | some _, .iface u v => if u = t then some v else none
  | _, _ => none

def vLen (T : Tab) (t : TypeId) (x : Value) : Option Value :=
  match T.d t, x with
  | some .string, .string b => some (.int .i64 b.size)
  | some (.slice _), .slice _ n _ => some (.int .i64 n)
  | _, _ => none

def srcCells (H : Heap) (a2 : Option Addr) (m size : Nat) : Option (List Value) :=
  match a2 with
  | none => if m = 0 then some [] else none
  | some ⟨b, o, none⟩ => if m = 0 then some [] else readCells H b o (m * size)
  | _ => none

/-- Is there certainly no room, or certainly room, or is it open? -/
def vAppend (T : Tab) (H : Heap) (t : TypeId) (x y : Value) : Option (Value × Heap) := do
  let i ← T.T t
  match i.desc, x, y with
  | .slice e, .slice a n c, .slice a2 m _ => do
    let ei ← T.T e
    if 0 < ei.size ∧ 0 < ei.bytes ∧ (n + m) * ei.bytes ≤ 2 ^ 40 ∧ n + m ≤ 2 ^ 40 then do
      let new ← srcCells H a2 m ei.size
      if new.all oneCell then
        if n = 0 ∧ c = 0 then
          if m = 0 then some (.slice a 0 0, H) else some (.slice (some ⟨H.length, 0, none⟩) m unk, H ++ [.row ei.size new true true])
        else match a with
          | some ⟨b, o, none⟩ =>
            if c = unk then
              match H[b]? with
              | some (.row sz cs true true) =>
                if sz = ei.size ∧ o + n * ei.size ≤ cs.length then
                  some (.slice (some ⟨H.length, 0, none⟩) (n + m) unk, (H.set b (.row sz cs true false)) ++ [.row ei.size ((cs.drop o).take (n * ei.size) ++ new) true true])
                else none
              | _ => none
            else if n + m ≤ c then
              match H[b]? with
              | some (.row sz cs true true) =>
                if sz = ei.size then (writeCells H b (o + n * ei.size) new).map fun H' => (.slice (some ⟨b, o, none⟩) (n + m) c, H') else none
              | _ => none
            else do
              let old ← readCells H b o (n * ei.size)
              some (.slice (some ⟨H.length, 0, none⟩) (n + m) unk, H ++ [.row ei.size (old ++ new) true true])
          | _ => none
      else none
    else none
  | _, _, _ => none

/-- 'clear' of a slice -/
def vClear (T : Tab) (H : Heap) (t : TypeId) (x : Value) : Option Heap :=
  match T.d t, x with
  | some (.slice e), .slice a n _ =>
    if n = 0 then some H else
    match a, T.T e with
    | some ⟨b, o, none⟩, some ei => writeCells H b o (repCells (cellsOf ei.zero) n)
    | _, _ => none
  | _, _ => none

/-- 'copy' of slices -/
def vCopy (T : Tab) (H : Heap) (t : TypeId) (x y : Value) : Option (Value × Heap) :=
  match T.d t, x, y with
  | some (.slice e), .slice a n _, .slice a2 m _ =>
    match T.T e with
    | some ei =>
      if min m n = 0 then some (.int .i64 0, H) else
      match a, a2 with
      | some ⟨b, o, none⟩, some ⟨b2, o2, none⟩ => (readCells H b2 o2 (min m n * ei.size)).bind fun cs => (writeCells H b o cs).map fun H' => (.int .i64 (min m n : Nat), H')
      | _, _ => none
    | none => none
  | _, _, _ => none

def vBuiltin (T : Tab) (H : Heap) (b : Builtin) (xs : List Value) (ts : List TypeId) : Option (Value × Heap) :=
  match b, xs, ts with
  | .len, [x], [t] => (vLen T t x).map fun v => (v, H)
  | .max, [.int k x, .int _ y], _ => some (.int k (if y > x then y else x), H)
  | .min, [.int k x, .int _ y], _ => some (.int k (if y < x then y else x), H)
  | .clear, [x], [t] => (vClear T H t x).map fun H' => (undef, H')
  | .append, [x, y], [t, u] => if t = u then vAppend T H t x y else none
  | .copy, [x, y], [t, u] => vCopy T H t x y
  | _, _, _ => none

/-- Maps by strings. -/
def lookE : List (Value × Value) → ByteArray → Option (Option Value)
  | [], _ => some none
  | (.string a, v) :: l, s => if s == a then some (some v) else lookE l s
  | _ :: _, _ => none

def setE : List (Value × Value) → ByteArray → Value → Option (List (Value × Value))
  | [], s, v => some [(.string s, v)]
  | (.string a, u) :: l, s, v => if s == a then some ((.string s, v) :: l) else (setE l s v).map fun l' => (.string a, u) :: l'
  | _ :: _, _, _ => none

def entriesOf (H : Heap) (x : Value) : Option (List (Value × Value)) :=
  match x with
  | .map none => some []
  | .map (some b) => match H[b]? with | some (.map es) => some es | _ => none
  | _ => none

def vLookup (T : Tab) (H : Heap) (t : TypeId) (x k : Value) (ok : Bool) : Option Value :=
  match T.d t, k with
  | some (.map kt et), .string s =>
    match T.d kt, T.T et with
    | some .string, some ei => (entriesOf H x).bind fun es => (lookE es s).map fun r => if ok then .tuple #[r.getD ei.zero, .bool r.isSome] else r.getD ei.zero
    | _, _ => none
  | _, _ => none

def vMapUpdate (T : Tab) (H : Heap) (t : TypeId) (m k v : Value) : Option Heap :=
  match T.d t, m, k with
  | some (.map kt _), .map (some b), .string s =>
    match T.d kt, H[b]? with
    | some .string, some (.map es) => (setE es s v).map fun es' => H.set b (.map es')
    | _, _ => none
  | _, _, _ => none

/-- '[]byte(s)' -/
def vBytes0 (T : Tab) (H : Heap) (src dst : TypeId) (x : Value) : Option (Value × Heap) :=
  match T.d src, T.d dst, x with
  | some .string, some (.slice e), .string s =>
    match T.T e with
    | some ei => match ei.desc with
      | .int .u8 => if ei.size = 1 then some (.slice (some ⟨H.length, 0, none⟩) s.size unk, H ++ [.row 1 (s.data.toList.map fun b => .int .u8 b.toNat) true true]) else none
      | _ => none
    | none => none
  | _, _, _ => none

/-- 'string(b)' -/
def bytesIn : List Value → Option (List UInt8)
  | [] => some []
  | .int .u8 k :: l => if 0 ≤ k ∧ k < 256 then (bytesIn l).map fun r => UInt8.ofNat k.toNat :: r else none
  | _ :: _ => none

def vString (T : Tab) (H : Heap) (src dst : TypeId) (x : Value) : Option Value :=
  match T.d src, T.d dst, x with
  | some (.slice e), some .string, .slice (some ⟨b, o, none⟩) n _ =>
    match T.T e with
    | some ei => match ei.desc with
      | .int .u8 => (readCells H b o n).bind fun cs => (bytesIn cs).map fun l => .string ⟨l.toArray⟩
      | _ => none
    | none => none
  | _, _, _ => none

def vBytes (T : Tab) (H : Heap) (src dst : TypeId) (x : Value) : Option (Value × Heap) :=
  match vBytes0 T H src dst x with
  | some r => some r
  | none => (vString T H src dst x).map fun v => (v, H)

/-- The operations that make no call. -/
def opEval (T : Tab) (s : List Value) (H : Heap) (o : Op) : Option (Value × Heap) :=
  match o with
  | .move x | .assign x => some (ev s x, H)
  | .pick c a b => match ev s c with | .bool t => some (if t then ev s a else ev s b, H) | _ => none
  | .alloc e => (T.T e).bind fun i => vBox T H e i.zero
  | .box e x => vBox T H e (ev s x)
  | .build t parts => (vBuild T t (parts.toList.map fun p => (p.1, ev s p.2))).map fun v => (v, H)
  | .buildSlice t n parts => vBuildSlice T H t n (parts.toList.map fun p => (p.1, ev s p.2))
  | .load t a => (vLoad T H t (ev s a)).map fun v => (v, H)
  | .store t a v => (vStore T H t (ev s a) (ev s v)).map fun H' => (undef, H')
  | .nilCheck x => (vNilCheck (ev s x)).map fun v => (v, H)
  | .binOp op t x y _ => (binOp T op t (ev s x) (ev s y)).map fun v => (v, H)
  | .unOp op _ x => (unOp op (ev s x)).map fun v => (v, H)
  | .convert src dst x => match vConvert T src dst (ev s x) with | some v => some (v, H) | none => vBytes T H src dst (ev s x)
  | .makeMap _ none => some (.map (some H.length), H ++ [.map []])
  | .lookup t x k ok => (vLookup T H t (ev s x) (ev s k) ok).map fun v => (v, H)
  | .mapUpdate t m k v => (vMapUpdate T H t (ev s m) (ev s k) (ev s v)).map fun H' => (undef, H')
  | .makeInterface t x => (vMakeIface T t (ev s x)).map fun v => (v, H)
  | .makeFunc fn first captured => some (.func fn ((first.toList.map (ev s)).toArray) ((captured.toList.map (ev s)).toArray), H)
  | .makeSlice t n c => vMakeSlice T H t (ev s n) (ev s c)
  | .slice t x lo hi mx => (sliceVal T H t (ev s x) (lo.map (ev s)) (hi.map (ev s)) (mx.map (ev s))).map fun v => (v, H)
  | .fieldAddr t x f => (vFieldAddr T t (ev s x) f).map fun v => (v, H)
  | .field t x f => (vField T t (ev s x) f).map fun v => (v, H)
  | .indexAddr t x i => (indexAddr T t (ev s x) (ev s i)).map fun v => (v, H)
  | .index t x i => (vIndex T t (ev s x) (ev s i)).map fun v => (v, H)
  | .extract x i => (vExtract (ev s x) i).map fun v => (v, H)
  | .typeAssert x _ t false => (vAssert T (ev s x) t).map fun v => (v, H)
  | .call { callee := .builtin b, args, argTypes } => vBuiltin T H b (args.toList.map (ev s)) argTypes.toList
  | _ => none

end Go.Proofs.Ytdhbclplondmjaa.C

/- What the program's types must say for the abstract machine's table to hold, and the machine's questions about types. -/
set_option linter.unusedVariables false
set_option linter.unusedSimpArgs false
namespace Go.Proofs.Ytdhbclplondmjaa.C
open Go.RowKit

def DescOk (d : TypeDesc) : UD → Prop
  | .bool => d = .bool
  | .int k => d = .int k
  | .string => d = .string
  | .slice e => d = .slice e
  | .struct fs => ∃ fields : Array Field, d = .struct fields ∧ fields.toList.map (fun f => (f.type, f.offset)) = fs
  | .array n e => d = .array n e
  | .pointer e => d = .pointer e
  | .map k e => d = .map k e
  | .func => ∃ a b c, d = .func a b c
  | .iface => ∃ ms, d = .interface ms
  | .other => (match d with | .struct _ | .array _ _ => true | _ => false) = false

structure TyOk (P : Program) (t : TypeId) (i : TI) : Prop where
  info : ∃ inf, P.info? t = some inf ∧ inf.zero = some i.zero ∧ inf.size = i.size ∧ inf.bytes = i.bytes
  und : ∃ d, P.underlying t = some d ∧ DescOk d i.desc
  cells : (cellsOf i.zero).length = i.size
  plains : ∀ v ∈ cellsOf i.zero, plain v = true

structure Agree (P : Program) (T : Tab) : Prop where
  ty : ∀ t i, T.T t = some i → TyOk P t i
  fn : ∀ f c, T.fn f = some c → P.funcs[f]? = some c

variable {P : Program} {T : Tab}

theorem plain_vr (μ : Mu) {v : Value} (h : plain v = true) : VR μ v v := by
  cases v with
  | bool b => exact .bool b
  | int k n => exact .int k n
  | string s => exact .string s
  | pointer a => cases a with
    | none => exact .nilPtr
    | some a => simp [plain] at h
  | slice a n c =>
    unfold plain at h
    split at h <;> simp_all
    exact .nilSlice
  | map r => cases r with
    | none => exact .nilMap
    | some r => simp [plain] at h
  | nilFunc => exact .nilFunc
  | nilIface => exact .nilIface
  | _ => simp [plain] at h

theorem cellsOf_cells (v : Value) : v.cells.toList = cellsOf v := by cases v <;> rfl

theorem VR.cells {μ : Mu} {v v' : Value} (h : VR μ v v') (ho : v ≠ Go.undef) : VRs μ (cellsOf v) (cellsOf v') := by
  cases h with
  | undef => exact absurd rfl ho
  | skip => exact .cons .skip .nil
  | yield h => exact .cons (.yield h) .nil
  | agg h => simpa [cellsOf] using h
  | tuple h => exact .cons (.tuple h) .nil
  | bool => exact .cons (.bool _) .nil
  | int => exact .cons (.int _ _) .nil
  | string => exact .cons (.string _) .nil
  | nilPtr => exact .cons .nilPtr .nil
  | nilMap => exact .cons .nilMap .nil
  | nilFunc => exact .cons .nilFunc .nil
  | nilIface => exact .cons .nilIface .nil
  | nilSlice => exact .cons .nilSlice .nil
  | ptr h => exact .cons (.ptr h) .nil
  | slice h a b c => exact .cons (.slice h a b c) .nil
  | sliceZ => exact .cons (.sliceZ _ _) .nil
  | sliceE => exact .cons (.sliceE _ _) .nil
  | map h => exact .cons (.map h) .nil
  | func fn a b => exact .cons (.func fn a b) .nil
  | iface t h => exact .cons (.iface t h) .nil

theorem VR.one {μ : Mu} {v v' : Value} (h : VR μ v v') (ho : oneCell v = true) : v'.oneCell' = true := by
  cases h <;> first | rfl | simp [oneCell] at ho

theorem T_d {t : TypeId} {u : UD} (h : T.d t = some u) : ∃ i, T.T t = some i ∧ i.desc = u := by
  unfold Tab.d at h
  cases e : T.T t with
  | none => simp [e] at h
  | some i => simp [e] at h; exact ⟨i, rfl, h⟩

theorem Agree.d (ag : Agree P T) {t : TypeId} {u : UD} (h : T.d t = some u) : ∃ d, P.underlying t = some d ∧ DescOk d u := by
  obtain ⟨i, hi, rfl⟩ := T_d h
  exact (ag.ty t i hi).und

theorem run_typeInfo' {t : TypeId} {inf : TypeInfo} (h : P.info? t = some inf) (w : World) : (typeInfo t).run P w = .ok inf w := by
  simp [typeInfo, h]

theorem TyOk.sizeOf {t : TypeId} {i : TI} (h : TyOk P t i) (w : World) : (sizeOf t).run P w = .ok i.size w := by
  obtain ⟨inf, h1, _, h3, _⟩ := h.info
  simp [Go.sizeOf, run_typeInfo' h1, h3]

theorem TyOk.zero {t : TypeId} {i : TI} (h : TyOk P t i) (w : World) : (zeroValue t).run P w = .ok i.zero w := by
  obtain ⟨inf, h1, h2, _⟩ := h.info
  simp [zeroValue, run_typeInfo' h1, h2]

theorem TyOk.bytes {t : TypeId} {i : TI} (h : TyOk P t i) : ∃ inf, P.info? t = some inf ∧ inf.bytes = i.bytes := by
  obtain ⟨inf, h1, _, _, h4⟩ := h.info
  exact ⟨inf, h1, h4⟩

theorem TyOk.isAgg {t : TypeId} {i : TI} (h : TyOk P t i) (w : World) : (isAgg t).run P w = .ok i.agg w := by
  obtain ⟨d, h1, h2⟩ := h.und
  unfold Go.isAgg TI.agg
  cases e : i.desc <;> rw [e] at h2 <;> simp only [DescOk] at h2
  case other => cases d <;> simp at h2 <;> simp [run_underlying h1]
  case struct fs => obtain ⟨f, rfl, _⟩ := h2; simp [run_underlying h1]
  case func => obtain ⟨a, b, c, rfl⟩ := h2; simp [run_underlying h1]
  case iface => obtain ⟨a, rfl⟩ := h2; simp [run_underlying h1]
  all_goals (subst h2; simp [run_underlying h1])

end Go.Proofs.Ytdhbclplondmjaa.C

/- The operations on values alone: what the abstract machine says of them, the machine says too. -/
set_option linter.unusedVariables false
set_option linter.unusedSimpArgs false
namespace Go.Proofs.Ytdhbclplondmjaa.C
open Go.RowKit

variable {P : Program} {T : Tab} {μ : Mu}

theorem eqGuard_int (op : BinOp) (t : TypeId) (x y : Operand) (k k' : IntKind) (a b : Int) (w : World) : (eqGuard op t x y (.int k a) (.int k' b)).run P w = .ok () w := by
  unfold eqGuard; split <;> simp
theorem eqGuard_str (op : BinOp) (t : TypeId) (x y : Operand) (a b : ByteArray) (w : World) : (eqGuard op t x y (.string a) (.string b)).run P w = .ok () w := by
  unfold eqGuard; split <;> simp

theorem binInt_ok (op : BinOp) (k : IntKind) (a b : Int) (t : TypeId) {v : Value} (h1 : op ≠ .shl) (h2 : op ≠ .shr) (h : binInt op k a b = some v) (w : World) :
    (Go.binOp op t (.int k a) (.int k b)).run P w = .ok v w ∧ VR μ v v := by
  cases op <;> simp only [binInt, Option.some.injEq, reduceCtorEq, ne_eq, not_true_eq_false] at h h1 h2
  case quo => split at h <;> simp at h; subst h; rename_i hb; exact ⟨by simp [Go.binOp, Op.intDiv, hb], .int _ _⟩
  case rem => split at h <;> simp at h; subst h; rename_i hb; exact ⟨by simp [Go.binOp, Op.intDiv, hb], .int _ _⟩
  all_goals subst h; first | exact ⟨by simp [Go.binOp, Op.intArith, Op.intBits, Op.intCmp], .int _ _⟩ | exact ⟨by simp [Go.binOp, Op.intArith, Op.intBits, Op.intCmp], .bool _⟩

theorem binStr_ok (op : BinOp) (a b : ByteArray) (t : TypeId) {v : Value} (h : binStr op a b = some v) (w : World) :
    (Go.binOp op t (.string a) (.string b)).run P w = .ok v w ∧ VR μ v v := by
  have h3 : IntKind.i64.max = 9223372036854775807 := rfl
  cases op <;> simp only [binStr, Option.some.injEq, reduceCtorEq] at h
  case add =>
    split at h <;> simp at h
    subst h; rename_i hb
    rw [h3] at hb
    refine ⟨?_, .string _⟩
    simp [Go.binOp, Op.stringOp]
    omega
  all_goals subst h; exact ⟨by simp [Go.binOp, Op.stringOp], .bool _⟩

theorem equal_run {t : TypeId} {d : TypeDesc} (hd : P.underlying t = some d) (x y : Value) (w : World) (r : Bool)
    (h : ∀ n, (Op.equalIn (n + 1) t x y).run P w = .ok r w) : (Op.equal t x y).run P w = .ok r w := h 9999

/-- What a comparison comes to. -/
def EqRun (P : Program) (t : TypeId) (x y : Value) (r : Bool) (w : World) : Prop :=
  ∀ xo yo, (do eqGuard .eql t xo yo x y; Go.binOp .eql t x y).run P w = .ok (.bool r) w ∧ (do eqGuard .neq t xo yo x y; Go.binOp .neq t x y).run P w = .ok (.bool (!r)) w

theorem eqSliceL {t : TypeId} {e : TypeId} (n c m k : Nat) (a : Option Addr) (hd : P.underlying t = some (.slice e)) (w : World) : EqRun P t (.slice none n c) (.slice a m k) a.isNone w := by
  have he : (Op.equal t (.slice none n c) (.slice a m k)).run P w = .ok a.isNone w := equal_run hd _ _ w _ (fun n => by unfold Op.equalIn; simp [run_underlying hd])
  exact fun xo yo => ⟨by simp [eqGuard, Go.binOp, he], by simp [eqGuard, Go.binOp, he]⟩
theorem eqSliceR {t : TypeId} {e : TypeId} (n c m k : Nat) (a : Addr) (hd : P.underlying t = some (.slice e)) (w : World) : EqRun P t (.slice (some a) n c) (.slice none m k) false w := by
  have he : (Op.equal t (.slice (some a) n c) (.slice none m k)).run P w = .ok false w := equal_run hd _ _ w _ (fun n => by unfold Op.equalIn; simp [run_underlying hd])
  exact fun xo yo => ⟨by simp [eqGuard, Go.binOp, he], by simp [eqGuard, Go.binOp, he]⟩
theorem eqPtrL {t : TypeId} {e : TypeId} (a : Option Addr) (hd : P.underlying t = some (.pointer e)) (w : World) : EqRun P t (.pointer none) (.pointer a) a.isNone w := by
  have he : (Op.equal t (.pointer none) (.pointer a)).run P w = .ok a.isNone w := equal_run hd _ _ w _ (fun n => by unfold Op.equalIn; simp [run_underlying hd])
  exact fun xo yo => ⟨by simp [eqGuard, Go.binOp, he], by simp [eqGuard, Go.binOp, he]⟩
theorem eqPtrR {t : TypeId} {e : TypeId} (a : Addr) (hd : P.underlying t = some (.pointer e)) (w : World) : EqRun P t (.pointer (some a)) (.pointer none) false w := by
  have he : (Op.equal t (.pointer (some a)) (.pointer none)).run P w = .ok false w := equal_run hd _ _ w _ (fun n => by unfold Op.equalIn; simp [run_underlying hd])
  exact fun xo yo => ⟨by simp [eqGuard, Go.binOp, he], by simp [eqGuard, Go.binOp, he]⟩
theorem eqIfaceL {t : TypeId} {ms : Array (String × TypeId)} (u : TypeId) (v : Value) (hd : P.underlying t = some (.interface ms)) (w : World) : EqRun P t (.nilIface) (.iface u v) false w := by
  have he : (Op.equal t (.nilIface) (.iface u v)).run P w = .ok false w := equal_run hd _ _ w _ (fun n => by unfold Op.equalIn; simp [run_underlying hd])
  exact fun xo yo => ⟨by simp [eqGuard, Go.binOp, he], by simp [eqGuard, Go.binOp, he]⟩
theorem eqIfaceR {t : TypeId} {ms : Array (String × TypeId)} (u : TypeId) (v : Value) (hd : P.underlying t = some (.interface ms)) (w : World) : EqRun P t (.iface u v) (.nilIface) false w := by
  have he : (Op.equal t (.iface u v) (.nilIface)).run P w = .ok false w := equal_run hd _ _ w _ (fun n => by unfold Op.equalIn; simp [run_underlying hd])
  exact fun xo yo => ⟨by simp [eqGuard, Go.binOp, he], by simp [eqGuard, Go.binOp, he]⟩
theorem eqBool {t : TypeId} (a b : Bool) (hd : P.underlying t = some .bool) (w : World) : EqRun P t (.bool a) (.bool b) (a == b) w := by
  have he : (Op.equal t (.bool a) (.bool b)).run P w = .ok (a == b) w := equal_run hd _ _ w _ (fun n => by unfold Op.equalIn; simp [run_underlying hd])
  exact fun xo yo => ⟨by simp [eqGuard, Go.binOp, he], by simp [eqGuard, Go.binOp, he]⟩

theorem nilEq_ok {t : TypeId} {u : UD} {d : TypeDesc} (hd : P.underlying t = some d) (hu : DescOk d u) {x y x' y' : Value} (hx : VR μ x x') (hy : VR μ y y') {r : Bool} (h : nilEq u x y = some r) (w : World) :
    EqRun P t x' y' r w := by
  unfold nilEq at h
  split at h <;> simp only [Option.some.injEq, reduceCtorEq] at h <;> subst h <;> simp only [DescOk] at hu
  · subst hu; cases hx; cases hy <;> exact eqSliceL _ _ _ _ _ hd w
  · subst hu
    rename_i hne
    cases hy
    cases hx
    · exact (hne rfl).elim
    · exact eqSliceR _ _ _ _ _ hd w
    · exact eqSliceR _ _ _ _ _ hd w
    · exact eqSliceR _ _ _ _ _ hd w
  · subst hu; cases hx; cases hy <;> exact eqPtrL _ hd w
  · subst hu
    rename_i hne
    cases hy
    cases hx
    · exact (hne rfl).elim
    · exact eqPtrR _ hd w
  · obtain ⟨ms, rfl⟩ := hu; cases hx; cases hy; exact eqIfaceL _ _ hd w
  · obtain ⟨ms, rfl⟩ := hu; cases hx; cases hy; exact eqIfaceR _ _ hd w
  · subst hu; cases hx; cases hy; exact eqBool _ _ hd w

theorem binOp_ok (ag : Agree P T) {op : BinOp} {t : TypeId} {x y x' y' v : Value} (hx : VR μ x x') (hy : VR μ y y') (h : binOp T op t x y = some v) (xo yo : Operand) (w : World) :
    (do eqGuard op t xo yo x' y'; Go.binOp op t x' y').run P w = .ok v w ∧ VR μ v v := by
  unfold binOp at h
  split at h
  · cases hx; cases hy
    rename_i k a k' b
    simp only [Sem.run_bind, eqGuard_int, Result.andThen_ok]
    split at h
    · split at h <;> simp at h; subst h; rename_i hb; exact ⟨by simp [Go.binOp, Op.shift]; intro h2; exact absurd h2 hb, .int _ _⟩
    · split at h <;> simp at h; subst h; rename_i hb; exact ⟨by simp [Go.binOp, Op.shift]; intro h2; exact absurd h2 hb, .int _ _⟩
    · split at h
      · rename_i hk; subst hk; exact binInt_ok op k a b t (by assumption) (by assumption) h w
      · simp at h
  · cases hx; cases hy
    simp only [Sem.run_bind, eqGuard_str, Result.andThen_ok]
    exact binStr_ok op _ _ t h w
  · split at h
    · rename_i r hr
      simp at h; subst h
      rw [Option.bind_eq_some_iff] at hr
      obtain ⟨i, hi, hr⟩ := hr
      obtain ⟨d, hd, hu⟩ := (ag.ty t i hi).und
      exact ⟨(nilEq_ok hd hu hx hy hr w xo yo).1, .bool _⟩
    · rename_i r hr
      simp at h; subst h
      rw [Option.bind_eq_some_iff] at hr
      obtain ⟨i, hi, hr⟩ := hr
      obtain ⟨d, hd, hu⟩ := (ag.ty t i hi).und
      exact ⟨(nilEq_ok hd hu hx hy hr w xo yo).2, .bool _⟩
    · simp at h

theorem unOp_ok {op : UnOp} {x x' v : Value} (hx : VR μ x x') (h : unOp op x = some v) (w : World) : (Op.unary op x').run P w = .ok v w ∧ VR μ v v := by
  unfold unOp at h
  split at h <;> simp at h <;> subst h <;> cases hx
  · exact ⟨by simp [Op.unary, Op.intArith], .int _ _⟩
  · exact ⟨by simp [Op.unary], .bool _⟩
  · exact ⟨by simp [Op.unary, Op.intBits], .int _ _⟩

theorem vNilCheck_shape {x v : Value} (h : vNilCheck x = some v) : v = x := by
  unfold vNilCheck at h
  split at h <;> simp at h <;> exact h.symm

theorem vConvert_ok (ag : Agree P T) {src dst : TypeId} {x x' v : Value} (hx : VR μ x x') (h : vConvert T src dst x = some v) (w : World) : (Go.convert src dst x').run P w = .ok v w ∧ VR μ v v := by
  unfold vConvert at h
  split at h <;> simp at h
  · rename_i k0 k1 k2 n h1 h2
    obtain ⟨d1, e1, u1⟩ := ag.d h1
    obtain ⟨d2, e2, u2⟩ := ag.d h2
    simp only [DescOk] at u1 u2
    subst u1; subst u2; subst h; cases hx
    exact ⟨by simp [Go.convert, run_underlying e1, run_underlying e2, Conv.intToInt], .int _ _⟩
  · rename_i b h1 h2
    obtain ⟨d1, e1, u1⟩ := ag.d h1
    obtain ⟨d2, e2, u2⟩ := ag.d h2
    simp only [DescOk] at u1 u2
    subst u1; subst u2; subst h; cases hx
    exact ⟨by simp [Go.convert, run_underlying e1, run_underlying e2], .string _⟩

theorem vMakeIface_ok (ag : Agree P T) {t : TypeId} {x x' v : Value} (hx : VR μ x x') (h : vMakeIface T t x = some v) (w : World) : ∃ v', (Instr.makeInterface t x').run P w = .ok v' w ∧ VR μ v v' := by
  unfold vMakeIface at h
  split at h <;> simp at h
  rename_i u h1 h2 h3
  subst h
  obtain ⟨d, e, hu⟩ := ag.d h3
  refine ⟨.iface t x', ?_, .iface t hx⟩
  unfold Instr.makeInterface
  cases u <;> simp only [DescOk] at hu
  case iface => exact (h1 rfl).elim
  case other => exact (h2 rfl).elim
  case struct fs => obtain ⟨f, rfl, _⟩ := hu; simp [run_underlying e]
  case func => obtain ⟨a, b, c, rfl⟩ := hu; simp [run_underlying e]
  all_goals (subst hu; simp [run_underlying e])

theorem vFieldAddr_ok (ag : Agree P T) {t : TypeId} {x x' v : Value} {f : Nat} (hx : VR μ x x') (h : vFieldAddr T t x f = some v) (w : World) : ∃ v', (Instr.fieldAt t x' f).run P w = .ok v' w ∧ VR μ v v' := by
  unfold vFieldAddr at h
  simp only [Option.bind_eq_bind, Option.bind_eq_some_iff] at h
  obtain ⟨i, hi, h⟩ := h
  split at h
  · rename_i fs b o hdesc
    simp only [Option.bind_eq_some_iff] at h
    obtain ⟨g, hg, k, hk, h⟩ := h
    split at h <;> simp at h
    subst h
    rename_i hpos
    obtain ⟨d, hd, hu⟩ := (ag.ty t i hi).und
    rw [hdesc] at hu
    obtain ⟨fields, rfl, hfs⟩ := hu
    rw [← hfs, List.getElem?_map, Option.map_eq_some_iff] at hg
    obtain ⟨fl, hfl, rfl⟩ := hg
    have hfl' : fields[f]? = some fl := by simpa using hfl
    cases hx
    rename_i l hl
    refine ⟨.pointer (some ⟨l.blk, l.sh + (o + fl.offset), none⟩), ?_, .ptr hl⟩
    have hsz := (ag.ty _ k hk).sizeOf w
    have hadd : (⟨l.blk, l.sh + o, none⟩ : Addr).add fl.offset = ⟨l.blk, l.sh + (o + fl.offset), none⟩ := by unfold Addr.add; split <;> simp_all <;> omega
    simp [Instr.fieldAt, run_underlying hd, hfl', Instr.sureAddr, fieldPlace, hsz, hadd, Nat.pos_iff_ne_zero.1 hpos]
  · simp at h

theorem part_run (ag : Agree P T) {t : TypeId} {k : TI} (hk : T.T t = some k) {cs : List Value} {off : Nat} {v : Value}
    (h : (if k.agg = true then (if off + k.size ≤ cs.length then some (Value.agg ((cs.drop off).take k.size).toArray) else none) else cs[off]?) = some v) {cs' : List Value} (hcs : VRs μ cs cs') (w : World) :
    ∃ v', (part t cs'.toArray off).run P w = .ok v' w ∧ VR μ v v' := by
  unfold part
  by_cases ha : k.agg = true
  · rw [if_pos ha] at h
    split at h <;> simp at h
    subst h
    refine ⟨.agg ((cs'.drop off).take k.size).toArray, ?_, .agg ((hcs.drop off).take _)⟩
    have hz := (ag.ty t k hk)
    simp [hz.isAgg w, ha, hz.sizeOf w, List.extract_eq_take_drop]
  · rw [if_neg ha] at h
    obtain ⟨v', e, hv⟩ := hcs.get off v h
    refine ⟨v', ?_, hv⟩
    have hz := (ag.ty t k hk)
    simp [hz.isAgg w, ha, e]

theorem vField_ok (ag : Agree P T) {t : TypeId} {x x' v : Value} {f : Nat} (hx : VR μ x x') (h : vField T t x f = some v) (w : World) : ∃ v', (Instr.field t x' f).run P w = .ok v' w ∧ VR μ v v' := by
  unfold vField at h
  simp only [Option.bind_eq_bind, Option.bind_eq_some_iff] at h
  obtain ⟨i, hi, h⟩ := h
  split at h
  · rename_i fs cs hdesc
    simp only [Option.bind_eq_some_iff] at h
    obtain ⟨g, hg, k, hk, h⟩ := h
    obtain ⟨d, hd, hu⟩ := (ag.ty t i hi).und
    rw [hdesc] at hu
    obtain ⟨fields, rfl, hfs⟩ := hu
    rw [← hfs, List.getElem?_map, Option.map_eq_some_iff] at hg
    obtain ⟨fl, hfl, rfl⟩ := hg
    have hfl' : fields[f]? = some fl := by simpa using hfl
    cases hx
    rename_i c c' hc
    obtain ⟨v', hp, hv⟩ := part_run ag hk (by simpa using h) hc w
    exact ⟨v', by simp [Instr.field, run_underlying hd, hfl', asAgg, hp], hv⟩
  · simp at h

theorem vIndex_ok (ag : Agree P T) {t : TypeId} {x i x' i' v : Value} (hx : VR μ x x') (hi : VR μ i i') (h : vIndex T t x i = some v) (w : World) : (Instr.index t x' i').run P w = .ok v w ∧ VR μ v v := by
  unfold vIndex at h
  split at h
  · rename_i b k j h1
    split at h
    · rename_i hj
      rw [Option.map_eq_some_iff] at h
      obtain ⟨c, hc, rfl⟩ := h
      obtain ⟨d, e, u⟩ := ag.d h1
      simp only [DescOk] at u
      subst u; cases hx; cases hi
      have hb : b[j.toNat]? = some c := by
        have hlt : j.toNat < b.data.toList.length := (List.getElem?_eq_some_iff.1 hc).1
        have h2 : j.toNat < b.size := by simpa using hlt
        rw [getElem?_pos b j.toNat h2]
        simp only [Option.some.injEq]
        have := (List.getElem?_eq_some_iff.1 hc).2
        rw [← this]; simp; rfl
      exact ⟨by simp [Instr.index, asIntOf, run_underlying e, hj, hb], .int _ _⟩
    · simp at h
  · simp at h

theorem vExtract_ok {x x' v : Value} {i : Nat} (hx : VR μ x x') (h : vExtract x i = some v) (w : World) : ∃ v', (Instr.extract x' i).run P w = .ok v' w ∧ VR μ v v' := by
  unfold vExtract at h
  split at h
  · cases hx
    · simp at h
    · rename_i c c' hc
      obtain ⟨v', e, hv⟩ := hc.get i v (by simpa using h)
      exact ⟨v', by simp [Instr.extract, e], hv⟩
  · simp at h

theorem vAssert_ok (ag : Agree P T) {x x' v : Value} {t xt : TypeId} (hx : VR μ x x') (h : vAssert T x t = some v) (w : World) : ∃ v', (Instr.typeAssert x' xt t false).run P w = .ok v' w ∧ VR μ v v' := by
  unfold vAssert at h
  split at h <;> try simp at h
  rename_i ud u y h1 h2 h3
  obtain ⟨rfl, rfl⟩ := h
  obtain ⟨d, e, hu⟩ := ag.d h3
  cases hx
  rename_i y' hy
  refine ⟨y', ?_, hy⟩
  unfold Instr.typeAssert
  cases ud <;> simp only [DescOk] at hu
  all_goals first
    | exact (h1 rfl).elim
    | exact (h2 rfl).elim
    | (obtain ⟨f, rfl, _⟩ := hu; simp [run_underlying e])
    | (obtain ⟨a, b, c, rfl⟩ := hu; simp [run_underlying e])
    | (subst hu; simp [run_underlying e])

theorem vLen_ok (ag : Agree P T) {t : TypeId} {ts : Array TypeId} {x x' v : Value} {ty : TypeId} (ht : ts[0]? = some t) (hx : VR μ x x') (h : vLen T t x = some v) (w : World) : (Builtin.len_ ts ty #[x']).run P w = .ok v w ∧ VR μ v v := by
  unfold vLen at h
  split at h <;> simp at h <;> subst h
  · rename_i b h1
    obtain ⟨d, e, u⟩ := ag.d h1
    simp only [DescOk] at u
    subst u; cases hx
    exact ⟨by simp [Builtin.len_, ht, run_underlying e, goInt], .int _ _⟩
  · rename_i el a n c h1
    obtain ⟨d, e, u⟩ := ag.d h1
    simp only [DescOk] at u
    subst u
    cases hx <;> exact ⟨by simp [Builtin.len_, ht, run_underlying e, goInt], .int _ _⟩

end Go.Proofs.Ytdhbclplondmjaa.C

/- Cuts of strings and slices, addresses of elements. -/
set_option linter.unusedVariables false
set_option linter.unusedSimpArgs false
namespace Go.Proofs.Ytdhbclplondmjaa.C
open Go.RowKit

variable {P : Program} {T : Tab} {μ : Mu} {base : Nat} {F : Nat → Prop} {H : Heap} {w : World}

theorem bnd_le {v : Value} {y k : Nat} (h : bnd v y = some k) : k ≤ y := by
  unfold bnd at h
  split at h
  · split at h <;> simp at h
    subst h
    omega
  · simp at h

theorem bnd_run (P : Program) {v v' : Value} {y k : Nat} (hv : VR μ v v') (h : bnd v y = some k) {y' : Nat} (hy : y ≤ y') (code : BoundsCode) (w : World) :
    (Instr.sliceBound v' y' code).run P w = .ok k w := by
  unfold bnd at h
  split at h
  · split at h <;> simp at h
    subst h
    cases hv
    rename_i k i hi
    have h2 : 0 ≤ i ∧ i ≤ (y' : Int) := ⟨hi.1, by omega⟩
    simp [Instr.sliceBound, asIntOf, h2]
  · simp at h

/-- Optional values, related. -/
def VRo (μ : Mu) : Option Value → Option Value → Prop
  | none, none => True
  | some v, some v' => VR μ v v'
  | _, _ => False

theorem add_loc (l : Loc) (o k : Nat) : (⟨l.blk, l.sh + o, none⟩ : Addr).add k = ⟨l.blk, l.sh + (o + k), none⟩ := by
  unfold Addr.add; split <;> simp_all <;> omega

theorem szAt_loc (h : HR base F μ H w) {b sz : Nat} {l : Loc} (hs : szAt H b = some sz) (hl : μ b = some l) : l.sz = sz := by
  unfold szAt at hs
  split at hs <;> simp at hs
  subst hs
  rename_i cs own heq
  cases own with
  | true => exact (h.own b _ cs l heq hl).1
  | false => exact (h.ro b _ cs l heq hl).1

theorem cutSlice_ok (h : HR base F μ H w) {sz n c l hh : Nat} {a : Option Addr} {m : Option Nat} {v x' : Value} (hx : VR μ (.slice a n c) x') (hc : cutSlice H sz a n c l hh m = some v)
    (hlh : l ≤ hh) (hm : ∀ k, m = some k → hh ≤ k ∧ k ≤ if c = unk then n else c) (hn : m = none → hh ≤ if c = unk then n else c) :
    ∃ a' c', x' = .slice a' n c' ∧ (if c = unk then n else c) ≤ c' ∧ VR μ v (.slice (if m.getD c' = l then a' else a'.map (·.add (l * sz))) (hh - l) (m.getD c' - l)) := by
  have hunk : unk = 18446744073709551616 := rfl
  unfold cutSlice at hc
  cases hx with
  | nilSlice =>
    simp at hc
    subst hc
    have hcu : ¬ ((0 : Nat) = unk) := by rw [hunk]; omega
    refine ⟨none, 0, rfl, by rw [if_neg hcu]; exact Nat.le_refl _, ?_⟩
    have e3 : hh = 0 := by
      cases m with
      | none => have := hn rfl; rw [if_neg hcu] at this; omega
      | some k => have := hm k rfl; rw [if_neg hcu] at this; omega
    have e2 : m.getD 0 = 0 := by
      cases m with
      | none => rfl
      | some k => have := hm k rfl; rw [if_neg hcu] at this; simp; omega
    subst e3
    rw [e2]
    simpa using VR.nilSlice
  | sliceZ p p' =>
    have h0 : ¬ ((0 : Nat) = unk) := by rw [hunk]; omega
    refine ⟨some p', 0, rfl, by rw [if_neg h0]; exact Nat.le_refl _, ?_⟩
    · obtain ⟨b, o, sp⟩ := p
      cases sp with
      | some q => simp at hc
      | none =>
        cases m with
        | some k =>
          have h1 := hm k rfl
          rw [if_neg h0] at h1
          have e1 : k = 0 := by omega
          have e2 : l = 0 := by omega
          have e3 : hh = 0 := by omega
          subst e1; subst e2; subst e3
          simp at hc; subst hc
          simpa using VR.sliceZ _ _
        | none =>
          have h1 := hn rfl
          rw [if_neg h0] at h1
          have e2 : l = 0 := by omega
          have e3 : hh = 0 := by omega
          subst e2; subst e3
          simp [h0] at hc; subst hc
          simpa using VR.sliceZ _ _
  | sliceE p p' =>
    refine ⟨some p', 0, rfl, by rw [if_pos rfl]; exact Nat.le_refl _, ?_⟩
    · obtain ⟨b, o, sp⟩ := p
      cases sp with
      | some q => simp at hc
      | none =>
        cases m with
        | some k =>
          have h1 := hm k rfl
          rw [if_pos rfl] at h1
          have e1 : k = 0 := by omega
          have e2 : l = 0 := by omega
          have e3 : hh = 0 := by omega
          subst e1; subst e2; subst e3
          simp at hc; subst hc
          simpa using VR.sliceZ _ _
        | none =>
          have h1 := hn rfl
          rw [if_pos rfl] at h1
          have e2 : l = 0 := by omega
          have e3 : hh = 0 := by omega
          subst e2; subst e3
          have h0 : ¬ (unk = 0) := by rw [hunk]; omega
          simp [h0] at hc
          obtain ⟨_, rfl⟩ := hc
          simpa using VR.sliceE _ _
  | slice hl hnn hcc ht =>
    rename_i b o c' l0
    have hle : (if c = unk then n else c) ≤ c' := by
      rcases hcc with rfl | rfl
      · rw [if_pos rfl]; exact hnn
      · split <;> omega
    refine ⟨some ⟨l0.blk, l0.sh + o, none⟩, c', rfl, hle, ?_⟩
    cases m with
    | some k =>
      simp only at hc
      by_cases hkl : k = l
      · rw [if_pos hkl] at hc
        simp at hc; subst hc
        have h1 := (hm k rfl).1
        simp only [Option.getD_some, if_pos hkl]
        rw [show hh - l = 0 by omega, show k - l = 0 by omega]
        exact VR.sliceZ _ _
      · rw [if_neg hkl] at hc
        split at hc <;> simp at hc
        rename_i hsz
        subst hc
        have e := szAt_loc h hsz hl
        simp only [Option.getD_some, if_neg hkl, Option.map_some, add_loc]
        have hk2 := Nat.le_trans (hm k rfl).2 hle
        have hk1 := (hm k rfl).1
        refine VR.slice hl (by omega) (.inr rfl) ?_
        rw [e] at ht ⊢
        have : (k - l) * sz + l * sz = k * sz := by rw [← Nat.add_mul]; congr 1; omega
        have h3 : k * sz ≤ c' * sz := Nat.mul_le_mul_right _ hk2
        omega
    | none =>
      simp only at hc
      have hh2 := Nat.le_trans (hn rfl) hle
      simp only [Option.getD_none]
      by_cases hcl : c = l ∧ c ≠ unk
      · rw [if_pos hcl] at hc
        simp at hc; subst hc
        rcases hcc with hcu | rfl
        · exact absurd hcu hcl.2
        · rw [if_pos hcl.1, show hh - l = 0 by omega, show c - l = 0 by omega]
          exact VR.sliceZ _ _
      · rw [if_neg hcl] at hc
        split at hc <;> simp at hc
        rename_i hsz
        subst hc
        have e := szAt_loc h hsz hl
        by_cases hcl2 : c' = l
        · rw [if_pos hcl2]
          rcases hcc with hcu | rfl
          · rw [if_pos hcu, show hh - l = 0 by omega, show c' - l = 0 by omega]
            exact VR.sliceE _ _
          · by_cases hcu : c = unk
            · rw [if_pos hcu, show hh - l = 0 by omega, show c - l = 0 by omega]
              exact VR.sliceE _ _
            · exact absurd ⟨hcl2, hcu⟩ hcl
        · rw [if_neg hcl2]
          simp only [Option.map_some, add_loc]
          refine VR.slice hl (by omega) ?_ ?_
          · rcases hcc with hcu | rfl
            · exact .inl (by rw [if_pos hcu])
            · by_cases hcu : c = unk
              · exact .inl (by rw [if_pos hcu])
              · exact .inr (by rw [if_neg hcu])
          · rw [e] at ht ⊢
            have : (c' - l) * sz + l * sz = c' * sz := by rw [← Nat.add_mul]; congr 1; omega
            omega

theorem opt_run (P : Program) {lo lo' : Option Value} {d y k y' : Nat} (h : (match (generalizing := false) lo with | some v => bnd v y | none => some d) = some k) (hlo : VRo μ lo lo') (hy : y ≤ y') (code : BoundsCode) (w : World) :
    (match (generalizing := false) lo' with | some v => Instr.sliceBound v y' code | none => pure d : Sem Nat).run P w = .ok k w := by
  cases lo <;> cases lo'
  · simp at h; subst h; simp
  · exact hlo.elim
  · exact hlo.elim
  · exact bnd_run P hlo h hy code w

theorem opt_le {lo : Option Value} {y k : Nat} (h : (match lo with | some v => bnd v y | none => some 0) = some k) : k ≤ y := by
  cases lo with
  | none => simp at h; omega
  | some v => exact bnd_le h

theorem opt_le' {lo : Option Value} {n y k : Nat} (hn : n ≤ y) (h : (match lo with | some v => bnd v y | none => some n) = some k) : k ≤ y := by
  cases lo with
  | none => simp at h; omega
  | some v => exact bnd_le h

theorem bounds_none (P : Program) (isS : Bool) {len cap n l hh : Nat} {lo' hi' : Option Value} (w : World)
    (h1 : (match hi' with | some v => Instr.sliceBound v cap (if isS then .sliceAcap else .sliceAlen) | none => pure len : Sem Nat).run P w = .ok hh w)
    (h2 : (match lo' with | some v => Instr.sliceBound v hh .sliceB | none => pure 0 : Sem Nat).run P w = .ok l w) :
    (Instr.sliceBounds isS len cap lo' hi' none).run P w = .ok (l, hh, cap) w := by
  cases hi' <;> cases lo' <;> simp_all [Instr.sliceBounds]

theorem bounds_some (P : Program) {len cap l hh m : Nat} {lo' : Option Value} {hv mv : Value} (w : World)
    (h0 : (Instr.sliceBound mv cap .slice3Acap).run P w = .ok m w) (h1 : (Instr.sliceBound hv m .slice3B).run P w = .ok hh w)
    (h2 : (match lo' with | some v => Instr.sliceBound v hh .slice3C | none => pure 0 : Sem Nat).run P w = .ok l w) :
    (Instr.sliceBounds true len cap lo' (some hv) (some mv)).run P w = .ok (l, hh, m) w := by
  cases lo' <;> simp_all [Instr.sliceBounds]

theorem VR.len_le {a : Option Addr} {n c : Nat} {x' : Value} (h : VR μ (.slice a n c) x') : n ≤ if c = unk then n else c := by
  cases h with
  | nilSlice => exact Nat.zero_le _
  | sliceZ => exact Nat.zero_le _
  | sliceE => exact Nat.zero_le _
  | slice hl hn hc ht => rcases hc with rfl | rfl
                         · rw [if_pos rfl]; exact Nat.le_refl _
                         · split <;> omega

theorem sliceVal_ok (ag : Agree P T) (h : HR base F μ H w) {t : TypeId} {x x' v : Value} {lo hi mx lo' hi' mx' : Option Value} (hx : VR μ x x') (hlo : VRo μ lo lo') (hhi : VRo μ hi hi') (hmx : VRo μ mx mx')
    (hv : sliceVal T H t x lo hi mx = some v) : ∃ v', (Instr.sliceAt t x' lo' hi' mx').run P w = .ok v' w ∧ VR μ v v' := by
  unfold sliceVal at hv
  split at hv
  · rename_i s hd
    obtain ⟨d, e, u⟩ := ag.d hd
    simp only [DescOk] at u
    subst u
    cases hx
    cases mx with
    | some q => simp at hv
    | none =>
      cases mx' with
      | some q => exact hmx.elim
      | none =>
        simp only [Option.bind_eq_some_iff] at hv
        obtain ⟨k, hk, l, hl, hv⟩ := hv
        simp at hv; subst hv
        have hb := bounds_none P false (len := s.size) (cap := s.size) (n := 0) w (by simpa using opt_run P hk hhi (Nat.le_refl _) .sliceAlen w) (opt_run P hl hlo (Nat.le_refl _) .sliceB w)
        exact ⟨_, by simp [Instr.sliceAt, Instr.slice, run_underlying e, hb], .string _⟩
  · rename_i el a n c hd
    obtain ⟨d, e, u⟩ := ag.d hd
    simp only [DescOk] at u
    subst u
    rw [Option.bind_eq_some_iff] at hv
    obtain ⟨ei, hei, hv⟩ := hv
    have hsz := (ag.ty el ei hei).sizeOf w
    cases mx with
    | some q =>
      cases mx' with
      | none => exact hmx.elim
      | some q' =>
        simp only [Option.bind_eq_some_iff] at hv
        obtain ⟨m, hm, k, hk, l, hl, hv⟩ := hv
        cases hi with
        | none => simp at hk
        | some r =>
          cases hi' with
          | none => exact hhi.elim
          | some r' =>
            simp only at hk
            obtain ⟨a', c', rfl, g1, g3⟩ := cutSlice_ok h hx hv (opt_le hl) (fun k' e => by simp at e; subst e; exact ⟨bnd_le hk, bnd_le hm⟩) (fun e => by simp at e)
            have hb := bounds_some P (len := n) (cap := c') w (bnd_run P hmx hm g1 _ w) (bnd_run P hhi hk (Nat.le_refl _) _ w) (opt_run P hl hlo (Nat.le_refl _) .slice3C w)
            refine ⟨_, ?_, g3⟩
            simp [Instr.sliceAt, Instr.slice, run_underlying e, hb, hsz]
    | none =>
      cases mx' with
      | some q => exact hmx.elim
      | none =>
        simp only [Option.bind_eq_some_iff] at hv
        obtain ⟨k, hk, l, hl, hv⟩ := hv
        have hkn : k ≤ if c = unk then n else c := by
          cases hi with
          | some r => exact bnd_le hk
          | none =>
            simp at hk; subst hk
            exact hx.len_le
        obtain ⟨a', c', rfl, g1, g3⟩ := cutSlice_ok h hx hv (opt_le hl) (fun k' e => by simp at e) (fun _ => hkn)
        have hb := bounds_none P true (len := n) (cap := c') (n := 0) w (by simpa using opt_run P hk hhi g1 .sliceAcap w) (opt_run P hl hlo (Nat.le_refl _) .sliceB w)
        refine ⟨_, ?_, g3⟩
        simp [Instr.sliceAt, Instr.slice, run_underlying e, hb, hsz]
  · simp at hv

theorem indexAddr_ok (ag : Agree P T) (h : HR base F μ H w) {t : TypeId} {x i x' i' v : Value} (hx : VR μ x x') (hi : VR μ i i') (hv : indexAddr T t x i = some v) :
    ∃ v', (Instr.indexAt t x' i').run P w = .ok v' w ∧ VR μ v v' := by
  unfold indexAddr at hv
  split at hv
  · rename_i el b o n c k i hd
    split at hv
    · rename_i ei hei
      split at hv <;> simp at hv
      subst hv
      rename_i hc
      obtain ⟨d, e, u⟩ := ag.d hd
      simp only [DescOk] at u
      subst u
      cases hi
      have hz := (ag.ty el ei hei).sizeOf w
      cases hx with
      | slice hl hn hcc ht =>
        rename_i c' l
        refine ⟨_, ?_, .ptr hl⟩
        simp [Instr.indexAt, asIntOf, run_underlying e, hc.1, hc.2.1, hz, add_loc]
      | sliceZ => exfalso; omega
      | sliceE => exfalso; omega
    · simp at hv
  · rename_i n el b o k i hd
    split at hv
    · rename_i ei hei
      split at hv <;> simp at hv
      subst hv
      rename_i hc
      obtain ⟨d, e, u⟩ := ag.d hd
      simp only [DescOk] at u
      subst u
      cases hi
      have hz := (ag.ty el ei hei).sizeOf w
      cases hx with
      | ptr hl =>
        rename_i l
        refine ⟨_, ?_, .ptr hl⟩
        simp [Instr.indexAt, asIntOf, run_underlying e, hc.1, hc.2.1, hz, add_loc, Instr.sureAddr]
    · simp at hv
  · simp at hv

end Go.Proofs.Ytdhbclplondmjaa.C

/- Structs built, variables made, loads and stores. -/
set_option linter.unusedVariables false
set_option linter.unusedSimpArgs false
namespace Go.Proofs.Ytdhbclplondmjaa.C
open Go.RowKit

variable {P : Program} {T : Tab} {μ : Mu} {base : Nat} {F : Nat → Prop} {H : Heap} {w : World}

theorem setCells_length : ∀ (vs cs : List Value) (o : Nat), (setCells cs o vs).length = cs.length
  | [], _, _ => rfl
  | v :: vs, cs, o => by simp [setCells, setCells_length vs]

theorem VRs.setCells : ∀ {vs vs' : List Value}, VRs μ vs vs' → ∀ {cs cs' : List Value}, VRs μ cs cs' → ∀ o, VRs μ (setCells cs o vs) (C.setCells cs' o vs')
  | _, _, .nil, _, _, h, _ => h
  | _, _, .cons hv ht, _, _, h, o => VRs.setCells ht (h.set o hv) (o + 1)

theorem setCells_foldl : ∀ (vs : List Value) (k : Nat) (cs : Array Value) (off : Nat),
    ((vs.zipIdx k).foldl (fun cs (p : Value × Nat) => cs.setIfInBounds (off + p.2) p.1) cs).toList = setCells cs.toList (off + k) vs
  | [], _, _, _ => rfl
  | v :: vs, k, cs, off => by
    simp only [List.zipIdx_cons, List.foldl_cons, setCells]
    rw [setCells_foldl vs (k + 1)]
    simp [Nat.add_assoc]

theorem notTuple {v : Value} (h : isTuple v = false) : v ≠ Go.undef := by rintro rfl; simp [isTuple, Go.undef] at h

theorem fill_ok (place : Nat → Option (Nat × Nat)) : ∀ {parts parts' : List (Nat × Value)} {cells cells' : List Value} {cs : List Value}, fillParts place cells parts = some cs →
    parts'.map (·.1) = parts.map (·.1) → VRs μ (parts.map (·.2)) (parts'.map (·.2)) → VRs μ cells cells' →
    ∃ cs', Instr.fill place cells'.toArray parts' = some cs'.toArray ∧ VRs μ cs cs'
  | [], [], cells, cells', cs, h, _, _, hc => by simp [fillParts] at h; subst h; exact ⟨cells', rfl, hc⟩
  | [], _ :: _, _, _, _, _, h, _, _ => by simp at h
  | _ :: _, [], _, _, _, _, h, _, _ => by simp at h
  | (i, v) :: rest, (i', v') :: rest', cells, cells', cs, h, hi, hv, hc => by
    simp only [List.map_cons, List.cons.injEq] at hi
    obtain ⟨rfl, hi⟩ := hi
    cases hv with
    | cons hv ht =>
      simp only [fillParts] at h
      cases hp : place i' with
      | none => simp [hp] at h
      | some p =>
        obtain ⟨off, n⟩ := p
        simp only [hp] at h
        split at h
        · rename_i hcond
          obtain ⟨h1, h2, h3⟩ := hcond
          have hvc := hv.cells (notTuple h3)
          have hl := hvc.length
          obtain ⟨cs', e, hcs⟩ := fill_ok place (cells' := C.setCells cells' off (cellsOf v')) h hi ht (VRs.setCells hvc hc off)
          refine ⟨cs', ?_, hcs⟩
          simp only [Instr.fill, hp]
          have hsz : v'.cells.size = n := by rw [← h1, ← hl, ← cellsOf_cells]; simp
          have hcl : cells'.length = cells.length := hc.length
          rw [if_neg (by simp [hsz]; omega)]
          have hf := setCells_foldl v'.cells.toList 0 cells'.toArray off
          simp only [Nat.add_zero, cellsOf_cells] at hf
          have : (v'.cells.zipIdx.foldl (fun cs (p : Value × Nat) => cs.setIfInBounds (off + p.2) p.1) cells'.toArray) = (C.setCells cells' off (cellsOf v')).toArray := by
            apply Array.ext'
            rw [← hf, ← Array.foldl_toList]
            simp [cellsOf_cells]
          rw [← e, ← this]
        · simp at h

theorem places_ok (ag : Agree P T) : ∀ (fs : List Field) (places : List (Nat × Nat)), (fs.map fun f => (f.type, f.offset)).mapM (fun f => (T.T f.1).map fun k => (f.2, k.size)) = some places →
    fs.mapM (fun f => (P.info? f.type).map fun i => (f.offset, i.size)) = some places
  | [], _, h => by simpa using h
  | f :: fs, places, h => by
    simp only [List.map_cons, List.mapM_cons, Option.bind_eq_bind, Option.bind_eq_some_iff, Option.pure_def] at h ⊢
    obtain ⟨p, hp, ps, hps, h⟩ := h
    rw [Option.map_eq_some_iff] at hp
    obtain ⟨k, hk, rfl⟩ := hp
    obtain ⟨inf, h1, _, h3, _⟩ := (ag.ty _ k hk).info
    exact ⟨_, by rw [h1]; rfl, ps, places_ok ag fs ps hps, by show some ((f.offset, inf.size) :: ps) = _; rw [h3]; exact h⟩

theorem vBuild_ok (ag : Agree P T) {t : TypeId} {parts parts' : List (Nat × Value)} {v : Value} (h : vBuild T t parts = some v) (h1 : parts'.map (·.1) = parts.map (·.1)) (h2 : VRs μ (parts.map (·.2)) (parts'.map (·.2))) (w : World) :
    ∃ v', (Instr.build t parts'.toArray).run P w = .ok v' w ∧ VR μ v v' := by
  unfold vBuild at h
  simp only [Option.bind_eq_bind, Option.bind_eq_some_iff] at h
  obtain ⟨i, hi, h⟩ := h
  have ok := ag.ty t i hi
  obtain ⟨inf, e1, e2, e3, e4⟩ := ok.info
  obtain ⟨d, hd, hu⟩ := ok.und
  have hz : VRs μ (cellsOf i.zero) (cellsOf i.zero) := VRs.refl_of fun u hu => plain_vr μ (ok.plains u hu)
  split at h
  · rename_i fs hdesc
    simp only [Option.bind_eq_some_iff] at h
    obtain ⟨places, hp, cs, hcs, h⟩ := h
    simp at h; subst h
    rw [hdesc] at hu
    obtain ⟨fields, rfl, rfl⟩ := hu
    have hp2 := places_ok ag _ _ hp
    obtain ⟨cs', e, hr⟩ := fill_ok (fun j => places[j]?) hcs h1 h2 hz
    refine ⟨.agg cs'.toArray, run_build w t _ _ ?_, .agg hr⟩
    have hzc : i.zero.cells = (cellsOf i.zero).toArray := by rw [← cellsOf_cells]
    simp only [Program.built, e1, hd, e2, hp2]
    rw [hzc]
    simpa using e
  · rename_i n el hdesc
    simp only [Option.bind_eq_some_iff] at h
    obtain ⟨ei, hei, cs, hcs, h⟩ := h
    simp at h; subst h
    rw [hdesc] at hu
    simp only [DescOk] at hu
    subst hu
    obtain ⟨inf2, g1, _, g3, _⟩ := (ag.ty el ei hei).info
    obtain ⟨cs', e, hr⟩ := fill_ok (fun j => some (j * ei.size, ei.size)) hcs h1 h2 hz
    refine ⟨.agg cs'.toArray, run_build w t _ _ ?_, .agg hr⟩
    have hzc : i.zero.cells = (cellsOf i.zero).toArray := by rw [← cellsOf_cells]
    simp only [Program.built, e1, hd, e2, g1, g3]
    rw [hzc]
    simpa using e
  · simp at h

/-- What a step comes to: the machine's answer, its new world, where the new blocks lie. -/
def Step (base : Nat) (F : Nat → Prop) (μ : Mu) (H H' : Heap) (w : World) {α : Type} (r : Result α) (R : Mu → α → Prop) : Prop :=
  ∃ a w' μ', r = .ok a w' ∧ MuLe μ μ' ∧ (∀ b, (b < H.length ∨ H'.length ≤ b) → μ' b = μ b) ∧ HR base F μ' H' w' ∧ Fr base F w w' ∧ R μ' a

theorem Step.same {α : Type} {r : Result α} {R : Mu → α → Prop} {a : α} (h : HR base F μ H w) (hr : r = .ok a w) (hR : R μ a) : Step base F μ H H w r R :=
  ⟨a, w, μ, hr, MuLe.refl _, fun _ _ => rfl, h, Fr.refl _ _ _, hR⟩

theorem step_newRow (h : HR base F μ H w) (hfree : μ H.length = none) {cs cs' : List Value} (hcs : VRs μ cs cs') (sz : Nat) (e : TypeId) {α : Type} {R : Mu → α → Prop} {r : Result α} {a : α}
    (hr : r = .ok a (w.alloc (.cells cs'.toArray e (0, 0)))) (hR : ∀ ν, MuLe μ ν → ν H.length = some ⟨w.heap.size, 0, cs'.length, sz⟩ → R ν a) : Step base F μ H (H ++ [.row sz cs true true]) w r R := by
  refine ⟨a, _, _, hr, Mu.le_set hfree, fun b hb => Mu.set_ne _ _ (by simp at hb; omega), HR.new h hfree cs'.toArray e (0, 0) sz cs (fun i _ => by simp) (fun i v hv => ?_), Fr.alloc _ h.base_le h.far, hR _ (Mu.le_set hfree) ?_⟩
  · obtain ⟨v', a, b⟩ := hcs.get i v hv
    exact ⟨v', by simpa using a, b⟩
  · rw [Mu.set_same]; simp

theorem vBox_ok (ag : Agree P T) (h : HR base F μ H w) (hfree : μ H.length = none) {e : TypeId} {v v' x : Value} {H' : Heap} (hv : VR μ v v') (hb : vBox T H e v = some (x, H')) :
    Step base F μ H H' w ((Instr.box e v').run P w) fun ν a => VR ν x a := by
  unfold vBox newRow at hb
  split at hb
  · simp at hb
  · rename_i ht
    rw [Option.map_eq_some_iff] at hb
    obtain ⟨i, hi, hb⟩ := hb
    simp only [Prod.mk.injEq] at hb
    obtain ⟨rfl, rfl⟩ := hb
    have hc := hv.cells (notTuple (by simpa using ht))
    refine step_newRow h hfree hc i.size e (a := .pointer (some ⟨w.heap.size, 0, none⟩)) ?_ ?_
    · have : v'.cells = (cellsOf v').toArray := by rw [← cellsOf_cells]
      simp [Instr.box, newVar, Go.newRow, this]
    · intro ν hm hl
      simpa using VR.ptr (o := 0) hl

theorem readCells_ok (h : HR base F μ H w) {b o n : Nat} {cs : List Value} {l : Loc} (hr : readCells H b o n = some cs) (hl : μ b = some l) :
    cs.length = n ∧ ∃ cs', VRs μ cs cs' ∧ ∀ j v, cs'[j]? = some v → w.cell? ⟨l.blk, l.sh + o + j, none⟩ = some v := by
  unfold readCells at hr
  split at hr
  · rename_i sz all own heq
    split at hr <;> simp at hr
    subst hr
    rename_i hle
    have hcell : ∀ (i : Nat) (v : Value), all[i]? = some v → ∃ v', w.cell? ⟨l.blk, l.sh + i, none⟩ = some v' ∧ VR μ v v' := by
      cases own with
      | true =>
        obtain ⟨_, _, _, arr, e, fr, g1, g2, g3, g4⟩ := h.own b _ _ l heq hl
        intro i v hv
        obtain ⟨v', a, c⟩ := g4 i v hv
        exact ⟨v', by simp [World.cell?, g1, a], c⟩
      | false => exact (h.ro b _ _ l heq hl).2.2
    refine ⟨by simp; omega, ?_⟩
    have hex : ∃ f : Nat → Value, ∀ j, j < n → w.cell? ⟨l.blk, l.sh + (o + j), none⟩ = some (f j) ∧ VR μ (all.getD (o + j) Go.undef) (f j) := by
      refine ⟨fun j => (w.cell? ⟨l.blk, l.sh + (o + j), none⟩).getD Go.undef, fun j hj => ?_⟩
      have hlt : o + j < all.length := by omega
      obtain ⟨v', a, c⟩ := hcell (o + j) all[o + j] (List.getElem?_eq_getElem hlt)
      exact ⟨by simp [a], by simpa [a, List.getD_eq_getElem?_getD, List.getElem?_eq_getElem hlt] using c⟩
    obtain ⟨f, hf⟩ := hex
    refine ⟨(List.range n).map f, VRs.of_get (by simp; omega) (fun i v hv => ?_), fun j v hv => ?_⟩
    · rw [List.getElem?_take] at hv
      split at hv
      · rename_i hi
        rw [List.getElem?_drop] at hv
        refine ⟨f i, by simp [hi], ?_⟩
        have := (hf i hi).2
        rwa [List.getD_eq_getElem?_getD, hv] at this
      · simp at hv
    · have hj : j < n := by
        have := (List.getElem?_eq_some_iff.1 hv).1
        simpa using this
      simp [hj] at hv
      subst hv
      rw [Nat.add_assoc]
      exact (hf j hj).1
  · simp at hr

theorem vLoad_ok (ag : Agree P T) (h : HR base F μ H w) {t : TypeId} {a a' v : Value} (ha : VR μ a a') (hv : vLoad T H t a = some v) : ∃ v', (Instr.loadAt t a').run P w = .ok v' w ∧ VR μ v v' := by
  unfold vLoad at hv
  simp only [Option.bind_eq_bind, Option.bind_eq_some_iff] at hv
  obtain ⟨i, hi, hv⟩ := hv
  have ok := ag.ty t i hi
  split at hv
  · rename_i b o
    simp only [Option.bind_eq_some_iff] at hv
    obtain ⟨cs, hcs, hv⟩ := hv
    cases ha
    rename_i l hl
    obtain ⟨hlen, cs', hr, hcell⟩ := readCells_ok h hcs hl
    have hlen' : cs'.length = i.size := by rw [hr.length, hlen]
    have hadd : ∀ j, (⟨l.blk, l.sh + o, none⟩ : Addr).add j = ⟨l.blk, l.sh + o + j, none⟩ := fun j => by rw [add_loc, Nat.add_assoc]
    split at hv
    · rename_i hagg
      simp at hv; subst hv
      refine ⟨.agg cs'.toArray, ?_, .agg hr⟩
      have := run_loadCells_list (P := P) w ⟨l.blk, l.sh + o, none⟩ cs' (fun j v hj => by rw [hadd]; exact hcell j v hj)
      rw [hlen'] at this
      simp [Instr.loadAt, Instr.sureAddr, loadVar, ok.isAgg w, hagg, ok.sizeOf w, this]
    · rename_i hagg
      split at hv <;> simp at hv
      subst hv
      cases hr with
      | cons hv ht =>
        cases ht
        rename_i v'
        have hc := hcell 0 v' rfl
        simp only [Nat.add_zero] at hc
        refine ⟨v', ?_, hv⟩
        simp [Instr.loadAt, Instr.sureAddr, loadVar, ok.isAgg w, hagg, hc]
  · simp at hv

end Go.Proofs.Ytdhbclplondmjaa.C

/- Stores, slices made. -/
set_option linter.unusedVariables false
set_option linter.unusedSimpArgs false
namespace Go.Proofs.Ytdhbclplondmjaa.C
open Go.RowKit

variable {P : Program} {T : Tab} {μ : Mu} {base : Nat} {F : Nat → Prop} {H : Heap} {w : World}

theorem HR.stores : ∀ {vs vs' : List Value}, VRs μ vs vs' → ∀ {H : Heap} {w : World} {b sz : Nat} {cs : List Value} {l : Loc} (o : Nat), HR base F μ H w → H[b]? = some (.row sz cs true true) → μ b = some l →
    o + vs.length ≤ cs.length → HR base F μ (H.set b (.row sz (setCells cs o vs) true true)) (w.setCells l.blk (l.sh + o) vs')
  | _, _, .nil, H, w, b, sz, cs, l, o, h, hb, hl, hle => by
    simp only [setCells, World.setCells]
    have : H.set b (.row sz cs true true) = H := by
      apply List.ext_getElem?
      intro i
      rw [List.getElem?_set]
      split
      · rename_i e; subst e; split
        · exact hb.symm
        · rename_i hn; rw [List.getElem?_eq_none (by omega)]
      · rfl
    rw [this]
    exact h
  | _, _, .cons hv ht, H, w, b, sz, cs, l, o, h, hb, hl, hle => by
    rename_i v v' vs vs'
    simp only [List.length_cons] at hle
    have h1 := h.store hb hl o (by omega) hv
    have hblt : b < H.length := (List.getElem?_eq_some_iff.1 hb).1
    have h2 := HR.stores ht (H := H.set b (.row sz (cs.set o v) true true)) (b := b) (sz := sz) (cs := cs.set o v) (l := l) (o + 1) h1 (by simp [hblt]) hl (by simp; omega)
    simp only [setCells, World.setCells]
    rw [List.set_set] at h2
    rw [Nat.add_assoc]
    exact h2

theorem Fr.setCells {b : Nat} (hb : base ≤ b) (hf : ¬ F b) : ∀ (vs : List Value) (o : Nat) (w : World), Fr base F w (w.setCells b o vs)
  | [], _, _ => Fr.refl _ _ _
  | v :: vs, o, w => (Fr.setCell (w := w) ⟨b, o, none⟩ v hb hf).trans (Fr.setCells hb hf vs (o + 1) _)

theorem VRs.one : ∀ {vs vs' : List Value}, VRs μ vs vs' → vs.all oneCell = true → ∀ v ∈ vs', v.oneCell' = true
  | _, _, .nil, _, v, h => by simp at h
  | _, _, .cons hv ht, h, v, hm => by
    simp only [List.all_cons, Bool.and_eq_true] at h
    rcases List.mem_cons.1 hm with rfl | hm
    · exact hv.one h.1
    · exact VRs.one ht h.2 v hm

theorem writeCells_ok (h : HR base F μ H w) {b o : Nat} {vs vs' : List Value} {H' : Heap} {l : Loc} (hl : μ b = some l) (hvs : VRs μ vs vs') (hw : writeCells H b o vs = some H') :
    ∃ sz cs, H[b]? = some (.row sz cs true true) ∧ H'.length = H.length ∧ (storeCells ⟨l.blk, l.sh + o, none⟩ vs').run P w = .ok () (w.setCells l.blk (l.sh + o) vs') ∧ HR base F μ H' (w.setCells l.blk (l.sh + o) vs') ∧
      Fr base F w (w.setCells l.blk (l.sh + o) vs') := by
  unfold writeCells at hw
  split at hw
  · rename_i hone
    split at hw
    · rename_i sz cs heq
      split at hw <;> simp at hw
      subst hw
      rename_i hle
      obtain ⟨g1, g2, g3, arr, e, fr, a1, a2, a3, a4⟩ := h.own b sz cs l heq hl
      have hlen := hvs.length
      have hcell : ∀ j, j < vs'.length → ∃ v, arr[l.sh + (o + j)]? = some v := fun j hj => by
        obtain ⟨v', x, _⟩ := a4 (o + j) (cs[o + j]'(by omega)) (List.getElem?_eq_getElem (by omega))
        exact ⟨v', x⟩
      refine ⟨sz, cs, heq, by simp, ?_, h.stores hvs o heq hl hle, Fr.setCells g2 g3 _ _ _⟩
      have := run_storeCells_cells (P := P) l.blk (l.sh + o) vs' 0 w (fun j hj => ?_) (fun j hj => ?_) (hvs.one hone)
      · simpa using this
      · obtain ⟨v, hv⟩ := hcell j hj
        simp [World.cell?, a1, show l.sh + o + j = l.sh + (o + j) by omega, hv]
      · obtain ⟨v, hv⟩ := hcell j hj
        have hlt := (Array.getElem?_eq_some_iff.1 hv).1
        have hn := a3 _ hlt
        simp only [World.frozen?, a1, Nat.add_zero, show l.sh + o + j = l.sh + (o + j) by omega, Bool.and_eq_false_iff, decide_eq_false_iff_not]
        by_cases q : fr.1 ≤ l.sh + (o + j)
        · exact .inr fun r => hn ⟨q, r⟩
        · exact .inl q
    · simp at hw
  · simp at hw

theorem vStore_ok (ag : Agree P T) (h : HR base F μ H w) {t : TypeId} {a a' v v' : Value} {H' : Heap} (ha : VR μ a a') (hv : VR μ v v') (hs : vStore T H t a v = some H') :
    H'.length = H.length ∧ Step base F μ H H' w ((Instr.storeAt t a' v').run P w) fun _ _ => True := by
  unfold vStore at hs
  simp only [Option.bind_eq_bind, Option.bind_eq_some_iff] at hs
  obtain ⟨i, hi, hs⟩ := hs
  have ok := ag.ty t i hi
  split at hs
  · rename_i b o
    split at hs
    · rename_i hlen
      cases ha
      rename_i l hl
      have hone : (cellsOf v).all oneCell = true := by unfold writeCells at hs; split at hs <;> first | assumption | simp at hs
      have hnt : v ≠ Go.undef := by rintro rfl; simp [cellsOf, oneCell, Go.undef] at hone
      have hc := hv.cells hnt
      obtain ⟨sz, cs, heq, hlen2, hrun, hr, hfr⟩ := writeCells_ok (P := P) h hl hc hs
      refine ⟨hlen2, (), _, μ, ?_, MuLe.refl _, fun _ _ => rfl, hr, hfr, trivial⟩
      have hsz : v'.cells.size = i.size := by rw [← hlen, ← hc.length, ← cellsOf_cells]; simp
      simp [Instr.storeAt, Instr.sureAddr, storeVar, ok.sizeOf w, hsz, cellsOf_cells, hrun]
    · simp at hs
  · simp at hs

theorem repCells_length (z : List Value) : ∀ n, (repCells z n).length = n * z.length
  | 0 => by simp [repCells]
  | n + 1 => by simp [repCells, repCells_length z n, Nat.add_mul]; omega

theorem repCells_get (z : List Value) : ∀ (n i : Nat), i < n * z.length → (repCells z n)[i]? = z[i % z.length]?
  | 0, i, h => by simp at h
  | n + 1, i, h => by
    simp only [repCells]
    by_cases hi : i < z.length
    · rw [List.getElem?_append_left hi, Nat.mod_eq_of_lt hi]
    · rw [List.getElem?_append_right (by omega), repCells_get z n _ (by rw [Nat.add_mul] at h; omega)]
      congr 1
      rw [← Nat.mod_eq_sub_mod (by omega)]

theorem rangeMap_rep (z : List Value) (m : Nat) : (Array.range (m * z.length)).map (fun i => (z[i % z.length]?).getD default) = (repCells z m).toArray := by
  apply Array.ext'
  apply List.ext_getElem?
  intro i
  by_cases hi : i < m * z.length
  · rw [show (repCells z m).toArray.toList = repCells z m from rfl, repCells_get z m i hi]
    have hz : 0 < z.length := by
      rcases Nat.eq_zero_or_pos z.length with h | h
      · rw [h] at hi; simp at hi
      · exact h
    have hmod : i % z.length < z.length := Nat.mod_lt _ hz
    simp [hi, hmod]
  · rw [List.getElem?_eq_none (by simp; omega), List.getElem?_eq_none (by simp [repCells_length]; omega)]

theorem range_zero : (Array.range 0).map (fun _ => (default : Value)) = #[] := by
  apply Array.ext'; simp

theorem VRs.rep {z z' : List Value} (h : VRs μ z z') : ∀ n, VRs μ (repCells z n) (repCells z' n)
  | 0 => .nil
  | n + 1 => h.append (VRs.rep h n)

theorem vBuildSlice_ok (ag : Agree P T) (h : HR base F μ H w) (hfree : μ H.length = none) {t : TypeId} {n : Nat} {parts parts' : List (Nat × Value)} {x : Value} {H' : Heap} (hb : vBuildSlice T H t n parts = some (x, H'))
    (h1 : parts'.map (·.1) = parts.map (·.1)) (h2 : VRs μ (parts.map (·.2)) (parts'.map (·.2))) : Step base F μ H H' w ((Instr.buildSlice t n parts'.toArray).run P w) fun ν a => VR ν x a := by
  unfold vBuildSlice at hb
  simp only [Option.bind_eq_bind, Option.bind_eq_some_iff] at hb
  obtain ⟨i, hi, hb⟩ := hb
  have ok := ag.ty t i hi
  obtain ⟨d, hd, hu⟩ := ok.und
  split at hb
  · rename_i el hdesc
    simp only [Option.bind_eq_some_iff] at hb
    obtain ⟨ei, hei, hb⟩ := hb
    split at hb
    · simp at hb
    · rename_i hbig
      simp only [Option.bind_eq_some_iff] at hb
      obtain ⟨cs, hcs, hb⟩ := hb
      simp only [Option.some.injEq, Prod.mk.injEq] at hb
      obtain ⟨rfl, rfl⟩ := hb
      rw [hdesc] at hu
      simp only [DescOk] at hu
      subst hu
      have oke := ag.ty el ei hei
      have hz : VRs μ (cellsOf ei.zero) (cellsOf ei.zero) := VRs.refl_of fun u hu => plain_vr μ (oke.plains u hu)
      obtain ⟨cs', hfill, hr⟩ := fill_ok (fun j => some (j * ei.size, ei.size)) hcs h1 h2 (hz.rep n)
      have hzc : ei.zero.cells = (cellsOf ei.zero).toArray := by rw [← cellsOf_cells]
      have hlen : cs'.length = cs.length := hr.length
      have hcl : cs.length = n * ei.size := by
        have : ∀ {parts : List (Nat × Value)} {c cs : List Value}, fillParts (fun j => some (j * ei.size, ei.size)) c parts = some cs → cs.length = c.length := by
          intro parts
          induction parts with
          | nil => intro c cs h; simp [fillParts] at h; rw [h]
          | cons p rest ih =>
            intro c cs h
            obtain ⟨j, v⟩ := p
            simp only [fillParts] at h
            split at h
            · rw [ih h, setCells_length]
            · simp at h
        rw [this hcs, repCells_length, oke.cells]
      refine step_newRow h hfree hr ei.size el (a := .slice (some ⟨w.heap.size, 0, none⟩) n n) ?_ ?_
      · have hrep := rangeMap_rep (cellsOf ei.zero) n
        by_cases hn0 : n * ei.size = 0
        · have hrep0 : repCells (cellsOf ei.zero) n = [] := List.eq_nil_of_length_eq_zero (by rw [repCells_length, oke.cells, hn0])
          rw [hrep0] at hfill
          simp [Instr.buildSlice, run_underlying hd, oke.sizeOf w, hn0, Go.newRow, range_zero, hfill]
        · rw [oke.cells] at hrep
          simp [Instr.buildSlice, run_underlying hd, oke.sizeOf w, hn0, oke.zero w, hzc, Go.newRow, show ¬ (16777216 < n * ei.size) by omega, oke.cells]
          rw [hrep, hfill]
          simp
      · intro ν hm hl
        have := VR.slice (n := n) (c := n) (c' := n) (o := 0) hl (Nat.le_refl _) (.inr rfl) (by simp [hlen, hcl])
        simpa using this
  · simp at hb

end Go.Proofs.Ytdhbclplondmjaa.C

/- make and append. -/
set_option linter.unusedVariables false
set_option linter.unusedSimpArgs false
namespace Go.Proofs.Ytdhbclplondmjaa.C
open Go.RowKit

variable {P : Program} {T : Tab} {μ : Mu} {base : Nat} {F : Nat → Prop} {H : Heap} {w : World}

theorem wrap_id {n : Int} (h0 : 0 ≤ n) (h1 : n ≤ 2 ^ 40) : IntKind.i64.wrap n = n := by
  have h2 : (2 : Int) ^ 40 = 1099511627776 := by decide
  rw [h2] at h1
  exact IntWalk.i64_in n ⟨by omega, by omega⟩

theorem vMakeSlice_ok (ag : Agree P T) (h : HR base F μ H w) (hfree : μ H.length = none) {t : TypeId} {n c n' c' x : Value} {H' : Heap} (hn : VR μ n n') (hc : VR μ c c') (hb : vMakeSlice T H t n c = some (x, H')) :
    Step base F μ H H' w ((Instr.makeSlice t n' c').run P w) fun ν a => VR ν x a := by
  unfold vMakeSlice at hb
  simp only [Option.bind_eq_bind, Option.bind_eq_some_iff] at hb
  obtain ⟨i, hi, hb⟩ := hb
  have ok := ag.ty t i hi
  obtain ⟨d, hd, hu⟩ := ok.und
  split at hb
  · rename_i el l m hdesc
    simp only [Option.bind_eq_some_iff] at hb
    obtain ⟨ei, hei, hb⟩ := hb
    split at hb <;> simp only [Option.some.injEq, Prod.mk.injEq, reduceCtorEq] at hb
    obtain ⟨rfl, rfl⟩ := hb
    rename_i hcond
    obtain ⟨g1, g2, g3, g4, g5⟩ := hcond
    rw [hdesc] at hu
    simp only [DescOk] at hu
    subst hu
    have oke := ag.ty el ei hei
    obtain ⟨inf, e1, e2, e3, e4⟩ := oke.info
    have hz : VRs μ (cellsOf ei.zero) (cellsOf ei.zero) := VRs.refl_of fun u hu => plain_vr μ (oke.plains u hu)
    have hzc : ei.zero.cells = (cellsOf ei.zero).toArray := by rw [← cellsOf_cells]
    cases hn; cases hc
    have w1 := wrap_id (n := l) g1 (by omega)
    have w2 := wrap_id (n := m) (by omega) g5
    have hbig : ¬ (281474976710656 < (ei.bytes : Int) * m) := by
      have : (ei.bytes : Int) * m ≤ 2 ^ 40 := by rw [Int.mul_comm]; exact g3
      have h2 : (2 : Int) ^ 40 = 1099511627776 := by decide
      rw [h2] at this
      omega
    refine step_newRow h hfree (hz.rep m.toNat) ei.size el (a := .slice (some ⟨w.heap.size, 0, none⟩) l.toNat m.toNat) ?_ ?_
    · have hrep := rangeMap_rep (cellsOf ei.zero) m.toNat
      rw [oke.cells] at hrep
      have hcond1 : ¬ (m < 0) := by omega
      have hcond2 : ¬ (l < 0) := by omega
      have hcond3 : ¬ (m < l) := by omega
      by_cases hn0 : m.toNat * ei.size = 0
      · have hrep0 : repCells (cellsOf ei.zero) m.toNat = [] := List.eq_nil_of_length_eq_zero (by rw [repCells_length, oke.cells, hn0])
        rw [hrep0]
        simp [Instr.makeSlice, run_underlying hd, asInt, asIntOf, run_typeInfo' e1, e4, w1, w2, hcond1, hcond2, hcond3, hbig, oke.sizeOf w, hn0, Go.newRow, range_zero]
      · simp [Instr.makeSlice, run_underlying hd, asInt, asIntOf, run_typeInfo' e1, e4, w1, w2, hcond1, hcond2, hcond3, hbig, oke.sizeOf w, hn0, Go.newRow, oke.zero w, hzc, oke.cells]
        rw [hrep]
    · intro ν hm hl
      have := VR.slice (n := l.toNat) (c := m.toNat) (c' := m.toNat) (o := 0) hl (by omega) (.inr rfl) (by simp [repCells_length, oke.cells])
      simpa using this
  · simp at hb

/-- The cells that are appended. -/
structure Src (P : Program) (w : World) (size m : Nat) (y' : Value) (news : List Value) : Prop where
  form : ∃ a c, y' = .slice a m c ∧ (0 < m → ∃ ad, a = some ad ∧ ∀ j v, news[j]? = some v → w.cell? (ad.add j) = some v)
  len : news.length = m * size

theorem src_ok (h : HR base F μ H w) {a2 : Option Addr} {m c2 size : Nat} {y' : Value} {new : List Value} (hy : VR μ (.slice a2 m c2) y')
    (hnew : srcCells H a2 m size = some new) :
    ∃ news, VRs μ new news ∧ Src P w size m y' news := by
  unfold srcCells at hnew
  cases hy with
  | nilSlice =>
    simp at hnew; subst hnew
    exact ⟨[], .nil, ⟨none, 0, rfl, fun h0 => by omega⟩, by simp⟩
  | sliceZ p p' =>
    obtain ⟨b, o, sp⟩ := p
    cases sp <;> simp at hnew
    subst hnew
    exact ⟨[], .nil, ⟨some p', 0, rfl, fun h0 => by omega⟩, by simp⟩
  | sliceE p p' =>
    obtain ⟨b, o, sp⟩ := p
    cases sp <;> simp at hnew
    subst hnew
    exact ⟨[], .nil, ⟨some p', 0, rfl, fun h0 => by omega⟩, by simp⟩
  | slice hl hn hc ht =>
    rename_i b o c' l
    simp only at hnew
    split at hnew
    · rename_i hm0
      simp at hnew; subst hnew
      exact ⟨[], .nil, ⟨_, c', rfl, fun h0 => by omega⟩, by simp [hm0]⟩
    · obtain ⟨hlen, cs', hr, hcell⟩ := readCells_ok h hnew hl
      refine ⟨cs', hr, ⟨_, c', rfl, fun _ => ⟨_, rfl, fun j v hj => ?_⟩⟩, by rw [hr.length, hlen]⟩
      rw [add_loc, ← Nat.add_assoc]
      exact hcell j v hj

theorem Src.first {size m : Nat} {y' : Value} {news : List Value} (hs : Src P w size m y' news) (w' : World) (hw : ∀ a, w'.cell? a = w.cell? a) : (Builtin.firstCells size m y').run P w' = .ok news.toArray w' := by
  obtain ⟨⟨a, c, rfl, hm⟩, hlen⟩ := hs
  rcases Nat.eq_zero_or_pos m with h0 | h0
  · subst h0
    have : news = [] := List.eq_nil_of_length_eq_zero (by simpa using hlen)
    subst this
    cases a <;> simp [Builtin.firstCells, loadCells, loadCellsFrom]
  · obtain ⟨ad, rfl, hc⟩ := hm h0
    have := run_loadCells_list (P := P) w' ad news (fun j v hj => by rw [hw]; exact hc j v hj)
    rw [hlen] at this
    simp [Builtin.firstCells, this]

theorem run_room (ag : Agree P T) {t e : TypeId} {ei : TI} (ht : P.underlying t = some (.slice e)) (he : T.T e = some ei) {ty : TypeId} {b o n m c : Nat} {y' : Value} {news : List Value} (hs : Src P w ei.size m y' news) (hle : n + m ≤ c)
    {w2 : World} (hst : (storeCells ⟨b, o + n * ei.size, none⟩ news).run P w = .ok () w2) :
    (Builtin.append_ #[t, t] ty #[.slice (some ⟨b, o, none⟩) n c, y']).run P w = .ok (.slice (some ⟨b, o, none⟩) (n + m) c) w2 := by
  have oke := ag.ty e ei he
  have hf := hs.first w (fun _ => rfl)
  obtain ⟨⟨a, c2, rfl, hm⟩, hlen⟩ := hs
  have hadd : (⟨b, o, none⟩ : Addr).add (n * ei.size) = ⟨b, o + n * ei.size, none⟩ := by unfold Addr.add; split <;> simp_all
  simp [Builtin.append_, run_underlying ht, oke.sizeOf w, Builtin.lenOf, hle, hf, hadd, hst]

theorem run_zero (ag : Agree P T) {t e : TypeId} {ei : TI} (ht : P.underlying t = some (.slice e)) (he : T.T e = some ei) {ty : TypeId} {a : Option Addr} {c : Nat} {y' : Value} {news : List Value} (hs : Src P w ei.size 0 y' news) :
    (Builtin.append_ #[t, t] ty #[.slice a 0 c, y']).run P w = .ok (.slice a 0 c) w := by
  have oke := ag.ty e ei he
  have hf := hs.first w (fun _ => rfl)
  obtain ⟨⟨a2, c2, rfl, hm⟩, hlen⟩ := hs
  have : news = [] := List.eq_nil_of_length_eq_zero (by simpa using hlen)
  subst this
  cases a <;> simp [Builtin.append_, run_underlying ht, oke.sizeOf w, Builtin.lenOf, hf, storeCells]

/-- A row that grew: the machine's new block. -/
theorem step_grow (h : HR base F μ H w) (hfree : μ H.length = none) {cs cs' : List Value} (hcs : VRs μ cs cs') (sz n : Nat) (e : TypeId) (hlen : cs.length = n * sz) (z : Array Value) (hz : z.size = sz) (c : Nat) (hc : n ≤ c) {H1 : Heap}
    (h1 : HR base F μ H1 w) (hl1 : H1.length = H.length) {r : Result Value}
    (hr : r = .ok (.slice (some ⟨w.heap.size, 0, none⟩) n c) (w.drew.alloc (.cells (cs'.toArray ++ Builtin.zeroCells z (c - n)) e (0, 0)))) :
    Step base F μ H (H1 ++ [.row sz cs true true]) w r fun ν a => VR ν (.slice (some ⟨H.length, 0, none⟩) n unk) a := by
  have hfree1 : μ H1.length = none := by rw [hl1]; exact hfree
  have hsz : (cs'.toArray ++ Builtin.zeroCells z (c - n)).size = c * sz := by
    simp [size_zeroCells, hz, hcs.length, hlen, ← Nat.add_mul]
    congr 1; omega
  refine ⟨_, _, _, hr, Mu.le_set hfree1, fun b hb => Mu.set_ne _ _ (by simp at hb; omega), HR.new h1.drew hfree1 (cs'.toArray ++ Builtin.zeroCells z (c - n)) e (0, 0) sz cs (fun i _ => by simp) (fun i v hv => ?_), (Fr.drew).trans (Fr.alloc _ h.base_le h.far), ?_⟩
  · obtain ⟨v', a, b⟩ := hcs.get i v hv
    have hlt : i < cs'.length := (List.getElem?_eq_some_iff.1 a).1
    exact ⟨v', by rw [Array.getElem?_append_left (by simpa using hlt)]; simpa using a, b⟩
  · have hl : (μ.set H1.length ⟨w.drew.heap.size, 0, (cs'.toArray ++ Builtin.zeroCells z (c - n)).size, sz⟩) H.length = some ⟨w.heap.size, 0, (cs'.toArray ++ Builtin.zeroCells z (c - n)).size, sz⟩ := by
      rw [← hl1, Mu.set_same]; rfl
    have := VR.slice (n := n) (c := unk) (c' := c) (o := 0) hl hc (.inl rfl) (by simp only [hsz]; omega)
    simpa using this

/-- The abstract memory, with a block of which nothing is known. -/
theorem HR.spare (h : HR base F μ H w) (hfree : μ H.length = none) (x : Blk) : HR base F μ (H ++ [x]) w := by
  have key : ∀ {b : Nat} {y : Blk} {l : Loc}, (H ++ [x])[b]? = some y → μ b = some l → H[b]? = some y := by
    intro b y l hb hl
    rw [getElem?_snoc] at hb
    by_cases e : b = H.length
    · subst e; rw [hfree] at hl; simp at hl
    · rwa [if_neg e] at hb
  exact ⟨fun b sz cs l hb hl => h.own b sz cs l (key hb hl) hl, fun b sz cs l hb hl => h.ro b sz cs l (key hb hl) hl, fun b es l hb hl => h.maps b es l (key hb hl) hl,
    fun b b' k k' l l' hb hb' hk hk' hne hl hl' => h.inj b b' k k' l l' (key hb hl) (key hb' hl') hk hk' hne hl hl', h.far, h.base_le⟩

theorem fits {n m c bytes : Nat} (hg : c < n + m) (hb : (n + m) * bytes ≤ 2 ^ 40) : Builtin.nextslicecap (n + m) c * bytes ≤ 281474976710656 := growslice_fits hg (by omega)

/-- Growing: the machine's answer. -/
theorem run_grow (ag : Agree P T) {t e : TypeId} {ei : TI} (ht : P.underlying t = some (.slice e)) (he : T.T e = some ei) {ty : TypeId} {a : Addr} {n m c : Nat} {y' : Value} {olds news : List Value} (hs : Src P w ei.size m y' news)
    (hlo : olds.length = n * ei.size) (holds : ∀ j v, olds[j]? = some v → w.cell? (a.add j) = some v) (hg : c < n + m) (hn : n ≤ c) (h1 : (n + m) * ei.bytes ≤ 2 ^ 40) (h2 : n + m ≤ 2 ^ 40) :
    ∃ c', n + m ≤ c' ∧ (Builtin.append_ #[t, t] ty #[.slice (some a) n c, y']).run P w =
      .ok (.slice (some ⟨w.heap.size, 0, none⟩) (n + m) c') (w.drew.alloc (.cells ((olds ++ news).toArray ++ Builtin.zeroCells (cellsOf ei.zero).toArray (c' - (n + m))) e (0, 0))) := by
  have oke := ag.ty e ei he
  obtain ⟨inf, e1, e2, e3, e4⟩ := oke.info
  obtain ⟨⟨a2, c2, rfl, hm⟩, hlen⟩ := hs
  obtain ⟨ad, rfl, hc⟩ := hm (by omega)
  refine ⟨grownCap w (n + m) c e, grownCap_ge _ _ _ _, ?_⟩
  have := run_append_grow (P := P) (w := w) t ty e inf ei.zero ht e1 e2 a n c olds (by rw [hlo, e3]) holds ad m c2 news (by rw [hlen, e3]) hc hg (by omega) (by rw [e4]; exact fits hg h1)
  rw [this]
  have hzc : ei.zero.cells = (cellsOf ei.zero).toArray := by rw [← cellsOf_cells]
  simp [hzc]

theorem run_first (ag : Agree P T) {t e : TypeId} {ei : TI} (ht : P.underlying t = some (.slice e)) (he : T.T e = some ei) {ty : TypeId} {m : Nat} {y' : Value} {news : List Value} (hs : Src P w ei.size m y' news)
    (hg : 0 < m) (h1 : m * ei.bytes ≤ 2 ^ 40) (h2 : m ≤ 2 ^ 40) :
    ∃ c', m ≤ c' ∧ (Builtin.append_ #[t, t] ty #[.slice none 0 0, y']).run P w =
      .ok (.slice (some ⟨w.heap.size, 0, none⟩) m c') (w.drew.alloc (.cells (news.toArray ++ Builtin.zeroCells (cellsOf ei.zero).toArray (c' - m)) e (0, 0))) := by
  have oke := ag.ty e ei he
  obtain ⟨inf, e1, e2, e3, e4⟩ := oke.info
  obtain ⟨⟨a2, c2, rfl, hm⟩, hlen⟩ := hs
  obtain ⟨ad, rfl, hc⟩ := hm hg
  refine ⟨grownCap w m 0 e, grownCap_ge _ _ _ _, ?_⟩
  have := run_append_nil (P := P) (w := w) t ty e inf ei.zero ht e1 e2 ad m c2 news (by rw [hlen, e3]) hc hg (by omega) (by rw [e4]; omega)
  rw [this]
  have hzc : ei.zero.cells = (cellsOf ei.zero).toArray := by rw [← cellsOf_cells]
  simp [hzc]

end Go.Proofs.Ytdhbclplondmjaa.C

/- append. -/
set_option linter.unusedVariables false
set_option linter.unusedSimpArgs false
namespace Go.Proofs.Ytdhbclplondmjaa.C
open Go.RowKit

variable {P : Program} {T : Tab} {μ : Mu} {base : Nat} {F : Nat → Prop} {H : Heap} {w : World}

theorem VRs.nil_eq {l' : List Value} (h : VRs μ [] l') : l' = [] := by cases h; rfl

theorem mul_bytes {a b c d : Nat} (h : a * b ≤ c) (h2 : d ≤ a) : d * b ≤ c := Nat.le_trans (Nat.mul_le_mul_right b h2) h

theorem setCells_block : ∀ (b : Nat) (e : TypeId) (fr : Nat × Nat) (vs : List Value) (o : Nat) (arr : Array Value) (w : World), w.heap[b]? = some (.cells arr e fr) →
    ∃ arr2, (w.setCells b o vs).heap[b]? = some (.cells arr2 e fr) ∧ arr2.size = arr.size ∧ (∀ i, (i < o ∨ o + vs.length ≤ i) → arr2[i]? = arr[i]?) ∧ (∀ j, j < vs.length → o + j < arr.size → arr2[o + j]? = vs[j]?)
  | b, e, fr, [], o, arr, w, h => ⟨arr, h, rfl, fun _ _ => rfl, fun j hj => by simp at hj⟩
  | b, e, fr, v :: vs, o, arr, w, h => by
    have h1 : (w.setCell ⟨b, o, none⟩ v).heap[b]? = some (.cells (arr.setIfInBounds o v) e fr) := by simp [World.setCell, Array.getElem?_modify, h]
    obtain ⟨arr2, a1, a2, a3, a4⟩ := setCells_block b e fr vs (o + 1) _ _ h1
    refine ⟨arr2, a1, by simpa using a2, fun i hi => ?_, fun j hj hlt => ?_⟩
    · simp only [List.length_cons] at hi
      rw [a3 i (by omega), Array.getElem?_setIfInBounds_ne (by omega)]
    · cases j with
      | zero =>
        simp only [Nat.add_zero] at hlt ⊢
        rw [a3 o (by omega)]
        simp [hlt]
      | succ j =>
        simp only [List.length_cons] at hj
        have := a4 j (by omega) (by simp; omega)
        simpa [Nat.add_assoc, Nat.add_comm 1 j] using this

/-- Append to nothing with something. -/
theorem append_first (ag : Agree P T) (h : HR base F μ H w) (hfree : μ H.length = none) {t ty e : TypeId} {ei : TI} (ht : P.underlying t = some (.slice e)) (he : T.T e = some ei) {x' y' : Value} {m : Nat} {new news : List Value}
    (hx : VR μ (.slice none 0 0) x' ∨ ∃ a, x' = .slice (some a) 0 0) (hs : Src P w ei.size m y' news) (hr : VRs μ new news) (hm : 0 < m) (h1 : m * ei.bytes ≤ 2 ^ 40) (h2 : m ≤ 2 ^ 40) {H1 : Heap} (h3 : HR base F μ H1 w) (hl1 : H1.length = H.length) :
    Step base F μ H (H1 ++ [.row ei.size new true true]) w ((Builtin.append_ #[t, t] ty #[x', y']).run P w) fun ν a => VR ν (.slice (some ⟨H.length, 0, none⟩) m unk) a := by
  have oke := ag.ty e ei he
  have hlen : new.length = m * ei.size := by rw [← hr.length]; exact hs.len
  rcases hx with hx | ⟨a, rfl⟩
  · cases hx
    obtain ⟨c', hc, hrun⟩ := run_first ag ht he (ty := ty) hs hm h1 h2
    exact step_grow h hfree hr ei.size m e hlen _ (by simp [oke.cells]) c' hc h3 hl1 hrun
  · obtain ⟨c', hc, hrun⟩ := run_grow ag ht he (ty := ty) (a := a) (n := 0) (c := 0) (olds := []) hs (by simp) (by simp) (by omega) (Nat.le_refl _) (by simpa using h1) (by omega)
    rw [Nat.zero_add] at hc
    simp only [Nat.zero_add, List.nil_append] at hrun
    exact step_grow h hfree hr ei.size m e hlen _ (by simp [oke.cells]) c' hc h3 hl1 hrun

theorem vAppend_ok (ag : Agree P T) (h : HR base F μ H w) {t ty : TypeId} {x y x' y' r : Value} {H' : Heap} (hfree : H.length < H'.length → μ H.length = none) (hx : VR μ x x') (hy : VR μ y y') (hb : vAppend T H t x y = some (r, H')) :
    Step base F μ H H' w ((Builtin.append_ #[t, t] ty #[x', y']).run P w) fun ν a => VR ν r a := by
  unfold vAppend at hb
  simp only [Option.bind_eq_bind, Option.bind_eq_some_iff] at hb
  obtain ⟨i, hi, hb⟩ := hb
  have ok := ag.ty t i hi
  obtain ⟨d, hd, hu⟩ := ok.und
  split at hb
  · rename_i el a n c a2 m c2 hdesc
    rw [hdesc] at hu
    simp only [DescOk] at hu
    subst hu
    simp only [Option.bind_eq_some_iff] at hb
    obtain ⟨ei, hei, hb⟩ := hb
    split at hb
    · rename_i hcond
      obtain ⟨g1, g2, g3, g4⟩ := hcond
      simp only [Option.bind_eq_some_iff] at hb
      obtain ⟨new, hnew, hb⟩ := hb
      obtain ⟨news, hr, hs⟩ := src_ok (P := P) h (size := ei.size) hy hnew
      have oke := ag.ty el ei hei
      have hlen : new.length = m * ei.size := by rw [← hr.length]; exact hs.len
      split at hb
      · rename_i hone
        split at hb
        · rename_i hz
          obtain ⟨rfl, rfl⟩ := hz
          simp only [Nat.zero_add] at g3 g4
          have hx' : VR μ (.slice none 0 0) x' ∨ ∃ a, x' = .slice (some a) 0 0 := by
            cases hx with
            | nilSlice => exact .inl .nilSlice
            | sliceZ a a' => exact .inr ⟨_, rfl⟩
            | slice hl hn hc ht =>
              rcases hc with hc | hc
              · simp [unk] at hc
              · subst hc; exact .inr ⟨_, rfl⟩
          split at hb
          · rename_i hm0
            subst hm0
            simp only [Option.some.injEq, Prod.mk.injEq] at hb
            obtain ⟨rfl, rfl⟩ := hb
            refine Step.same h ?_ hx
            rcases hx' with hx' | ⟨a, rfl⟩
            · cases hx'; exact run_zero ag hd hei hs
            · exact run_zero ag hd hei hs
          · rename_i hm0
            simp only [Option.some.injEq, Prod.mk.injEq] at hb
            obtain ⟨rfl, rfl⟩ := hb
            replace hfree := hfree (by simp)
            exact append_first ag h hfree hd hei hx' hs hr (by omega) g3 g4 h rfl
        · rename_i hnz
          split at hb
          · rename_i b o
            split at hb
            · rename_i hunk
              subst hunk
              split at hb
              · rename_i sz cs heq
                split at hb
                · rename_i hcond2
                  obtain ⟨rfl, hle⟩ := hcond2
                  simp only [Option.some.injEq, Prod.mk.injEq] at hb
                  obtain ⟨rfl, rfl⟩ := hb
                  replace hfree := hfree (by simp)
                  have hk := h.kill b heq
                  have hkl : (H.set b (Blk.row ei.size cs true false)).length = H.length := by simp
                  have hkf : μ (H.set b (Blk.row ei.size cs true false)).length = none := by rw [hkl]; exact hfree
                  cases hx with
                  | sliceE p p' =>
                    rw [Nat.zero_add] at g3 g4
                    simp only [Nat.zero_add, Nat.zero_mul, List.take_zero, List.nil_append]
                    rcases Nat.eq_zero_or_pos m with hm0 | hm0
                    · subst hm0
                      exact ⟨_, w, μ, run_zero ag hd hei hs, MuLe.refl _, fun _ _ => rfl, hk.spare hkf _, Fr.refl _ _ _, .sliceE _ _⟩
                    · exact append_first ag h hfree hd hei (.inr ⟨_, rfl⟩) hs hr hm0 g3 g4 hk hkl
                  | slice hl hn hc ht =>
                    rename_i c' l
                    obtain ⟨q1, q2, q3, arr, ety, fr, a1, a2', a3, a4⟩ := h.own b _ _ l heq hl
                    obtain ⟨olen, olds, hor, hocell⟩ := readCells_ok h (o := o) (n := n * ei.size) (cs := (cs.drop o).take (n * ei.size)) (by unfold readCells; rw [heq]; simp [hle]) hl
                    have hnol : ∀ b' k l', (H.set b (Blk.row ei.size cs true false))[b']? = some k → k.mine = true → μ b' = some l' → l'.blk ≠ l.blk := by
                      intro b' k l' hb' hk' hl'
                      rw [List.getElem?_set] at hb'
                      by_cases e : b = b'
                      · subst e
                        rw [if_pos rfl] at hb'
                        split at hb' <;> simp at hb'
                        subst hb'
                        simp [Blk.mine] at hk'
                      · rw [if_neg e] at hb'
                        exact h.inj b' b k _ l' l hb' heq hk' rfl (fun q => e q.symm) hl' hl
                    by_cases hroom : n + m ≤ c'
                    · -- in place
                      have hsz : l.sz = ei.size := q1
                      have hnewlen : news.length = m * ei.size := hs.len
                      have hbound : l.sh + o + (n + m) * ei.size ≤ arr.size := by
                        rw [a2']
                        rw [hsz] at ht
                        exact Nat.le_trans (Nat.add_le_add_left (Nat.mul_le_mul_right _ hroom) _) ht
                      rw [Nat.add_mul] at hbound
                      have hstore : (storeCells ⟨l.blk, l.sh + o + n * ei.size, none⟩ news).run P w = .ok () (w.setCells l.blk (l.sh + o + n * ei.size) news) := by
                        have := run_storeCells_cells (P := P) l.blk (l.sh + o + n * ei.size) news 0 w (fun j hj => ?_) (fun j hj => ?_) (hr.one hone)
                        · simpa using this
                        · have hlt : l.sh + o + n * ei.size + 0 + j < arr.size := by omega
                          simp [World.cell?, a1]; omega
                        · have hn := a3 (l.sh + o + n * ei.size + 0 + j) (by omega)
                          simp only [World.frozen?, a1, Bool.and_eq_false_iff, decide_eq_false_iff_not]
                          by_cases q : fr.1 ≤ l.sh + o + n * ei.size + 0 + j
                          · exact .inr fun r => hn ⟨q, r⟩
                          · exact .inl q
                      have hrun := run_room ag hd hei (ty := ty) hs hroom hstore
                      have hw2 : ∀ (vs : List Value) (k : Nat) (w : World), HR base F μ (H.set b (Blk.row ei.size cs true false)) w → HR base F μ (H.set b (Blk.row ei.size cs true false)) (w.setCells l.blk k vs) := by
                        intro vs
                        induction vs with
                        | nil => intro k w h; exact h
                        | cons v vs ih => intro k w h; exact ih _ _ (h.elsewhere (p := ⟨l.blk, k, none⟩) v q2 q3 hnol)
                      have h2 := hw2 news (l.sh + o + n * ei.size) w hk
                      have hfr : Fr base F w (w.setCells l.blk (l.sh + o + n * ei.size) news) := Fr.setCells q2 q3 _ _ _
                      let l0 : Loc := ⟨l.blk, l.sh + o, l.top, ei.size⟩
                      have hrow : RowAt μ (w.setCells l.blk (l.sh + o + n * ei.size) news) l0 ((cs.drop o).take (n * ei.size) ++ new) := by
                        obtain ⟨arr2, b1, b2, b3, b4⟩ := setCells_block l.blk ety fr news (l.sh + o + n * ei.size) arr w a1
                        refine ⟨arr2, ety, fr, b1, b2.trans a2', by rw [b2]; exact a3, fun i v hv => ?_⟩
                        rw [List.getElem?_append] at hv
                        split at hv
                        · rename_i hi
                          obtain ⟨v', e1, e2⟩ := hor.get i v hv
                          rw [olen] at hi
                          refine ⟨v', ?_, e2⟩
                          change arr2[l.sh + o + i]? = some v'
                          rw [b3 _ (.inl (by omega))]
                          have := hocell i v' e1
                          simpa [World.cell?, a1] using this
                        · rename_i hi
                          rw [olen] at hi hv
                          obtain ⟨v', e1, e2⟩ := hr.get _ v hv
                          have hlt := (List.getElem?_eq_some_iff.1 e1).1
                          refine ⟨v', ?_, e2⟩
                          change arr2[l.sh + o + i]? = some v'
                          rw [show l.sh + o + i = l.sh + o + n * ei.size + (i - n * ei.size) by omega, b4 _ (by omega) (by omega)]
                          exact e1
                      refine ⟨_, _, μ.set (H.set b (Blk.row ei.size cs true false)).length l0, hrun, Mu.le_set hkf, fun b' hb' => Mu.set_ne _ _ (by simp at hb' ⊢; omega), HR.adopt h2 hkf (.row ei.size ((cs.drop o).take (n * ei.size) ++ new) true true) l0 q2 q3 hnol
                        (.inl ⟨_, rfl, hrow.mono (Mu.le_set hkf) rfl⟩), hfr, ?_⟩
                      have hl2 : (μ.set (H.set b (Blk.row ei.size cs true false)).length l0) H.length = some l0 := by
                        rw [hkl]
                        exact Mu.set_same μ H.length l0
                      have := VR.slice (n := n + m) (c := unk) (c' := c') (o := 0) hl2 hroom (.inl rfl) (by simpa [l0, hsz] using ht)
                      simpa [l0] using this
                    · obtain ⟨c3, hc3, hrun⟩ := run_grow ag hd hei (ty := ty) (a := ⟨l.blk, l.sh + o, none⟩) (n := n) (c := c') (olds := olds) hs (by rw [hor.length, olen])
                        (fun j v hj => by rw [add_loc, ← Nat.add_assoc]; exact hocell j v hj) (by omega) hn g3 g4
                      exact step_grow h hfree (hor.append hr) ei.size (n + m) el (by rw [List.length_append, olen, hlen, Nat.add_mul]) _ (by simp [oke.cells]) c3 hc3 hk hkl hrun
                · simp at hb
              · simp at hb
            · rename_i hunk
              have hknown : ∀ {l : Loc} {c' : Nat}, c = unk ∨ c = c' → c = c' := fun h => h.resolve_left hunk
              split at hb
              · rename_i hroom
                split at hb
                · rename_i sz cs heq
                  split at hb
                  · rename_i hsz
                    subst hsz
                    rw [Option.map_eq_some_iff] at hb
                    obtain ⟨H2, hH2, hb⟩ := hb
                    simp only [Prod.mk.injEq] at hb
                    obtain ⟨rfl, rfl⟩ := hb
                    cases hx with
                    | sliceZ p p' => simp at hnz
                    | sliceE p p' => exact absurd rfl hunk
                    | slice hl hn hc ht =>
                      rename_i c' l
                      obtain rfl := hknown (l := l) hc
                      obtain ⟨sz2, cs2, heq2, hlen2, hrun2, hr2, hfr2⟩ := writeCells_ok (P := P) h hl hr hH2
                      have hrun := run_room ag hd hei (ty := ty) (b := l.blk) (o := l.sh + o) hs hroom (w2 := w.setCells l.blk (l.sh + (o + n * ei.size)) news) (by rw [Nat.add_assoc l.sh]; exact hrun2)
                      exact ⟨_, _, μ, hrun, MuLe.refl _, fun _ _ => rfl, hr2, hfr2, .slice hl hroom (.inr rfl) ht⟩
                  · simp at hb
                · simp at hb
              · rename_i hroom
                simp only [Option.bind_eq_some_iff] at hb
                obtain ⟨old, hold, hb⟩ := hb
                simp only [Option.some.injEq, Prod.mk.injEq] at hb
                obtain ⟨rfl, rfl⟩ := hb
                replace hfree := hfree (by simp)
                cases hx with
                | sliceZ p p' => simp at hnz
                | sliceE p p' => exact absurd rfl hunk
                | slice hl hn hc ht =>
                  rename_i c' l
                  obtain rfl := hknown (l := l) hc
                  obtain ⟨olen, olds, hor, hocell⟩ := readCells_ok h hold hl
                  obtain ⟨c3, hc3, hrun⟩ := run_grow ag hd hei (ty := ty) (a := ⟨l.blk, l.sh + o, none⟩) (n := n) (c := c) (olds := olds) hs (by rw [hor.length, olen])
                    (fun j v hj => by rw [add_loc, ← Nat.add_assoc]; exact hocell j v hj) (by omega) hn g3 g4
                  exact step_grow h hfree (hor.append hr) ei.size (n + m) el (by rw [List.length_append, olen, hlen, Nat.add_mul]) _ (by simp [oke.cells]) c3 hc3 h rfl hrun
          · simp at hb
      · simp at hb
    · simp at hb
  · simp at hb

end Go.Proofs.Ytdhbclplondmjaa.C

/- Maps by strings; the bytes of a string. -/
set_option linter.unusedVariables false
set_option linter.unusedSimpArgs false
namespace Go.Proofs.Ytdhbclplondmjaa.C
open Go.RowKit

variable {P : Program} {T : Tab} {μ : Mu} {base : Nat} {F : Nat → Prop} {H : Heap} {w : World}

theorem zero_vr {t : TypeId} {i : TI} (h : TyOk P t i) : VR μ i.zero i.zero := by
  have hp := h.plains
  cases hz : i.zero with
  | agg cs =>
    rw [hz] at hp
    have := VR.agg (μ := μ) (VRs.refl_of fun v hv => plain_vr μ (hp v (by simpa [cellsOf] using hv)) : VRs μ cs.toList cs.toList)
    simpa using this
  | _ =>
    rw [hz] at hp
    exact plain_vr μ (hp _ (by simp [cellsOf]))

theorem ba_data (s a : ByteArray) : (s == a) = (s.data == a.data) := by cases s; cases a; rfl
theorem ba_eq {s a : ByteArray} (h : (s == a) = true) : s = a := by
  rw [ba_data] at h
  cases s; cases a
  simp at h
  rw [h]
theorem ba_refl (a : ByteArray) : (a == a) = true := by rw [ba_data]; simp

theorem find_ok {s : ByteArray} : ∀ {es : List (Value × Value)} {ms : List MapEntry} (i : Nat), VRs μ (es.map (·.1)) (ms.map (·.key)) → VRs μ (es.map (·.2)) (ms.map (·.val)) → ∀ {r : Option Value}, lookE es s = some r →
    (r = none ∧ Instr.findNow .string (.string s) ms i = some none) ∨ ∃ v j m, r = some v ∧ ms[j]? = some m ∧ m.key = .string s ∧ VR μ v m.val ∧ Instr.findNow .string (.string s) ms i = some (some (i + j, m.val))
  | [], [], i, _, _, r, h => by
    simp [lookE] at h
    exact .inl ⟨h.symm, rfl⟩
  | [], _ :: _, _, h, _, _, _ => by cases h
  | _ :: _, [], _, h, _, _, _ => by cases h
  | (k, v) :: es, m :: ms, i, hk, hv, r, h => by
    cases hk with
    | cons hk hks =>
      cases hv with
      | cons hv hvs =>
        cases k <;> simp only [lookE, reduceCtorEq] at h
        rename_i a
        simp only at hk hv
        generalize hmk : m.key = mk at hk
        cases hk
        split at h
        · rename_i he
          simp only [Option.some.injEq] at h
          refine .inr ⟨v, 0, m, h.symm, rfl, ?_, hv, ?_⟩
          · rw [hmk, ba_eq he]
          · simp [Instr.findNow, Instr.sameNow, hmk, he]
        · rename_i he
          have he' : (s == a) = false := by simpa using he
          rcases find_ok (i + 1) hks hvs h with ⟨h1, h2⟩ | ⟨v', j, m', h1, h2, h3, h4, h5⟩
          · exact .inl ⟨h1, by simp [Instr.findNow, Instr.sameNow, hmk, he', h2]⟩
          · refine .inr ⟨v', j + 1, m', h1, by simpa using h2, h3, h4, ?_⟩
            simp only [Instr.findNow, Instr.sameNow, hmk, he', h5]
            congr 3
            omega

theorem vLookup_ok (ag : Agree P T) (h : HR base F μ H w) {t : TypeId} {x k x' k' v : Value} {ok : Bool} (hx : VR μ x x') (hk : VR μ k k') (hv : vLookup T H t x k ok = some v) : ∃ v', (Instr.lookup t x' k' ok).run P w = .ok v' w ∧ VR μ v v' := by
  unfold vLookup at hv
  split at hv
  · rename_i kt et s hd
    split at hv
    · rename_i ei hkt het
      rw [Option.bind_eq_some_iff] at hv
      obtain ⟨es, hes, hv⟩ := hv
      rw [Option.map_eq_some_iff] at hv
      obtain ⟨r, hr, hv⟩ := hv
      obtain ⟨d, hd1, hd2⟩ := ag.d hd
      simp only [DescOk] at hd2
      subst hd2
      obtain ⟨d2, hk1, hk2⟩ := ag.d hkt
      simp only [DescOk] at hk2
      subst hk2
      have oke := ag.ty et ei het
      cases hk
      have chk : ∀ b, (Instr.checkKey b 10000 kt (.string s)).run P w = .ok () w := by
        intro b
        unfold Instr.checkKey
        simp [run_underlying hk1]
      have fin : ∀ ms : Array MapEntry, VRs μ (es.map (·.1)) (ms.toList.map (·.key)) → VRs μ (es.map (·.2)) (ms.toList.map (·.val)) →
          (r = none ∧ (Instr.findKey kt (.string s) ms.toList).run P w = .ok none w) ∨ ∃ u j m, r = some u ∧ VR μ u m ∧ (Instr.findKey kt (.string s) ms.toList).run P w = .ok (some (j, m)) w := by
        intro ms h1 h2
        rcases find_ok 0 h1 h2 hr with ⟨h3, hf⟩ | ⟨u, j, m, h3, hj, hmk, hu, hf⟩
        · exact .inl ⟨h3, by simp [Instr.findKey, run_underlying hk1, hf]⟩
        · exact .inr ⟨u, 0 + j, m.val, h3, hu, by simp [Instr.findKey, run_underlying hk1, hf]⟩
      have vnone : VR μ (if ok then .tuple #[ei.zero, .bool false] else ei.zero) (if ok then .tuple #[ei.zero, .bool false] else ei.zero) := by
        cases ok
        · exact zero_vr oke
        · exact .tuple (.cons (zero_vr oke) (.cons (.bool _) .nil))
      have vsome : ∀ {u m : Value}, VR μ u m → VR μ (if ok then .tuple #[u, .bool true] else u) (if ok then .tuple #[m, .bool true] else m) := by
        intro u m hu
        cases ok
        · exact hu
        · exact .tuple (.cons hu (.cons (.bool _) .nil))
      unfold entriesOf at hes
      split at hes
      · simp only [Option.some.injEq] at hes
        subst hes
        cases hx
        rcases fin #[] .nil .nil with ⟨h3, hf⟩ | ⟨u, j, m, h3, hu, hf⟩
        · subst h3
          simp only at hf
          exact ⟨if ok then .tuple #[ei.zero, .bool false] else ei.zero, by simp [Instr.lookup, run_underlying hd1, chk, hf, oke.zero w], by rw [← hv]; exact vnone⟩
        · subst h3
          simp only at hf
          exact ⟨if ok then .tuple #[m, .bool true] else m, by simp [Instr.lookup, run_underlying hd1, chk, hf], by rw [← hv]; exact vsome hu⟩
      · rename_i b
        split at hes
        · rename_i es2 heq
          simp only [Option.some.injEq] at hes
          subst hes
          cases hx
          rename_i l hl
          obtain ⟨_, _, ms, clock, m1, m2, m3⟩ := h.maps b _ l heq hl
          rcases fin ms m2 m3 with ⟨h3, hf⟩ | ⟨u, j, m, h3, hu, hf⟩
          · subst h3
            exact ⟨if ok then .tuple #[ei.zero, .bool false] else ei.zero, by simp [Instr.lookup, run_underlying hd1, MapKept.run_getObj_map m1, chk, hf, oke.zero w], by rw [← hv]; exact vnone⟩
          · subst h3
            exact ⟨if ok then .tuple #[m, .bool true] else m, by simp [Instr.lookup, run_underlying hd1, MapKept.run_getObj_map m1, chk, hf], by rw [← hv]; exact vsome hu⟩
        · simp at hes
      · simp at hes
    · simp at hv
  · simp at hv

theorem modify_zero {α : Type} (f : α → α) (a : α) (l : List α) : (a :: l).modify 0 f = f a :: l := rfl

/-- What an update finds and leaves. -/
theorem put_ok {s : ByteArray} {v v' : Value} (hv : VR μ v v') : ∀ {es : List (Value × Value)} {ms : List MapEntry} (i : Nat), VRs μ (es.map (·.1)) (ms.map (·.key)) → VRs μ (es.map (·.2)) (ms.map (·.val)) → ∀ {es' : List (Value × Value)}, setE es s v = some es' →
    (Instr.findNow .string (.string s) ms i = some none ∧ ∀ c, VRs μ (es'.map (·.1)) ((ms ++ [({ key := .string s, val := v', born := c } : MapEntry)]).map (·.key)) ∧ VRs μ (es'.map (·.2)) ((ms ++ [({ key := .string s, val := v', born := c } : MapEntry)]).map (·.val))) ∨
    ∃ j m, ms[j]? = some m ∧ m.key = .string s ∧ Instr.findNow .string (.string s) ms i = some (some (i + j, m.val)) ∧
      VRs μ (es'.map (·.1)) ((ms.modify j fun e => { e with key := .string s, val := v' }).map (·.key)) ∧ VRs μ (es'.map (·.2)) ((ms.modify j fun e => { e with key := .string s, val := v' }).map (·.val))
  | [], [], i, _, _, es', h => by
    simp [setE] at h
    subst h
    exact .inl ⟨rfl, fun c => ⟨.cons (.string s) .nil, .cons hv .nil⟩⟩
  | [], _ :: _, _, h, _, _, _ => by cases h
  | _ :: _, [], _, h, _, _, _ => by cases h
  | (k, u) :: es, m :: ms, i, hk, hu, es', h => by
    cases hk with
    | cons hk hks =>
      cases hu with
      | cons hu hus =>
        cases k <;> simp only [setE, reduceCtorEq] at h
        rename_i a
        simp only at hk hu
        generalize hmk : m.key = mk at hk
        cases hk
        split at h
        · rename_i he
          simp only [Option.some.injEq] at h
          subst h
          refine .inr ⟨0, m, rfl, by rw [hmk, ba_eq he], by simp [Instr.findNow, Instr.sameNow, hmk, he], ?_, ?_⟩
          · rw [modify_zero]; exact .cons (.string s) hks
          · rw [modify_zero]; exact .cons hv hus
        · rename_i he
          have he' : (s == a) = false := by simpa using he
          rw [Option.map_eq_some_iff] at h
          obtain ⟨l', hl', h⟩ := h
          subst h
          rcases put_ok hv (i + 1) hks hus hl' with ⟨h1, h2⟩ | ⟨j, m', h1, h2, h3, h4, h5⟩
          · refine .inl ⟨by simp [Instr.findNow, Instr.sameNow, hmk, he', h1], fun c => ?_⟩
            obtain ⟨q1, q2⟩ := h2 c
            refine ⟨.cons ?_ q1, .cons hu q2⟩
            simp only [hmk]; exact .string a
          · refine .inr ⟨j + 1, m', by simpa using h1, h2, ?_, ?_, ?_⟩
            · simp only [Instr.findNow, Instr.sameNow, hmk, he', h3]
              congr 3
              omega
            · refine .cons ?_ h4
              simp only [hmk]; exact .string a
            · exact .cons hu h5

/-- A map's entries are others. -/
theorem HR.putMap (h : HR base F μ H w) {b : Nat} {es es' : List (Value × Value)} {l : Loc} (hb : H[b]? = some (.map es)) (hl : μ b = some l) {ms : Array MapEntry} {clock : Nat}
    (h1 : VRs μ (es'.map (·.1)) (ms.toList.map (·.key))) (h2 : VRs μ (es'.map (·.2)) (ms.toList.map (·.val))) :
    HR base F μ (H.set b (.map es')) { w with heap := w.heap.setIfInBounds l.blk (.map ms clock) } ∧ Fr base F w { w with heap := w.heap.setIfInBounds l.blk (.map ms clock) } := by
  obtain ⟨e1, e2, e3⟩ := h.maps b es l hb hl
  have hblt : b < H.length := (List.getElem?_eq_some_iff.1 hb).1
  have hlt := e3.lt
  have hother : ∀ k, k ≠ l.blk → (w.heap.setIfInBounds l.blk (.map ms clock))[k]? = w.heap[k]? := fun k hk => Array.getElem?_setIfInBounds_ne (fun q => hk q.symm)
  have key : ∀ {c : Nat} {x : Blk}, (H.set b (.map es'))[c]? = some x → (c = b ∧ x = .map es') ∨ (c ≠ b ∧ H[c]? = some x) := by
    intro c x hx
    rw [List.getElem?_set] at hx
    by_cases e : b = c
    · subst e; rw [if_pos rfl, if_pos hblt] at hx; simp at hx; exact .inl ⟨rfl, hx.symm⟩
    · rw [if_neg e] at hx; exact .inr ⟨fun q => e q.symm, hx⟩
  refine ⟨⟨?_, ?_, ?_, ?_, ?_, ?_⟩, ⟨rfl, rfl, rfl, by simp, ?_⟩⟩
  · intro c sz cs l' hc hl'
    rcases key hc with ⟨rfl, hx⟩ | ⟨hne, hc⟩
    · simp at hx
    · obtain ⟨a, c1, d, g⟩ := h.own c sz cs l' hc hl'
      exact ⟨a, c1, d, g.mono (MuLe.refl _) (hother _ (h.inj c b _ _ l' l hc hb rfl rfl hne hl' hl))⟩
  · intro c sz cs l' hc hl'
    rcases key hc with ⟨rfl, hx⟩ | ⟨hne, hc⟩
    · simp at hx
    · obtain ⟨a, c1, d⟩ := h.ro c sz cs l' hc hl'
      exact ⟨a, c1, fun j u hu => let ⟨u', x, y⟩ := d j u hu; ⟨u', (cell_of_heap (hother _ (by simp; omega))).trans x, y⟩⟩
  · intro c es2 l' hc hl'
    rcases key hc with ⟨rfl, hx⟩ | ⟨hne, hc⟩
    · simp only [Blk.map.injEq] at hx
      subst hx
      rw [hl] at hl'; simp at hl'; subst hl'
      exact ⟨e1, e2, ms, clock, by simp [hlt], h1, h2⟩
    · obtain ⟨a, c1, d⟩ := h.maps c es2 l' hc hl'
      exact ⟨a, c1, d.mono (MuLe.refl _) (hother _ (h.inj c b _ _ l' l hc hb rfl rfl hne hl' hl))⟩
  · intro c c' k k' m m' hc hc' hk hk' hne hm hm'
    rcases key hc with ⟨rfl, rfl⟩ | ⟨g1, hc2⟩ <;> rcases key hc' with ⟨rfl, rfl⟩ | ⟨g2, hc3⟩
    · exact absurd rfl hne
    · exact h.inj _ c' _ k' m m' hb hc3 rfl hk' hne hm hm'
    · exact h.inj c _ k _ m m' hc2 hb hk rfl hne hm hm'
    · exact h.inj c c' k k' m m' hc2 hc3 hk hk' hne hm hm'
  · intro k hk; simpa using h.far k hk
  · simpa using h.base_le
  · intro k hk
    refine hother k ?_
    rintro rfl
    rcases hk with hk | hk
    · omega
    · exact e2 hk

theorem vMapUpdate_ok (ag : Agree P T) (h : HR base F μ H w) {t : TypeId} {m k v m' k' v' : Value} {H' : Heap} (hm : VR μ m m') (hk : VR μ k k') (hv : VR μ v v') (hs : vMapUpdate T H t m k v = some H') :
    H'.length = H.length ∧ Step base F μ H H' w ((Instr.mapUpdate t m' k' v').run P w) fun _ _ => True := by
  unfold vMapUpdate at hs
  split at hs
  · rename_i kt et b s hd
    split at hs
    · rename_i es hkt heq
      rw [Option.map_eq_some_iff] at hs
      obtain ⟨es', hes, hs⟩ := hs
      subst hs
      obtain ⟨d, hd1, hd2⟩ := ag.d hd
      simp only [DescOk] at hd2
      subst hd2
      obtain ⟨d2, hk1, hk2⟩ := ag.d hkt
      simp only [DescOk] at hk2
      subst hk2
      cases hk
      cases hm
      rename_i l hl
      obtain ⟨_, _, ms, clock, m1, m2, m3⟩ := h.maps b _ l heq hl
      have chk : ∀ b, (Instr.checkKey b 10000 kt (.string s)).run P w = .ok () w := by
        intro b
        unfold Instr.checkKey
        simp [run_underlying hk1]
      refine ⟨by simp, ?_⟩
      rcases put_ok hv 0 m2 m3 hes with ⟨h1, h2⟩ | ⟨j, e, h1, h2, h3, h4, h5⟩
      · obtain ⟨q1, q2⟩ := h2 clock
        have := h.putMap heq hl (ms := ms.push { key := .string s, val := v', born := clock }) (clock := clock + 1) (by simpa using q1) (by simpa using q2)
        refine ⟨(), _, μ, ?_, MuLe.refl _, fun _ _ => rfl, this.1, this.2, trivial⟩
        simp [Instr.mapUpdate, run_underlying hd1, MapKept.run_getObj_map m1, chk, Instr.findKey, run_underlying hk1, h1, MapKept.run_setObj_map _ m1]
      · have := h.putMap heq hl (ms := ms.modify j fun e => { e with key := .string s, val := v' }) (clock := clock) (by simpa using h4) (by simpa using h5)
        refine ⟨(), _, μ, ?_, MuLe.refl _, fun _ _ => rfl, this.1, this.2, trivial⟩
        have hj : ms[j]? = some e := by simpa using h1
        simp [Instr.mapUpdate, run_underlying hd1, MapKept.run_getObj_map m1, chk, Instr.findKey, run_underlying hk1, h3, hj, h2, Instr.keyThatStays, Instr.sameBits, ba_refl, MapKept.run_setObj_map _ m1]
    · simp at hs
  · simp at hs

theorem vMakeMap_ok (h : HR base F μ H w) (hfree : μ H.length = none) (t : TypeId) : Step base F μ H (H ++ [.map []]) w ((Instr.makeMap t none).run P w) fun ν a => VR ν (.map (some H.length)) a := by
  have hold : ∀ k, k < w.heap.size → (w.alloc (.map #[] 0)).heap[k]? = w.heap[k]? := fun k hk => Below.heap_alloc w _ k hk
  have h1 := h.world hold (by simp)
  let l0 : Loc := ⟨w.heap.size, 0, 0, 0⟩
  refine ⟨.map (some w.heap.size), _, μ.set H.length l0, by simp [Instr.makeMap], Mu.le_set hfree, fun b hb => Mu.set_ne _ _ (by simp at hb; omega),
    HR.adopt h1 hfree (.map []) l0 h.base_le (fun q => Nat.lt_irrefl _ (h.far _ q)) ?_ (.inr ⟨[], rfl, #[], 0, heap_alloc_new w _, .nil, .nil⟩), Fr.alloc _ h.base_le h.far, ?_⟩
  · intro b k l hb hk hl q
    have := (h.mine_lt hb hk hl).1
    simp only [l0] at q
    omega
  · exact .map (l := l0) (Mu.set_same _ _ _)

theorem vBytes0_ok (ag : Agree P T) (h : HR base F μ H w) (hfree : μ H.length = none) {src dst : TypeId} {x x' v : Value} {H' : Heap} (hx : VR μ x x') (hb : vBytes0 T H src dst x = some (v, H')) :
    Step base F μ H H' w ((Go.convert src dst x').run P w) fun ν a => VR ν v a := by
  unfold vBytes0 at hb
  split at hb
  · rename_i e s hs hd
    split at hb
    · rename_i ei hei
      split at hb
      · rename_i hdesc
        split at hb
        · rename_i hsz
          simp only [Option.some.injEq, Prod.mk.injEq] at hb
          obtain ⟨rfl, rfl⟩ := hb
          obtain ⟨d1, hs1, hs2⟩ := ag.d hs
          obtain ⟨d2, hd1, hd2⟩ := ag.d hd
          simp only [DescOk] at hs2 hd2
          subst hs2 hd2
          obtain ⟨d3, he1, he2⟩ := (ag.ty e ei hei).und
          rw [hdesc] at he2
          simp only [DescOk] at he2
          subst he2
          cases hx
          have hrun := Lib.run_convert_string_bytes (P := P) w src dst e s hs1 hd1 he1
          have hold : ∀ k, k < w.heap.size → (Lib.bytesWorld w e s).heap[k]? = w.heap[k]? := fun k hk => Lib.bytesWorld_at_old w e s k hk
          have h1 := h.world hold (by rw [Lib.bytesWorld_size]; omega)
          let l0 : Loc := ⟨w.heap.size, 0, (Lib.bytesCells w e s).size, 1⟩
          have hcap := grownCap_ge w s.size 0 e
          have hcs : (Lib.bytesCells w e s).size = grownCap w s.size 0 e := by
            simp [Lib.bytesCells]
            have : s.data.size = s.size := rfl
            omega
          refine ⟨_, _, μ.set H.length l0, hrun, Mu.le_set hfree, fun b hb => Mu.set_ne _ _ (by simp at hb; omega),
            HR.adopt h1 hfree _ l0 h.base_le (fun q => Nat.lt_irrefl _ (h.far _ q)) ?_ (.inl ⟨_, rfl, _, e, _, Lib.bytesWorld_at_new w e s, rfl, fun i hi => by simp; omega, ?_⟩), ?_, ?_⟩
          · intro b k l hb hk hl q
            have := (h.mine_lt hb hk hl).1
            simp only [l0] at q
            omega
          · intro i v hv
            rw [List.getElem?_map, Option.map_eq_some_iff] at hv
            obtain ⟨c, hc, rfl⟩ := hv
            have hlt := (List.getElem?_eq_some_iff.1 hc).1
            refine ⟨.int .u8 c.toNat, ?_, .int _ _⟩
            simp only [l0, Nat.zero_add, Lib.bytesCells]
            rw [Array.getElem?_append_left (by simpa using hlt)]
            simp at hc
            simp [hc]
          · refine ⟨rfl, rfl, rfl, by rw [Lib.bytesWorld_size]; omega, fun k hk => hold k (hk.elim (fun q => Nat.lt_of_lt_of_le q h.base_le) (h.far k))⟩
          · have := VR.slice (μ := μ.set H.length l0) (n := s.size) (c := unk) (c' := grownCap w s.size 0 e) (o := 0) (Mu.set_same μ H.length l0) hcap (.inl rfl) (by simp [l0, hcs])
            simpa [l0] using this
        · simp at hb
      · simp at hb
    · simp at hb
  · simp at hb

theorem vClear_ok (ag : Agree P T) (h : HR base F μ H w) {t ty : TypeId} {x x' : Value} {H' : Heap} (hx : VR μ x x') (hb : vClear T H t x = some H') :
    H'.length = H.length ∧ Step base F μ H H' w ((Builtin.clear_ #[t] ty #[x']).run P w) fun ν a => VR ν undef a := by
  unfold vClear at hb
  split at hb
  · rename_i e a n c hd
    obtain ⟨d, hd1, hd2⟩ := ag.d hd
    simp only [DescOk] at hd2
    subst hd2
    split at hb
    · rename_i hn
      subst hn
      simp only [Option.some.injEq] at hb
      subst hb
      refine ⟨rfl, Step.same h (a := .tuple #[]) ?_ (.undef _)⟩
      cases hx <;> simp [Builtin.clear_, run_underlying hd1]
    · rename_i hn
      split at hb
      · rename_i b o ei he
        have oke := ag.ty e ei he
        have hz : VRs μ (cellsOf ei.zero) (cellsOf ei.zero) := VRs.refl_of fun u hu => plain_vr μ (oke.plains u hu)
        cases hx with
        | sliceZ p p' => exact absurd rfl hn
        | sliceE p p' => exact absurd rfl hn
        | slice hl hnc hc ht =>
          rename_i c' l
          obtain ⟨sz2, cs2, heq2, hlen2, hrun2, hr2, hfr2⟩ := writeCells_ok (P := P) h hl (hz.rep n) hb
          have hzc : (Builtin.zeroCells ei.zero.cells n).toList = repCells (cellsOf ei.zero) n := by
            have h1 : ei.zero.cells = (cellsOf ei.zero).toArray := by rw [← cellsOf_cells]
            have := rangeMap_rep (cellsOf ei.zero) n
            rw [h1, Builtin.zeroCells]
            have h2 : (Array.range (n * (cellsOf ei.zero).toArray.size)).map (fun i => (cellsOf ei.zero).toArray[i % (cellsOf ei.zero).toArray.size]!) = (repCells (cellsOf ei.zero) n).toArray := by
              rw [← this]
              simp only [List.size_toArray]
              congr 1
              funext i
              simp [getElem!_def]
              split <;> simp_all
            rw [h2]
          refine ⟨hlen2, .tuple #[], _, μ, ?_, MuLe.refl _, fun _ _ => rfl, hr2, hfr2, .undef _⟩
          simp [Builtin.clear_, run_underlying hd1, hn, oke.zero w, hzc, hrun2]
      · simp at hb
  · simp at hb

end Go.Proofs.Ytdhbclplondmjaa.C

/- copy; a string out of bytes. -/
set_option linter.unusedVariables false
set_option linter.unusedSimpArgs false
namespace Go.Proofs.Ytdhbclplondmjaa.C
open Go.RowKit

variable {P : Program} {T : Tab} {μ : Mu} {base : Nat} {F : Nat → Prop} {H : Heap} {w : World}

theorem vCopy_ok (ag : Agree P T) (h : HR base F μ H w) {t u ty : TypeId} {x y x' y' r : Value} {H' : Heap} (hx : VR μ x x') (hy : VR μ y y') (hb : vCopy T H t x y = some (r, H')) :
    Step base F μ H H' w ((Builtin.copy_ #[t, u] ty #[x', y']).run P w) fun ν a => VR ν r a := by
  unfold vCopy at hb
  split at hb
  · rename_i e a n c a2 m c2 hd
    obtain ⟨d, hd1, hd2⟩ := ag.d hd
    simp only [DescOk] at hd2
    subst hd2
    split at hb
    · rename_i ei he
      have oke := ag.ty e ei he
      have hx1 : ∃ b c', x' = .slice b n c' := by cases hx <;> exact ⟨_, _, rfl⟩
      have hy1 : ∃ b c', y' = .slice b m c' := by cases hy <;> exact ⟨_, _, rfl⟩
      split at hb
      · rename_i h0
        simp only [Option.some.injEq, Prod.mk.injEq] at hb
        obtain ⟨rfl, rfl⟩ := hb
        obtain ⟨b1, c1, rfl⟩ := hx1
        obtain ⟨b2, c2', rfl⟩ := hy1
        refine Step.same h (a := .int .i64 0) ?_ (.int _ _)
        have h0' : Nat.min m n = 0 := h0
        cases b1 <;> cases b2 <;> simp [Builtin.copy_, run_underlying hd1, Builtin.lenOf, Builtin.firstCells, h0', oke.sizeOf w, loadCells, loadCellsFrom, storeCells, goInt]
      · rename_i h0
        split at hb
        · rename_i b o b2 o2
          simp only [Option.bind_eq_some_iff, Option.map_eq_some_iff] at hb
          obtain ⟨cs, hcs, H1, hw, hb⟩ := hb
          simp only [Prod.mk.injEq] at hb
          obtain ⟨rfl, rfl⟩ := hb
          have hn0 : n ≠ 0 := by rintro rfl; simp at h0
          have hm0 : m ≠ 0 := by rintro rfl; simp at h0
          cases hx with
          | sliceZ p p' => exact absurd rfl hn0
          | sliceE p p' => exact absurd rfl hn0
          | slice hl hnc hc ht =>
            rename_i c' l
            cases hy with
            | sliceZ p p' => exact absurd rfl hm0
            | sliceE p p' => exact absurd rfl hm0
            | slice hl2 hnc2 hc2 ht2 =>
              rename_i c3 l2
              obtain ⟨hlen, cs', hr, hcell⟩ := readCells_ok h hcs hl2
              obtain ⟨sz2, cs2, heq2, hlen2, hrun2, hr2, hfr2⟩ := writeCells_ok (P := P) h hl hr hw
              have hload := run_loadCells_list (P := P) w ⟨l2.blk, l2.sh + o2, none⟩ cs' (fun j v hj => by rw [add_loc, ← Nat.add_assoc]; exact hcell j v hj)
              rw [hr.length, hlen] at hload
              refine ⟨.int .i64 (min m n : Nat), _, μ, ?_, MuLe.refl _, fun _ _ => rfl, hr2, hfr2, .int _ _⟩
              have e1 : Nat.min m n = min m n := rfl
              simp [Builtin.copy_, run_underlying hd1, Builtin.lenOf, Builtin.firstCells, oke.sizeOf w, e1, hload, hrun2, goInt]
        · simp at hb
    · simp at hb
  · simp at hb

theorem bytesIn_ok : ∀ {cs cs' : List Value} {l : List UInt8}, bytesIn cs = some l → VRs μ cs cs' → cs' = l.map fun b => .int .u8 (b.toNat : Int)
  | [], cs', l, hb, hr => by cases hr; simp [bytesIn] at hb; subst hb; rfl
  | v :: cs, cs', l, hb, hr => by
    unfold bytesIn at hb
    split at hb
    · simp_all
    · rename_i k r he
      simp only [List.cons.injEq] at he
      obtain ⟨rfl, rfl⟩ := he
      split at hb
      · rename_i hk
        rw [Option.map_eq_some_iff] at hb
        obtain ⟨l1, h1, rfl⟩ := hb
        cases hr with
        | cons ha ht =>
          cases ha
          have := bytesIn_ok h1 ht
          subst this
          simp only [List.map_cons, List.cons.injEq, and_true, Value.int.injEq, true_and]
          have : k.toNat < 256 := by omega
          simp [Nat.mod_eq_of_lt this]
          omega
      · simp at hb
    · simp at hb

theorem vString_ok (ag : Agree P T) (h : HR base F μ H w) {src dst : TypeId} {x x' v : Value} (hx : VR μ x x') (hb : vString T H src dst x = some v) : (Go.convert src dst x').run P w = .ok v w ∧ VR μ v v := by
  unfold vString at hb
  split at hb
  · rename_i e b o n c hs hd
    split at hb
    · rename_i ei hei
      split at hb
      · rename_i hdesc
        simp only [Option.bind_eq_some_iff, Option.map_eq_some_iff] at hb
        obtain ⟨cs, hcs, l, hl, rfl⟩ := hb
        obtain ⟨d1, hs1, hs2⟩ := ag.d hs
        obtain ⟨d2, hd1, hd2⟩ := ag.d hd
        simp only [DescOk] at hs2 hd2
        subst hs2 hd2
        obtain ⟨d3, he1, he2⟩ := (ag.ty e ei hei).und
        rw [hdesc] at he2
        simp only [DescOk] at he2
        subst he2
        refine ⟨?_, .string _⟩
        have key : ∀ (a : Addr) (c' : Nat) (cs' : List Value), cs'.length = n → VRs μ cs cs' → (∀ j u, cs'[j]? = some u → w.cell? (a.add j) = some u) → (Go.convert src dst (.slice (some a) n c')).run P w = .ok (.string ⟨l.toArray⟩) w := by
          intro a c' cs' hlen hr hcell
          have hcs' := bytesIn_ok hl hr
          have hln : l.length = n := by rw [← hlen, hcs']; simp
          have := run_convert_bytes_back (P := P) w src dst e a c' l hs1 he1 hd1 (fun j hj => hcell j _ (by rw [hcs']; simp [hj]))
          rw [hln] at this
          exact this
        cases hx with
        | sliceZ p p' =>
          have hz : cs = [] := by
            unfold readCells at hcs
            split at hcs
            · split at hcs <;> simp at hcs
              exact hcs
            · simp at hcs
          subst hz
          exact key p' 0 [] rfl .nil (fun j u hj => by simp at hj)
        | sliceE p p' =>
          have hz : cs = [] := by
            unfold readCells at hcs
            split at hcs
            · split at hcs <;> simp at hcs
              exact hcs
            · simp at hcs
          subst hz
          exact key p' 0 [] rfl .nil (fun j u hj => by simp at hj)
        | slice hl2 hnc hc ht =>
          obtain ⟨hlen, cs', hr, hcell⟩ := readCells_ok h hcs hl2
          exact key _ _ cs' (by rw [hr.length, hlen]) hr (fun j u hj => by rw [add_loc, ← Nat.add_assoc]; exact hcell j u hj)
      · simp at hb
    · simp at hb
  · simp at hb

theorem vBytes_ok (ag : Agree P T) (h : HR base F μ H w) {src dst : TypeId} {x x' v : Value} {H' : Heap} (hfree : H.length < H'.length → μ H.length = none) (hx : VR μ x x') (hb : vBytes T H src dst x = some (v, H')) :
    Step base F μ H H' w ((Go.convert src dst x').run P w) fun ν a => VR ν v a := by
  unfold vBytes at hb
  split at hb
  · rename_i r hr
    simp only [Option.some.injEq] at hb
    subst hb
    refine vBytes0_ok ag h (hfree ?_) hx hr
    unfold vBytes0 at hr
    split at hr
    · split at hr
      · split at hr
        · split at hr
          · simp only [Option.some.injEq, Prod.mk.injEq] at hr
            rw [← hr.2]; simp
          · simp at hr
        · simp at hr
      · simp at hr
    · simp at hr
  · rw [Option.map_eq_some_iff] at hb
    obtain ⟨u, hu, hb⟩ := hb
    simp only [Prod.mk.injEq] at hb
    obtain ⟨rfl, rfl⟩ := hb
    obtain ⟨h1, h2⟩ := vString_ok (P := P) ag h hx hu
    exact Step.same h h1 h2

end Go.Proofs.Ytdhbclplondmjaa.C

/- Every operation that makes no call. -/
set_option linter.unusedVariables false
set_option linter.unusedSimpArgs false
namespace Go.Proofs.Ytdhbclplondmjaa.C
open Go.RowKit

variable {P : Program} {T : Tab} {μ : Mu} {base : Nat} {F : Nat → Prop} {H : Heap} {w : World}

/-- What an operation's answer must be. -/
def Ans (ν : Mu) (v : Value) (n : Next) : Prop := (n = .skip ∧ v = undef) ∨ ∃ v', n = .value v' ∧ VR ν v v'

theorem Step.map {α β : Type} {H' : Heap} {r : Result α} {R : Mu → α → Prop} {s : Result β} {S : Mu → β → Prop} (h : Step base F μ H H' w r R) (f : α → β) (hs : ∀ a w', r = .ok a w' → s = .ok (f a) w') (hR : ∀ ν a, R ν a → S ν (f a)) :
    Step base F μ H H' w s S := by
  obtain ⟨a, w', μ', e, h1, h2, h3, h4, h5⟩ := h
  exact ⟨f a, w', μ', hs a w' e, h1, h2, h3, h4, hR _ _ h5⟩

theorem Step.val {H' : Heap} {e : Sem Value} {v : Value} (h : Step base F μ H H' w (e.run P w) fun ν a => VR ν v a) : Step base F μ H H' w ((do pure (Next.value (← e)) : Sem Next).run P w) fun ν n => Ans ν v n :=
  h.map Next.value (fun a w' he => by simp [he]) fun ν a ha => .inr ⟨a, rfl, ha⟩

theorem Step.pure_val (h : HR base F μ H w) {e : Sem Value} {v : Value} (he : ∃ v', e.run P w = .ok v' w ∧ VR μ v v') : Step base F μ H H w ((do pure (Next.value (← e)) : Sem Next).run P w) fun ν n => Ans ν v n := by
  obtain ⟨v', he, hv⟩ := he
  exact Step.same h (a := Next.value v') (by simp [he]) (.inr ⟨v', rfl, hv⟩)

theorem VRs.of_map {μ : Mu} {ρ : Operand → Value} {s : List Value} (hev : ∀ x, VR μ (ev s x) (ρ x)) : ∀ xs : List Operand, VRs μ (xs.map (ev s)) (xs.map ρ)
  | [] => .nil
  | x :: xs => .cons (hev x) (VRs.of_map hev xs)

theorem VRo.of_map {μ : Mu} {ρ : Operand → Value} {s : List Value} (hev : ∀ x, VR μ (ev s x) (ρ x)) (x : Option Operand) : VRo μ (x.map (ev s)) (x.map ρ) := by
  cases x <;> simp [VRo, hev]

theorem vBox_len {e : TypeId} {v x : Value} {H' : Heap} (h : vBox T H e v = some (x, H')) : H'.length = H.length + 1 := by
  unfold vBox newRow at h
  split at h
  · simp at h
  · rw [Option.map_eq_some_iff] at h
    obtain ⟨i, hi, h⟩ := h
    simp only [Prod.mk.injEq] at h
    rw [← h.2]; simp

theorem vBuildSlice_len {t : TypeId} {n : Nat} {parts : List (Nat × Value)} {x : Value} {H' : Heap} (h : vBuildSlice T H t n parts = some (x, H')) : H'.length = H.length + 1 := by
  unfold vBuildSlice at h
  simp only [Option.bind_eq_bind, Option.bind_eq_some_iff] at h
  obtain ⟨i, hi, h⟩ := h
  split at h
  · simp only [Option.bind_eq_some_iff] at h
    obtain ⟨ei, hei, h⟩ := h
    split at h
    · simp at h
    · simp only [Option.bind_eq_some_iff] at h
      obtain ⟨cs, hcs, h⟩ := h
      simp only [Option.some.injEq, Prod.mk.injEq] at h
      rw [← h.2]; simp
  · simp at h

theorem vMakeSlice_len {t : TypeId} {n c : Value} {x : Value} {H' : Heap} (h : vMakeSlice T H t n c = some (x, H')) : H'.length = H.length + 1 := by
  unfold vMakeSlice at h
  simp only [Option.bind_eq_bind, Option.bind_eq_some_iff] at h
  obtain ⟨i, hi, h⟩ := h
  split at h
  · simp only [Option.bind_eq_some_iff] at h
    obtain ⟨ei, hei, h⟩ := h
    split at h
    · simp only [Option.some.injEq, Prod.mk.injEq] at h
      rw [← h.2]; simp
    · simp at h
  · simp at h

theorem vBytes0_len {a b : TypeId} {v x : Value} {H' : Heap} (h : vBytes0 T H a b v = some (x, H')) : H'.length = H.length + 1 := by
  unfold vBytes0 at h
  split at h
  · split at h
    · split at h
      · split at h
        · simp only [Option.some.injEq, Prod.mk.injEq] at h
          rw [← h.2]; simp
        · simp at h
      · simp at h
    · simp at h
  · simp at h

theorem vBytes_len {a b : TypeId} {v x : Value} {H' : Heap} (h : vBytes T H a b v = some (x, H')) : H.length ≤ H'.length := by
  unfold vBytes at h
  split at h
  · rename_i r hr
    simp only [Option.some.injEq] at h
    subst h
    have := vBytes0_len hr
    omega
  · rw [Option.map_eq_some_iff] at h
    obtain ⟨u, _, h⟩ := h
    simp only [Prod.mk.injEq] at h
    rw [← h.2]
    exact Nat.le_refl _

theorem vMapUpdate_len {t : TypeId} {m k v : Value} {H' : Heap} (h : vMapUpdate T H t m k v = some H') : H'.length = H.length := by
  unfold vMapUpdate at h
  split at h
  · split at h
    · rw [Option.map_eq_some_iff] at h
      obtain ⟨es', _, h⟩ := h
      rw [← h]; simp
    · simp at h
  · simp at h

theorem writeCells_len {b o : Nat} {vs : List Value} {H' : Heap} (h : writeCells H b o vs = some H') : H'.length = H.length := by
  unfold writeCells at h
  split at h
  · split at h
    · split at h <;> simp at h
      rw [← h]; simp
    · simp at h
  · simp at h

theorem vCopy_len {t : TypeId} {x y r : Value} {H' : Heap} (h : vCopy T H t x y = some (r, H')) : H'.length = H.length := by
  unfold vCopy at h
  split at h
  · split at h
    · split at h
      · simp only [Option.some.injEq, Prod.mk.injEq] at h; rw [← h.2]
      · split at h
        · simp only [Option.bind_eq_some_iff, Option.map_eq_some_iff] at h
          obtain ⟨cs, hc, H1, h1, h⟩ := h
          simp only [Prod.mk.injEq] at h
          rw [← h.2]; exact writeCells_len h1
        · simp at h
    · simp at h
  · simp at h

theorem vClear_len {t : TypeId} {x : Value} {H' : Heap} (h : vClear T H t x = some H') : H'.length = H.length := by
  unfold vClear at h
  split at h
  · split at h
    · simp only [Option.some.injEq] at h; rw [h]
    · split at h
      · exact writeCells_len h
      · simp at h
  · simp at h

theorem vAppend_len {t : TypeId} {x y r : Value} {H' : Heap} (h : vAppend T H t x y = some (r, H')) : H.length ≤ H'.length := by
  unfold vAppend at h
  simp only [Option.bind_eq_bind, Option.bind_eq_some_iff] at h
  obtain ⟨i, hi, h⟩ := h
  split at h
  · simp only [Option.bind_eq_some_iff] at h
    obtain ⟨ei, hei, h⟩ := h
    split at h
    · simp only [Option.bind_eq_some_iff] at h
      obtain ⟨new, hnew, h⟩ := h
      split at h
      · split at h
        · split at h <;> (simp only [Option.some.injEq, Prod.mk.injEq] at h; rw [← h.2]; simp)
        · split at h
          · split at h
            · split at h
              · split at h
                · simp only [Option.some.injEq, Prod.mk.injEq] at h; rw [← h.2]; simp
                · simp at h
              · simp at h
            · split at h
              · split at h
                · split at h
                  · rw [Option.map_eq_some_iff] at h
                    obtain ⟨H2, hH2, h⟩ := h
                    simp only [Prod.mk.injEq] at h
                    rw [← h.2, writeCells_len hH2]; exact Nat.le_refl _
                  · simp at h
                · simp at h
              · simp only [Option.bind_eq_some_iff] at h
                obtain ⟨old, hold, h⟩ := h
                simp only [Option.some.injEq, Prod.mk.injEq] at h; rw [← h.2]; simp
          · simp at h
      · simp at h
    · simp at h
  · simp at h

theorem map_arr {α β : Type} (f : α → β) (a : Array α) : (a.toList.map f).toArray = a.map f := by
  apply Array.ext'; simp

theorem VRs.of_parts {μ : Mu} {ρ : Operand → Value} {s : List Value} (hev : ∀ x, VR μ (ev s x) (ρ x)) : ∀ ps : List (Nat × Operand), VRs μ ((ps.map fun p => (p.1, ev s p.2)).map (·.2)) ((ps.map fun p => (p.1, ρ p.2)).map (·.2))
  | [] => .nil
  | p :: ps => .cons (hev p.2) (VRs.of_parts hev ps)

theorem vBuiltin_ok (ag : Agree P T) (h : HR base F μ H w) {b : Builtin} {xs xs' : List Value} {ts : List TypeId} {ty : TypeId} {cs : Array Bool} {v : Value} {H' : Heap} (hfree : H.length < H'.length → μ H.length = none) (hx : VRs μ xs xs') (hb : vBuiltin T H b xs ts = some (v, H')) :
    Step base F μ H H' w ((Go.builtin b ts.toArray ty cs xs'.toArray).run P w) fun ν n => Ans ν v n := by
  unfold vBuiltin at hb
  split at hb
  · rename_i x t
    rw [Option.map_eq_some_iff] at hb
    obtain ⟨u, hu, hb⟩ := hb
    simp only [Prod.mk.injEq] at hb
    obtain ⟨rfl, rfl⟩ := hb
    cases hx with
    | cons hx hn =>
      cases hn
      obtain ⟨h1, h2⟩ := vLen_ok (P := P) (ts := #[t]) (ty := ty) ag rfl hx hu w
      exact Step.pure_val h ⟨_, h1, h2⟩
  · rename_i k x k2 y
    simp only [Option.some.injEq, Prod.mk.injEq] at hb
    obtain ⟨rfl, rfl⟩ := hb
    cases hx with
    | cons hx hn =>
      cases hn with
      | cons hy hn =>
        cases hn; cases hx; cases hy
        refine Step.pure_val h ⟨_, ?_, .int _ _⟩
        simp [Builtin.max_, Builtin.max2]
  · rename_i k x k2 y
    simp only [Option.some.injEq, Prod.mk.injEq] at hb
    obtain ⟨rfl, rfl⟩ := hb
    cases hx with
    | cons hx hn =>
      cases hn with
      | cons hy hn =>
        cases hn; cases hx; cases hy
        refine Step.pure_val h ⟨_, ?_, .int _ _⟩
        simp [Builtin.min_, Builtin.min2]
  · rename_i x t
    rw [Option.map_eq_some_iff] at hb
    obtain ⟨H1, hH, hb⟩ := hb
    simp only [Prod.mk.injEq] at hb
    obtain ⟨rfl, rfl⟩ := hb
    cases hx with
    | cons hx hn =>
      cases hn
      exact Step.val (vClear_ok ag h hx hH).2
  · rename_i x y t u
    split at hb
    · rename_i htu
      subst htu
      cases hx with
      | cons hx hn =>
        cases hn with
        | cons hy hn =>
          cases hn
          exact Step.val (vAppend_ok (ty := ty) ag h hfree hx hy hb)
    · simp at hb
  · rename_i x y t u
    cases hx with
    | cons hx hn =>
      cases hn with
      | cons hy hn =>
        cases hn
        exact Step.val (vCopy_ok ag h hx hy hb)
  · simp at hb

theorem opEval_ok (ag : Agree P T) (h : HR base F μ H w) {s : List Value} {ρ : Operand → Value} (hev : ∀ x, VR μ (ev s x) (ρ x)) {o : Oper} {v : Value} {H' : Heap} (hfree : H.length < H'.length → μ H.length = none) (hb : opEval T s H o.op = some (v, H')) :
    Step base F μ H H' w ((execOp ρ o).run P w) fun ν n => Ans ν v n := by
  have one : ∀ {x : Option Value} {e : Sem Value}, x.map (fun v => (v, H)) = some (v, H') → (∀ u, x = some u → ∃ v', e.run P w = .ok v' w ∧ VR μ u v') → Step base F μ H H' w ((do pure (Next.value (← e)) : Sem Next).run P w) fun ν n => Ans ν v n := by
    intro x e hm hu
    rw [Option.map_eq_some_iff] at hm
    obtain ⟨u, hx, hm⟩ := hm
    simp only [Prod.mk.injEq] at hm
    obtain ⟨rfl, rfl⟩ := hm
    exact Step.pure_val h (hu _ hx)
  unfold opEval at hb
  unfold execOp
  cases hop : o.op <;> simp only [hop] at hb ⊢
  case move x =>
    simp only [Option.some.injEq, Prod.mk.injEq] at hb
    obtain ⟨rfl, rfl⟩ := hb
    exact Step.same h (a := Next.value (ρ x)) (by simp) (.inr ⟨_, rfl, hev x⟩)
  case assign x =>
    simp only [Option.some.injEq, Prod.mk.injEq] at hb
    obtain ⟨rfl, rfl⟩ := hb
    exact Step.same h (a := Next.value (ρ x)) (by simp) (.inr ⟨_, rfl, hev x⟩)
  case pick c a b =>
    split at hb <;> simp only [Option.some.injEq, Prod.mk.injEq, reduceCtorEq] at hb
    rename_i t ht
    obtain ⟨rfl, rfl⟩ := hb
    have hc := hev c
    rw [ht] at hc
    generalize hρ : ρ c = cv at hc
    cases hc
    refine Step.same h (a := Next.value (if t then ρ a else ρ b)) ?_ (.inr ⟨_, rfl, ?_⟩)
    · cases t <;> simp [hρ, asBool]
    · cases t <;> simp [hev]
  case alloc e =>
    rw [Option.bind_eq_some_iff] at hb
    obtain ⟨i, hi, hb⟩ := hb
    have ok := ag.ty e i hi
    have hz : VRs μ (cellsOf i.zero) (cellsOf i.zero) := VRs.refl_of fun u hu => plain_vr μ (ok.plains u hu)
    unfold vBox newRow at hb
    split at hb
    · simp at hb
    · rw [hi] at hb
      simp only [Option.map_some, Option.some.injEq, Prod.mk.injEq] at hb
      obtain ⟨rfl, rfl⟩ := hb
      replace hfree := hfree (by simp)
      refine Step.val (step_newRow h hfree hz i.size e (a := .pointer (some ⟨w.heap.size, 0, none⟩)) ?_ ?_)
      · have : i.zero.cells = (cellsOf i.zero).toArray := by rw [← cellsOf_cells]
        simp [Instr.alloc, ok.zero w, newVar, Go.newRow, this]
      · intro ν hm hl
        simpa using VR.ptr (o := 0) hl
  case box e x => exact Step.val (vBox_ok ag h (hfree (by rw [vBox_len hb]; omega)) (hev x) hb)
  case build t parts =>
    refine one hb fun u hu => ?_
    have := vBuild_ok (P := P) (parts' := parts.toList.map fun p => (p.1, ρ p.2)) ag hu (by simp) (VRs.of_parts hev parts.toList) w
    rw [map_arr] at this
    exact this
  case buildSlice t n parts =>
    refine Step.val ?_
    have := vBuildSlice_ok (P := P) (parts' := parts.toList.map fun p => (p.1, ρ p.2)) ag h (hfree (by rw [vBuildSlice_len hb]; omega)) hb (by simp) (VRs.of_parts hev parts.toList)
    rw [map_arr] at this
    exact this
  case load t a => exact one hb fun u hu => vLoad_ok ag h (hev a) hu
  case store t a x =>
    rw [Option.map_eq_some_iff] at hb
    obtain ⟨H1, hH, hb⟩ := hb
    simp only [Prod.mk.injEq] at hb
    obtain ⟨rfl, rfl⟩ := hb
    obtain ⟨_, a', w', μ', e, h1, h2, h3, h4, h5⟩ := vStore_ok ag h (hev a) (hev x) hH
    exact ⟨.skip, w', μ', by simp [e], h1, h2, h3, h4, .inl ⟨rfl, rfl⟩⟩
  case nilCheck x =>
    rw [Option.map_eq_some_iff] at hb
    obtain ⟨u, hx, hb⟩ := hb
    simp only [Prod.mk.injEq] at hb
    obtain ⟨rfl, rfl⟩ := hb
    have hs := vNilCheck_shape hx
    have hv := hev x
    rw [← hs] at hv
    refine Step.same h (a := Next.value (ρ x)) ?_ (.inr ⟨_, rfl, hv⟩)
    rw [hs] at hx
    unfold vNilCheck at hx
    rw [hs] at hv
    split at hx <;> simp at hx
    · rename_i a heq
      rw [heq] at hv
      generalize hρ : ρ x = y at hv
      cases hv
      simp
    · rename_i f a c heq
      rw [heq] at hv
      generalize hρ : ρ x = y at hv
      cases hv
      simp
    · rename_i t v heq
      rw [heq] at hv
      generalize hρ : ρ x = y at hv
      cases hv
      simp
  case binOp op t x y yt =>
    refine one hb fun u hu => ?_
    obtain ⟨h1, h2⟩ := binOp_ok ag (hev x) (hev y) hu x y w
    exact ⟨_, h1, h2⟩
  case unOp op t x =>
    refine one hb fun u hu => ?_
    obtain ⟨h1, h2⟩ := unOp_ok (P := P) (hev x) hu w
    exact ⟨_, h1, h2⟩
  case convert a b x =>
    split at hb
    · rename_i u hu
      simp only [Option.some.injEq, Prod.mk.injEq] at hb
      obtain ⟨rfl, rfl⟩ := hb
      obtain ⟨h1, h2⟩ := vConvert_ok ag (hev x) hu w
      exact Step.pure_val h ⟨_, h1, h2⟩
    · exact Step.val (vBytes_ok ag h hfree (hev x) hb)
  case makeMap t r =>
    cases r with
    | some r => simp at hb
    | none =>
      simp only [Option.some.injEq, Prod.mk.injEq] at hb
      obtain ⟨rfl, rfl⟩ := hb
      exact Step.val (vMakeMap_ok h (hfree (by simp)) t)
  case lookup t x k ok => exact one hb fun u hu => vLookup_ok ag h (hev x) (hev k) hu
  case mapUpdate t m k x =>
    rw [Option.map_eq_some_iff] at hb
    obtain ⟨H1, hH, hb⟩ := hb
    simp only [Prod.mk.injEq] at hb
    obtain ⟨rfl, rfl⟩ := hb
    obtain ⟨_, a', w', μ', e, h1, h2, h3, h4, h5⟩ := vMapUpdate_ok ag h (hev m) (hev k) (hev x) hH
    exact ⟨.skip, w', μ', by simp [e], h1, h2, h3, h4, .inl ⟨rfl, rfl⟩⟩
  case makeInterface t x => exact one hb fun u hu => vMakeIface_ok ag (hev x) hu w
  case makeFunc fn a c =>
    simp only [Option.some.injEq, Prod.mk.injEq] at hb
    obtain ⟨rfl, rfl⟩ := hb
    refine Step.pure_val h ⟨.func fn ((a.toList.map ρ).toArray) ((c.toList.map ρ).toArray), ?_, .func fn (VRs.of_map hev _) (VRs.of_map hev _)⟩
    simp [Instr.makeFunc, map_arr]
  case makeSlice t n c => exact Step.val (vMakeSlice_ok ag h (hfree (by rw [vMakeSlice_len hb]; omega)) (hev n) (hev c) hb)
  case slice t x lo hi mx => exact one hb fun u hu => sliceVal_ok ag h (hev x) (VRo.of_map hev lo) (VRo.of_map hev hi) (VRo.of_map hev mx) hu
  case fieldAddr t x f => exact one hb fun u hu => vFieldAddr_ok ag (hev x) hu w
  case field t x f => exact one hb fun u hu => vField_ok ag (hev x) hu w
  case indexAddr t x i => exact one hb fun u hu => indexAddr_ok ag h (hev x) (hev i) hu
  case index t x i =>
    refine one hb fun u hu => ?_
    obtain ⟨h1, h2⟩ := vIndex_ok (P := P) ag (hev x) (hev i) hu w
    exact ⟨_, h1, h2⟩
  case extract x i => exact one hb fun u hu => vExtract_ok (hev x) hu w
  case typeAssert x xt t ok =>
    cases ok
    · exact one hb fun u hu => vAssert_ok ag (hev x) hu w
    · simp at hb
  case call c =>
    obtain ⟨callee, args, ats⟩ := c
    cases callee <;> simp only [reduceCtorEq] at hb
    rename_i b
    have := fun cs => vBuiltin_ok (P := P) (ty := o.type) (cs := cs) ag h hfree (VRs.of_map hev args.toList) hb
    rw [map_arr] at this
    simp only [resolve, invoke, pure_bind]
    exact this _
  all_goals simp at hb

/-- Which operations may write. -/
def strong : Op → Bool
  | .store .. | .mapUpdate .. => true
  | .call { callee := .builtin .clear, .. } => true
  | .call { callee := .builtin .copy, .. } => true
  | _ => false

def isAppend : Op → Bool
  | .call { callee := .builtin .append, .. } => true
  | _ => false

def allocs : Op → Bool
  | .alloc _ | .box .. | .buildSlice .. | .makeSlice .. | .convert .. | .makeMap .. => true
  | _ => false

theorem opEval_len {s : List Value} {o : Op} {v : Value} {H' : Heap} (h : opEval T s H o = some (v, H')) : H.length ≤ H'.length ∧ (strong o = false → isAppend o = false → allocs o = false → H' = H) := by
  have same : ∀ {x : Option Value}, x.map (fun v => (v, H)) = some (v, H') → H' = H := by
    intro x hx
    rw [Option.map_eq_some_iff] at hx
    obtain ⟨u, _, hx⟩ := hx
    simp only [Prod.mk.injEq] at hx
    exact hx.2.symm
  have fin : H' = H → H.length ≤ H'.length ∧ (strong o = false → isAppend o = false → allocs o = false → H' = H) := fun e => ⟨by rw [e]; exact Nat.le_refl _, fun _ _ _ => e⟩
  unfold opEval at h
  split at h
  all_goals first
    | exact fin (same h)
    | (simp only [Option.some.injEq, Prod.mk.injEq] at h; exact fin h.2.symm)
    | skip
  · split at h
    · simp only [Option.some.injEq, Prod.mk.injEq] at h; exact fin h.2.symm
    · simp at h
  · rw [Option.bind_eq_some_iff] at h
    obtain ⟨i, hi, h⟩ := h
    exact ⟨by rw [vBox_len h]; omega, fun _ _ h2 => by simp [allocs] at h2⟩
  · exact ⟨by rw [vBox_len h]; omega, fun _ _ h2 => by simp [allocs] at h2⟩
  · exact ⟨by rw [vBuildSlice_len h]; omega, fun _ _ h2 => by simp [allocs] at h2⟩
  · rw [Option.map_eq_some_iff] at h
    obtain ⟨H1, hH, h⟩ := h
    simp only [Prod.mk.injEq] at h
    refine ⟨?_, fun h0 => by simp [strong] at h0⟩
    rw [← h.2]
    unfold vStore at hH
    simp only [Option.bind_eq_bind, Option.bind_eq_some_iff] at hH
    obtain ⟨i, hi, hH⟩ := hH
    split at hH
    · split at hH
      · rw [writeCells_len hH]; exact Nat.le_refl _
      · simp at hH
    · simp at hH
  · split at h
    · simp only [Option.some.injEq, Prod.mk.injEq] at h; exact fin h.2.symm
    · exact ⟨vBytes_len h, fun _ _ h2 => by simp [allocs] at h2⟩
  · simp only [Option.some.injEq, Prod.mk.injEq] at h
    exact ⟨by rw [← h.2]; simp, fun _ _ h2 => by simp [allocs] at h2⟩
  · rw [Option.map_eq_some_iff] at h
    obtain ⟨H1, hH, h⟩ := h
    simp only [Prod.mk.injEq] at h
    refine ⟨?_, fun h0 => by simp [strong] at h0⟩
    rw [← h.2, vMapUpdate_len hH]
    exact Nat.le_refl _
  · exact ⟨by rw [vMakeSlice_len h]; omega, fun _ _ h2 => by simp [allocs] at h2⟩
  · rename_i b args ats
    unfold vBuiltin at h
    split at h
    · exact fin (same h)
    · simp only [Option.some.injEq, Prod.mk.injEq] at h; exact fin h.2.symm
    · simp only [Option.some.injEq, Prod.mk.injEq] at h; exact fin h.2.symm
    · rw [Option.map_eq_some_iff] at h
      obtain ⟨H1, hH, h⟩ := h
      simp only [Prod.mk.injEq] at h
      refine ⟨?_, fun h0 => by simp [strong] at h0⟩
      rw [← h.2, vClear_len hH]
      exact Nat.le_refl _
    · split at h
      · exact ⟨vAppend_len h, fun _ h2 => by simp [isAppend] at h2⟩
      · simp at h
    · exact ⟨by rw [vCopy_len h]; exact Nat.le_refl _, fun h0 => by simp [strong] at h0⟩
    · simp at h
  · simp at h

end Go.Proofs.Ytdhbclplondmjaa.C

/- The abstract machine runs regions, code, functions. -/
set_option linter.unusedVariables false
set_option linter.unusedSimpArgs false
namespace Go.Proofs.Ytdhbclplondmjaa.C
open Go.RowKit

inductive Ex where
  | normal | exit (id : Nat) | ret

abbrev CallF := FuncId → List Value → Heap → Option (Value × Heap)

def put (s : List Value) (d : Option Tmp) (v : Value) : List Value :=
  match d with
  | some d => s.set d v
  | none => s

def guardC (ops : Array Oper) (o : Oper) (s : List Value) : Option Bool :=
  match o.guard with
  | none => some true
  | some (j, want) =>
    match (ops[j]?).bind (·.dst) with
    | some t => match s.getD t undef with | .bool b => some (b == want) | .chan none => some false | _ => none
    | none => none

def calleeOf (T : Tab) (s : List Value) (H : Heap) (o : Op) : Option (FuncId × List Value) :=
  match o with
  | .call { callee := .value f, args, .. } =>
    match ev s f with
    | .func (.func g) first cap => some (g, first.toList ++ args.toList.map (ev s) ++ cap.toList)
    | _ => none
  | .call { callee := .invoke r name, args, .. } =>
    match ev s r with
    | .iface t v =>
      match T.meth t name with
      | some (g, none) => some (g, v :: args.toList.map (ev s))
      | some (g, some e) => (vLoad T H e v).map fun u => (g, u :: args.toList.map (ev s))
      | none => none
    | _ => none
  | _ => none

def evalOp (T : Tab) (call : CallF) (s : List Value) (H : Heap) (o : Op) : Option (Value × Heap) :=
  match opEval T s H o with
  | some r => some r
  | none => match calleeOf T s H o with
    | some (f, args) => call f args H
    | none => none

/-- An append that is known to write where there is room. -/
def inPlace (s : List Value) (o : Op) : Bool :=
  match o with
  | .call { callee := .builtin .append, args, .. } =>
    match args.toList.map (ev s) with
    | [.slice _ n c, .slice _ m _] => decide (c ≠ unk ∧ 0 < m ∧ n + m ≤ c)
    | _ => false
  | _ => false

def evalOne (T : Tab) (call : CallF) (d : Bool) (ops : Array Oper) (o : Oper) (s : List Value) (H : Heap) : Option (List Value × Heap) :=
  match guardC ops o s with
  | some true => if d && inPlace s o.op then none else (evalOp T call s H o.op).map fun r => (put s o.dst r.1, r.2)
  | some false => some (put s o.dst (.chan none), H)
  | none => none

def evalIdx (T : Tab) (call : CallF) (d : Bool) (ops : Array Oper) : List Nat → List Value → Heap → Option (List Value × Heap)
  | [], s, H => some (s, H)
  | i :: is, s, H =>
    match ops[i]? with
    | none => none
    | some o => match evalOne T call d ops o s H with
      | some (s1, H1) => evalIdx T call d ops is s1 H1
      | none => none

/-- The heap as a call within a drawn region sees it: nothing of it may be written. -/
def Blk.freeze : Blk → Blk
  | .row sz cs _ live => .row sz cs false live
  | .map _ => .row 0 [] false false

/-- What such a call may leave behind. -/
def Blk.left : Blk → Blk
  | .row sz cs own live => .row sz cs own (own && live)
  | x => x

def quiet (call : CallF) : CallF := fun f args H =>
  (call f args (H.map Blk.freeze)).map fun r => (r.1, H ++ (r.2.drop H.length).map Blk.left)

/-- The order in which a drawn region is evaluated: what its first append waits for comes first. -/
def orderOf (ops : Array Oper) : List Nat :=
  match (List.range ops.size).find? (fun i => (ops[i]?).elim false fun o => isAppend o.op) with
  | none => List.range ops.size
  | some j =>
    let b := (Region.before ops).getD j 0
    (List.range ops.size).filter (fun i => b.testBit i) ++ j :: (List.range ops.size).filter (fun i => !(b.testBit i) && i != j)

def evalRegion (T : Tab) (call : CallF) (ops : Array Oper) (draw : Bool) (s : List Value) (H : Heap) : Option (List Value × Heap) :=
  if draw then evalIdx T (quiet call) true ops (orderOf ops) s H else evalIdx T call false ops (List.range ops.size) s H

def evalC (T : Tab) (call : CallF) : Nat → Code → List Value → Heap → Option (Ex × List Value × Heap)
  | 0, _, _, _ => none
  | n + 1, c, s, H =>
    match c with
    | .skip | .label _ => some (.normal, s, H)
    | .region _ ops draw => (evalRegion T call ops draw s H).map fun r => (.normal, r.1, r.2)
    | .seq a b =>
      match evalC T call n a s H with
      | some (.normal, s1, H1) => evalC T call n b s1 H1
      | r => r
    | .cond c a b =>
      match ev s c with
      | .bool true => evalC T call n a s H
      | .bool false => evalC T call n b s H
      | _ => none
    | .block id a =>
      match evalC T call n a s H with
      | some (.exit j, s1, H1) => if j = id then some (.normal, s1, H1) else some (.exit j, s1, H1)
      | r => r
    | .loop a =>
      match evalC T call n a s H with
      | some (.normal, s1, H1) => evalC T call n (.loop a) s1 H1
      | r => r
    | .exit id => some (.exit id, s, H)
    | .ret => some (.ret, s, H)
    | _ => none

def resOne (T : Tab) (s : List Value) (H : Heap) : ResultVar → Option Value
  | .tmp t => some (s.getD t undef)
  | .cell a t => vLoad T H t (s.getD a undef)

def resultsC (T : Tab) (fn : Func) (s : List Value) (H : Heap) : Option Value :=
  match fn.results.toList.mapM (resOne T s H) with
  | some [v] => some v
  | some vs => some (.tuple vs.toArray)
  | none => none

def startC (fn : Func) (args : List Value) : List Value := args ++ List.replicate (fn.ntmps - args.length) undef

def callC (T : Tab) : Nat → CallF
  | 0, _, _, _ => none
  | n + 1, f, args, H =>
    match T.ext f with
    | some e => e args H
    | none =>
      match T.fn f with
      | some fn =>
        match fn.body with
        | some c =>
          match evalC T (callC T n) n c (startC fn args) H with
          | some (.normal, s1, H1) => (resultsC T fn s1 H1).map fun v => (v, H1)
          | some (.ret, s1, H1) => (resultsC T fn s1 H1).map fun v => (v, H1)
          | _ => none
        | none => none
      | none => none

/-! ### More fuel -/

def CallLe (a b : CallF) : Prop := ∀ f args H r, a f args H = some r → b f args H = some r

variable {T : Tab}

theorem evalOp_mono {a b : CallF} (hab : CallLe a b) {s : List Value} {H : Heap} {o : Op} {r : Value × Heap} (h : evalOp T a s H o = some r) : evalOp T b s H o = some r := by
  unfold evalOp at *
  split at h
  · exact h
  · split at h
    · exact hab _ _ _ _ h
    · simp at h

theorem evalOne_mono {a b : CallF} (hab : CallLe a b) {d : Bool} {ops : Array Oper} {o : Oper} {s : List Value} {H : Heap} {r : List Value × Heap} (h : evalOne T a d ops o s H = some r) : evalOne T b d ops o s H = some r := by
  unfold evalOne at *
  split at h
  · split at h
    · simp at h
    · rename_i hd
      rw [if_neg hd]
      rw [Option.map_eq_some_iff] at h ⊢
      obtain ⟨x, hx, h⟩ := h
      exact ⟨x, evalOp_mono hab hx, h⟩
  · exact h
  · simp at h

theorem evalIdx_mono {a b : CallF} (hab : CallLe a b) {d : Bool} {ops : Array Oper} : ∀ {is : List Nat} {s : List Value} {H : Heap} {r : List Value × Heap}, evalIdx T a d ops is s H = some r → evalIdx T b d ops is s H = some r
  | [], _, _, _, h => h
  | i :: is, s, H, r, h => by
    unfold evalIdx at *
    split at h
    · simp at h
    · split at h
      · rename_i s1 H1 e1
        rw [evalOne_mono hab e1]
        exact evalIdx_mono hab h
      · simp at h

theorem quiet_mono {a b : CallF} (hab : CallLe a b) : CallLe (quiet a) (quiet b) := by
  intro f args H r h
  unfold quiet at *
  rw [Option.map_eq_some_iff] at h ⊢
  obtain ⟨x, hx, h⟩ := h
  exact ⟨x, hab _ _ _ _ hx, h⟩

theorem evalC_mono {a b : CallF} (hab : CallLe a b) : ∀ {n m : Nat} (hnm : n ≤ m) {c : Code} {s : List Value} {H : Heap} {r : Ex × List Value × Heap}, evalC T a n c s H = some r → evalC T b m c s H = some r
  | 0, _, _, _, _, _, _, h => by simp [evalC] at h
  | n + 1, 0, hnm, _, _, _, _, h => by omega
  | n + 1, m + 1, hnm, c, s, H, r, h => by
    have hle : n ≤ m := by omega
    unfold evalC at *
    cases c <;> simp only at h ⊢ <;> try exact h
    · rw [Option.map_eq_some_iff] at h ⊢
      obtain ⟨x, hx, h⟩ := h
      refine ⟨x, ?_, h⟩
      unfold evalRegion at *
      split at hx
      · rename_i e; rw [if_pos e]; exact evalIdx_mono (quiet_mono hab) hx
      · rename_i e; rw [if_neg e]; exact evalIdx_mono hab hx
    · split at h
      · rename_i s1 H1 e
        rw [evalC_mono hab hle e]
        exact evalC_mono hab hle h
      · rename_i x y
        cases hr : evalC T a n _ s H with
        | none => rw [hr] at h; simp at h
        | some q =>
          rw [hr] at h
          simp only [Option.some.injEq] at h
          subst h
          rw [evalC_mono hab hle hr]
          split
          · rename_i s1 H1 e
            simp only [Option.some.injEq] at e
            exact absurd (hr.trans (congrArg some e)) (by intro q; exact y _ _ q)
          · rfl
    · split at h
      · exact evalC_mono hab hle h
      · exact evalC_mono hab hle h
      · simp at h
    · split at h
      · rename_i j s1 H1 e
        rw [evalC_mono hab hle e]
        exact h
      · rename_i x y
        cases hr : evalC T a n _ s H with
        | none => rw [hr] at h; simp at h
        | some q =>
          rw [hr] at h
          simp only [Option.some.injEq] at h
          subst h
          rw [evalC_mono hab hle hr]
          split
          · rename_i j s1 H1 e
            simp only [Option.some.injEq] at e
            exact absurd (hr.trans (congrArg some e)) (by intro q; exact y _ _ _ q)
          · rfl
    · split at h
      · rename_i s1 H1 e
        rw [evalC_mono hab hle e]
        exact evalC_mono hab hle h
      · rename_i x y
        cases hr : evalC T a n _ s H with
        | none => rw [hr] at h; simp at h
        | some q =>
          rw [hr] at h
          simp only [Option.some.injEq] at h
          subst h
          rw [evalC_mono hab hle hr]
          split
          · rename_i s1 H1 e
            simp only [Option.some.injEq] at e
            exact absurd (hr.trans (congrArg some e)) (by intro q; exact y _ _ q)
          · rfl

theorem callC_mono : ∀ {n m : Nat}, n ≤ m → CallLe (callC T n) (callC T m)
  | 0, _, _, f, args, H, r, h => by simp [callC] at h
  | n + 1, 0, hnm, _, _, _, _, _ => by omega
  | n + 1, m + 1, hnm, f, args, H, r, h => by
    have hle : n ≤ m := by omega
    unfold callC at *
    split at h
    · exact h
    · split at h
      · rename_i fn hf
        split at h
        · rename_i c hc
          split at h
          · rename_i s1 H1 e; rw [evalC_mono (callC_mono hle) hle e]; exact h
          · rename_i s1 H1 e; rw [evalC_mono (callC_mono hle) hle e]; exact h
          · simp at h
        · simp at h
      · simp at h

end Go.Proofs.Ytdhbclplondmjaa.C

/- What the abstract machine computes is what the machine computes: operations, regions in text order. -/
set_option linter.unusedVariables false
set_option linter.unusedSimpArgs false
namespace Go.Proofs.Ytdhbclplondmjaa.C
open Go.RowKit

variable {P : Program} {T : Tab} {base : Nat} {F : Nat → Prop}

/-- From one state of the memory to another. -/
structure Goes (base : Nat) (F : Nat → Prop) (μ μ' : Mu) (H H' : Heap) (w w' : World) : Prop where
  le : MuLe μ μ'
  same : ∀ b, (b < H.length ∨ H'.length ≤ b) → μ' b = μ b
  hr : HR base F μ' H' w'
  fr : Fr base F w w'
  len : H.length ≤ H'.length

theorem Goes.refl {μ : Mu} {H : Heap} {w : World} (h : HR base F μ H w) : Goes base F μ μ H H w w := ⟨MuLe.refl _, fun _ _ => rfl, h, Fr.refl _ _ _, Nat.le_refl _⟩

theorem Goes.trans {μ μ' μ'' : Mu} {H H' H'' : Heap} {w w' w'' : World} (h : Goes base F μ μ' H H' w w') (k : Goes base F μ' μ'' H' H'' w' w'') : Goes base F μ μ'' H H'' w w'' where
  le := h.le.trans k.le
  same b hb := by
    have h1 := h.len
    have h2 := k.len
    rw [k.same b (by omega), h.same b (by omega)]
  hr := k.hr
  fr := h.fr.trans k.fr
  len := Nat.le_trans h.len k.len

def Free (μ : Mu) (m n : Nat) : Prop := ∀ b, m ≤ b → b < n → μ b = none

theorem Free.after {μ μ' : Mu} {H H' : Heap} {w w' : World} {n : Nat} (hf : Free μ H.length n) (h : Goes base F μ μ' H H' w w') : Free μ' H'.length n := by
  intro b h1 h2
  have := h.len
  rw [h.same b (.inr h1)]
  exact hf b (by omega) h2

theorem Free.le {μ : Mu} {m n k : Nat} (hf : Free μ m n) (h : k ≤ n) : Free μ m k := fun b h1 h2 => hf b h1 (by omega)

def CallPost (base : Nat) (F : Nat → Prop) (μ : Mu) (H H' : Heap) (w : World) (v : Value) (e : Ending) (w' : World) : Prop :=
  ∃ v' μ', e = .returned v' ∧ Goes base F μ μ' H H' w w' ∧ VR μ' v v'

structure SoundCall (P : Program) (call : CallF) : Prop where
  enter : ∀ f args H r, call f args H = some r → ∀ xs w, (callFunc f xs).run P w = .ok (.enter f xs) w
  calls : ∀ f args H v H', call f args H = some (v, H') → ∀ base F μ w args', HR base F μ H w → Free μ H.length H'.length → VRs μ args args' → Calls P f args'.toArray w (CallPost base F μ H H' w v)
  len : ∀ f args H v H', call f args H = some (v, H') → H.length ≤ H'.length

/-- What a program must have for the methods of the table. -/
structure MethOk (P : Program) (t : TypeId) (name : String) (f : FuncId) (e : Option TypeId) : Prop where
  ok : ∃ inf m b d, P.info? t = some inf ∧ inf.methods.find? (·.name == name) = some m ∧ m.path = #[] ∧ m.func = some (f, b) ∧ P.underlying t = some d ∧
    match e with
    | none => (∃ x, d = .pointer x ∧ b = true) ∨ ((∀ x, d ≠ .pointer x) ∧ b = false)
    | some x => d = .pointer x ∧ b = false

theorem SR.evals {μ : Mu} {s : List Value} {a : Act} (h : SR μ s a.tmps) (x : Operand) : VR μ (ev s x) (a.eval x) := by
  cases x with
  | tmp t => exact h.get t
  | const v =>
    simp only [ev, Act.eval]
    split
    · rename_i hp; exact plain_vr μ hp
    · exact .undef _
  | global g => exact .undef _
  | func f => exact .func (.func f) .nil .nil

theorem SR.puts {μ : Mu} {s : List Value} {a : Act} (h : SR μ s a.tmps) (d : Option Tmp) {v v' : Value} (hv : VR μ v v') : SR μ (C.put s d v) (a.put d v').tmps := by
  cases d with
  | none => exact h
  | some d => exact h.put d hv

theorem put_defers (a : Act) (d : Option Tmp) (v : Value) : (a.put d v).defers = a.defers := by cases d <;> rfl

def RecOk (P : Program) (w : World) (u' rec' : Value) : Option TypeId → Prop
  | none => rec' = u'
  | some x => ∃ ad, u' = .pointer (some ad) ∧ (loadVar x ad).run P w = .ok rec' w

theorem run_wrapchk (ts : Array TypeId) (t : TypeId) (ad : Addr) (a b : ByteArray) (w : World) : (Builtin.ssaWrapNilChk_ ts t #[.pointer (some ad), .string a, .string b]).run P w = .ok (.pointer (some ad)) w := rfl

/-- The operation's own law, for what follows. -/
theorem evalOp_wp {call : CallF} (ag : Agree P T) (hm : ∀ t n f e, T.meth t n = some (f, e) → MethOk P t n f e) (hc : SoundCall P call) {μ : Mu} {s : List Value} {H H' : Heap} {w : World} {a : Act} {o : Oper} {v : Value}
    (he : evalOp T call s H o.op = some (v, H')) (h : HR base F μ H w) (hf : Free μ H.length H'.length) (hev : ∀ x, VR μ (ev s x) (a.eval x)) {K : Act → World → Prop} {Q : Exit → Act → World → Prop}
    (hK : ∀ v' w' μ', Goes base F μ μ' H H' w w' → VR μ' v v' → K (a.put o.dst v') w') : o.wp P a w K Q := by
  unfold evalOp at he
  split at he
  · rename_i r hr
    simp only [Option.some.injEq] at he
    subst he
    have hlen := (opEval_len hr).1
    obtain ⟨n, w', μ', e, h1, h2, h3, h4, h5⟩ := opEval_ok (ρ := a.eval) ag h hev (fun hlt => hf _ (Nat.le_refl _) hlt) hr
    have hg : Goes base F μ μ' H H' w w' := ⟨h1, h2, h3, h4, hlen⟩
    unfold Oper.wp
    rw [e]
    rcases h5 with ⟨rfl, rfl⟩ | ⟨v', rfl, hv⟩
    · exact hK undef w' μ' hg (.undef _)
    · exact hK v' w' μ' hg hv
  · split at he
    · rename_i f args hcal
      have hent := hc.enter f args H _ he
      have run : ∀ args', VRs μ args args' → (execOp a.eval o).run P w = .ok (.enter f args'.toArray) w → o.wp P a w K Q := by
        intro args' ha hrun
        unfold Oper.wp
        rw [hrun]
        simp only [Oper.upon]
        refine Calls.mono (hc.calls f args H v H' he base F μ w args' h hf ha) ?_
        rintro e w' ⟨v', μ', rfl, hg, hv⟩
        exact hK v' w' μ' hg hv
      unfold calleeOf at hcal
      split at hcal
      · rename_i fo xs ats hop
        split at hcal
        · rename_i g first cap hfo
          simp only [Option.some.injEq, Prod.mk.injEq] at hcal
          obtain ⟨rfl, rfl⟩ := hcal
          have hv := hev fo
          rw [hfo] at hv
          generalize hρ : a.eval fo = fv at hv
          cases hv with
          | func fn hfs hcs =>
            refine run _ ((VRs.append hfs (VRs.of_map hev xs.toList)).append hcs) ?_
            simp only [execOp, hop, resolve, hρ, Deferred.ofValue, pure_bind, invoke]
            rw [hent]
            simp [← map_arr]
        · simp at hcal
      · rename_i r name xs ats hop
        split at hcal
        · rename_i t u hr
          have hv := hev r
          rw [hr] at hv
          generalize hρ : a.eval r = rv at hv
          cases hv with
          | iface t hu =>
            rename_i u'
            have meth : ∀ {e : Option TypeId} {g : FuncId}, T.meth t name = some (g, e) → ∀ rec', RecOk P w u' rec' e →
                (method (P.types.size + Made.depth) t u' name).run P w = .ok (g, rec') w := by
              intro e g hme rec' hrec
              obtain ⟨inf, m, b, d, i1, i2, i3, i4, i5, i6⟩ := (hm _ _ _ _ hme).ok
              have hfuel : P.types.size + Made.depth = (P.types.size + Made.depth - 1) + 1 := by
                have : 0 < Made.depth := by decide
                omega
              rw [hfuel]
              unfold method
              cases e with
              | none =>
                simp only [RecOk] at hrec
                subst hrec
                rcases i6 with ⟨x, rfl, rfl⟩ | ⟨hd, rfl⟩
                · simp [typeInfo, i1, i2, i3, i4, follow, receiverAt, run_underlying i5, Place.get]
                · simp [typeInfo, i1, i2, i3, i4, follow, receiverAt, run_underlying i5, Place.get]
              | some x =>
                obtain ⟨rfl, rfl⟩ := i6
                obtain ⟨ad, rfl, hl⟩ := hrec
                simp [typeInfo, i1, i2, i3, i4, follow, receiverAt, run_underlying i5, Place.get, run_wrapchk, strVal, asAddr, hl]
            have imeth : ∀ {e : Option TypeId} {g : FuncId} (hme : T.meth t name = some (g, e)) (rec' : Value), RecOk P w u' rec' e → f = g →
                (do let some recv := (#[Value.iface t u'] ++ xs.map a.eval)[0]? | stuck "call: a method without a receiver"
                    callMethod recv name ((#[Value.iface t u'] ++ xs.map a.eval).extract 1 (#[Value.iface t u'] ++ xs.map a.eval).size) : Sem Next).run P w = .ok (.enter f (rec' :: xs.toList.map a.eval).toArray) w := by
              intro e g hme rec' hrec hfg
              subst hfg
              have := meth hme rec' hrec
              have hx : (#[Value.iface t u'] ++ xs.map a.eval).extract 1 (#[Value.iface t u'] ++ xs.map a.eval).size = xs.map a.eval := by
                apply Array.ext'; simp [List.take_of_length_le]
              have h0 : (#[Value.iface t u'] ++ xs.map a.eval)[0]? = some (.iface t u') := by rw [Array.getElem?_append]; rfl
              rw [hx, h0]
              simp only [callMethod]
              simp
              rw [this]
              simp [hent]
            split at hcal
            · rename_i g hme
              simp only [Option.some.injEq, Prod.mk.injEq] at hcal
              obtain ⟨rfl, rfl⟩ := hcal
              refine run (u' :: xs.toList.map a.eval) (.cons hu (VRs.of_map hev xs.toList)) ?_
              simp only [execOp, hop, resolve, hρ, pure_bind, invoke]
              exact imeth hme u' rfl rfl
            · rename_i g e hme
              rw [Option.map_eq_some_iff] at hcal
              obtain ⟨u2, hu2, hcal⟩ := hcal
              simp only [Prod.mk.injEq] at hcal
              obtain ⟨rfl, rfl⟩ := hcal
              obtain ⟨v2, hl, hv2⟩ := vLoad_ok ag h hu hu2
              refine run (v2 :: xs.toList.map a.eval) (.cons hv2 (VRs.of_map hev xs.toList)) ?_
              simp only [execOp, hop, resolve, hρ, pure_bind, invoke]
              refine imeth hme v2 ?_ rfl
              have : ∃ ad, u = .pointer (some ad) := by
                unfold vLoad at hu2
                simp only [Option.bind_eq_bind, Option.bind_eq_some_iff] at hu2
                obtain ⟨i, hi, hu2⟩ := hu2
                split at hu2
                · exact ⟨_, rfl⟩
                · simp at hu2
              obtain ⟨ad, rfl⟩ := this
              cases hu
              exact ⟨_, rfl, by simpa [Instr.loadAt, Instr.sureAddr] using hl⟩
            · simp at hcal
        · simp at hcal
      · simp at hcal
    · simp at he

end Go.Proofs.Ytdhbclplondmjaa.C

/- Regions in text order, code, functions. -/
set_option linter.unusedVariables false
set_option linter.unusedSimpArgs false
namespace Go.Proofs.Ytdhbclplondmjaa.C
open Go.RowKit

variable {P : Program} {T : Tab} {base : Nat} {F : Nat → Prop}

/-- The state behind. -/
def After (base : Nat) (F : Nat → Prop) (μ : Mu) (H : Heap) (s1 : List Value) (H1 : Heap) (a : Act) (w : World) (a' : Act) (w' : World) : Prop :=
  ∃ μ', Goes base F μ μ' H H1 w w' ∧ SR μ' s1 a'.tmps ∧ a'.defers = a.defers

theorem After.trans {μ μ' : Mu} {H H1 H2 : Heap} {s2 : List Value} {a a1 a2 : Act} {w w1 w2 : World} (g : Goes base F μ μ' H H1 w w1) (hd : a1.defers = a.defers) (k : After base F μ' H1 s2 H2 a1 w1 a2 w2) : After base F μ H s2 H2 a w a2 w2 :=
  let ⟨ν, h, hs, hd2⟩ := k
  ⟨ν, g.trans h, hs, hd2.trans hd⟩

theorem guard_ok {μ : Mu} {ops : Array Oper} {o : Oper} {s : List Value} {a : Act} {b : Bool} (hs : SR μ s a.tmps) (h : guardC ops o s = some b) : Region.wanted o (yielded ops a.tmps) = b := by
  unfold guardC at h
  unfold Region.wanted
  split at h
  · rename_i e
    simp only [Option.some.injEq] at h
    rw [e]; exact h
  · rename_i j want e
    rw [e]
    split at h
    · rename_i t ht
      split at h
      · rename_i c hc
        simp only [Option.some.injEq] at h
        have hv := hs.get t
        rw [hc] at hv
        have hget : a.tmps[t]? = some (.bool c) := by
          generalize hg : a.tmps.getD t undef = x at hv
          cases hv
          rw [Array.getD_eq_getD_getElem?] at hg
          cases hq : a.tmps[t]? with
          | none => rw [hq] at hg; simp [undef] at hg
          | some y => rw [hq] at hg; simp at hg; rw [hg]
        have hd : (ops[j]?).bind (·.dst) = some t := ht
        simp only [yielded, hd, Option.bind_some, hget]
        rw [← h]
        cases c <;> cases want <;> rfl
      · rename_i hc
        simp only [Option.some.injEq] at h
        have hv := hs.get t
        rw [hc] at hv
        have hd : (ops[j]?).bind (·.dst) = some t := ht
        have hy : yielded ops a.tmps j = none := by
          simp only [yielded, hd, Option.bind_some]
          generalize hg : a.tmps.getD t undef = x at hv
          cases hv
          rw [Array.getD_eq_getD_getElem?] at hg
          cases hq : a.tmps[t]? with
          | none => rfl
          | some y => rw [hq] at hg; simp at hg; rw [hg]
        simp only [hy]
        rw [← h]
        rfl
      · simp at h
    · simp at h

theorem evalOp_len {call : CallF} (hc : SoundCall P call) {s : List Value} {H H' : Heap} {o : Op} {v : Value} (h : evalOp T call s H o = some (v, H')) : H.length ≤ H'.length := by
  unfold evalOp at h
  split at h
  · rename_i r hr
    simp only [Option.some.injEq] at h
    subst h
    exact (opEval_len hr).1
  · split at h
    · exact hc.len _ _ _ _ _ h
    · simp at h

theorem evalOne_len {call : CallF} (hc : SoundCall P call) {d : Bool} {ops : Array Oper} {o : Oper} {s s1 : List Value} {H H1 : Heap} (h : evalOne T call d ops o s H = some (s1, H1)) : H.length ≤ H1.length := by
  unfold evalOne at h
  split at h
  · split at h
    · simp at h
    rw [Option.map_eq_some_iff] at h
    obtain ⟨x, hx, h⟩ := h
    simp only [Prod.mk.injEq] at h
    rw [← h.2]
    exact evalOp_len (v := x.1) hc hx
  · simp only [Option.some.injEq, Prod.mk.injEq] at h
    rw [h.2]; exact Nat.le_refl _
  · simp at h

theorem evalIdx_len {call : CallF} (hc : SoundCall P call) {d : Bool} {ops : Array Oper} : ∀ {is : List Nat} {s s1 : List Value} {H H1 : Heap}, evalIdx T call d ops is s H = some (s1, H1) → H.length ≤ H1.length
  | [], s, s1, H, H1, h => by simp [evalIdx] at h; rw [h.2]; exact Nat.le_refl _
  | i :: is, s, s1, H, H1, h => by
    unfold evalIdx at h
    split at h
    · simp at h
    · split at h
      · rename_i s2 H2 e
        exact Nat.le_trans (evalOne_len hc e) (evalIdx_len hc h)
      · simp at h

/-- One operation. -/
theorem evalOne_wp {call : CallF} (ag : Agree P T) (hm : ∀ t n f e, T.meth t n = some (f, e) → MethOk P t n f e) (hc : SoundCall P call) {d : Bool} {μ : Mu} {ops : Array Oper} {o : Oper} {s s1 : List Value} {H H1 : Heap} {w : World} {a : Act}
    (he : evalOne T call d ops o s H = some (s1, H1)) (h : HR base F μ H w) (hs : SR μ s a.tmps) (hf : Free μ H.length H1.length) {K : Act → World → Prop} {Q : Exit → Act → World → Prop}
    (hK : ∀ a' w' μ', Goes base F μ μ' H H1 w w' → SR μ' s1 a'.tmps → a'.defers = a.defers → K a' w') :
    if Region.wanted o (yielded ops a.tmps) then o.wp P a w K Q ∨ (o.asks P a w ∧ LetsOut Q) else K (a.put o.dst undef) w := by
  unfold evalOne at he
  split at he
  · rename_i hg
    rw [guard_ok hs hg, if_pos rfl]
    split at he
    · simp at he
    rw [Option.map_eq_some_iff] at he
    obtain ⟨⟨v, H2⟩, hx, he⟩ := he
    simp only [Prod.mk.injEq] at he
    obtain ⟨rfl, rfl⟩ := he
    exact .inl (evalOp_wp ag hm hc hx h hf hs.evals fun v' w' μ' g hv => hK _ _ μ' g ((hs.mono g.le).puts o.dst hv) (put_defers _ _ _))
  · rename_i hg
    rw [guard_ok hs hg]
    simp only [Option.some.injEq, Prod.mk.injEq] at he
    obtain ⟨rfl, rfl⟩ := he
    simp only [Bool.false_eq_true, if_false]
    exact hK _ _ μ (Goes.refl h) (hs.puts o.dst .skip) (put_defers _ _ _)
  · simp at he

theorem evalIdx_wp {call : CallF} (ag : Agree P T) (hm : ∀ t n f e, T.meth t n = some (f, e) → MethOk P t n f e) (hc : SoundCall P call) {d : Bool} {ops : Array Oper} {Q : Exit → Act → World → Prop} :
    ∀ {is : List Nat} {μ : Mu} {s s1 : List Value} {H H1 : Heap} {w : World} {a : Act}, evalIdx T call d ops is s H = some (s1, H1) → HR base F μ H w → SR μ s a.tmps → Free μ H.length H1.length →
      (∀ a' w', After base F μ H s1 H1 a w a' w' → Q .normal a' w') → wpOps P ops Q is a w
  | [], μ, s, s1, H, H1, w, a, he, h, hs, hf, hQ => by
    simp only [evalIdx, Option.some.injEq, Prod.mk.injEq] at he
    obtain ⟨rfl, rfl⟩ := he
    exact hQ a w ⟨μ, Goes.refl h, hs, rfl⟩
  | i :: is, μ, s, s1, H, H1, w, a, he, h, hs, hf, hQ => by
    unfold evalIdx at he
    split at he
    · simp at he
    · rename_i o ho
      split at he
      · rename_i s2 H2 e
        have hl1 := evalOne_len hc e
        have hl2 := evalIdx_len hc he
        rw [wpOps]
        simp only [ho]
        refine evalOne_wp ag hm hc e h hs (hf.le hl2) fun a' w' μ' g hs' hd => ?_
        exact evalIdx_wp ag hm hc he g.hr hs' (hf.after g) fun a2 w2 k => hQ a2 w2 (After.trans g hd k)
      · simp at he

/-- The law of the regions that are drawn. -/
def DrawOk (P : Program) (T : Tab) (ops : Array Oper) : Prop :=
  ∀ (id : Nat) (call : CallF), SoundCall P call → ∀ base F μ s s1 H H1 w a, evalIdx T (quiet call) true ops (orderOf ops) s H = some (s1, H1) → HR base F μ H w → SR μ s a.tmps → Free μ H.length H1.length →
    (Code.region id ops true).wp P (fun e a' w' => e = .normal ∧ After base F μ H s1 H1 a w a' w') a w

/-- All drawn regions of a code are taken. -/
def CodeOk (P : Program) (T : Tab) : Code → Prop
  | .region _ ops draw => draw = true → DrawOk P T ops
  | .seq a b => CodeOk P T a ∧ CodeOk P T b
  | .cond _ a b => CodeOk P T a ∧ CodeOk P T b
  | .block _ a => CodeOk P T a
  | .loop a => CodeOk P T a
  | _ => True

def exOf : Ex → Exit
  | .normal => .normal
  | .exit id => .exit id
  | .ret => .ret

theorem quiet_len {call : CallF} {f : FuncId} {args : List Value} {H H' : Heap} {v : Value} (h : quiet call f args H = some (v, H')) : H.length ≤ H'.length := by
  unfold quiet at h
  rw [Option.map_eq_some_iff] at h
  obtain ⟨x, hx, h⟩ := h
  simp only [Prod.mk.injEq] at h
  rw [← h.2]; simp

theorem evalIdx_qlen {call : CallF} {d : Bool} {ops : Array Oper} : ∀ {is : List Nat} {s s1 : List Value} {H H1 : Heap}, evalIdx T (quiet call) d ops is s H = some (s1, H1) → H.length ≤ H1.length
  | [], s, s1, H, H1, h => by simp [evalIdx] at h; rw [h.2]; exact Nat.le_refl _
  | i :: is, s, s1, H, H1, h => by
    unfold evalIdx at h
    split at h
    · simp at h
    · split at h
      · rename_i s2 H2 e
        refine Nat.le_trans ?_ (evalIdx_qlen h)
        unfold evalOne at e
        split at e
        · split at e
          · simp at e
          rw [Option.map_eq_some_iff] at e
          obtain ⟨x, hx, e⟩ := e
          simp only [Prod.mk.injEq] at e
          rw [← e.2]
          unfold evalOp at hx
          split at hx
          · rename_i r hr
            simp only [Option.some.injEq] at hx
            subst hx
            exact (opEval_len hr).1
          · split at hx
            · exact quiet_len (v := x.1) hx
            · simp at hx
        · simp only [Option.some.injEq, Prod.mk.injEq] at e
          rw [e.2]; exact Nat.le_refl _
        · simp at e
      · simp at h

theorem evalC_len {call : CallF} (hc : SoundCall P call) : ∀ {n : Nat} {c : Code} {s : List Value} {H : Heap} {r : Ex × List Value × Heap}, evalC T call n c s H = some r → H.length ≤ r.2.2.length
  | 0, _, _, _, _, h => by simp [evalC] at h
  | n + 1, c, s, H, r, h => by
    unfold evalC at h
    cases c <;> simp only [Option.some.injEq, reduceCtorEq] at h
    · subst h; exact Nat.le_refl _
    · rw [Option.map_eq_some_iff] at h
      obtain ⟨x, hx, h⟩ := h
      subst h
      unfold evalRegion at hx
      split at hx
      · exact evalIdx_qlen (s1 := x.1) hx
      · exact evalIdx_len (s1 := x.1) hc hx
    · split at h
      · rename_i s1 H1 e
        exact Nat.le_trans (evalC_len hc e) (evalC_len hc h)
      · exact evalC_len hc h
    · split at h
      · exact evalC_len hc h
      · exact evalC_len hc h
      · simp at h
    · split at h
      · rename_i j s1 H1 e
        have := evalC_len hc e
        split at h <;> (simp only [Option.some.injEq] at h; subst h; exact this)
      · exact evalC_len hc h
    · split at h
      · rename_i s1 H1 e
        exact Nat.le_trans (evalC_len hc e) (evalC_len hc h)
      · exact evalC_len hc h
    · subst h; exact Nat.le_refl _
    · subst h; exact Nat.le_refl _
    · subst h; exact Nat.le_refl _

theorem wp_loop_rel {c : Code} {Q : Exit → Act → World → Prop} (I : Nat → Act → World → Prop) {m0 : Nat} {a : Act} {w : World} (h0 : I m0 a w)
    (round : ∀ m a w, I m a w → c.wp P (Exit.then (fun a' w' => ∃ m', m' < m ∧ I m' a' w') Q) a w) : (Code.loop c).wp P Q a w := by
  intro b k cs
  have key : ∀ m a w, I m a w → ∃ e a' w', Q e a' w' ∧ Arrives P (lone (b.at a (.code c :: .inLoop c :: k)) cs w) b k cs e a' w' := by
    intro m
    induction m using Nat.strongRecOn with
    | _ m ih =>
      intro a w hI
      obtain ⟨e, a1, w1, hq, harr⟩ := round m a w hI b (.inLoop c :: k) cs
      cases e with
      | normal =>
        obtain ⟨m', hlt, hI'⟩ := hq
        obtain ⟨e2, a2, w2, hq2, harr2⟩ := ih m' hlt a1 w1 hI'
        exact ⟨e2, a2, w2, hq2, .of_steps (Steps.trans harr (.one step_inLoop)) harr2⟩
      | exit id => exact ⟨_, a1, w1, hq, .pass (x := .inLoop c) rfl (fun _ _ => .inl (by simp)) harr⟩
      | goto l => exact ⟨_, a1, w1, hq, .pass (x := .inLoop c) rfl (fun _ _ => .inl (by simp)) harr⟩
      | ret => exact ⟨_, a1, w1, hq, .pass (x := .inLoop c) rfl (fun _ _ => .inl (by simp)) harr⟩
      | panic ch => exact ⟨_, a1, w1, hq, .pass (x := .inLoop c) rfl (fun _ _ => .inl (by simp)) harr⟩
      | outgrown => exact ⟨_, a1, w1, hq, .pass (x := .inLoop c) rfl (fun _ _ => .inl (by simp)) harr⟩
  obtain ⟨e, a', w', hq, harr⟩ := key m0 a w h0
  exact ⟨e, a', w', hq, .of_steps (.one step_loop) harr⟩

theorem CallLe.refl (a : CallF) : CallLe a a := fun _ _ _ _ h => h

theorem evalC_wp {call : CallF} (ag : Agree P T) (hm : ∀ t n f e, T.meth t n = some (f, e) → MethOk P t n f e) (hc : SoundCall P call) :
    ∀ (n : Nat) {c : Code} {μ : Mu} {s s1 : List Value} {H H1 : Heap} {e : Ex} {w : World} {a : Act}, CodeOk P T c → evalC T call n c s H = some (e, s1, H1) → HR base F μ H w → SR μ s a.tmps → Free μ H.length H1.length →
      c.wp P (fun x a' w' => x = exOf e ∧ After base F μ H s1 H1 a w a' w') a w
  | 0, c, μ, s, s1, H, H1, e, w, a, hok, he, h, hs, hf => by simp [evalC] at he
  | n + 1, c, μ, s, s1, H, H1, e, w, a, hok, he, h, hs, hf => by
    have same : s = s1 → H = H1 → After base F μ H s1 H1 a w a w := by
      rintro rfl rfl
      exact ⟨μ, Goes.refl h, hs, rfl⟩
    unfold evalC at he
    cases c <;> simp only [Option.some.injEq, Prod.mk.injEq, reduceCtorEq] at he
    · obtain ⟨rfl, h1, h2⟩ := he
      exact wp_skip ⟨rfl, same h1 h2⟩
    · rename_i id ops draw
      rw [Option.map_eq_some_iff] at he
      obtain ⟨⟨s2, H2⟩, hx, he⟩ := he
      simp only [Prod.mk.injEq] at he
      obtain ⟨rfl, rfl, rfl⟩ := he
      unfold evalRegion at hx
      split at hx
      · rename_i hd
        subst hd
        exact hok rfl id call hc base F μ s s2 H H2 w a hx h hs hf
      · rename_i hd
        simp only [Bool.not_eq_true] at hd
        subst hd
        exact wp_region (evalIdx_wp ag hm hc hx h hs hf fun a' w' k => ⟨rfl, k⟩)
    · rename_i x y
      obtain ⟨hx, hy⟩ := hok
      refine wp_seq ?_
      split at he
      · rename_i s2 H2 e2
        have hl := evalC_len hc e2
        have hl2 := evalC_len hc he
        refine wp_mono (evalC_wp ag hm hc n hx e2 h hs (hf.le hl2)) ?_
        rintro e' a' w' ⟨rfl, μ', g, hs', hd⟩
        refine wp_mono (evalC_wp ag hm hc n hy he g.hr hs' (hf.after g)) ?_
        rintro e2 a2 w2 ⟨rfl, k⟩
        exact ⟨rfl, After.trans g hd k⟩
      · rename_i hne
        refine wp_mono (evalC_wp ag hm hc n hx he h hs hf) ?_
        rintro e' a' w' ⟨rfl, k⟩
        cases e with
        | normal => exact absurd he (by intro q; exact hne _ _ q)
        | exit id => exact ⟨rfl, k⟩
        | ret => exact ⟨rfl, k⟩
    · rename_i c x y
      have hv := hs.evals c
      split at he
      · rename_i ht
        rw [ht] at hv
        generalize hρ : a.eval c = cv at hv
        cases hv
        exact wp_cond_true hρ (evalC_wp ag hm hc n hok.1 he h hs hf)
      · rename_i ht
        rw [ht] at hv
        generalize hρ : a.eval c = cv at hv
        cases hv
        exact wp_cond_false hρ (evalC_wp ag hm hc n hok.2 he h hs hf)
      · simp at he
    · rename_i id x
      refine wp_block ?_
      split at he
      · rename_i j s2 H2 e2
        have hH : H2 = H1 := by split at he <;> (simp only [Option.some.injEq, Prod.mk.injEq] at he; exact he.2.2)
        have hS : s2 = s1 := by split at he <;> (simp only [Option.some.injEq, Prod.mk.injEq] at he; exact he.2.1)
        subst hH hS
        refine wp_mono (evalC_wp ag hm hc n hok e2 h hs hf) ?_
        rintro e' a' w' ⟨rfl, k⟩
        simp only [exOf, Exit.inBlock]
        split at he
        · rename_i hj
          simp only [Option.some.injEq, Prod.mk.injEq] at he
          rw [if_pos hj]
          exact ⟨by rw [← he.1], k⟩
        · rename_i hj
          simp only [Option.some.injEq, Prod.mk.injEq] at he
          rw [if_neg hj]
          exact ⟨by rw [← he.1], k⟩
      · rename_i hne
        refine wp_mono (evalC_wp ag hm hc n hok he h hs hf) ?_
        rintro e' a' w' ⟨rfl, k⟩
        cases e with
        | exit id => exact absurd he (by intro q; exact hne _ _ _ q)
        | normal => exact ⟨rfl, k⟩
        | ret => exact ⟨rfl, k⟩
    · rename_i x
      have he0 : evalC T call (n + 1) (.loop x) s H = some (e, s1, H1) := by rw [evalC]; exact he
      refine wp_loop_rel (fun m a' w' => ∃ μ' s' H', m ≤ n + 1 ∧ evalC T call m (.loop x) s' H' = some (e, s1, H1) ∧ Goes base F μ μ' H H' w w' ∧ SR μ' s' a'.tmps ∧ a'.defers = a.defers ∧ Free μ' H'.length H1.length)
        (m0 := n + 1) ⟨μ, s, H, Nat.le_refl _, he0, Goes.refl h, hs, rfl, hf⟩ ?_
      rintro m a1 w1 ⟨μ1, s', H', hm1, he1, g1, hs1, hd1, hf1⟩
      cases m with
      | zero => simp [evalC] at he1
      | succ k =>
        have hk : k ≤ n := by omega
        rw [evalC] at he1
        split at he1
        · rename_i s2 H2 e2
          have e2' := evalC_mono (CallLe.refl call) hk e2
          have hl := evalC_len hc e2
          have hl2 := evalC_len hc he1
          refine wp_mono (evalC_wp ag hm hc n hok e2' g1.hr hs1 (hf1.le hl2)) ?_
          rintro e' a2 w2 ⟨rfl, μ2, g2, hs2, hd2⟩
          exact ⟨k, Nat.lt_succ_self k, μ2, s2, H2, by omega, he1, g1.trans g2, hs2, hd2.trans hd1, hf1.after g2⟩
        · rename_i hne
          have e2' := evalC_mono (CallLe.refl call) hk he1
          refine wp_mono (evalC_wp ag hm hc n hok e2' g1.hr hs1 hf1) ?_
          rintro e' a2 w2 ⟨rfl, kk⟩
          have := After.trans g1 hd1 kk
          cases e with
          | normal => exact absurd he1 (by intro q; exact hne _ _ q)
          | exit id => exact ⟨rfl, this⟩
          | ret => exact ⟨rfl, this⟩
    · obtain ⟨rfl, h1, h2⟩ := he
      exact wp_exit ⟨rfl, same h1 h2⟩
    · obtain ⟨rfl, h1, h2⟩ := he
      exact wp_label ⟨rfl, same h1 h2⟩
    · obtain ⟨rfl, h1, h2⟩ := he
      exact wp_ret ⟨rfl, same h1 h2⟩

end Go.Proofs.Ytdhbclplondmjaa.C

/- Functions; calls that may not write what was there. -/
set_option linter.unusedVariables false
set_option linter.unusedSimpArgs false
namespace Go.Proofs.Ytdhbclplondmjaa.C
open Go.RowKit

variable {P : Program} {T : Tab} {base : Nat} {F : Nat → Prop}

/-- A function whose behaviour is given. -/
def ExtOk (P : Program) (f : FuncId) (e : List Value → Heap → Option (Value × Heap)) : Prop :=
  ∀ args H v H', e args H = some (v, H') → H.length ≤ H'.length ∧
    ∀ base F μ w args', HR base F μ H w → Free μ H.length H'.length → VRs μ args args' → Calls P f args'.toArray w (CallPost base F μ H H' w v)

structure Fits (P : Program) (T : Tab) : Prop where
  ag : Agree P T
  meth : ∀ t n f e, T.meth t n = some (f, e) → MethOk P t n f e
  call : ∀ f, ((T.fn f).isSome = true ∨ (T.ext f).isSome = true) → ∀ xs w, (callFunc f xs).run P w = .ok (.enter f xs) w
  code : ∀ f fn c, T.fn f = some fn → fn.body = some c → CodeOk P T c
  ext : ∀ f e, T.ext f = some e → ExtOk P f e

def resRun (tmps : Array Value) (r : ResultVar) : Sem Value :=
  match r with
  | .tmp t => pure (tmps.getD t undef)
  | .cell a t => do loadVar t (← asAddr (tmps.getD a undef))

theorem results_eq (fn : Func) (tmps : Array Value) : results fn tmps = (do let vs ← fn.results.mapM (resRun tmps); pure (if h : vs.size = 1 then vs[0] else .tuple vs)) := by
  unfold results
  congr 2

theorem mapM_res (ag : Agree P T) {μ : Mu} {H : Heap} {w : World} (h : HR base F μ H w) {s : List Value} {tmps : Array Value} (hs : SR μ s tmps) : ∀ {rs : List ResultVar} {vs : List Value}, rs.mapM (resOne T s H) = some vs →
    ∃ vs', (rs.mapM (resRun tmps)).run P w = .ok vs' w ∧ VRs μ vs vs'
  | [], vs, hv => by
    simp at hv; subst hv
    exact ⟨[], by simp, .nil⟩
  | r :: rs, vs, hv => by
    simp only [List.mapM_cons, Option.bind_eq_bind, Option.bind_eq_some_iff, Option.pure_def, Option.some.injEq] at hv
    obtain ⟨v, hr, us, hus, rfl⟩ := hv
    obtain ⟨us', hrun, hu⟩ := mapM_res ag h hs hus
    cases r with
    | tmp t =>
      simp only [resOne, Option.some.injEq] at hr
      subst hr
      exact ⟨tmps.getD t undef :: us', by simp [resRun, hrun], .cons (hs.get t) hu⟩
    | cell a t =>
      simp only [resOne] at hr
      obtain ⟨v', hl, hv⟩ := vLoad_ok ag h (hs.get a) hr
      have : ∃ ad, tmps.getD a undef = .pointer (some ad) ∧ (loadVar t ad).run P w = .ok v' w := by
        have hg := hs.get a
        generalize tmps.getD a undef = x at *
        generalize s.getD a undef = y at *
        unfold vLoad at hr
        simp only [Option.bind_eq_bind, Option.bind_eq_some_iff] at hr
        obtain ⟨i, hi, hr⟩ := hr
        split at hr
        · cases hg
          exact ⟨_, rfl, by simpa [Instr.loadAt, Instr.sureAddr] using hl⟩
        · simp at hr
      obtain ⟨ad, h1, h2⟩ := this
      exact ⟨v' :: us', by simp [resRun, h1, asAddr, h2, hrun], .cons hv hu⟩

theorem results_ok (ag : Agree P T) {μ : Mu} {H : Heap} {w : World} (h : HR base F μ H w) {s : List Value} {tmps : Array Value} (hs : SR μ s tmps) {fn : Func} {v : Value} (hv : resultsC T fn s H = some v) :
    ∃ v', (results fn tmps).run P w = .ok v' w ∧ VR μ v v' := by
  unfold resultsC at hv
  split at hv
  · rename_i u hu
    simp only [Option.some.injEq] at hv
    subst hv
    obtain ⟨vs', hrun, hr⟩ := mapM_res (P := P) ag h hs hu
    cases hr with
    | cons h1 h2 =>
      cases h2
      exact ⟨_, by simp [results_eq, Array.mapM_eq_mapM_toList, hrun], h1⟩
  · rename_i vs hne hu
    simp only [Option.some.injEq] at hv
    subst hv
    obtain ⟨vs', hrun, hr⟩ := mapM_res (P := P) ag h hs hu
    have hlen := hr.length
    have h1 : vs'.length ≠ 1 := by
      intro q
      rw [hlen] at q
      cases vs with
      | nil => simp at q
      | cons a l =>
        cases l with
        | nil => exact hne a rfl
        | cons b l => simp at q
    exact ⟨.tuple vs'.toArray, by simp [results_eq, Array.mapM_eq_mapM_toList, hrun, h1], .tuple hr⟩
  · simp at hv

theorem start_ok {μ : Mu} {args args' : List Value} (h : VRs μ args args') (fn : Func) : SR μ (startC fn args) (args'.toArray ++ Array.replicate (fn.ntmps - args'.toArray.size) undef) := by
  have hl := h.length
  refine ⟨by simp [startC, hl], ?_⟩
  have : (args'.toArray ++ Array.replicate (fn.ntmps - args'.toArray.size) undef).toList = args' ++ List.replicate (fn.ntmps - args.length) undef := by simp [hl]
  rw [this]
  unfold startC
  refine h.append (VRs.refl_of fun v hv => ?_)
  rw [List.eq_of_mem_replicate hv]
  exact .undef _

theorem callC_sound (hF : Fits P T) : ∀ n, SoundCall P (callC T n)
  | 0 => ⟨fun _ _ _ _ h => by simp [callC] at h, fun _ _ _ _ _ h => by simp [callC] at h, fun _ _ _ _ _ h => by simp [callC] at h⟩
  | n + 1 => by
    have ih := callC_sound hF n
    have key : ∀ f args H v H', callC T (n + 1) f args H = some (v, H') → (∃ e, T.ext f = some e ∧ e args H = some (v, H')) ∨
        ∃ fn c e s1, T.ext f = none ∧ T.fn f = some fn ∧ fn.body = some c ∧ evalC T (callC T n) n c (startC fn args) H = some (e, s1, H') ∧ (e = .normal ∨ e = .ret) ∧ resultsC T fn s1 H' = some v := by
      intro f args H v H' h
      unfold callC at h
      split at h
      · rename_i e he; exact .inl ⟨e, he, h⟩
      · rename_i he
        split at h
        · rename_i fn hfn
          split at h
          · rename_i c hc
            split at h
            · rename_i s1 H1 e1
              rw [Option.map_eq_some_iff] at h
              obtain ⟨u, hu, h⟩ := h
              simp only [Prod.mk.injEq] at h
              obtain ⟨rfl, rfl⟩ := h
              exact .inr ⟨fn, c, _, s1, he, hfn, hc, e1, .inl rfl, hu⟩
            · rename_i s1 H1 e1
              rw [Option.map_eq_some_iff] at h
              obtain ⟨u, hu, h⟩ := h
              simp only [Prod.mk.injEq] at h
              obtain ⟨rfl, rfl⟩ := h
              exact .inr ⟨fn, c, _, s1, he, hfn, hc, e1, .inr rfl, hu⟩
            · simp at h
          · simp at h
        · simp at h
    refine ⟨?_, ?_, ?_⟩
    · intro f args H r h xs w
      obtain ⟨v, H'⟩ := r
      rcases key _ _ _ _ _ h with ⟨e, he, _⟩ | ⟨fn, c, e, s1, _, hf, _⟩
      · exact hF.call f (.inr (by simp [he])) xs w
      · exact hF.call f (.inl (by simp [hf])) xs w
    · intro f args H v H' h base F μ w args' hh hfree ha
      rcases key _ _ _ _ _ h with ⟨e, he, hx⟩ | ⟨fn, c, e, s1, hne, hf, hb, he, hee, hr⟩
      · exact (hF.ext f e he args H v H' hx).2 base F μ w args' hh hfree ha
      · have hfa := hF.ag.fn f fn hf
        refine calls_of_wp hfa hb ?_
        refine wp_mono (evalC_wp hF.ag hF.meth ih n (hF.code f fn c hf hb) he hh (start_ok ha fn) hfree) ?_
        rintro x a' w' ⟨rfl, μ', g, hs', hd⟩
        obtain ⟨v', hrun, hv⟩ := results_ok (P := P) hF.ag g.hr hs' hr
        rcases hee with rfl | rfl
        · exact ⟨hd, v', hrun, v', μ', rfl, g, hv⟩
        · exact ⟨hd, v', hrun, v', μ', rfl, g, hv⟩
    · intro f args H v H' h
      rcases key _ _ _ _ _ h with ⟨e, he, hx⟩ | ⟨fn, c, e, s1, hne, hf, hb, he, hee, hr⟩
      · exact (hF.ext f e he args H v H' hx).1
      · exact evalC_len ih he

/-- Frozen, nothing is one's own. -/
theorem HR.freeze {μ : Mu} {H : Heap} {w : World} (h : HR base F μ H w) : HR w.heap.size (fun _ => False) μ (H.map Blk.freeze) w where
  own b sz cs l hb hl := by
    rw [List.getElem?_map, Option.map_eq_some_iff] at hb
    obtain ⟨x, hx, e⟩ := hb
    cases x <;> simp [Blk.freeze] at e
  ro b sz cs l hb hl := by
    rw [List.getElem?_map, Option.map_eq_some_iff] at hb
    obtain ⟨x, hx, e⟩ := hb
    cases x with
    | map es => simp [Blk.freeze] at e
    | row sz' cs' own live =>
      simp only [Blk.freeze, Blk.row.injEq, true_and] at e
      obtain ⟨rfl, rfl, rfl⟩ := e
      cases own with
      | true =>
        obtain ⟨h1, h2, h3, h4⟩ := h.own b _ _ l hx hl
        refine ⟨h1, h4.lt, fun i v hv => ?_⟩
        obtain ⟨arr, e, fr, g1, g2, g3, g4⟩ := h4
        obtain ⟨v', a, c⟩ := g4 i v hv
        exact ⟨v', by simp [World.cell?, g1, a], c⟩
      | false =>
        obtain ⟨h1, h2, h3⟩ := h.ro b _ _ l hx hl
        exact ⟨h1, Nat.lt_of_lt_of_le h2 h.base_le, h3⟩
  maps b es l hb hl := by
    rw [List.getElem?_map, Option.map_eq_some_iff] at hb
    obtain ⟨x, hx, e⟩ := hb
    cases x <;> simp [Blk.freeze] at e
  inj b b' k k' l l' hb hb' hk := by
    rw [List.getElem?_map, Option.map_eq_some_iff] at hb
    obtain ⟨x, hx, e⟩ := hb
    subst e
    cases x <;> simp [Blk.freeze, Blk.mine] at hk
  far k hk := hk.elim
  base_le := Nat.le_refl _

/-- What a frozen call leaves. -/
theorem HR.thaw {μ μ' : Mu} {H H2 : Heap} {w w' : World} (h : HR base F μ H w) (k : HR w.heap.size (fun _ => False) μ' H2 w') (hle : MuLe μ μ') (hsame : ∀ b, b < H.length → μ' b = μ b) (hlen : H.length ≤ H2.length)
    (fr : Fr w.heap.size (fun _ => False) w w') : HR base F μ' (H ++ (H2.drop H.length).map Blk.left) w' := by
  have hblk : ∀ k, k < w.heap.size → w'.heap[k]? = w.heap[k]? := fun k hk => fr.block k (.inl hk)
  have h' := (h.world hblk fr.size)
  have key : ∀ {b : Nat} {x : Blk} {l : Loc}, (H ++ (H2.drop H.length).map Blk.left)[b]? = some x → μ' b = some l → (b < H.length ∧ H[b]? = some x ∧ μ b = some l) ∨ (H.length ≤ b ∧ ∃ y, H2[b]? = some y ∧ y.left = x) := by
    intro b x l hb hl
    rcases Nat.lt_or_ge b H.length with hlt | hge
    · rw [List.getElem?_append_left hlt] at hb
      exact .inl ⟨hlt, hb, by rw [← hsame b hlt]; exact hl⟩
    · rw [List.getElem?_append_right hge, List.getElem?_map, Option.map_eq_some_iff] at hb
      obtain ⟨y, hy, e⟩ := hb
      rw [List.getElem?_drop] at hy
      exact .inr ⟨hge, y, by rw [← hy]; congr 1; omega, e⟩
  have left_mine : ∀ {y : Blk}, y.left.mine = true → y.left = y := by
    intro y hy
    cases y with
    | row sz cs own live => cases own <;> cases live <;> simp_all [Blk.left, Blk.mine]
    | map es => rfl
  have hb0 := h.base_le
  have hmine : ∀ {b : Nat} {x : Blk} {l : Loc}, H2[b]? = some x → x.mine = true → μ' b = some l → w.heap.size ≤ l.blk := fun hb hx hl => (k.mine_lt hb hx hl).2.1
  refine ⟨?_, ?_, ?_, ?_, ?_, ?_⟩
  · intro b sz cs l hb hl
    rcases key hb hl with ⟨_, hb, hl⟩ | ⟨_, y, hb, hy⟩
    · obtain ⟨a, c, d, e⟩ := h'.own b sz cs l hb hl
      exact ⟨a, c, d, e.mono hle rfl⟩
    · rw [left_mine (y := y) (by rw [hy]; rfl)] at hy
      subst hy
      obtain ⟨a, c, d, e⟩ := k.own b sz cs l hb hl
      exact ⟨a, by omega, fun q => by have := h.far _ q; omega, e⟩
  · intro b sz cs l hb hl
    rcases key hb hl with ⟨_, hb, hl⟩ | ⟨_, y, hb, hy⟩
    · obtain ⟨a, c, d⟩ := h'.ro b sz cs l hb hl
      exact ⟨a, c, fun i v hv => let ⟨v', x, y⟩ := d i v hv; ⟨v', x, y.mono hle⟩⟩
    · cases y with
      | map es => simp [Blk.left] at hy
      | row sz2 cs2 own live => cases own <;> simp [Blk.left] at hy
  · intro b es l hb hl
    rcases key hb hl with ⟨_, hb, hl⟩ | ⟨_, y, hb, hy⟩
    · obtain ⟨a, c, d⟩ := h'.maps b es l hb hl
      exact ⟨a, c, d.mono hle rfl⟩
    · rw [left_mine (y := y) (by rw [hy]; rfl)] at hy
      subst hy
      obtain ⟨a, c, d⟩ := k.maps b es l hb hl
      exact ⟨by omega, fun q => by have := h.far _ q; omega, d⟩
  · intro b b' x x' l l' hb hb' hx hx' hne hl hl'
    have fix : ∀ {b : Nat} {x : Blk}, x.mine = true → (∃ y, H2[b]? = some y ∧ y.left = x) → H2[b]? = some x := by
      rintro b x hx ⟨y, hy, rfl⟩
      rw [left_mine hx]; exact hy
    rcases key hb hl with ⟨_, hb, hl2⟩ | ⟨_, hb⟩ <;> rcases key hb' hl' with ⟨_, hb', hl2'⟩ | ⟨_, hb'⟩
    · exact h.inj b b' x x' l l' hb hb' hx hx' hne hl2 hl2'
    · have := (h.mine_lt hb hx hl2).1
      have := hmine (fix hx' hb') hx' hl'
      omega
    · have := (h.mine_lt hb' hx' hl2').1
      have := hmine (fix hx hb) hx hl
      omega
    · exact k.inj b b' x x' l l' (fix hx hb) (fix hx' hb') hx hx' hne hl hl'
  · exact h'.far
  · exact h'.base_le

/-- A frozen call is a call. -/
theorem quiet_sound {call : CallF} (hc : SoundCall P call) : SoundCall P (quiet call) where
  enter f args H r h xs w := by
    unfold quiet at h
    rw [Option.map_eq_some_iff] at h
    obtain ⟨x, hx, h⟩ := h
    exact hc.enter f args _ x hx xs w
  len f args H v H' h := quiet_len h
  calls f args H v H' h base F μ w args' hh hfree ha := by
    unfold quiet at h
    rw [Option.map_eq_some_iff] at h
    obtain ⟨⟨v2, H2⟩, hx, h⟩ := h
    simp only [Prod.mk.injEq] at h
    obtain ⟨rfl, rfl⟩ := h
    have hl := hc.len f args _ _ _ hx
    simp only [List.length_map] at hl
    have hlen : (H ++ (H2.drop H.length).map Blk.left).length = H2.length := by simp; omega
    rw [hlen] at hfree
    refine Calls.mono (hc.calls f args _ v2 H2 hx w.heap.size (fun _ => False) μ w args' hh.freeze (by simpa using hfree) ha) ?_
    rintro e w' ⟨v', μ', rfl, g, hv⟩
    have hsame : ∀ b, b < H.length ∨ H2.length ≤ b → μ' b = μ b := fun b hb => g.same b (by simpa using hb)
    refine ⟨v', μ', rfl, ⟨g.le, fun b hb => hsame b (by rw [hlen] at hb; exact hb), HR.thaw hh g.hr g.le (fun b hb => hsame b (.inl hb)) hl g.fr, ?_, by simp⟩, hv⟩
    exact ⟨g.fr.os, g.fr.tape, g.fr.output, g.fr.size, fun k hk => g.fr.block k (.inl (hk.elim (fun q => Nat.lt_of_lt_of_le q hh.base_le) (hh.far k)))⟩

end Go.Proofs.Ytdhbclplondmjaa.C
