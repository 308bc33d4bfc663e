/- The abstract memory: values with abstract addresses, what relates them to the machine's values, and the relation's plain laws. -/
import Derived.Calls
import Derived.Below
import Derived.RowKit3
import Derived.KernelRfl
import Derived.Laws.Sem
set_option linter.unusedVariables false
set_option linter.unusedSimpArgs false
namespace Go.Proofs.Ytdhbclplondmjaa.C
open Go.RowKit

/-- Where an abstract block lies: the machine's block, the shift, where its cells end, the size of an element. -/
structure Loc where
  blk : Nat
  sh : Nat
  top : Nat
  sz : Nat

abbrev Mu := Nat → Option Loc

/-- A capacity that isn't known: at least the length. -/
def unk : Nat := 18446744073709551616

mutual
/-- An abstract value and the machine's. 'undef' is whatever it is. -/
inductive VR (μ : Mu) : Value → Value → Prop
  | undef (v : Value) : VR μ (.tuple #[]) v
  | skip : VR μ (.chan none) (.tuple #[])
  | yield {b : Nat} {l : Loc} (h : μ b = some l) : VR μ (.chan (some b)) (.func (.yield l.blk) #[] #[])
  | bool (b : Bool) : VR μ (.bool b) (.bool b)
  | int (k : IntKind) (n : Int) : VR μ (.int k n) (.int k n)
  | string (s : ByteArray) : VR μ (.string s) (.string s)
  | nilPtr : VR μ (.pointer none) (.pointer none)
  | nilMap : VR μ (.map none) (.map none)
  | nilFunc : VR μ .nilFunc .nilFunc
  | nilIface : VR μ .nilIface .nilIface
  | nilSlice : VR μ (.slice none 0 0) (.slice none 0 0)
  | ptr {b o : Nat} {l : Loc} (h : μ b = some l) : VR μ (.pointer (some ⟨b, o, none⟩)) (.pointer (some ⟨l.blk, l.sh + o, none⟩))
  | slice {b o n c c' : Nat} {l : Loc} (h : μ b = some l) (hn : n ≤ c') (hc : c = unk ∨ c = c') (ht : l.sh + o + c' * l.sz ≤ l.top) :
      VR μ (.slice (some ⟨b, o, none⟩) n c) (.slice (some ⟨l.blk, l.sh + o, none⟩) n c')
  | sliceZ (a a' : Addr) : VR μ (.slice (some a) 0 0) (.slice (some a') 0 0)
  | sliceE (a a' : Addr) : VR μ (.slice (some a) 0 unk) (.slice (some a') 0 0)
  | map {b : Nat} {l : Loc} (h : μ b = some l) : VR μ (.map (some b)) (.map (some l.blk))
  | func (fn : Fn) {f f' c c' : List Value} (hf : VRs μ f f') (hc : VRs μ c c') : VR μ (.func fn f.toArray c.toArray) (.func fn f'.toArray c'.toArray)
  | iface (t : TypeId) {v v' : Value} (h : VR μ v v') : VR μ (.iface t v) (.iface t v')
  | agg {c c' : List Value} (h : VRs μ c c') : VR μ (.agg c.toArray) (.agg c'.toArray)
  | tuple {c c' : List Value} (h : VRs μ c c') : VR μ (.tuple c.toArray) (.tuple c'.toArray)
inductive VRs (μ : Mu) : List Value → List Value → Prop
  | nil : VRs μ [] []
  | cons {v v' : Value} {l l' : List Value} (h : VR μ v v') (t : VRs μ l l') : VRs μ (v :: l) (v' :: l')
end

def MuLe (μ ν : Mu) : Prop := ∀ b l, μ b = some l → ν b = some l
theorem MuLe.refl (μ : Mu) : MuLe μ μ := fun _ _ h => h
theorem MuLe.trans {a b c : Mu} (h : MuLe a b) (k : MuLe b c) : MuLe a c := fun x l e => k x l (h x l e)

mutual
theorem VR.mono {μ ν : Mu} (hm : MuLe μ ν) : ∀ {v v' : Value}, VR μ v v' → VR ν v v'
  | _, _, .undef v => .undef v
  | _, _, .skip => .skip
  | _, _, .yield h => .yield (hm _ _ h)
  | _, _, .bool b => .bool b
  | _, _, .int k n => .int k n
  | _, _, .string s => .string s
  | _, _, .nilPtr => .nilPtr
  | _, _, .nilMap => .nilMap
  | _, _, .nilFunc => .nilFunc
  | _, _, .nilIface => .nilIface
  | _, _, .nilSlice => .nilSlice
  | _, _, .ptr h => .ptr (hm _ _ h)
  | _, _, .slice h a b c => .slice (hm _ _ h) a b c
  | _, _, .sliceZ a a' => .sliceZ a a'
  | _, _, .sliceE a a' => .sliceE a a'
  | _, _, .map h => .map (hm _ _ h)
  | _, _, .func fn a b => .func fn (VRs.mono hm a) (VRs.mono hm b)
  | _, _, .iface t h => .iface t (VR.mono hm h)
  | _, _, .agg h => .agg (VRs.mono hm h)
  | _, _, .tuple h => .tuple (VRs.mono hm h)
theorem VRs.mono {μ ν : Mu} (hm : MuLe μ ν) : ∀ {l l' : List Value}, VRs μ l l' → VRs ν l l'
  | _, _, .nil => .nil
  | _, _, .cons h t => .cons (VR.mono hm h) (VRs.mono hm t)
end

theorem VRs.length {μ : Mu} : ∀ {l l' : List Value}, VRs μ l l' → l'.length = l.length
  | _, _, .nil => rfl
  | _, _, .cons _ t => by simp [VRs.length t]

theorem VRs.get {μ : Mu} : ∀ {l l' : List Value}, VRs μ l l' → ∀ (i : Nat) (v : Value), l[i]? = some v → ∃ v', l'[i]? = some v' ∧ VR μ v v'
  | _, _, .nil, i, v, h => by simp at h
  | _, _, .cons h t, 0, v, e => by simp at e; subst e; exact ⟨_, rfl, h⟩
  | _, _, .cons h t, i + 1, v, e => by simpa using VRs.get t i v (by simpa using e)

theorem VRs.of_get {μ : Mu} : ∀ {l l' : List Value}, l'.length = l.length → (∀ (i : Nat) (v : Value), l[i]? = some v → ∃ v', l'[i]? = some v' ∧ VR μ v v') → VRs μ l l'
  | [], [], _, _ => .nil
  | [], _ :: _, h, _ => by simp at h
  | _ :: _, [], h, _ => by simp at h
  | v :: l, v' :: l', h, hg => by
    refine .cons ?_ (VRs.of_get (by simpa using h) (fun i u e => by simpa using hg (i + 1) u (by simpa using e)))
    obtain ⟨u, hu, hr⟩ := hg 0 v rfl
    simp at hu; subst hu; exact hr

theorem VRs.append {μ : Mu} : ∀ {a a' b b' : List Value}, VRs μ a a' → VRs μ b b' → VRs μ (a ++ b) (a' ++ b')
  | _, _, _, _, .nil, h => h
  | _, _, _, _, .cons h t, k => .cons h (VRs.append t k)

theorem VRs.set {μ : Mu} : ∀ {l l' : List Value}, VRs μ l l' → ∀ i {v v' : Value}, VR μ v v' → VRs μ (l.set i v) (l'.set i v')
  | _, _, .nil, i, _, _, _ => .nil
  | _, _, .cons h t, 0, _, _, k => .cons k t
  | _, _, .cons h t, i + 1, _, _, k => .cons h (VRs.set t i k)

theorem VRs.take {μ : Mu} : ∀ {l l' : List Value}, VRs μ l l' → ∀ n, VRs μ (l.take n) (l'.take n)
  | _, _, .nil, n => by simpa using VRs.nil
  | _, _, .cons h t, 0 => .nil
  | _, _, .cons h t, n + 1 => .cons h (VRs.take t n)

theorem VRs.drop {μ : Mu} : ∀ {l l' : List Value}, VRs μ l l' → ∀ n, VRs μ (l.drop n) (l'.drop n)
  | _, _, .nil, n => by simpa using VRs.nil
  | _, _, .cons h t, 0 => .cons h t
  | _, _, .cons h t, n + 1 => by simpa using VRs.drop t n

theorem VRs.refl_of {μ : Mu} {l : List Value} (h : ∀ v ∈ l, VR μ v v) : VRs μ l l := by
  induction l with
  | nil => exact .nil
  | cons v l ih => exact .cons (h v List.mem_cons_self) (ih fun u hu => h u (List.mem_cons_of_mem _ hu))

/-- The slots. -/
def SR (μ : Mu) (s : List Value) (t : Array Value) : Prop := t.size = s.length ∧ VRs μ s t.toList

theorem SR.get {μ : Mu} {s : List Value} {t : Array Value} (h : SR μ s t) (i : Nat) : VR μ (s.getD i undef) (t.getD i undef) := by
  rcases Nat.lt_or_ge i s.length with hi | hi
  · obtain ⟨v', e, hv⟩ := h.2.get i s[i] (by simp [hi])
    have e2 : t[i]? = some v' := by simpa using e
    simp only [List.getD_eq_getElem?_getD, List.getElem?_eq_getElem hi, Option.getD_some, Array.getD_eq_getD_getElem?, e2]
    exact hv
  · simp only [List.getD_eq_getElem?_getD, List.getElem?_eq_none hi, Option.getD_none]
    exact .undef _

theorem SR.put {μ : Mu} {s : List Value} {t : Array Value} (h : SR μ s t) (i : Nat) {v v' : Value} (hv : VR μ v v') : SR μ (s.set i v) (t.setIfInBounds i v') :=
  ⟨by simpa using h.1, by simpa using h.2.set i hv⟩

theorem SR.mono {μ ν : Mu} (hm : MuLe μ ν) {s : List Value} {t : Array Value} (h : SR μ s t) : SR ν s t := ⟨h.1, h.2.mono hm⟩

end Go.Proofs.Ytdhbclplondmjaa.C
