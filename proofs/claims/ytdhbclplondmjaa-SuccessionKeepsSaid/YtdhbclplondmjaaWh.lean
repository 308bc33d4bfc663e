/- The program's Keeps. -/
import Derived.Test.YtdhbclplondmjaaWf
import Derived.Test.YtdhbclplondmjaaWg
set_option linter.unusedVariables false
set_option maxRecDepth 100000
namespace Go.Proofs.Ytdhbclplondmjaa.C
open Go.RowKit Go.Sort

/-- The map from names to their places. -/
def mapE : Nat → List Nm → List (Value × Value)
  | _, [] => []
  | i, x :: xs => (str x, nat i) :: mapE (i + 1) xs

theorem mapE_snoc : ∀ (i : Nat) (xs : List Nm) (x : Nm), mapE i (xs ++ [x]) = mapE i xs ++ [(str x, nat (i + xs.length))]
  | i, [], x => rfl
  | i, y :: xs, x => by
    simp only [List.cons_append, mapE, mapE_snoc (i + 1) xs x, List.length_cons]
    rw [show i + 1 + xs.length = i + (xs.length + 1) by omega]

theorem nm_eq {x y : Nm} : ((ByteArray.mk x.toArray) == (ByteArray.mk y.toArray)) = decide (x = y) := by
  show ((ByteArray.mk x.toArray).data == (ByteArray.mk y.toArray).data) = decide (x = y)
  by_cases h : x = y
  · subst h; simp
  · simp [h]

theorem lookE_mapE : ∀ (xs : List Nm) (i : Nat) (a : Nm), lookE (mapE i xs) ⟨a.toArray⟩ = some ((xs.idxOf? a).map fun k => nat (i + k))
  | [], i, a => rfl
  | x :: xs, i, a => by
    unfold mapE lookE
    rw [nm_eq, List.idxOf?_cons]
    by_cases h : a = x
    · subst h; simp
    · have h' : ¬ (x = a) := fun q => h q.symm
      rw [lookE_mapE xs (i + 1) a]
      simp only [h, decide_false, Bool.false_eq_true, if_false, beq_iff_eq, h']
      cases xs.idxOf? a with
      | none => rfl
      | some k =>
        simp only [Option.map_some]
        rw [show i + 1 + k = i + (k + 1) by omega]

theorem setE_mapE : ∀ (xs : List Nm) (i : Nat) (a : Nm) (v : Value), a ∉ xs → setE (mapE i xs) ⟨a.toArray⟩ v = some (mapE i xs ++ [(str a, v)])
  | [], i, a, v, _ => rfl
  | x :: xs, i, a, v, h => by
    unfold mapE setE
    rw [nm_eq]
    have h1 : ¬ (a = x) := fun q => h (by simp [q])
    rw [setE_mapE xs (i + 1) a v (fun q => h (by simp [q]))]
    simp [h1]

theorem look_is {H : Heap} {M : Nat} {xs : List Nm} {a : Nm} (h : H[M]? = some (.map (mapE 0 xs))) (ok : Bool) :
    vLookup tab H 74 (.map (some M)) (str a) ok = some (if ok then .tuple #[((xs.idxOf? a).map fun k => nat k).getD (nat 0), .bool (xs.idxOf? a).isSome] else ((xs.idxOf? a).map fun k => nat k).getD (nat 0)) := by
  have h1 : tab.d 74 = some (.map 9 3) := rfl
  have h2 : tab.d 9 = some .string := rfl
  have h3 : ∃ ei, tab.T 3 = some ei ∧ ei.zero = nat 0 := ⟨_, rfl, rfl⟩
  obtain ⟨ei, h3, h4⟩ := h3
  simp only [vLookup, h1, h2, h3, entriesOf, h, Option.bind_some, lookE_mapE, Nat.zero_add, Option.map_some, h4]
  congr 1
  cases ok <;> simp

section
variable {s : List Value} {H : Heap}
theorem ev_look {x k : Operand} {M : Nat} {xs : List Nm} {a : Nm} (ok : Bool) (hx : ev s x = .map (some M)) (hk : ev s k = str a) (h : H[M]? = some (.map (mapE 0 xs))) :
    opEval tab s H (.lookup 74 x k ok) = some (if ok then .tuple #[((xs.idxOf? a).map fun k => nat k).getD (nat 0), .bool (xs.idxOf? a).isSome] else ((xs.idxOf? a).map fun k => nat k).getD (nat 0), H) := by
  simp only [opEval, hx, hk, look_is h, Option.map_some]
theorem ev_mapset {m k v : Operand} {M i : Nat} {xs : List Nm} {a : Nm} (hm : ev s m = .map (some M)) (hk : ev s k = str a) (hv : ev s v = nat i) (h : H[M]? = some (.map (mapE 0 xs))) (hn : a ∉ xs) (hi : i = xs.length) :
    opEval tab s H (.mapUpdate 74 m k v) = some (undef, H.set M (.map (mapE 0 (xs ++ [a])))) := by
  have h1 : tab.d 74 = some (.map 9 3) := rfl
  have h2 : tab.d 9 = some .string := rfl
  subst hi
  simp only [opEval, hm, hk, hv, vMapUpdate, h1, h2, h, setE_mapE _ _ _ _ hn, mapE_snoc, Nat.zero_add, Option.map_some]
theorem ev_leq {T : Tab} {t t2 : TypeId} {x y : Operand} {k : IntKind} {a b : Int} (p : Bool) (hx : ev s x = .int k a) (hy : ev s y = .int k b) (h : decide (a ≤ b) = p) : opEval T s H (.binOp .leq t x y t2) = some (.bool p, H) :=
  ev_bin hx hy (by decide) (by subst h; rfl)
end

def idx (xs : List Nm) (x : Nm) : Nat := (xs.idxOf? x).getD 0
theorem idx_val (xs : List Nm) (x : Nm) : ((xs.idxOf? x).map fun k => nat k).getD (nat 0) = nat (idx xs x) := by
  unfold idx
  cases xs.idxOf? x <;> rfl
theorem idx_some {xs : List Nm} {x : Nm} : (xs.idxOf? x).isSome = decide (x ∈ xs) := by
  by_cases h : x ∈ xs
  · have : xs.idxOf? x ≠ none := by rw [ne_eq, List.idxOf?_eq_none_iff]; simpa using h
    rw [Option.isSome_iff_ne_none.2 this]; simp [h]
  · rw [List.idxOf?_eq_none_iff.2 h]; simp [h]

def badRel (order : List Nm) (r : Rel) : Bool := decide (r.kind ≠ 4) && decide (idx order r.up ≤ idx order r.lo)

def keepsP (l : List Rel) (order : List Nm) : Nat × Bool × Nat :=
  if ¬ order.Nodup then (0, false, 9)
  else if ¬ (∀ u ∈ unitsP l, u ∈ order) then (0, false, 10)
  else match l.findIdx? (badRel order) with
    | some i => (i, false, 0)
    | none => (0, true, 0)

end Go.Proofs.Ytdhbclplondmjaa.C
