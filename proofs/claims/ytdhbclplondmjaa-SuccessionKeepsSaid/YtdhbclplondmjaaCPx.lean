/- Functions of plain values, run once and for all; tables one upon another. -/
import Derived.Test.YtdhbclplondmjaaCRange2
set_option linter.unusedVariables false
set_option linter.unusedSimpArgs false
namespace Go.Proofs.Ytdhbclplondmjaa.C
open Go.RowKit

variable {P : Program} {T : Tab}

def plains : List Value → Bool
  | [] => true
  | v :: l => plain v && plains l

def flat : Value → Bool
  | .agg cs => plains cs.toList
  | .tuple cs => plains cs.toList && decide (cs.size ≠ 0)
  | v => plain v

theorem plain_eq {μ : Mu} {v v' : Value} (hp : plain v = true) (h : VR μ v v') : v' = v := by
  cases h <;> simp [plain] at hp <;> rfl

theorem plains_eq {μ : Mu} : ∀ {l l' : List Value}, plains l = true → VRs μ l l' → l' = l
  | [], _, _, .nil => rfl
  | v :: l, _, hp, .cons h t => by
    simp only [plains, Bool.and_eq_true] at hp
    rw [plain_eq hp.1 h, plains_eq hp.2 t]

theorem plains_refl {μ : Mu} : ∀ {l : List Value}, plains l = true → VRs μ l l
  | [], _ => .nil
  | v :: l, hp => by
    simp only [plains, Bool.and_eq_true] at hp
    exact .cons (plain_vr μ hp.1) (plains_refl hp.2)

theorem flat_eq {μ : Mu} {v v' : Value} (hp : flat v = true) (h : VR μ v v') : v' = v := by
  cases h with
  | agg hc => simp only [flat, List.toList_toArray] at hp; rw [plains_eq hp hc]
  | tuple hc =>
    simp only [flat, List.toList_toArray, Bool.and_eq_true] at hp; rw [plains_eq hp.1 hc]
  | undef v => simp [flat] at hp
  | skip => simp [flat, plain] at hp
  | yield h => simp [flat, plain] at hp
  | _ => exact plain_eq (μ := μ) hp (by constructor <;> assumption)

theorem flat_refl {μ : Mu} {v : Value} (hp : flat v = true) : VR μ v v := by
  cases v with
  | agg cs =>
    have := VR.agg (plains_refl (μ := μ) (l := cs.toList) hp)
    simpa using this
  | tuple cs =>
    simp only [flat, Bool.and_eq_true] at hp
    have := VR.tuple (plains_refl (μ := μ) (l := cs.toList) hp.1)
    simpa using this
  | _ => exact plain_vr μ hp

def flats : List Value → Bool
  | [] => true
  | v :: l => flat v && flats l

theorem flats_eq {μ : Mu} : ∀ {l l' : List Value}, flats l = true → VRs μ l l' → l' = l
  | [], _, _, .nil => rfl
  | v :: l, _, hp, .cons h t => by
    simp only [flats, Bool.and_eq_true] at hp
    rw [flat_eq hp.1 h, flats_eq hp.2 t]

theorem flats_refl {μ : Mu} : ∀ {l : List Value}, flats l = true → VRs μ l l
  | [], _ => .nil
  | v :: l, hp => by
    simp only [flats, Bool.and_eq_true] at hp
    exact .cons (flat_refl hp.1) (flats_refl hp.2)

/-- A function that is run in an empty memory. -/
def pureX (T : Tab) (n : Nat) (f : FuncId) : List Value → Heap → Option (Value × Heap) := fun args H =>
  if flats args then
    match callC T n f args [] with
    | some (v, _) => if flat v then some (v, H) else none
    | none => none
  else none

theorem pureX_ok (hF : Fits P T) (n : Nat) (f : FuncId) : ExtOk P f (pureX T n f) := by
  intro args H v H1 he
  unfold pureX at he
  split at he
  · rename_i hfl
    split at he
    · rename_i v2 E e2
      split at he
      · rename_i hv
        simp only [Option.some.injEq, Prod.mk.injEq] at he
        obtain ⟨rfl, rfl⟩ := he
        refine ⟨Nat.le_refl _, fun base F μ w args' hh hfree ha => ?_⟩
        have := flats_eq hfl ha
        subst this
        have h0 : HR w.heap.size (fun _ => False) (fun _ => none) [] w := ⟨fun b _ _ _ hb => by simp at hb, fun b _ _ _ hb => by simp at hb, fun b _ _ hb => by simp at hb, fun b _ _ _ _ _ hb => by simp at hb, fun _ h => h.elim, Nat.le_refl _⟩
        refine Calls.mono ((callC_sound hF n).calls f args' [] _ _ e2 w.heap.size (fun _ => False) (fun _ => none) w args' h0 (fun _ _ _ => rfl) (flats_refl hfl)) ?_
        rintro e w' ⟨v', μ', rfl, g, hv'⟩
        have := flat_eq hv hv'
        subst this
        refine ⟨_, μ, rfl, ⟨MuLe.refl _, fun _ _ => rfl, hh.world (fun k hk => g.fr.block k (.inl hk)) g.fr.size, ?_, Nat.le_refl _⟩, flat_refl hv⟩
        exact ⟨g.fr.os, g.fr.tape, g.fr.output, g.fr.size, fun k hk => g.fr.block k (.inl (hk.elim (fun q => Nat.lt_of_lt_of_le q hh.base_le) (hh.far k)))⟩
      · simp at he
    · simp at he
  · simp at he

end Go.Proofs.Ytdhbclplondmjaa.C
