/- Texts of one's own, laid together: Weq -/
import Derived.Test.YtdhbclplondmjaaQc09
import Derived.Test.YtdhbclplondmjaaProg
import Derived.Laws.StructEq
section
/- Pairs of names are compared cell by cell. -/
set_option linter.unusedVariables false
set_option linter.unusedSimpArgs false
set_option maxRecDepth 100000
namespace Go.Proofs.Ytdhbclplondmjaa.C
open Go.RowKit

def eqsT : TypeId → Option (List UD) := fun t => bif Nat.beq t 56 then some [.string, .string] else none

theorem eq56 : EqOk Try.prog 56 [.string, .string] := by
  have hs : Try.prog.stoodInHeld 56 = false := by kernel_rfl
  have hg : Try.prog.eqGuardType Try.prog.depth 56 = false := by kernel_rfl
  have hu : Try.prog.underlying 56 = some (.struct (Try.prog.fieldsOf 56)) := by rw [Program.fieldsOf, Try.underlying56]
  have hf : (Try.prog.fieldsOf 56) = (match Try.prog.underlying 56 with | some (.struct fs) => fs | _ => #[]) := rfl
  have key : ∀ (a b c d : ByteArray) (w : World), (Op.equalIn 10000 56 (.agg #[.string a, .string b]) (.agg #[.string c, .string d])).run Try.prog w = .ok ((a.toList == c.toList) && ((b.toList == d.toList) && true)) w := by
    intro a b c d w
    rw [run_equalIn_struct w 9999 56 _ _ hu hs, hf, Try.underlying56]
    cases h : a.toList == c.toList <;> cases h2 : b.toList == d.toList <;> simp only [beq_iff_eq, beq_eq_false_iff_ne, ne_eq] at h h2 <;> simp [Op.eqFields, h, h2, go_sem, Try.underlying9, Try.type9]
  intro xs ys r h w xo yo
  have shape : ∃ a b c d : ByteArray, xs = [.string a, .string b] ∧ ys = [.string c, .string d] ∧ r = ((a.toList == c.toList) && ((b.toList == d.toList) && true)) := by
    have one : ∀ {us : List UD} {l m : List Value} {r : Bool}, aggEq (.string :: us) l m = some r → ∃ a b l' m' r', l = .string a :: l' ∧ m = .string b :: m' ∧ aggEq us l' m' = some r' ∧ r = ((a.toList == b.toList) && r') := by
      intro us l m r h
      unfold aggEq at h
      split at h
      · simp_all
      · rename_i us2 a l' b m' e
        simp only [List.cons.injEq, true_and] at e
        subst e
        rw [Option.map_eq_some_iff] at h
        obtain ⟨r', h1, h2⟩ := h
        exact ⟨a, b, l', m', r', rfl, rfl, h1, h2.symm⟩
      · simp_all
      · simp_all
      · simp at h
    obtain ⟨a, c, l, m, r1, rfl, rfl, h1, rfl⟩ := one h
    obtain ⟨b, d, l2, m2, r2, rfl, rfl, h2, rfl⟩ := one h1
    unfold aggEq at h2
    split at h2 <;> first | (simp only [Option.some.injEq] at h2; subst h2; exact ⟨a, b, c, d, rfl, rfl, rfl⟩) | simp_all
  obtain ⟨a, b, c, d, rfl, rfl, hr⟩ := shape
  · skip
    subst hr
    constructor
    · simp only [Sem.run_bind, run_eqGuard_agg w _ _ _ _ _ _ hg, Result.andThen_ok, run_eql_struct, key]
    · simp only [Sem.run_bind, run_eqGuard_agg w _ _ _ _ _ _ hg, Result.andThen_ok, run_neq_struct, key]

theorem eqsT_ok : ∀ t us, eqsT t = some us → EqOk Try.prog t us := by
  intro t us h
  unfold eqsT at h
  cases z : Nat.beq t 56 with
  | true =>
    rw [z] at h
    have e := Nat.eq_of_beq_eq_true z
    subst e
    cases h
    exact eq56
  | false => rw [z] at h; simp at h

end Go.Proofs.Ytdhbclplondmjaa.C

end
