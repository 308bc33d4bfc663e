/- The table in which the proofs are led: known, the checks of one relation, sorting are given by what they do. -/
import Derived.Test.YtdhbclplondmjaaWTab
import Derived.Test.YtdhbclplondmjaaShelf
import Derived.Test.YtdhbclplondmjaaCLib
namespace Go.Proofs.Ytdhbclplondmjaa.C
open Go.RowKit

/-- For the examples: the five functions by their runs. -/
noncomputable def extK : FuncId → Option ExtF := fun f =>
  bif Nat.beq f 17 then some (subX (runF 300) 17) else
  bif Nat.beq f 24 then some (subX (runF 300) 24) else
  bif Nat.beq f 16 then some (subX (runF 300) 16) else
  bif Nat.beq f 28 then some (subX (runF 300) 28) else
  bif Nat.beq f 12 then some (subX (runG 301) 12) else
  bif Nat.beq f 27 then some (pureB tab0 27) else none

theorem bif_key {k f : Nat} {a b : Option ExtF} {e : ExtF} (h : (bif Nat.beq f k then a else b) = some e) : (f = k ∧ a = some e) ∨ b = some e := by
  cases z : Nat.beq f k with
  | true => rw [z] at h; exact .inl ⟨Nat.eq_of_beq_eq_true z, h⟩
  | false => rw [z] at h; exact .inr h

theorem extK_ok : ∀ f e, extK f = some e → ExtOk Try.prog f e ∧ (lookF fns f).isSome = true := by
  intro f e h
  unfold extK at h
  rcases bif_key h with ⟨rfl, h⟩ | h
  · have h := Option.some.inj h; subst h; exact ⟨subX_ok (runF_sound _) _, rfl⟩
  rcases bif_key h with ⟨rfl, h⟩ | h
  · have h := Option.some.inj h; subst h; exact ⟨subX_ok (runF_sound _) _, rfl⟩
  rcases bif_key h with ⟨rfl, h⟩ | h
  · have h := Option.some.inj h; subst h; exact ⟨subX_ok (runF_sound _) _, rfl⟩
  rcases bif_key h with ⟨rfl, h⟩ | h
  · have h := Option.some.inj h; subst h; exact ⟨subX_ok (runF_sound _) _, rfl⟩
  rcases bif_key h with ⟨rfl, h⟩ | h
  · have h := Option.some.inj h; subst h; exact ⟨subX_ok (runG_sound _) _, rfl⟩
  rcases bif_key h with ⟨rfl, h⟩ | h
  · have h := Option.some.inj h; subst h; exact ⟨pureB_ok fits0 _, rfl⟩
  · simp at h

noncomputable def tabK : Tab := tabE extK
theorem fitsK : Fits Try.prog tabK := fitsE extK_ok

noncomputable def extB : FuncId → Option ExtF := fun f =>
  bif Nat.beq f 9 then some (pureB tabK 9) else
  bif Nat.beq f 43 then some (pureB tab0 43) else
  bif Nat.beq f 30 then some (pureB tab0 30) else
  bif Nat.beq f 25 then some (pureB tab0 25) else
  bif Nat.beq f 27 then some (pureB tab0 27) else
  bif Nat.beq f 51 then some sortX else
  bif Nat.beq f 52 then some compactX else none

theorem extB_ok : ∀ f e, extB f = some e → ExtOk Try.prog f e ∧ (lookF fns f).isSome = true := by
  intro f e h
  unfold extB at h
  rcases bif_key h with ⟨rfl, h⟩ | h
  · have h := Option.some.inj h; subst h; exact ⟨pureB_ok fitsK _, rfl⟩
  rcases bif_key h with ⟨rfl, h⟩ | h
  · have h := Option.some.inj h; subst h; exact ⟨pureB_ok fits0 _, rfl⟩
  rcases bif_key h with ⟨rfl, h⟩ | h
  · have h := Option.some.inj h; subst h; exact ⟨pureB_ok fits0 _, rfl⟩
  rcases bif_key h with ⟨rfl, h⟩ | h
  · have h := Option.some.inj h; subst h; exact ⟨pureB_ok fits0 _, rfl⟩
  rcases bif_key h with ⟨rfl, h⟩ | h
  · have h := Option.some.inj h; subst h; exact ⟨pureB_ok fits0 _, rfl⟩
  rcases bif_key h with ⟨rfl, h⟩ | h
  · have h := Option.some.inj h; subst h
    exact ⟨sortX_ok (fun blk off cap ss w h1 h2 h3 => Try.slices_Sort_string blk off cap ss w h1 h2 h3) (fun p cap w => Try.slices_Sort_string_none p cap w), rfl⟩
  rcases bif_key h with ⟨rfl, h⟩ | h
  · have h := Option.some.inj h; subst h
    exact ⟨compactX_ok (fun blk off cap zs w h1 h2 h3 => Try.slices_Compact_string blk off cap zs w h1 h2 h3) (fun a cap w => Try.slices_Compact_string_empty a cap w), rfl⟩
  · simp at h

noncomputable def tab : Tab := tabE extB
theorem fitsB : Fits Try.prog tab := fitsE extB_ok

end Go.Proofs.Ytdhbclplondmjaa.C
