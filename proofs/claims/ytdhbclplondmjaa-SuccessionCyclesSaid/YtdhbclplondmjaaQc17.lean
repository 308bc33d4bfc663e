/- Texts of one's own, laid together: WTab -/
import Derived.Test.YtdhbclplondmjaaQc11
import Derived.Test.YtdhbclplondmjaaQc12
import Derived.Test.YtdhbclplondmjaaQc15
section
/- The table of the seat's program for the abstract machine. -/
set_option maxRecDepth 100000
namespace Go.Proofs.Ytdhbclplondmjaa.C
open Go.RowKit

abbrev ExtF := List Value → List Blk → Option (Value × List Blk)

noncomputable def tabE (ext : FuncId → Option ExtF) : Tab where
  T t := (types[t]?).getD none
  fn := lookF fns
  meth := lookM meths
  ext := ext
  eqs := eqsT

theorem fitsE {ext : FuncId → Option ExtF} (h : ∀ f e, ext f = some e → ExtOk Try.prog f e ∧ (lookF fns f).isSome = true) : Fits Try.prog (tabE ext) := by
  refine fitsOf (fns := fns) rfl ?_ rfl fns_ok ?_ ?_ eqsT_ok
  · intro t i hi
    have hi : (types[t]?).getD none = some i := hi
    cases e : types[t]? with
    | none => rw [e] at hi; simp at hi
    | some x =>
      rw [e] at hi
      simp only [Option.getD_some] at hi
      subst hi
      have := types_ok.get (j := t) e
      simpa using this
  · intro t n f e he
    exact meths_ok.get he
  · intro f e he
    obtain ⟨h1, h2⟩ := h f e he
    refine ⟨h1, ?_⟩
    obtain ⟨fn, hf⟩ := Option.isSome_iff_exists.1 h2
    exact (fns_ok.get hf).2.1

/-- The table of the program's own code. -/
noncomputable def tab0 : Tab := tabE fun _ => none
theorem fits0 : Fits Try.prog tab0 := fitsE fun f e h => by simp at h

/-- The same table, faster to look up. -/
noncomputable def typesR : List (List (Option TI)) := chunk 16 20 types
noncomputable def tabR (ext : FuncId → Option ExtF) : Tab := { tabE ext with T := fun t => lget none (lget [] typesR (t / 16)) (t % 16) }
theorem tabR_eq (ext : FuncId → Option ExtF) : tabR ext = tabE ext := by
  have : (fun t => lget none (lget [] typesR (t / 16)) (t % 16)) = fun t => (types[t]?).getD none := by
    funext t
    have hr : Rows8 16 typesR = true := by decide +kernel
    rw [lget_eq, lget_eq, rows_get none (by decide) hr t, List.getD_eq_getElem?_getD]
    rw [show typesR.flatten = types from chunk_flat 16 20 types]
  unfold tabR
  rw [this]
  rfl
theorem fitsR {ext : FuncId → Option ExtF} (h : ∀ f e, ext f = some e → ExtOk Try.prog f e ∧ (lookF fns f).isSome = true) : Fits Try.prog (tabR ext) := by rw [tabR_eq]; exact fitsE h

noncomputable def tabF : Tab := tabR fun _ => none
theorem fitsF : Fits Try.prog tabF := fitsR fun f e h => by simp at h
/-- A run of the program's own code. -/
noncomputable def runF (n : Nat) : CallF := callCF tabF n
theorem runF_sound (n : Nat) : SoundCall Try.prog (runF n) := SoundCall.le (callC_sound fitsF n) (callCF_ok n)

/-- .. with the range over a function in Ranks. -/
noncomputable def tabG : Tab := tabR fun f => bif Nat.beq f 12 then some (callX tabF (runF 300) 300 Try.f12) else none
theorem fitsG : Fits Try.prog tabG := fitsR fun f e h => by
  cases z : Nat.beq f 12 with
  | true =>
    rw [z] at h
    have hf := Nat.eq_of_beq_eq_true z
    subst hf
    have h := Option.some.inj h
    subst h
    exact ⟨callX_ok fitsF (runF_sound 300) rfl 300 Try.func12, rfl⟩
  | false => rw [z] at h; simp at h
noncomputable def runG (n : Nat) : CallF := callCF tabG n
theorem runG_sound (n : Nat) : SoundCall Try.prog (runG n) := SoundCall.le (callC_sound fitsG n) (callCF_ok n)

end Go.Proofs.Ytdhbclplondmjaa.C

end
