/- The law on succession.Cycle and succession.First, held against the least cycle, answers true WHATEVER THE INPUT, and the input reads as it did: no condition. -/
import Derived.Test.YtdhbclplondmjaaRows
import Derived.Test.YtdhbclplondmjaaQc31
import Derived.ProofKit
import Derived.SizedLaws
import Derived.Carry
import Derived.Test.YtdhbclplondmjaaQc30
section
/- From a run of a law in the abstract machine to calls of the program: a list of described relations, and plain values. -/
set_option linter.unusedVariables false
set_option linter.unusedSimpArgs false
set_option maxRecDepth 100000
namespace Go.Proofs.Ytdhbclplondmjaa
open Go.ChangeShapes Go.WideShapes Go.ChangeAt Go.RowKit C

theorem ownOk : ownKnob Try.prog.godebug = none := by kernel_rfl
theorem laidOutOk : laidOutB Try.prog = true := by kernel_rfl
theorem shutB {H : Type} {enc : TypeId × Value → H} {W' : World} {bb : Nat} {sp : Nat → Bool} {hd : Bool} (c : Bool) : DataW.Trod enc Try.prog W' bb sp hd 4 (.bool c) (.lit (.bool c)) [] :=
  ⟨1, by simp [DataW.trod, Value.cells, Try.underlying4]⟩
theorem okB {W' : World} (c : Bool) : Value.okWide Try.prog W' .any 0 4 (.bool c) := by
  simp [Value.okWide, Try.underlying4, Cell.okWide, Cell.ok]

theorem seens_callsF {T : Tab} (hF : Fits Try.prog T) {W : World} {f : FuncId} {v0 : Value} {xs : List Seen} {ss : List Value} (hfl : plains ss = true) (h0 : ArgAt W 0 3 v0 (seens xs))
    (hb : ∀ (H : C.Heap) (va : Value), Sl H 3 va (seens xs) → ∃ r H1, big T f (va :: ss) H = some (r, H1) ∧ r = .bool true) :
    Calls Try.prog f (v0 :: ss).toArray W fun e W' => e = .returned (.bool true) ∧ Below W.heap.size W W' := by
  obtain ⟨va, oa, ra, ca, sa⟩ := h0
  let H : C.Heap := [.row 3 (seens xs).flatten false true]
  let μ : Mu := fun b => if b = 0 then oa else none
  obtain ⟨r, H1, hb, hr⟩ := hb H va (sa H rfl)
  subst hr
  obtain ⟨n, hn⟩ := big_some.1 hb
  have hH : HR W.heap.size (fun _ => False) μ H W := by
    refine ⟨?_, ?_, ?_, ?_, fun k h => h.elim, Nat.le_refl _⟩
    · intro b sz cs l hb
      match b with
      | 0 => simp [H] at hb
      | b + 1 => simp [H] at hb
    · intro b sz cs l hb hl
      match b with
      | 0 =>
        simp [H] at hb
        obtain ⟨rfl, rfl⟩ := hb
        obtain ⟨e1, e2, e3⟩ := ca l hl
        exact ⟨e1, e2, fun i u hu => by obtain ⟨v', q1, q2⟩ := e3 i u hu; exact ⟨v', q1, q2 μ⟩⟩
      | b + 1 => simp [H] at hb
    · intro b es l hb
      match b with
      | 0 => simp [H] at hb
      | b + 1 => simp [H] at hb
    · intro b b' k k' l l' hb _ hk
      match b with
      | 0 => simp [H] at hb; subst hb; simp [Blk.mine] at hk
      | b + 1 => simp [H] at hb
  have hfree : Free μ H.length H1.length := by
    intro b h1 _
    have : 1 ≤ b := h1
    show (if b = 0 then oa else none) = none
    rw [if_neg (by omega)]
  have hs := (callC_sound hF n).calls f (va :: ss) H _ H1 hn W.heap.size (fun _ => False) μ W (v0 :: ss) hH hfree (.cons (ra μ rfl) (plains_refl hfl))
  refine hs.mono fun e W' ⟨v', μ', he, hg, hv⟩ => ?_
  subst he
  cases hv
  exact ⟨rfl, hg.fr.below⟩

theorem seens_calls {W : World} {f : FuncId} {v0 : Value} {xs : List Seen} {ss : List Value} (hfl : plains ss = true) (h0 : ArgAt W 0 3 v0 (seens xs))
    (hb : ∀ (H : C.Heap) (va : Value), Sl H 3 va (seens xs) → ∃ r H1, big tab f (va :: ss) H = some (r, H1) ∧ r = .bool true) :
    Calls Try.prog f (v0 :: ss).toArray W fun e W' => e = .returned (.bool true) ∧ Below W.heap.size W W' := seens_callsF fitsB hfl h0 hb

theorem nm_of (s : ByteArray) : (Value.string s) = str s.data.toList := by
  have e : (⟨s.data.toList.toArray⟩ : ByteArray) = s := by simp
  show _ = Value.string _
  rw [e]

end Go.Proofs.Ytdhbclplondmjaa

end

section
/- The law SuccessionCycles answers true WHATEVER THE INPUT, and the input reads as it did: no condition. -/
set_option linter.unusedVariables false
set_option linter.unusedSimpArgs false
set_option maxRecDepth 100000
namespace Go.Proofs.Ytdhbclplondmjaa
open Go.ChangeShapes Go.WideShapes Go.ChangeAt Go.RowKit C

theorem successionCycles_lifted (os : Os) (started : os.Started) (H : Type) (enc : TypeId × Value → H) :
    ReturnsInHanded {} Try.checked os 5 .any (Rows.successionCyclesSpec.pre6 enc Try.prog Try.f5 Rows.successionCyclesRow.domain false) (Rows.successionCyclesSpec.post enc Try.prog Try.f5 false true false false) := by
  refine returnsInHanded_of_change_sized (C := Try.checked) ownOk started (by kernel_rfl) Try.func5
    (ChangeSpec.witness6 (enc := enc) (C := Try.checked) false ⟨#[], #[.slice none 0 0], []⟩ 5 (by kernel_rfl) (by kernel_rfl) (by kernel_rfl) (by kernel_rfl)) ?_
  intro W base args ds gs before hval0 hW _ hsz0 _
  have hsz : (DataW.weightsEach Try.prog (Try.f5.params.toList ++ Rows.successionCyclesSpec.plain.varTypes Try.prog) (ds ++ gs)).all (· ≤ reachBytes) = true := hsz0
  clear hsz0
  have hval : ∀ (j : Nat) t v, Try.f5.params[j]? = some t → args[j]? = some v → Value.okWide Try.prog W .any base t v := hval0
  have hW' := hW
  obtain ⟨p, q, hA0, hV0, rfl, _, _⟩ := hW
  have hA : DataW.TrodAll enc Try.prog W 0 (fun _ => true) true Try.f5.params.toList args.toList ds p := hA0
  rw [Try.params5] at hA hval hsz
  obtain ⟨v0, d0, rfl, rfl, h0⟩ := trodAll_one hA
  obtain ⟨rfl, rfl⟩ := trodVars_none hV0
  obtain ⟨a0, l0, c0, rfl⟩ := okWide_slice Try.underlying22 (hval 0 22 v0 rfl rfl)
  have h0k := h0
  obtain ⟨fuel0, hf0⟩ := h0
  simp only [List.append_nil] at hW' hsz
  have hlt : ∀ x ∈ p, x.block < W.heap.size := fun x hx => by simpa using hW'.lt x hx
  obtain ⟨xs, hx1, hx2, hx3⟩ := arg_seens (k := 0) hf0
  have hxl : xs.length < 2 ^ 60 := by
    rcases hx3 with rfl | ⟨el, sp, e, hl⟩
    · decide
    · have := sized_slice hsz (j := 0) (t := 22) (e := 66) rfl (by rw [← e]; rfl) Try.underlying22
      rw [bytes66] at this
      simp only [reachBytes] at this
      omega
  refine (seens_calls (f := 5) (ss := []) rfl hx1 fun H va hsl => ?_).mono ?_
  · exact lawCycles_runs hsl hx2
  rintro e W' ⟨rfl, bel⟩
  have e1 : Rows.successionCyclesSpec.fn H ([d0] ++ []) = { results := [.lit (.bool true)], args := [d0] } := rfl
  refine ⟨_, rfl, _, _, _, [], p, [], hW', ?_, ?_, ?_, bel.frame _, fun h => by cases h⟩
  · rw [e1]; exact trodAll_mk1 (shutB true)
  · rw [e1]; exact trodAll_mk1 (Below.trod laidOutOk (by kernel_rfl) (of_decide_eq_true (by kernel_rfl)) h0k bel (fun x hx => hlt x (by simp [hx])))
  · rw [e1]; rfl

theorem successionCycles_holds : Rows.SuccessionCyclesSaid :=
  OpenClaim.holds_of_wide 5 Try.f5 rfl rfl rfl rfl rfl rfl rfl ⟨rfl, rfl, rfl, rfl, rfl⟩ rfl rfl rfl rfl rfl (by kernel_rfl) Try.func5 (by kernel_rfl)
    (of_decide_eq_true (by kernel_rfl)) (by unfold Func.isWrapper; first | (rw [if_pos (by decide +kernel)]; kernel_rfl) | (rw [if_neg (by decide +kernel)]; exact ⟨rfl, rfl⟩))
    (fun os started H enc _ => successionCycles_lifted os started H enc)

end Go.Proofs.Ytdhbclplondmjaa

end
