/- What a table of functions needs. -/
import Derived.Test.YtdhbclplondmjaaCDraw5
set_option linter.unusedVariables false
set_option linter.unusedSimpArgs false
namespace Go.Proofs.Ytdhbclplondmjaa.C
open Go.RowKit

def codeChk : Code → Bool
  | .region _ ops draw => !draw || drawChk ops (orderOf ops)
  | .seq a b => codeChk a && codeChk b
  | .cond _ a b => codeChk a && codeChk b
  | .block _ a => codeChk a
  | .loop a => codeChk a
  | _ => true

def funcChk (fn : Func) : Bool := match fn.body with | some c => codeChk c | none => false

theorem codeOk {P : Program} {T : Tab} (ag : Agree P T) (hm : ∀ t n f e, T.meth t n = some (f, e) → MethOk P t n f e) (hmix : P.follows .mixedOrders = true) : ∀ {c : Code}, codeChk c = true → CodeOk P T c
  | .region _ ops draw, h => by
    intro hd
    subst hd
    simp only [codeChk, Bool.not_true, Bool.false_or] at h
    exact draw_ok ag hm hmix h
  | .seq a b, h => by
    simp only [codeChk, Bool.and_eq_true] at h
    exact ⟨codeOk ag hm hmix h.1, codeOk ag hm hmix h.2⟩
  | .cond _ a b, h => by
    simp only [codeChk, Bool.and_eq_true] at h
    exact ⟨codeOk ag hm hmix h.1, codeOk ag hm hmix h.2⟩
  | .block _ a, h => codeOk (c := a) ag hm hmix (by simpa [codeChk] using h)
  | .loop a, h => codeOk (c := a) ag hm hmix (by simpa [codeChk] using h)
  | .skip, _ | .exit _, _ | .label _, _ | .ret, _ | .goto _, _ | .refuse _, _ | .scope _, _ | .rangeFunc .., _ => trivial

def lookF (fns : List (FuncId × Func)) (f : FuncId) : Option Func :=
  match fns with
  | [] => none
  | p :: l => if p.1 = f then some p.2 else lookF l f

def AllFn (P : Program) : List (FuncId × Func) → Prop
  | [] => True
  | p :: l => (P.funcs[p.1]? = some p.2 ∧ (∀ xs w, (callFunc p.1 xs).run P w = .ok (.enter p.1 xs) w) ∧ funcChk p.2 = true) ∧ AllFn P l

theorem AllFn.get {P : Program} : ∀ {l : List (FuncId × Func)}, AllFn P l → ∀ {f : FuncId} {fn : Func}, lookF l f = some fn → P.funcs[f]? = some fn ∧ (∀ xs w, (callFunc f xs).run P w = .ok (.enter f xs) w) ∧ funcChk fn = true
  | [], _, f, fn, h => by simp [lookF] at h
  | p :: l, hh, f, fn, h => by
    unfold lookF at h
    split at h
    · rename_i e
      subst e
      simp only [Option.some.injEq] at h
      subst h
      exact hh.1
    · exact AllFn.get hh.2 h

def lookM (ms : List (TypeId × String × FuncId × Option TypeId)) (t : TypeId) (n : String) : Option (FuncId × Option TypeId) :=
  match ms with
  | [] => none
  | p :: l => if p.1 = t ∧ p.2.1 = n then some p.2.2 else lookM l t n

def AllM (P : Program) : List (TypeId × String × FuncId × Option TypeId) → Prop
  | [] => True
  | p :: l => MethOk P p.1 p.2.1 p.2.2.1 p.2.2.2 ∧ AllM P l

theorem AllM.get {P : Program} : ∀ {l : List (TypeId × String × FuncId × Option TypeId)}, AllM P l → ∀ {t : TypeId} {n : String} {f : FuncId} {e : Option TypeId}, lookM l t n = some (f, e) → MethOk P t n f e
  | [], _, _, _, _, _, h => by simp [lookM] at h
  | p :: l, hh, t, n, f, e, h => by
    unfold lookM at h
    split at h
    · rename_i q
      obtain ⟨h1, h2⟩ := q
      simp only [Option.some.injEq] at h
      have := hh.1
      rw [h1, h2, h] at this
      exact this
    · exact AllM.get hh.2 h

theorem fitsOf {P : Program} {T : Tab} (hmix : P.follows .mixedOrders = true) (hty : ∀ t i, T.T t = some i → TyOk P t i) {fns : List (FuncId × Func)} (hfn : T.fn = lookF fns) (hall : AllFn P fns)
    (hm : ∀ t n f e, T.meth t n = some (f, e) → MethOk P t n f e) (hext : ∀ f e, T.ext f = some e → ExtOk P f e ∧ ∀ xs w, (callFunc f xs).run P w = .ok (.enter f xs) w) : Fits P T := by
  have ag : Agree P T := ⟨hty, fun f c h => (hall.get (by rw [← hfn]; exact h)).1⟩
  refine ⟨ag, hm, ?_, ?_, fun f e h => (hext f e h).1⟩
  · intro f h xs w
    rcases h with h | h
    · obtain ⟨fn, hf⟩ := Option.isSome_iff_exists.1 h
      exact (hall.get (by rw [← hfn]; exact hf)).2.1 xs w
    · obtain ⟨e, he⟩ := Option.isSome_iff_exists.1 h
      exact (hext f e he).2 xs w
  · intro f fn c hf hb
    have := (hall.get (by rw [← hfn]; exact hf)).2.2
    unfold funcChk at this
    rw [hb] at this
    exact codeOk ag hm hmix this

end Go.Proofs.Ytdhbclplondmjaa.C
