/- What the abstract machine computes is what the machine computes: operations, regions in text order. -/
import Derived.Test.YtdhbclplondmjaaCEval
set_option linter.unusedVariables false
set_option linter.unusedSimpArgs false
namespace Go.Proofs.Ytdhbclplondmjaa.C
open Go.RowKit

variable {P : Program} {T : Tab} {base : Nat} {F : Nat → Prop}

/-- From one state of the memory to another. -/
structure Goes (base : Nat) (F : Nat → Prop) (μ μ' : Mu) (H H' : Heap) (w w' : World) : Prop where
  le : MuLe μ μ'
  same : ∀ b, (b < H.length ∨ H'.length ≤ b) → μ' b = μ b
  hr : HR base F μ' H' w'
  fr : Fr base F w w'
  len : H.length ≤ H'.length

theorem Goes.refl {μ : Mu} {H : Heap} {w : World} (h : HR base F μ H w) : Goes base F μ μ H H w w := ⟨MuLe.refl _, fun _ _ => rfl, h, Fr.refl _ _ _, Nat.le_refl _⟩

theorem Goes.trans {μ μ' μ'' : Mu} {H H' H'' : Heap} {w w' w'' : World} (h : Goes base F μ μ' H H' w w') (k : Goes base F μ' μ'' H' H'' w' w'') : Goes base F μ μ'' H H'' w w'' where
  le := h.le.trans k.le
  same b hb := by
    have h1 := h.len
    have h2 := k.len
    rw [k.same b (by omega), h.same b (by omega)]
  hr := k.hr
  fr := h.fr.trans k.fr
  len := Nat.le_trans h.len k.len

def Free (μ : Mu) (m n : Nat) : Prop := ∀ b, m ≤ b → b < n → μ b = none

theorem Free.after {μ μ' : Mu} {H H' : Heap} {w w' : World} {n : Nat} (hf : Free μ H.length n) (h : Goes base F μ μ' H H' w w') : Free μ' H'.length n := by
  intro b h1 h2
  have := h.len
  rw [h.same b (.inr h1)]
  exact hf b (by omega) h2

theorem Free.le {μ : Mu} {m n k : Nat} (hf : Free μ m n) (h : k ≤ n) : Free μ m k := fun b h1 h2 => hf b h1 (by omega)

def CallPost (base : Nat) (F : Nat → Prop) (μ : Mu) (H H' : Heap) (w : World) (v : Value) (e : Ending) (w' : World) : Prop :=
  ∃ v' μ', e = .returned v' ∧ Goes base F μ μ' H H' w w' ∧ VR μ' v v'

structure SoundCall (P : Program) (call : CallF) : Prop where
  enter : ∀ f args H r, call f args H = some r → ∀ xs w, (callFunc f xs).run P w = .ok (.enter f xs) w
  calls : ∀ f args H v H', call f args H = some (v, H') → ∀ base F μ w args', HR base F μ H w → Free μ H.length H'.length → VRs μ args args' → Calls P f args'.toArray w (CallPost base F μ H H' w v)
  len : ∀ f args H v H', call f args H = some (v, H') → H.length ≤ H'.length

/-- What a program must have for the methods of the table. -/
structure MethOk (P : Program) (t : TypeId) (name : String) (f : FuncId) (e : Option TypeId) : Prop where
  ok : ∃ inf m b d, P.info? t = some inf ∧ inf.methods.find? (·.name == name) = some m ∧ m.path = #[] ∧ m.func = some (f, b) ∧ P.underlying t = some d ∧
    match e with
    | none => (∃ x, d = .pointer x ∧ b = true) ∨ ((∀ x, d ≠ .pointer x) ∧ b = false)
    | some x => d = .pointer x ∧ b = false

theorem SR.evals {μ : Mu} {s : List Value} {a : Act} (h : SR μ s a.tmps) (x : Operand) : VR μ (ev s x) (a.eval x) := by
  cases x with
  | tmp t => exact h.get t
  | const v =>
    simp only [ev, Act.eval]
    split
    · rename_i hp; exact plain_vr μ hp
    · exact .undef _
  | global g => exact .undef _
  | func f => exact .func (.func f) .nil .nil

theorem SR.puts {μ : Mu} {s : List Value} {a : Act} (h : SR μ s a.tmps) (d : Option Tmp) {v v' : Value} (hv : VR μ v v') : SR μ (C.put s d v) (a.put d v').tmps := by
  cases d with
  | none => exact h
  | some d => exact h.put d hv

theorem put_defers (a : Act) (d : Option Tmp) (v : Value) : (a.put d v).defers = a.defers := by cases d <;> rfl

def RecOk (P : Program) (w : World) (u' rec' : Value) : Option TypeId → Prop
  | none => rec' = u'
  | some x => ∃ ad, u' = .pointer (some ad) ∧ (loadVar x ad).run P w = .ok rec' w

theorem run_wrapchk (ts : Array TypeId) (t : TypeId) (ad : Addr) (a b : ByteArray) (w : World) : (Builtin.ssaWrapNilChk_ ts t #[.pointer (some ad), .string a, .string b]).run P w = .ok (.pointer (some ad)) w := rfl

/-- The operation's own law, for what follows. -/
theorem evalOp_wp {call : CallF} (ag : Agree P T) (hm : ∀ t n f e, T.meth t n = some (f, e) → MethOk P t n f e) (hc : SoundCall P call) {μ : Mu} {s : List Value} {H H' : Heap} {w : World} {a : Act} {o : Oper} {v : Value}
    (he : evalOp T call s H o.op = some (v, H')) (h : HR base F μ H w) (hf : Free μ H.length H'.length) (hev : ∀ x, VR μ (ev s x) (a.eval x)) {K : Act → World → Prop} {Q : Exit → Act → World → Prop}
    (hK : ∀ v' w' μ', Goes base F μ μ' H H' w w' → VR μ' v v' → K (a.put o.dst v') w') : o.wp P a w K Q := by
  unfold evalOp at he
  split at he
  · rename_i r hr
    simp only [Option.some.injEq] at he
    subst he
    have hlen := (opEval_len hr).1
    obtain ⟨n, w', μ', e, h1, h2, h3, h4, h5⟩ := opEval_ok (ρ := a.eval) ag h hev (fun hlt => hf _ (Nat.le_refl _) hlt) hr
    have hg : Goes base F μ μ' H H' w w' := ⟨h1, h2, h3, h4, hlen⟩
    unfold Oper.wp
    rw [e]
    rcases h5 with ⟨rfl, rfl⟩ | ⟨v', rfl, hv⟩
    · exact hK undef w' μ' hg (.undef _)
    · exact hK v' w' μ' hg hv
  · split at he
    · rename_i f args hcal
      have hent := hc.enter f args H _ he
      have run : ∀ args', VRs μ args args' → (execOp a.eval o).run P w = .ok (.enter f args'.toArray) w → o.wp P a w K Q := by
        intro args' ha hrun
        unfold Oper.wp
        rw [hrun]
        simp only [Oper.upon]
        refine Calls.mono (hc.calls f args H v H' he base F μ w args' h hf ha) ?_
        rintro e w' ⟨v', μ', rfl, hg, hv⟩
        exact hK v' w' μ' hg hv
      unfold calleeOf at hcal
      split at hcal
      · rename_i fo xs ats hop
        split at hcal
        · rename_i g first cap hfo
          simp only [Option.some.injEq, Prod.mk.injEq] at hcal
          obtain ⟨rfl, rfl⟩ := hcal
          have hv := hev fo
          rw [hfo] at hv
          generalize hρ : a.eval fo = fv at hv
          cases hv with
          | func fn hfs hcs =>
            refine run _ ((VRs.append hfs (VRs.of_map hev xs.toList)).append hcs) ?_
            simp only [execOp, hop, resolve, hρ, Deferred.ofValue, pure_bind, invoke]
            rw [hent]
            simp [← map_arr]
        · simp at hcal
      · rename_i r name xs ats hop
        split at hcal
        · rename_i t u hr
          have hv := hev r
          rw [hr] at hv
          generalize hρ : a.eval r = rv at hv
          cases hv with
          | iface t hu =>
            rename_i u'
            have meth : ∀ {e : Option TypeId} {g : FuncId}, T.meth t name = some (g, e) → ∀ rec', RecOk P w u' rec' e →
                (method (P.types.size + Made.depth) t u' name).run P w = .ok (g, rec') w := by
              intro e g hme rec' hrec
              obtain ⟨inf, m, b, d, i1, i2, i3, i4, i5, i6⟩ := (hm _ _ _ _ hme).ok
              have hfuel : P.types.size + Made.depth = (P.types.size + Made.depth - 1) + 1 := by
                have : 0 < Made.depth := by decide
                omega
              rw [hfuel]
              unfold method
              cases e with
              | none =>
                simp only [RecOk] at hrec
                subst hrec
                rcases i6 with ⟨x, rfl, rfl⟩ | ⟨hd, rfl⟩
                · simp [typeInfo, i1, i2, i3, i4, follow, receiverAt, run_underlying i5, Place.get]
                · simp [typeInfo, i1, i2, i3, i4, follow, receiverAt, run_underlying i5, Place.get]
              | some x =>
                obtain ⟨rfl, rfl⟩ := i6
                obtain ⟨ad, rfl, hl⟩ := hrec
                simp [typeInfo, i1, i2, i3, i4, follow, receiverAt, run_underlying i5, Place.get, run_wrapchk, strVal, asAddr, hl]
            have imeth : ∀ {e : Option TypeId} {g : FuncId} (hme : T.meth t name = some (g, e)) (rec' : Value), RecOk P w u' rec' e → f = g →
                (do let some recv := (#[Value.iface t u'] ++ xs.map a.eval)[0]? | stuck "call: a method without a receiver"
                    callMethod recv name ((#[Value.iface t u'] ++ xs.map a.eval).extract 1 (#[Value.iface t u'] ++ xs.map a.eval).size) : Sem Next).run P w = .ok (.enter f (rec' :: xs.toList.map a.eval).toArray) w := by
              intro e g hme rec' hrec hfg
              subst hfg
              have := meth hme rec' hrec
              have hx : (#[Value.iface t u'] ++ xs.map a.eval).extract 1 (#[Value.iface t u'] ++ xs.map a.eval).size = xs.map a.eval := by
                apply Array.ext'; simp [List.take_of_length_le]
              have h0 : (#[Value.iface t u'] ++ xs.map a.eval)[0]? = some (.iface t u') := by rw [Array.getElem?_append]; rfl
              rw [hx, h0]
              simp only [callMethod]
              simp
              rw [this]
              simp [hent]
            split at hcal
            · rename_i g hme
              simp only [Option.some.injEq, Prod.mk.injEq] at hcal
              obtain ⟨rfl, rfl⟩ := hcal
              refine run (u' :: xs.toList.map a.eval) (.cons hu (VRs.of_map hev xs.toList)) ?_
              simp only [execOp, hop, resolve, hρ, pure_bind, invoke]
              exact imeth hme u' rfl rfl
            · rename_i g e hme
              rw [Option.map_eq_some_iff] at hcal
              obtain ⟨u2, hu2, hcal⟩ := hcal
              simp only [Prod.mk.injEq] at hcal
              obtain ⟨rfl, rfl⟩ := hcal
              obtain ⟨v2, hl, hv2⟩ := vLoad_ok ag h hu hu2
              refine run (v2 :: xs.toList.map a.eval) (.cons hv2 (VRs.of_map hev xs.toList)) ?_
              simp only [execOp, hop, resolve, hρ, pure_bind, invoke]
              refine imeth hme v2 ?_ rfl
              have : ∃ ad, u = .pointer (some ad) := by
                unfold vLoad at hu2
                simp only [Option.bind_eq_bind, Option.bind_eq_some_iff] at hu2
                obtain ⟨i, hi, hu2⟩ := hu2
                split at hu2
                · exact ⟨_, rfl⟩
                · simp at hu2
              obtain ⟨ad, rfl⟩ := this
              cases hu
              exact ⟨_, rfl, by simpa [Instr.loadAt, Instr.sureAddr] using hl⟩
            · simp at hcal
        · simp at hcal
      · simp at hcal
    · simp at he

end Go.Proofs.Ytdhbclplondmjaa.C
