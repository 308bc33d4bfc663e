/- Texts of one's own, laid together: COp, CEval, CSound, CRun, CCall, CDraw, CDraw2, CDraw3 -/
import Derived.Test.YtdhbclplondmjaaQc07
import Derived.Orders
section
/- Every operation that makes no call. -/
set_option linter.unusedVariables false
set_option linter.unusedSimpArgs false
namespace Go.Proofs.Ytdhbclplondmjaa.C
open Go.RowKit

variable {P : Program} {T : Tab} {μ : Mu} {base : Nat} {F : Nat → Prop} {H : Heap} {w : World}

/-- What an operation's answer must be. -/
def Ans (ν : Mu) (v : Value) (n : Next) : Prop := (n = .skip ∧ v = undef) ∨ ∃ v', n = .value v' ∧ VR ν v v'

theorem Step.map {α β : Type} {H' : Heap} {r : Result α} {R : Mu → α → Prop} {s : Result β} {S : Mu → β → Prop} (h : Step base F μ H H' w r R) (f : α → β) (hs : ∀ a w', r = .ok a w' → s = .ok (f a) w') (hR : ∀ ν a, R ν a → S ν (f a)) :
    Step base F μ H H' w s S := by
  obtain ⟨a, w', μ', e, h1, h2, h3, h4, h5⟩ := h
  exact ⟨f a, w', μ', hs a w' e, h1, h2, h3, h4, hR _ _ h5⟩

theorem Step.val {H' : Heap} {e : Sem Value} {v : Value} (h : Step base F μ H H' w (e.run P w) fun ν a => VR ν v a) : Step base F μ H H' w ((do pure (Next.value (← e)) : Sem Next).run P w) fun ν n => Ans ν v n :=
  h.map Next.value (fun a w' he => by simp [he]) fun ν a ha => .inr ⟨a, rfl, ha⟩

theorem Step.pure_val (h : HR base F μ H w) {e : Sem Value} {v : Value} (he : ∃ v', e.run P w = .ok v' w ∧ VR μ v v') : Step base F μ H H w ((do pure (Next.value (← e)) : Sem Next).run P w) fun ν n => Ans ν v n := by
  obtain ⟨v', he, hv⟩ := he
  exact Step.same h (a := Next.value v') (by simp [he]) (.inr ⟨v', rfl, hv⟩)

theorem VRs.of_map {μ : Mu} {ρ : Operand → Value} {s : List Value} (hev : ∀ x, VR μ (ev s x) (ρ x)) : ∀ xs : List Operand, VRs μ (xs.map (ev s)) (xs.map ρ)
  | [] => .nil
  | x :: xs => .cons (hev x) (VRs.of_map hev xs)

theorem VRo.of_map {μ : Mu} {ρ : Operand → Value} {s : List Value} (hev : ∀ x, VR μ (ev s x) (ρ x)) (x : Option Operand) : VRo μ (x.map (ev s)) (x.map ρ) := by
  cases x <;> simp [VRo, hev]

theorem vBox_len {e : TypeId} {v x : Value} {H' : Heap} (h : vBox T H e v = some (x, H')) : H'.length = H.length + 1 := by
  unfold vBox newRow at h
  split at h
  · simp at h
  · rw [Option.map_eq_some_iff] at h
    obtain ⟨i, hi, h⟩ := h
    simp only [Prod.mk.injEq] at h
    rw [← h.2]; simp

theorem vBuildSlice_len {t : TypeId} {n : Nat} {parts : List (Nat × Value)} {x : Value} {H' : Heap} (h : vBuildSlice T H t n parts = some (x, H')) : H'.length = H.length + 1 := by
  unfold vBuildSlice at h
  simp only [Option.bind_eq_bind, Option.bind_eq_some_iff] at h
  obtain ⟨i, hi, h⟩ := h
  split at h
  · simp only [Option.bind_eq_some_iff] at h
    obtain ⟨ei, hei, h⟩ := h
    split at h
    · simp at h
    · simp only [Option.bind_eq_some_iff] at h
      obtain ⟨cs, hcs, h⟩ := h
      simp only [Option.some.injEq, Prod.mk.injEq] at h
      rw [← h.2]; simp
  · simp at h

theorem vMakeSlice_len {t : TypeId} {n c : Value} {x : Value} {H' : Heap} (h : vMakeSlice T H t n c = some (x, H')) : H'.length = H.length + 1 := by
  unfold vMakeSlice at h
  simp only [Option.bind_eq_bind, Option.bind_eq_some_iff] at h
  obtain ⟨i, hi, h⟩ := h
  split at h
  · simp only [Option.bind_eq_some_iff] at h
    obtain ⟨ei, hei, h⟩ := h
    split at h
    · simp only [Option.some.injEq, Prod.mk.injEq] at h
      rw [← h.2]; simp
    · simp at h
  · simp at h

theorem vBytes0_len {a b : TypeId} {v x : Value} {H' : Heap} (h : vBytes0 T H a b v = some (x, H')) : H'.length = H.length + 1 := by
  unfold vBytes0 at h
  split at h
  · split at h
    · split at h
      · split at h
        · simp only [Option.some.injEq, Prod.mk.injEq] at h
          rw [← h.2]; simp
        · simp at h
      · simp at h
    · simp at h
  · simp at h

theorem vBytes_len {a b : TypeId} {v x : Value} {H' : Heap} (h : vBytes T H a b v = some (x, H')) : H.length ≤ H'.length := by
  unfold vBytes at h
  split at h
  · rename_i r hr
    simp only [Option.some.injEq] at h
    subst h
    have := vBytes0_len hr
    omega
  · rw [Option.map_eq_some_iff] at h
    obtain ⟨u, _, h⟩ := h
    simp only [Prod.mk.injEq] at h
    rw [← h.2]
    exact Nat.le_refl _

theorem vMapUpdate_len {t : TypeId} {m k v : Value} {H' : Heap} (h : vMapUpdate T H t m k v = some H') : H'.length = H.length := by
  unfold vMapUpdate at h
  split at h
  · split at h
    · rw [Option.map_eq_some_iff] at h
      obtain ⟨es', _, h⟩ := h
      rw [← h]; simp
    · simp at h
  · simp at h

theorem writeCells_len {b o : Nat} {vs : List Value} {H' : Heap} (h : writeCells H b o vs = some H') : H'.length = H.length := by
  unfold writeCells at h
  split at h
  · split at h
    · split at h <;> simp at h
      rw [← h]; simp
    · simp at h
  · simp at h

theorem vCopy_len {t : TypeId} {x y r : Value} {H' : Heap} (h : vCopy T H t x y = some (r, H')) : H'.length = H.length := by
  unfold vCopy at h
  split at h
  · split at h
    · split at h
      · simp only [Option.some.injEq, Prod.mk.injEq] at h; rw [← h.2]
      · split at h
        · simp only [Option.bind_eq_some_iff, Option.map_eq_some_iff] at h
          obtain ⟨cs, hc, H1, h1, h⟩ := h
          simp only [Prod.mk.injEq] at h
          rw [← h.2]; exact writeCells_len h1
        · simp at h
    · simp at h
  · simp at h

theorem vClear_len {t : TypeId} {x : Value} {H' : Heap} (h : vClear T H t x = some H') : H'.length = H.length := by
  unfold vClear at h
  split at h
  · split at h
    · simp only [Option.some.injEq] at h; rw [h]
    · split at h
      · exact writeCells_len h
      · simp at h
  · simp at h

theorem vAppend_len {t : TypeId} {x y r : Value} {H' : Heap} (h : vAppend T H t x y = some (r, H')) : H.length ≤ H'.length := by
  unfold vAppend at h
  simp only [Option.bind_eq_bind, Option.bind_eq_some_iff] at h
  obtain ⟨i, hi, h⟩ := h
  split at h
  · simp only [Option.bind_eq_some_iff] at h
    obtain ⟨ei, hei, h⟩ := h
    split at h
    · simp only [Option.bind_eq_some_iff] at h
      obtain ⟨new, hnew, h⟩ := h
      split at h
      · split at h
        · split at h <;> (simp only [Option.some.injEq, Prod.mk.injEq] at h; rw [← h.2]; simp)
        · split at h
          · split at h
            · split at h
              · split at h
                · simp only [Option.some.injEq, Prod.mk.injEq] at h; rw [← h.2]; simp
                · simp at h
              · simp at h
            · split at h
              · split at h
                · split at h
                  · rw [Option.map_eq_some_iff] at h
                    obtain ⟨H2, hH2, h⟩ := h
                    simp only [Prod.mk.injEq] at h
                    rw [← h.2, writeCells_len hH2]; exact Nat.le_refl _
                  · simp at h
                · simp at h
              · simp only [Option.bind_eq_some_iff] at h
                obtain ⟨old, hold, h⟩ := h
                simp only [Option.some.injEq, Prod.mk.injEq] at h; rw [← h.2]; simp
          · simp at h
      · simp at h
    · simp at h
  · simp at h

theorem map_arr {α β : Type} (f : α → β) (a : Array α) : (a.toList.map f).toArray = a.map f := by
  apply Array.ext'; simp

theorem VRs.of_parts {μ : Mu} {ρ : Operand → Value} {s : List Value} (hev : ∀ x, VR μ (ev s x) (ρ x)) : ∀ ps : List (Nat × Operand), VRs μ ((ps.map fun p => (p.1, ev s p.2)).map (·.2)) ((ps.map fun p => (p.1, ρ p.2)).map (·.2))
  | [] => .nil
  | p :: ps => .cons (hev p.2) (VRs.of_parts hev ps)

theorem vBuiltin_ok (ag : Agree P T) (h : HR base F μ H w) {b : Builtin} {xs xs' : List Value} {ts : List TypeId} {ty : TypeId} {cs : Array Bool} {v : Value} {H' : Heap} (hfree : H.length < H'.length → μ H.length = none) (hx : VRs μ xs xs') (hb : vBuiltin T H b xs ts = some (v, H')) :
    Step base F μ H H' w ((Go.builtin b ts.toArray ty cs xs'.toArray).run P w) fun ν n => Ans ν v n := by
  unfold vBuiltin at hb
  split at hb
  · rename_i x t
    rw [Option.map_eq_some_iff] at hb
    obtain ⟨u, hu, hb⟩ := hb
    simp only [Prod.mk.injEq] at hb
    obtain ⟨rfl, rfl⟩ := hb
    cases hx with
    | cons hx hn =>
      cases hn
      obtain ⟨h1, h2⟩ := vLen_ok (P := P) (ts := #[t]) (ty := ty) ag rfl hx hu w
      exact Step.pure_val h ⟨_, h1, h2⟩
  · rename_i k x k2 y
    simp only [Option.some.injEq, Prod.mk.injEq] at hb
    obtain ⟨rfl, rfl⟩ := hb
    cases hx with
    | cons hx hn =>
      cases hn with
      | cons hy hn =>
        cases hn; cases hx; cases hy
        refine Step.pure_val h ⟨_, ?_, .int _ _⟩
        simp [Builtin.max_, Builtin.max2]
  · rename_i k x k2 y
    simp only [Option.some.injEq, Prod.mk.injEq] at hb
    obtain ⟨rfl, rfl⟩ := hb
    cases hx with
    | cons hx hn =>
      cases hn with
      | cons hy hn =>
        cases hn; cases hx; cases hy
        refine Step.pure_val h ⟨_, ?_, .int _ _⟩
        simp [Builtin.min_, Builtin.min2]
  · rename_i x t
    rw [Option.map_eq_some_iff] at hb
    obtain ⟨H1, hH, hb⟩ := hb
    simp only [Prod.mk.injEq] at hb
    obtain ⟨rfl, rfl⟩ := hb
    cases hx with
    | cons hx hn =>
      cases hn
      exact Step.val (vClear_ok ag h hx hH).2
  · rename_i x y t u
    split at hb
    · rename_i htu
      subst htu
      cases hx with
      | cons hx hn =>
        cases hn with
        | cons hy hn =>
          cases hn
          exact Step.val (vAppend_ok (ty := ty) ag h hfree hx hy hb)
    · simp at hb
  · rename_i x y t u
    cases hx with
    | cons hx hn =>
      cases hn with
      | cons hy hn =>
        cases hn
        exact Step.val (vCopy_ok ag h hx hy hb)
  · simp at hb

theorem opEval_ok (ag : Agree P T) (h : HR base F μ H w) {s : List Value} {ρ : Operand → Value} (hev : ∀ x, VR μ (ev s x) (ρ x)) {o : Oper} {v : Value} {H' : Heap} (hfree : H.length < H'.length → μ H.length = none) (hb : opEval T s H o.op = some (v, H')) :
    Step base F μ H H' w ((execOp ρ o).run P w) fun ν n => Ans ν v n := by
  have one : ∀ {x : Option Value} {e : Sem Value}, x.map (fun v => (v, H)) = some (v, H') → (∀ u, x = some u → ∃ v', e.run P w = .ok v' w ∧ VR μ u v') → Step base F μ H H' w ((do pure (Next.value (← e)) : Sem Next).run P w) fun ν n => Ans ν v n := by
    intro x e hm hu
    rw [Option.map_eq_some_iff] at hm
    obtain ⟨u, hx, hm⟩ := hm
    simp only [Prod.mk.injEq] at hm
    obtain ⟨rfl, rfl⟩ := hm
    exact Step.pure_val h (hu _ hx)
  unfold opEval at hb
  unfold execOp
  cases hop : o.op <;> simp only [hop] at hb ⊢
  case move x =>
    simp only [Option.some.injEq, Prod.mk.injEq] at hb
    obtain ⟨rfl, rfl⟩ := hb
    exact Step.same h (a := Next.value (ρ x)) (by simp) (.inr ⟨_, rfl, hev x⟩)
  case assign x =>
    simp only [Option.some.injEq, Prod.mk.injEq] at hb
    obtain ⟨rfl, rfl⟩ := hb
    exact Step.same h (a := Next.value (ρ x)) (by simp) (.inr ⟨_, rfl, hev x⟩)
  case pick c a b =>
    split at hb <;> simp only [Option.some.injEq, Prod.mk.injEq, reduceCtorEq] at hb
    rename_i t ht
    obtain ⟨rfl, rfl⟩ := hb
    have hc := hev c
    rw [ht] at hc
    generalize hρ : ρ c = cv at hc
    cases hc
    refine Step.same h (a := Next.value (if t then ρ a else ρ b)) ?_ (.inr ⟨_, rfl, ?_⟩)
    · cases t <;> simp [hρ, asBool]
    · cases t <;> simp [hev]
  case alloc e =>
    rw [Option.bind_eq_some_iff] at hb
    obtain ⟨i, hi, hb⟩ := hb
    have ok := ag.ty e i hi
    have hz : VRs μ (cellsOf i.zero) (cellsOf i.zero) := VRs.refl_of fun u hu => plain_vr μ (ok.plains u hu)
    unfold vBox newRow at hb
    split at hb
    · simp at hb
    · rw [hi] at hb
      simp only [Option.map_some, Option.some.injEq, Prod.mk.injEq] at hb
      obtain ⟨rfl, rfl⟩ := hb
      replace hfree := hfree (by simp)
      refine Step.val (step_newRow h hfree hz i.size e (a := .pointer (some ⟨w.heap.size, 0, none⟩)) ?_ ?_)
      · have : i.zero.cells = (cellsOf i.zero).toArray := by rw [← cellsOf_cells]
        simp [Instr.alloc, ok.zero w, newVar, Go.newRow, this]
      · intro ν hm hl
        simpa using VR.ptr (o := 0) hl
  case box e x => exact Step.val (vBox_ok ag h (hfree (by rw [vBox_len hb]; omega)) (hev x) hb)
  case build t parts =>
    refine one hb fun u hu => ?_
    have := vBuild_ok (P := P) (parts' := parts.toList.map fun p => (p.1, ρ p.2)) ag hu (by simp) (VRs.of_parts hev parts.toList) w
    rw [map_arr] at this
    exact this
  case buildSlice t n parts =>
    refine Step.val ?_
    have := vBuildSlice_ok (P := P) (parts' := parts.toList.map fun p => (p.1, ρ p.2)) ag h (hfree (by rw [vBuildSlice_len hb]; omega)) hb (by simp) (VRs.of_parts hev parts.toList)
    rw [map_arr] at this
    exact this
  case load t a => exact one hb fun u hu => vLoad_ok ag h (hev a) hu
  case store t a x =>
    rw [Option.map_eq_some_iff] at hb
    obtain ⟨H1, hH, hb⟩ := hb
    simp only [Prod.mk.injEq] at hb
    obtain ⟨rfl, rfl⟩ := hb
    obtain ⟨_, a', w', μ', e, h1, h2, h3, h4, h5⟩ := vStore_ok ag h (hev a) (hev x) hH
    exact ⟨.skip, w', μ', by simp [e], h1, h2, h3, h4, .inl ⟨rfl, rfl⟩⟩
  case nilCheck x =>
    rw [Option.map_eq_some_iff] at hb
    obtain ⟨u, hx, hb⟩ := hb
    simp only [Prod.mk.injEq] at hb
    obtain ⟨rfl, rfl⟩ := hb
    have hs := vNilCheck_shape hx
    have hv := hev x
    rw [← hs] at hv
    refine Step.same h (a := Next.value (ρ x)) ?_ (.inr ⟨_, rfl, hv⟩)
    rw [hs] at hx
    unfold vNilCheck at hx
    rw [hs] at hv
    split at hx <;> simp at hx
    · rename_i a heq
      rw [heq] at hv
      generalize hρ : ρ x = y at hv
      cases hv
      simp
    · rename_i f a c heq
      rw [heq] at hv
      generalize hρ : ρ x = y at hv
      cases hv
      simp
    · rename_i t v heq
      rw [heq] at hv
      generalize hρ : ρ x = y at hv
      cases hv
      simp
  case binOp op t x y yt =>
    refine one hb fun u hu => ?_
    obtain ⟨h1, h2⟩ := binOp_ok ag (hev x) (hev y) hu x y w
    exact ⟨_, h1, h2⟩
  case unOp op t x =>
    refine one hb fun u hu => ?_
    obtain ⟨h1, h2⟩ := unOp_ok (P := P) (hev x) hu w
    exact ⟨_, h1, h2⟩
  case convert a b x =>
    split at hb
    · rename_i u hu
      simp only [Option.some.injEq, Prod.mk.injEq] at hb
      obtain ⟨rfl, rfl⟩ := hb
      obtain ⟨h1, h2⟩ := vConvert_ok ag (hev x) hu w
      exact Step.pure_val h ⟨_, h1, h2⟩
    · exact Step.val (vBytes_ok ag h hfree (hev x) hb)
  case makeMap t r =>
    cases r with
    | some r => simp at hb
    | none =>
      simp only [Option.some.injEq, Prod.mk.injEq] at hb
      obtain ⟨rfl, rfl⟩ := hb
      exact Step.val (vMakeMap_ok h (hfree (by simp)) t)
  case lookup t x k ok => exact one hb fun u hu => vLookup_ok ag h (hev x) (hev k) hu
  case mapUpdate t m k x =>
    rw [Option.map_eq_some_iff] at hb
    obtain ⟨H1, hH, hb⟩ := hb
    simp only [Prod.mk.injEq] at hb
    obtain ⟨rfl, rfl⟩ := hb
    obtain ⟨_, a', w', μ', e, h1, h2, h3, h4, h5⟩ := vMapUpdate_ok ag h (hev m) (hev k) (hev x) hH
    exact ⟨.skip, w', μ', by simp [e], h1, h2, h3, h4, .inl ⟨rfl, rfl⟩⟩
  case makeInterface t x => exact one hb fun u hu => vMakeIface_ok ag (hev x) hu w
  case makeFunc fn a c =>
    simp only [Option.some.injEq, Prod.mk.injEq] at hb
    obtain ⟨rfl, rfl⟩ := hb
    refine Step.pure_val h ⟨.func fn ((a.toList.map ρ).toArray) ((c.toList.map ρ).toArray), ?_, .func fn (VRs.of_map hev _) (VRs.of_map hev _)⟩
    simp [Instr.makeFunc, map_arr]
  case makeSlice t n c => exact Step.val (vMakeSlice_ok ag h (hfree (by rw [vMakeSlice_len hb]; omega)) (hev n) (hev c) hb)
  case slice t x lo hi mx => exact one hb fun u hu => sliceVal_ok ag h (hev x) (VRo.of_map hev lo) (VRo.of_map hev hi) (VRo.of_map hev mx) hu
  case fieldAddr t x f => exact one hb fun u hu => vFieldAddr_ok ag (hev x) hu w
  case field t x f => exact one hb fun u hu => vField_ok ag (hev x) hu w
  case indexAddr t x i => exact one hb fun u hu => indexAddr_ok ag h (hev x) (hev i) hu
  case index t x i =>
    refine one hb fun u hu => ?_
    obtain ⟨h1, h2⟩ := vIndex_ok (P := P) ag (hev x) (hev i) hu w
    exact ⟨_, h1, h2⟩
  case extract x i => exact one hb fun u hu => vExtract_ok (hev x) hu w
  case typeAssert x xt t ok =>
    cases ok
    · exact one hb fun u hu => vAssert_ok ag (hev x) hu w
    · simp at hb
  case call c =>
    obtain ⟨callee, args, ats⟩ := c
    cases callee <;> simp only [reduceCtorEq] at hb
    rename_i b
    have := fun cs => vBuiltin_ok (P := P) (ty := o.type) (cs := cs) ag h hfree (VRs.of_map hev args.toList) hb
    rw [map_arr] at this
    simp only [resolve, invoke, pure_bind]
    exact this _
  all_goals simp at hb

/-- Which operations may write. -/
def strong : Op → Bool
  | .store .. | .mapUpdate .. => true
  | .call { callee := .builtin .clear, .. } => true
  | .call { callee := .builtin .copy, .. } => true
  | _ => false

def isAppend : Op → Bool
  | .call { callee := .builtin .append, .. } => true
  | _ => false

def allocs : Op → Bool
  | .alloc _ | .box .. | .buildSlice .. | .makeSlice .. | .convert .. | .makeMap .. => true
  | _ => false

theorem opEval_len {s : List Value} {o : Op} {v : Value} {H' : Heap} (h : opEval T s H o = some (v, H')) : H.length ≤ H'.length ∧ (strong o = false → isAppend o = false → allocs o = false → H' = H) := by
  have same : ∀ {x : Option Value}, x.map (fun v => (v, H)) = some (v, H') → H' = H := by
    intro x hx
    rw [Option.map_eq_some_iff] at hx
    obtain ⟨u, _, hx⟩ := hx
    simp only [Prod.mk.injEq] at hx
    exact hx.2.symm
  have fin : H' = H → H.length ≤ H'.length ∧ (strong o = false → isAppend o = false → allocs o = false → H' = H) := fun e => ⟨by rw [e]; exact Nat.le_refl _, fun _ _ _ => e⟩
  unfold opEval at h
  split at h
  all_goals first
    | exact fin (same h)
    | (simp only [Option.some.injEq, Prod.mk.injEq] at h; exact fin h.2.symm)
    | skip
  · split at h
    · simp only [Option.some.injEq, Prod.mk.injEq] at h; exact fin h.2.symm
    · simp at h
  · rw [Option.bind_eq_some_iff] at h
    obtain ⟨i, hi, h⟩ := h
    exact ⟨by rw [vBox_len h]; omega, fun _ _ h2 => by simp [allocs] at h2⟩
  · exact ⟨by rw [vBox_len h]; omega, fun _ _ h2 => by simp [allocs] at h2⟩
  · exact ⟨by rw [vBuildSlice_len h]; omega, fun _ _ h2 => by simp [allocs] at h2⟩
  · rw [Option.map_eq_some_iff] at h
    obtain ⟨H1, hH, h⟩ := h
    simp only [Prod.mk.injEq] at h
    refine ⟨?_, fun h0 => by simp [strong] at h0⟩
    rw [← h.2]
    unfold vStore at hH
    simp only [Option.bind_eq_bind, Option.bind_eq_some_iff] at hH
    obtain ⟨i, hi, hH⟩ := hH
    split at hH
    · split at hH
      · rw [writeCells_len hH]; exact Nat.le_refl _
      · simp at hH
    · simp at hH
  · split at h
    · simp only [Option.some.injEq, Prod.mk.injEq] at h; exact fin h.2.symm
    · exact ⟨vBytes_len h, fun _ _ h2 => by simp [allocs] at h2⟩
  · simp only [Option.some.injEq, Prod.mk.injEq] at h
    exact ⟨by rw [← h.2]; simp, fun _ _ h2 => by simp [allocs] at h2⟩
  · rw [Option.map_eq_some_iff] at h
    obtain ⟨H1, hH, h⟩ := h
    simp only [Prod.mk.injEq] at h
    refine ⟨?_, fun h0 => by simp [strong] at h0⟩
    rw [← h.2, vMapUpdate_len hH]
    exact Nat.le_refl _
  · exact ⟨by rw [vMakeSlice_len h]; omega, fun _ _ h2 => by simp [allocs] at h2⟩
  · rename_i b args ats
    unfold vBuiltin at h
    split at h
    · exact fin (same h)
    · simp only [Option.some.injEq, Prod.mk.injEq] at h; exact fin h.2.symm
    · simp only [Option.some.injEq, Prod.mk.injEq] at h; exact fin h.2.symm
    · rw [Option.map_eq_some_iff] at h
      obtain ⟨H1, hH, h⟩ := h
      simp only [Prod.mk.injEq] at h
      refine ⟨?_, fun h0 => by simp [strong] at h0⟩
      rw [← h.2, vClear_len hH]
      exact Nat.le_refl _
    · split at h
      · exact ⟨vAppend_len h, fun _ h2 => by simp [isAppend] at h2⟩
      · simp at h
    · exact ⟨by rw [vCopy_len h]; exact Nat.le_refl _, fun h0 => by simp [strong] at h0⟩
    · simp at h
  · simp at h

end Go.Proofs.Ytdhbclplondmjaa.C

end

section
/- The abstract machine runs regions, code, functions. -/
set_option linter.unusedVariables false
set_option linter.unusedSimpArgs false
namespace Go.Proofs.Ytdhbclplondmjaa.C
open Go.RowKit

inductive Ex where
  | normal | exit (id : Nat) | ret

abbrev CallF := FuncId → List Value → Heap → Option (Value × Heap)

def put (s : List Value) (d : Option Tmp) (v : Value) : List Value :=
  match d with
  | some d => s.set d v
  | none => s

def guardC (ops : Array Oper) (o : Oper) (s : List Value) : Option Bool :=
  match o.guard with
  | none => some true
  | some (j, want) =>
    match (ops[j]?).bind (·.dst) with
    | some t => match s.getD t undef with | .bool b => some (b == want) | .chan none => some false | _ => none
    | none => none

def calleeOf (T : Tab) (s : List Value) (H : Heap) (o : Op) : Option (FuncId × List Value) :=
  match o with
  | .call { callee := .value f, args, .. } =>
    match ev s f with
    | .func (.func g) first cap => some (g, first.toList ++ args.toList.map (ev s) ++ cap.toList)
    | _ => none
  | .call { callee := .invoke r name, args, .. } =>
    match ev s r with
    | .iface t v =>
      match T.meth t name with
      | some (g, none) => some (g, v :: args.toList.map (ev s))
      | some (g, some e) => (vLoad T H e v).map fun u => (g, u :: args.toList.map (ev s))
      | none => none
    | _ => none
  | _ => none

def evalOp (T : Tab) (call : CallF) (s : List Value) (H : Heap) (o : Op) : Option (Value × Heap) :=
  match opEval T s H o with
  | some r => some r
  | none => match calleeOf T s H o with
    | some (f, args) => call f args H
    | none => none

/-- An append that is known to write where there is room. -/
def inPlace (s : List Value) (o : Op) : Bool :=
  match o with
  | .call { callee := .builtin .append, args, .. } =>
    match args.toList.map (ev s) with
    | [.slice _ n c, .slice _ m _] => decide (c ≠ unk ∧ 0 < m ∧ n + m ≤ c)
    | _ => false
  | _ => false

def evalOne (T : Tab) (call : CallF) (d : Bool) (ops : Array Oper) (o : Oper) (s : List Value) (H : Heap) : Option (List Value × Heap) :=
  match guardC ops o s with
  | some true => if d && inPlace s o.op then none else (evalOp T call s H o.op).map fun r => (put s o.dst r.1, r.2)
  | some false => some (put s o.dst (.chan none), H)
  | none => none

def evalIdx (T : Tab) (call : CallF) (d : Bool) (ops : Array Oper) : List Nat → List Value → Heap → Option (List Value × Heap)
  | [], s, H => some (s, H)
  | i :: is, s, H =>
    match ops[i]? with
    | none => none
    | some o => match evalOne T call d ops o s H with
      | some (s1, H1) => evalIdx T call d ops is s1 H1
      | none => none

/-- The heap as a call within a drawn region sees it: nothing of it may be written. -/
def Blk.freeze : Blk → Blk
  | .row sz cs _ live => .row sz cs false live
  | .map _ => .row 0 [] false false

/-- What such a call may leave behind. -/
def Blk.left : Blk → Blk
  | .row sz cs own live => .row sz cs own (own && live)
  | x => x

def quiet (call : CallF) : CallF := fun f args H =>
  (call f args (H.map Blk.freeze)).map fun r => (r.1, H ++ (r.2.drop H.length).map Blk.left)

/-- The order in which a drawn region is evaluated: what its first append waits for comes first. -/
def orderOf (ops : Array Oper) : List Nat :=
  match (List.range ops.size).find? (fun i => (ops[i]?).elim false fun o => isAppend o.op) with
  | none => List.range ops.size
  | some j =>
    let b := (Region.before ops).getD j 0
    (List.range ops.size).filter (fun i => b.testBit i) ++ j :: (List.range ops.size).filter (fun i => !(b.testBit i) && i != j)

def evalRegion (T : Tab) (call : CallF) (ops : Array Oper) (draw : Bool) (s : List Value) (H : Heap) : Option (List Value × Heap) :=
  if draw then evalIdx T (quiet call) true ops (orderOf ops) s H else evalIdx T call false ops (List.range ops.size) s H

def evalC (T : Tab) (call : CallF) : Nat → Code → List Value → Heap → Option (Ex × List Value × Heap)
  | 0, _, _, _ => none
  | n + 1, c, s, H =>
    match c with
    | .skip | .label _ => some (.normal, s, H)
    | .region _ ops draw => (evalRegion T call ops draw s H).map fun r => (.normal, r.1, r.2)
    | .seq a b =>
      match evalC T call n a s H with
      | some (.normal, s1, H1) => evalC T call n b s1 H1
      | r => r
    | .cond c a b =>
      match ev s c with
      | .bool true => evalC T call n a s H
      | .bool false => evalC T call n b s H
      | _ => none
    | .block id a =>
      match evalC T call n a s H with
      | some (.exit j, s1, H1) => if j = id then some (.normal, s1, H1) else some (.exit j, s1, H1)
      | r => r
    | .loop a =>
      match evalC T call n a s H with
      | some (.normal, s1, H1) => evalC T call n (.loop a) s1 H1
      | r => r
    | .exit id => some (.exit id, s, H)
    | .ret => some (.ret, s, H)
    | _ => none

def resOne (T : Tab) (s : List Value) (H : Heap) : ResultVar → Option Value
  | .tmp t => some (s.getD t undef)
  | .cell a t => vLoad T H t (s.getD a undef)

def resultsC (T : Tab) (fn : Func) (s : List Value) (H : Heap) : Option Value :=
  match fn.results.toList.mapM (resOne T s H) with
  | some [v] => some v
  | some vs => some (.tuple vs.toArray)
  | none => none

def startC (fn : Func) (args : List Value) : List Value := args ++ List.replicate (fn.ntmps - args.length) undef

def callC (T : Tab) : Nat → CallF
  | 0, _, _, _ => none
  | n + 1, f, args, H =>
    match T.ext f with
    | some e => e args H
    | none =>
      match T.fn f with
      | some fn =>
        match fn.body with
        | some c =>
          match evalC T (callC T n) n c (startC fn args) H with
          | some (.normal, s1, H1) => (resultsC T fn s1 H1).map fun v => (v, H1)
          | some (.ret, s1, H1) => (resultsC T fn s1 H1).map fun v => (v, H1)
          | _ => none
        | none => none
      | none => none

/-! ### More fuel -/

def CallLe (a b : CallF) : Prop := ∀ f args H r, a f args H = some r → b f args H = some r

variable {T : Tab}

theorem evalOp_mono {a b : CallF} (hab : CallLe a b) {s : List Value} {H : Heap} {o : Op} {r : Value × Heap} (h : evalOp T a s H o = some r) : evalOp T b s H o = some r := by
  unfold evalOp at *
  split at h
  · exact h
  · split at h
    · exact hab _ _ _ _ h
    · simp at h

theorem evalOne_mono {a b : CallF} (hab : CallLe a b) {d : Bool} {ops : Array Oper} {o : Oper} {s : List Value} {H : Heap} {r : List Value × Heap} (h : evalOne T a d ops o s H = some r) : evalOne T b d ops o s H = some r := by
  unfold evalOne at *
  split at h
  · split at h
    · simp at h
    · rename_i hd
      rw [if_neg hd]
      rw [Option.map_eq_some_iff] at h ⊢
      obtain ⟨x, hx, h⟩ := h
      exact ⟨x, evalOp_mono hab hx, h⟩
  · exact h
  · simp at h

theorem evalIdx_mono {a b : CallF} (hab : CallLe a b) {d : Bool} {ops : Array Oper} : ∀ {is : List Nat} {s : List Value} {H : Heap} {r : List Value × Heap}, evalIdx T a d ops is s H = some r → evalIdx T b d ops is s H = some r
  | [], _, _, _, h => h
  | i :: is, s, H, r, h => by
    unfold evalIdx at *
    split at h
    · simp at h
    · split at h
      · rename_i s1 H1 e1
        rw [evalOne_mono hab e1]
        exact evalIdx_mono hab h
      · simp at h

theorem quiet_mono {a b : CallF} (hab : CallLe a b) : CallLe (quiet a) (quiet b) := by
  intro f args H r h
  unfold quiet at *
  rw [Option.map_eq_some_iff] at h ⊢
  obtain ⟨x, hx, h⟩ := h
  exact ⟨x, hab _ _ _ _ hx, h⟩

theorem evalC_mono {a b : CallF} (hab : CallLe a b) : ∀ {n m : Nat} (hnm : n ≤ m) {c : Code} {s : List Value} {H : Heap} {r : Ex × List Value × Heap}, evalC T a n c s H = some r → evalC T b m c s H = some r
  | 0, _, _, _, _, _, _, h => by simp [evalC] at h
  | n + 1, 0, hnm, _, _, _, _, h => by omega
  | n + 1, m + 1, hnm, c, s, H, r, h => by
    have hle : n ≤ m := by omega
    unfold evalC at *
    cases c <;> simp only at h ⊢ <;> try exact h
    · rw [Option.map_eq_some_iff] at h ⊢
      obtain ⟨x, hx, h⟩ := h
      refine ⟨x, ?_, h⟩
      unfold evalRegion at *
      split at hx
      · rename_i e; rw [if_pos e]; exact evalIdx_mono (quiet_mono hab) hx
      · rename_i e; rw [if_neg e]; exact evalIdx_mono hab hx
    · split at h
      · rename_i s1 H1 e
        rw [evalC_mono hab hle e]
        exact evalC_mono hab hle h
      · rename_i x y
        cases hr : evalC T a n _ s H with
        | none => rw [hr] at h; simp at h
        | some q =>
          rw [hr] at h
          simp only [Option.some.injEq] at h
          subst h
          rw [evalC_mono hab hle hr]
          split
          · rename_i s1 H1 e
            simp only [Option.some.injEq] at e
            exact absurd (hr.trans (congrArg some e)) (by intro q; exact y _ _ q)
          · rfl
    · split at h
      · exact evalC_mono hab hle h
      · exact evalC_mono hab hle h
      · simp at h
    · split at h
      · rename_i j s1 H1 e
        rw [evalC_mono hab hle e]
        exact h
      · rename_i x y
        cases hr : evalC T a n _ s H with
        | none => rw [hr] at h; simp at h
        | some q =>
          rw [hr] at h
          simp only [Option.some.injEq] at h
          subst h
          rw [evalC_mono hab hle hr]
          split
          · rename_i j s1 H1 e
            simp only [Option.some.injEq] at e
            exact absurd (hr.trans (congrArg some e)) (by intro q; exact y _ _ _ q)
          · rfl
    · split at h
      · rename_i s1 H1 e
        rw [evalC_mono hab hle e]
        exact evalC_mono hab hle h
      · rename_i x y
        cases hr : evalC T a n _ s H with
        | none => rw [hr] at h; simp at h
        | some q =>
          rw [hr] at h
          simp only [Option.some.injEq] at h
          subst h
          rw [evalC_mono hab hle hr]
          split
          · rename_i s1 H1 e
            simp only [Option.some.injEq] at e
            exact absurd (hr.trans (congrArg some e)) (by intro q; exact y _ _ q)
          · rfl

theorem callC_mono : ∀ {n m : Nat}, n ≤ m → CallLe (callC T n) (callC T m)
  | 0, _, _, f, args, H, r, h => by simp [callC] at h
  | n + 1, 0, hnm, _, _, _, _, _ => by omega
  | n + 1, m + 1, hnm, f, args, H, r, h => by
    have hle : n ≤ m := by omega
    unfold callC at *
    split at h
    · exact h
    · split at h
      · rename_i fn hf
        split at h
        · rename_i c hc
          split at h
          · rename_i s1 H1 e; rw [evalC_mono (callC_mono hle) hle e]; exact h
          · rename_i s1 H1 e; rw [evalC_mono (callC_mono hle) hle e]; exact h
          · simp at h
        · simp at h
      · simp at h

end Go.Proofs.Ytdhbclplondmjaa.C

end

section
/- What the abstract machine computes is what the machine computes: operations, regions in text order. -/
set_option linter.unusedVariables false
set_option linter.unusedSimpArgs false
namespace Go.Proofs.Ytdhbclplondmjaa.C
open Go.RowKit

variable {P : Program} {T : Tab} {base : Nat} {F : Nat → Prop}

/-- From one state of the memory to another. -/
structure Goes (base : Nat) (F : Nat → Prop) (μ μ' : Mu) (H H' : Heap) (w w' : World) : Prop where
  le : MuLe μ μ'
  same : ∀ b, (b < H.length ∨ H'.length ≤ b) → μ' b = μ b
  hr : HR base F μ' H' w'
  fr : Fr base F w w'
  len : H.length ≤ H'.length

theorem Goes.refl {μ : Mu} {H : Heap} {w : World} (h : HR base F μ H w) : Goes base F μ μ H H w w := ⟨MuLe.refl _, fun _ _ => rfl, h, Fr.refl _ _ _, Nat.le_refl _⟩

theorem Goes.trans {μ μ' μ'' : Mu} {H H' H'' : Heap} {w w' w'' : World} (h : Goes base F μ μ' H H' w w') (k : Goes base F μ' μ'' H' H'' w' w'') : Goes base F μ μ'' H H'' w w'' where
  le := h.le.trans k.le
  same b hb := by
    have h1 := h.len
    have h2 := k.len
    rw [k.same b (by omega), h.same b (by omega)]
  hr := k.hr
  fr := h.fr.trans k.fr
  len := Nat.le_trans h.len k.len

def Free (μ : Mu) (m n : Nat) : Prop := ∀ b, m ≤ b → b < n → μ b = none

theorem Free.after {μ μ' : Mu} {H H' : Heap} {w w' : World} {n : Nat} (hf : Free μ H.length n) (h : Goes base F μ μ' H H' w w') : Free μ' H'.length n := by
  intro b h1 h2
  have := h.len
  rw [h.same b (.inr h1)]
  exact hf b (by omega) h2

theorem Free.le {μ : Mu} {m n k : Nat} (hf : Free μ m n) (h : k ≤ n) : Free μ m k := fun b h1 h2 => hf b h1 (by omega)

def CallPost (base : Nat) (F : Nat → Prop) (μ : Mu) (H H' : Heap) (w : World) (v : Value) (e : Ending) (w' : World) : Prop :=
  ∃ v' μ', e = .returned v' ∧ Goes base F μ μ' H H' w w' ∧ VR μ' v v'

structure SoundCall (P : Program) (call : CallF) : Prop where
  enter : ∀ f args H r, call f args H = some r → ∀ xs w, (callFunc f xs).run P w = .ok (.enter f xs) w
  calls : ∀ f args H v H', call f args H = some (v, H') → ∀ base F μ w args', HR base F μ H w → Free μ H.length H'.length → VRs μ args args' → Calls P f args'.toArray w (CallPost base F μ H H' w v)
  len : ∀ f args H v H', call f args H = some (v, H') → H.length ≤ H'.length

/-- What a program must have for the methods of the table. -/
structure MethOk (P : Program) (t : TypeId) (name : String) (f : FuncId) (e : Option TypeId) : Prop where
  ok : ∃ inf m b d, P.info? t = some inf ∧ inf.methods.find? (·.name == name) = some m ∧ m.path = #[] ∧ m.func = some (f, b) ∧ P.underlying t = some d ∧
    match e with
    | none => (∃ x, d = .pointer x ∧ b = true) ∨ ((∀ x, d ≠ .pointer x) ∧ b = false)
    | some x => d = .pointer x ∧ b = false

theorem SR.evals {μ : Mu} {s : List Value} {a : Act} (h : SR μ s a.tmps) (x : Operand) : VR μ (ev s x) (a.eval x) := by
  cases x with
  | tmp t => exact h.get t
  | const v =>
    simp only [ev, Act.eval]
    split
    · rename_i hp; exact plain_vr μ hp
    · exact .undef _
  | global g => exact .undef _
  | func f => exact .func (.func f) .nil .nil

theorem SR.puts {μ : Mu} {s : List Value} {a : Act} (h : SR μ s a.tmps) (d : Option Tmp) {v v' : Value} (hv : VR μ v v') : SR μ (C.put s d v) (a.put d v').tmps := by
  cases d with
  | none => exact h
  | some d => exact h.put d hv

theorem put_defers (a : Act) (d : Option Tmp) (v : Value) : (a.put d v).defers = a.defers := by cases d <;> rfl

def RecOk (P : Program) (w : World) (u' rec' : Value) : Option TypeId → Prop
  | none => rec' = u'
  | some x => ∃ ad, u' = .pointer (some ad) ∧ (loadVar x ad).run P w = .ok rec' w

theorem run_wrapchk (ts : Array TypeId) (t : TypeId) (ad : Addr) (a b : ByteArray) (w : World) : (Builtin.ssaWrapNilChk_ ts t #[.pointer (some ad), .string a, .string b]).run P w = .ok (.pointer (some ad)) w := rfl

/-- The operation's own law, for what follows. -/
theorem evalOp_wp {call : CallF} (ag : Agree P T) (hm : ∀ t n f e, T.meth t n = some (f, e) → MethOk P t n f e) (hc : SoundCall P call) {μ : Mu} {s : List Value} {H H' : Heap} {w : World} {a : Act} {o : Oper} {v : Value}
    (he : evalOp T call s H o.op = some (v, H')) (h : HR base F μ H w) (hf : Free μ H.length H'.length) (hev : ∀ x, VR μ (ev s x) (a.eval x)) {K : Act → World → Prop} {Q : Exit → Act → World → Prop}
    (hK : ∀ v' w' μ', Goes base F μ μ' H H' w w' → VR μ' v v' → K (a.put o.dst v') w') : o.wp P a w K Q := by
  unfold evalOp at he
  split at he
  · rename_i r hr
    simp only [Option.some.injEq] at he
    subst he
    have hlen := (opEval_len hr).1
    obtain ⟨n, w', μ', e, h1, h2, h3, h4, h5⟩ := opEval_ok (ρ := a.eval) ag h hev (fun hlt => hf _ (Nat.le_refl _) hlt) hr
    have hg : Goes base F μ μ' H H' w w' := ⟨h1, h2, h3, h4, hlen⟩
    unfold Oper.wp
    rw [e]
    rcases h5 with ⟨rfl, rfl⟩ | ⟨v', rfl, hv⟩
    · exact hK undef w' μ' hg (.undef _)
    · exact hK v' w' μ' hg hv
  · split at he
    · rename_i f args hcal
      have hent := hc.enter f args H _ he
      have run : ∀ args', VRs μ args args' → (execOp a.eval o).run P w = .ok (.enter f args'.toArray) w → o.wp P a w K Q := by
        intro args' ha hrun
        unfold Oper.wp
        rw [hrun]
        simp only [Oper.upon]
        refine Calls.mono (hc.calls f args H v H' he base F μ w args' h hf ha) ?_
        rintro e w' ⟨v', μ', rfl, hg, hv⟩
        exact hK v' w' μ' hg hv
      unfold calleeOf at hcal
      split at hcal
      · rename_i fo xs ats hop
        split at hcal
        · rename_i g first cap hfo
          simp only [Option.some.injEq, Prod.mk.injEq] at hcal
          obtain ⟨rfl, rfl⟩ := hcal
          have hv := hev fo
          rw [hfo] at hv
          generalize hρ : a.eval fo = fv at hv
          cases hv with
          | func fn hfs hcs =>
            refine run _ ((VRs.append hfs (VRs.of_map hev xs.toList)).append hcs) ?_
            simp only [execOp, hop, resolve, hρ, Deferred.ofValue, pure_bind, invoke]
            rw [hent]
            simp [← map_arr]
        · simp at hcal
      · rename_i r name xs ats hop
        split at hcal
        · rename_i t u hr
          have hv := hev r
          rw [hr] at hv
          generalize hρ : a.eval r = rv at hv
          cases hv with
          | iface t hu =>
            rename_i u'
            have meth : ∀ {e : Option TypeId} {g : FuncId}, T.meth t name = some (g, e) → ∀ rec', RecOk P w u' rec' e →
                (method (P.types.size + Made.depth) t u' name).run P w = .ok (g, rec') w := by
              intro e g hme rec' hrec
              obtain ⟨inf, m, b, d, i1, i2, i3, i4, i5, i6⟩ := (hm _ _ _ _ hme).ok
              have hfuel : P.types.size + Made.depth = (P.types.size + Made.depth - 1) + 1 := by
                have : 0 < Made.depth := by decide
                omega
              rw [hfuel]
              unfold method
              cases e with
              | none =>
                simp only [RecOk] at hrec
                subst hrec
                rcases i6 with ⟨x, rfl, rfl⟩ | ⟨hd, rfl⟩
                · simp [typeInfo, i1, i2, i3, i4, follow, receiverAt, run_underlying i5, Place.get]
                · simp [typeInfo, i1, i2, i3, i4, follow, receiverAt, run_underlying i5, Place.get]
              | some x =>
                obtain ⟨rfl, rfl⟩ := i6
                obtain ⟨ad, rfl, hl⟩ := hrec
                simp [typeInfo, i1, i2, i3, i4, follow, receiverAt, run_underlying i5, Place.get, run_wrapchk, strVal, asAddr, hl]
            have imeth : ∀ {e : Option TypeId} {g : FuncId} (hme : T.meth t name = some (g, e)) (rec' : Value), RecOk P w u' rec' e → f = g →
                (do let some recv := (#[Value.iface t u'] ++ xs.map a.eval)[0]? | stuck "call: a method without a receiver"
                    callMethod recv name ((#[Value.iface t u'] ++ xs.map a.eval).extract 1 (#[Value.iface t u'] ++ xs.map a.eval).size) : Sem Next).run P w = .ok (.enter f (rec' :: xs.toList.map a.eval).toArray) w := by
              intro e g hme rec' hrec hfg
              subst hfg
              have := meth hme rec' hrec
              have hx : (#[Value.iface t u'] ++ xs.map a.eval).extract 1 (#[Value.iface t u'] ++ xs.map a.eval).size = xs.map a.eval := by
                apply Array.ext'; simp [List.take_of_length_le]
              have h0 : (#[Value.iface t u'] ++ xs.map a.eval)[0]? = some (.iface t u') := by rw [Array.getElem?_append]; rfl
              rw [hx, h0]
              simp only [callMethod]
              simp
              rw [this]
              simp [hent]
            split at hcal
            · rename_i g hme
              simp only [Option.some.injEq, Prod.mk.injEq] at hcal
              obtain ⟨rfl, rfl⟩ := hcal
              refine run (u' :: xs.toList.map a.eval) (.cons hu (VRs.of_map hev xs.toList)) ?_
              simp only [execOp, hop, resolve, hρ, pure_bind, invoke]
              exact imeth hme u' rfl rfl
            · rename_i g e hme
              rw [Option.map_eq_some_iff] at hcal
              obtain ⟨u2, hu2, hcal⟩ := hcal
              simp only [Prod.mk.injEq] at hcal
              obtain ⟨rfl, rfl⟩ := hcal
              obtain ⟨v2, hl, hv2⟩ := vLoad_ok ag h hu hu2
              refine run (v2 :: xs.toList.map a.eval) (.cons hv2 (VRs.of_map hev xs.toList)) ?_
              simp only [execOp, hop, resolve, hρ, pure_bind, invoke]
              refine imeth hme v2 ?_ rfl
              have : ∃ ad, u = .pointer (some ad) := by
                unfold vLoad at hu2
                simp only [Option.bind_eq_bind, Option.bind_eq_some_iff] at hu2
                obtain ⟨i, hi, hu2⟩ := hu2
                split at hu2
                · exact ⟨_, rfl⟩
                · simp at hu2
              obtain ⟨ad, rfl⟩ := this
              cases hu
              exact ⟨_, rfl, by simpa [Instr.loadAt, Instr.sureAddr] using hl⟩
            · simp at hcal
        · simp at hcal
      · simp at hcal
    · simp at he

end Go.Proofs.Ytdhbclplondmjaa.C

end

section
/- Regions in text order, code, functions. -/
set_option linter.unusedVariables false
set_option linter.unusedSimpArgs false
namespace Go.Proofs.Ytdhbclplondmjaa.C
open Go.RowKit

variable {P : Program} {T : Tab} {base : Nat} {F : Nat → Prop}

/-- The state behind. -/
def After (base : Nat) (F : Nat → Prop) (μ : Mu) (H : Heap) (s1 : List Value) (H1 : Heap) (a : Act) (w : World) (a' : Act) (w' : World) : Prop :=
  ∃ μ', Goes base F μ μ' H H1 w w' ∧ SR μ' s1 a'.tmps ∧ a'.defers = a.defers

theorem After.trans {μ μ' : Mu} {H H1 H2 : Heap} {s2 : List Value} {a a1 a2 : Act} {w w1 w2 : World} (g : Goes base F μ μ' H H1 w w1) (hd : a1.defers = a.defers) (k : After base F μ' H1 s2 H2 a1 w1 a2 w2) : After base F μ H s2 H2 a w a2 w2 :=
  let ⟨ν, h, hs, hd2⟩ := k
  ⟨ν, g.trans h, hs, hd2.trans hd⟩

theorem guard_ok {μ : Mu} {ops : Array Oper} {o : Oper} {s : List Value} {a : Act} {b : Bool} (hs : SR μ s a.tmps) (h : guardC ops o s = some b) : Region.wanted o (yielded ops a.tmps) = b := by
  unfold guardC at h
  unfold Region.wanted
  split at h
  · rename_i e
    simp only [Option.some.injEq] at h
    rw [e]; exact h
  · rename_i j want e
    rw [e]
    split at h
    · rename_i t ht
      split at h
      · rename_i c hc
        simp only [Option.some.injEq] at h
        have hv := hs.get t
        rw [hc] at hv
        have hget : a.tmps[t]? = some (.bool c) := by
          generalize hg : a.tmps.getD t undef = x at hv
          cases hv
          rw [Array.getD_eq_getD_getElem?] at hg
          cases hq : a.tmps[t]? with
          | none => rw [hq] at hg; simp [undef] at hg
          | some y => rw [hq] at hg; simp at hg; rw [hg]
        have hd : (ops[j]?).bind (·.dst) = some t := ht
        simp only [yielded, hd, Option.bind_some, hget]
        rw [← h]
        cases c <;> cases want <;> rfl
      · rename_i hc
        simp only [Option.some.injEq] at h
        have hv := hs.get t
        rw [hc] at hv
        have hd : (ops[j]?).bind (·.dst) = some t := ht
        have hy : yielded ops a.tmps j = none := by
          simp only [yielded, hd, Option.bind_some]
          generalize hg : a.tmps.getD t undef = x at hv
          cases hv
          rw [Array.getD_eq_getD_getElem?] at hg
          cases hq : a.tmps[t]? with
          | none => rfl
          | some y => rw [hq] at hg; simp at hg; rw [hg]
        simp only [hy]
        rw [← h]
        rfl
      · simp at h
    · simp at h

theorem evalOp_len {call : CallF} (hc : SoundCall P call) {s : List Value} {H H' : Heap} {o : Op} {v : Value} (h : evalOp T call s H o = some (v, H')) : H.length ≤ H'.length := by
  unfold evalOp at h
  split at h
  · rename_i r hr
    simp only [Option.some.injEq] at h
    subst h
    exact (opEval_len hr).1
  · split at h
    · exact hc.len _ _ _ _ _ h
    · simp at h

theorem evalOne_len {call : CallF} (hc : SoundCall P call) {d : Bool} {ops : Array Oper} {o : Oper} {s s1 : List Value} {H H1 : Heap} (h : evalOne T call d ops o s H = some (s1, H1)) : H.length ≤ H1.length := by
  unfold evalOne at h
  split at h
  · split at h
    · simp at h
    rw [Option.map_eq_some_iff] at h
    obtain ⟨x, hx, h⟩ := h
    simp only [Prod.mk.injEq] at h
    rw [← h.2]
    exact evalOp_len (v := x.1) hc hx
  · simp only [Option.some.injEq, Prod.mk.injEq] at h
    rw [h.2]; exact Nat.le_refl _
  · simp at h

theorem evalIdx_len {call : CallF} (hc : SoundCall P call) {d : Bool} {ops : Array Oper} : ∀ {is : List Nat} {s s1 : List Value} {H H1 : Heap}, evalIdx T call d ops is s H = some (s1, H1) → H.length ≤ H1.length
  | [], s, s1, H, H1, h => by simp [evalIdx] at h; rw [h.2]; exact Nat.le_refl _
  | i :: is, s, s1, H, H1, h => by
    unfold evalIdx at h
    split at h
    · simp at h
    · split at h
      · rename_i s2 H2 e
        exact Nat.le_trans (evalOne_len hc e) (evalIdx_len hc h)
      · simp at h

/-- One operation. -/
theorem evalOne_wp {call : CallF} (ag : Agree P T) (hm : ∀ t n f e, T.meth t n = some (f, e) → MethOk P t n f e) (hc : SoundCall P call) {d : Bool} {μ : Mu} {ops : Array Oper} {o : Oper} {s s1 : List Value} {H H1 : Heap} {w : World} {a : Act}
    (he : evalOne T call d ops o s H = some (s1, H1)) (h : HR base F μ H w) (hs : SR μ s a.tmps) (hf : Free μ H.length H1.length) {K : Act → World → Prop} {Q : Exit → Act → World → Prop}
    (hK : ∀ a' w' μ', Goes base F μ μ' H H1 w w' → SR μ' s1 a'.tmps → a'.defers = a.defers → K a' w') :
    if Region.wanted o (yielded ops a.tmps) then o.wp P a w K Q ∨ (o.asks P a w ∧ LetsOut Q) else K (a.put o.dst undef) w := by
  unfold evalOne at he
  split at he
  · rename_i hg
    rw [guard_ok hs hg, if_pos rfl]
    split at he
    · simp at he
    rw [Option.map_eq_some_iff] at he
    obtain ⟨⟨v, H2⟩, hx, he⟩ := he
    simp only [Prod.mk.injEq] at he
    obtain ⟨rfl, rfl⟩ := he
    exact .inl (evalOp_wp ag hm hc hx h hf hs.evals fun v' w' μ' g hv => hK _ _ μ' g ((hs.mono g.le).puts o.dst hv) (put_defers _ _ _))
  · rename_i hg
    rw [guard_ok hs hg]
    simp only [Option.some.injEq, Prod.mk.injEq] at he
    obtain ⟨rfl, rfl⟩ := he
    simp only [Bool.false_eq_true, if_false]
    exact hK _ _ μ (Goes.refl h) (hs.puts o.dst .skip) (put_defers _ _ _)
  · simp at he

theorem evalIdx_wp {call : CallF} (ag : Agree P T) (hm : ∀ t n f e, T.meth t n = some (f, e) → MethOk P t n f e) (hc : SoundCall P call) {d : Bool} {ops : Array Oper} {Q : Exit → Act → World → Prop} :
    ∀ {is : List Nat} {μ : Mu} {s s1 : List Value} {H H1 : Heap} {w : World} {a : Act}, evalIdx T call d ops is s H = some (s1, H1) → HR base F μ H w → SR μ s a.tmps → Free μ H.length H1.length →
      (∀ a' w', After base F μ H s1 H1 a w a' w' → Q .normal a' w') → wpOps P ops Q is a w
  | [], μ, s, s1, H, H1, w, a, he, h, hs, hf, hQ => by
    simp only [evalIdx, Option.some.injEq, Prod.mk.injEq] at he
    obtain ⟨rfl, rfl⟩ := he
    exact hQ a w ⟨μ, Goes.refl h, hs, rfl⟩
  | i :: is, μ, s, s1, H, H1, w, a, he, h, hs, hf, hQ => by
    unfold evalIdx at he
    split at he
    · simp at he
    · rename_i o ho
      split at he
      · rename_i s2 H2 e
        have hl1 := evalOne_len hc e
        have hl2 := evalIdx_len hc he
        rw [wpOps]
        simp only [ho]
        refine evalOne_wp ag hm hc e h hs (hf.le hl2) fun a' w' μ' g hs' hd => ?_
        exact evalIdx_wp ag hm hc he g.hr hs' (hf.after g) fun a2 w2 k => hQ a2 w2 (After.trans g hd k)
      · simp at he

/-- The law of the regions that are drawn. -/
def DrawOk (P : Program) (T : Tab) (ops : Array Oper) : Prop :=
  ∀ (id : Nat) (call : CallF), SoundCall P call → ∀ base F μ s s1 H H1 w a, evalIdx T (quiet call) true ops (orderOf ops) s H = some (s1, H1) → HR base F μ H w → SR μ s a.tmps → Free μ H.length H1.length →
    (Code.region id ops true).wp P (fun e a' w' => e = .normal ∧ After base F μ H s1 H1 a w a' w') a w

/-- All drawn regions of a code are taken. -/
def CodeOk (P : Program) (T : Tab) : Code → Prop
  | .region _ ops draw => draw = true → DrawOk P T ops
  | .seq a b => CodeOk P T a ∧ CodeOk P T b
  | .cond _ a b => CodeOk P T a ∧ CodeOk P T b
  | .block _ a => CodeOk P T a
  | .loop a => CodeOk P T a
  | _ => True

def exOf : Ex → Exit
  | .normal => .normal
  | .exit id => .exit id
  | .ret => .ret

theorem quiet_len {call : CallF} {f : FuncId} {args : List Value} {H H' : Heap} {v : Value} (h : quiet call f args H = some (v, H')) : H.length ≤ H'.length := by
  unfold quiet at h
  rw [Option.map_eq_some_iff] at h
  obtain ⟨x, hx, h⟩ := h
  simp only [Prod.mk.injEq] at h
  rw [← h.2]; simp

theorem evalIdx_qlen {call : CallF} {d : Bool} {ops : Array Oper} : ∀ {is : List Nat} {s s1 : List Value} {H H1 : Heap}, evalIdx T (quiet call) d ops is s H = some (s1, H1) → H.length ≤ H1.length
  | [], s, s1, H, H1, h => by simp [evalIdx] at h; rw [h.2]; exact Nat.le_refl _
  | i :: is, s, s1, H, H1, h => by
    unfold evalIdx at h
    split at h
    · simp at h
    · split at h
      · rename_i s2 H2 e
        refine Nat.le_trans ?_ (evalIdx_qlen h)
        unfold evalOne at e
        split at e
        · split at e
          · simp at e
          rw [Option.map_eq_some_iff] at e
          obtain ⟨x, hx, e⟩ := e
          simp only [Prod.mk.injEq] at e
          rw [← e.2]
          unfold evalOp at hx
          split at hx
          · rename_i r hr
            simp only [Option.some.injEq] at hx
            subst hx
            exact (opEval_len hr).1
          · split at hx
            · exact quiet_len (v := x.1) hx
            · simp at hx
        · simp only [Option.some.injEq, Prod.mk.injEq] at e
          rw [e.2]; exact Nat.le_refl _
        · simp at e
      · simp at h

theorem evalC_len {call : CallF} (hc : SoundCall P call) : ∀ {n : Nat} {c : Code} {s : List Value} {H : Heap} {r : Ex × List Value × Heap}, evalC T call n c s H = some r → H.length ≤ r.2.2.length
  | 0, _, _, _, _, h => by simp [evalC] at h
  | n + 1, c, s, H, r, h => by
    unfold evalC at h
    cases c <;> simp only [Option.some.injEq, reduceCtorEq] at h
    · subst h; exact Nat.le_refl _
    · rw [Option.map_eq_some_iff] at h
      obtain ⟨x, hx, h⟩ := h
      subst h
      unfold evalRegion at hx
      split at hx
      · exact evalIdx_qlen (s1 := x.1) hx
      · exact evalIdx_len (s1 := x.1) hc hx
    · split at h
      · rename_i s1 H1 e
        exact Nat.le_trans (evalC_len hc e) (evalC_len hc h)
      · exact evalC_len hc h
    · split at h
      · exact evalC_len hc h
      · exact evalC_len hc h
      · simp at h
    · split at h
      · rename_i j s1 H1 e
        have := evalC_len hc e
        split at h <;> (simp only [Option.some.injEq] at h; subst h; exact this)
      · exact evalC_len hc h
    · split at h
      · rename_i s1 H1 e
        exact Nat.le_trans (evalC_len hc e) (evalC_len hc h)
      · exact evalC_len hc h
    · subst h; exact Nat.le_refl _
    · subst h; exact Nat.le_refl _
    · subst h; exact Nat.le_refl _

theorem wp_loop_rel {c : Code} {Q : Exit → Act → World → Prop} (I : Nat → Act → World → Prop) {m0 : Nat} {a : Act} {w : World} (h0 : I m0 a w)
    (round : ∀ m a w, I m a w → c.wp P (Exit.then (fun a' w' => ∃ m', m' < m ∧ I m' a' w') Q) a w) : (Code.loop c).wp P Q a w := by
  intro b k cs
  have key : ∀ m a w, I m a w → ∃ e a' w', Q e a' w' ∧ Arrives P (lone (b.at a (.code c :: .inLoop c :: k)) cs w) b k cs e a' w' := by
    intro m
    induction m using Nat.strongRecOn with
    | _ m ih =>
      intro a w hI
      obtain ⟨e, a1, w1, hq, harr⟩ := round m a w hI b (.inLoop c :: k) cs
      cases e with
      | normal =>
        obtain ⟨m', hlt, hI'⟩ := hq
        obtain ⟨e2, a2, w2, hq2, harr2⟩ := ih m' hlt a1 w1 hI'
        exact ⟨e2, a2, w2, hq2, .of_steps (Steps.trans harr (.one step_inLoop)) harr2⟩
      | exit id => exact ⟨_, a1, w1, hq, .pass (x := .inLoop c) rfl (fun _ _ => .inl (by simp)) harr⟩
      | goto l => exact ⟨_, a1, w1, hq, .pass (x := .inLoop c) rfl (fun _ _ => .inl (by simp)) harr⟩
      | ret => exact ⟨_, a1, w1, hq, .pass (x := .inLoop c) rfl (fun _ _ => .inl (by simp)) harr⟩
      | panic ch => exact ⟨_, a1, w1, hq, .pass (x := .inLoop c) rfl (fun _ _ => .inl (by simp)) harr⟩
      | outgrown => exact ⟨_, a1, w1, hq, .pass (x := .inLoop c) rfl (fun _ _ => .inl (by simp)) harr⟩
  obtain ⟨e, a', w', hq, harr⟩ := key m0 a w h0
  exact ⟨e, a', w', hq, .of_steps (.one step_loop) harr⟩

theorem CallLe.refl (a : CallF) : CallLe a a := fun _ _ _ _ h => h

theorem evalC_wp {call : CallF} (ag : Agree P T) (hm : ∀ t n f e, T.meth t n = some (f, e) → MethOk P t n f e) (hc : SoundCall P call) :
    ∀ (n : Nat) {c : Code} {μ : Mu} {s s1 : List Value} {H H1 : Heap} {e : Ex} {w : World} {a : Act}, CodeOk P T c → evalC T call n c s H = some (e, s1, H1) → HR base F μ H w → SR μ s a.tmps → Free μ H.length H1.length →
      c.wp P (fun x a' w' => x = exOf e ∧ After base F μ H s1 H1 a w a' w') a w
  | 0, c, μ, s, s1, H, H1, e, w, a, hok, he, h, hs, hf => by simp [evalC] at he
  | n + 1, c, μ, s, s1, H, H1, e, w, a, hok, he, h, hs, hf => by
    have same : s = s1 → H = H1 → After base F μ H s1 H1 a w a w := by
      rintro rfl rfl
      exact ⟨μ, Goes.refl h, hs, rfl⟩
    unfold evalC at he
    cases c <;> simp only [Option.some.injEq, Prod.mk.injEq, reduceCtorEq] at he
    · obtain ⟨rfl, h1, h2⟩ := he
      exact wp_skip ⟨rfl, same h1 h2⟩
    · rename_i id ops draw
      rw [Option.map_eq_some_iff] at he
      obtain ⟨⟨s2, H2⟩, hx, he⟩ := he
      simp only [Prod.mk.injEq] at he
      obtain ⟨rfl, rfl, rfl⟩ := he
      unfold evalRegion at hx
      split at hx
      · rename_i hd
        subst hd
        exact hok rfl id call hc base F μ s s2 H H2 w a hx h hs hf
      · rename_i hd
        simp only [Bool.not_eq_true] at hd
        subst hd
        exact wp_region (evalIdx_wp ag hm hc hx h hs hf fun a' w' k => ⟨rfl, k⟩)
    · rename_i x y
      obtain ⟨hx, hy⟩ := hok
      refine wp_seq ?_
      split at he
      · rename_i s2 H2 e2
        have hl := evalC_len hc e2
        have hl2 := evalC_len hc he
        refine wp_mono (evalC_wp ag hm hc n hx e2 h hs (hf.le hl2)) ?_
        rintro e' a' w' ⟨rfl, μ', g, hs', hd⟩
        refine wp_mono (evalC_wp ag hm hc n hy he g.hr hs' (hf.after g)) ?_
        rintro e2 a2 w2 ⟨rfl, k⟩
        exact ⟨rfl, After.trans g hd k⟩
      · rename_i hne
        refine wp_mono (evalC_wp ag hm hc n hx he h hs hf) ?_
        rintro e' a' w' ⟨rfl, k⟩
        cases e with
        | normal => exact absurd he (by intro q; exact hne _ _ q)
        | exit id => exact ⟨rfl, k⟩
        | ret => exact ⟨rfl, k⟩
    · rename_i c x y
      have hv := hs.evals c
      split at he
      · rename_i ht
        rw [ht] at hv
        generalize hρ : a.eval c = cv at hv
        cases hv
        exact wp_cond_true hρ (evalC_wp ag hm hc n hok.1 he h hs hf)
      · rename_i ht
        rw [ht] at hv
        generalize hρ : a.eval c = cv at hv
        cases hv
        exact wp_cond_false hρ (evalC_wp ag hm hc n hok.2 he h hs hf)
      · simp at he
    · rename_i id x
      refine wp_block ?_
      split at he
      · rename_i j s2 H2 e2
        have hH : H2 = H1 := by split at he <;> (simp only [Option.some.injEq, Prod.mk.injEq] at he; exact he.2.2)
        have hS : s2 = s1 := by split at he <;> (simp only [Option.some.injEq, Prod.mk.injEq] at he; exact he.2.1)
        subst hH hS
        refine wp_mono (evalC_wp ag hm hc n hok e2 h hs hf) ?_
        rintro e' a' w' ⟨rfl, k⟩
        simp only [exOf, Exit.inBlock]
        split at he
        · rename_i hj
          simp only [Option.some.injEq, Prod.mk.injEq] at he
          rw [if_pos hj]
          exact ⟨by rw [← he.1], k⟩
        · rename_i hj
          simp only [Option.some.injEq, Prod.mk.injEq] at he
          rw [if_neg hj]
          exact ⟨by rw [← he.1], k⟩
      · rename_i hne
        refine wp_mono (evalC_wp ag hm hc n hok he h hs hf) ?_
        rintro e' a' w' ⟨rfl, k⟩
        cases e with
        | exit id => exact absurd he (by intro q; exact hne _ _ _ q)
        | normal => exact ⟨rfl, k⟩
        | ret => exact ⟨rfl, k⟩
    · rename_i x
      have he0 : evalC T call (n + 1) (.loop x) s H = some (e, s1, H1) := by rw [evalC]; exact he
      refine wp_loop_rel (fun m a' w' => ∃ μ' s' H', m ≤ n + 1 ∧ evalC T call m (.loop x) s' H' = some (e, s1, H1) ∧ Goes base F μ μ' H H' w w' ∧ SR μ' s' a'.tmps ∧ a'.defers = a.defers ∧ Free μ' H'.length H1.length)
        (m0 := n + 1) ⟨μ, s, H, Nat.le_refl _, he0, Goes.refl h, hs, rfl, hf⟩ ?_
      rintro m a1 w1 ⟨μ1, s', H', hm1, he1, g1, hs1, hd1, hf1⟩
      cases m with
      | zero => simp [evalC] at he1
      | succ k =>
        have hk : k ≤ n := by omega
        rw [evalC] at he1
        split at he1
        · rename_i s2 H2 e2
          have e2' := evalC_mono (CallLe.refl call) hk e2
          have hl := evalC_len hc e2
          have hl2 := evalC_len hc he1
          refine wp_mono (evalC_wp ag hm hc n hok e2' g1.hr hs1 (hf1.le hl2)) ?_
          rintro e' a2 w2 ⟨rfl, μ2, g2, hs2, hd2⟩
          exact ⟨k, Nat.lt_succ_self k, μ2, s2, H2, by omega, he1, g1.trans g2, hs2, hd2.trans hd1, hf1.after g2⟩
        · rename_i hne
          have e2' := evalC_mono (CallLe.refl call) hk he1
          refine wp_mono (evalC_wp ag hm hc n hok e2' g1.hr hs1 hf1) ?_
          rintro e' a2 w2 ⟨rfl, kk⟩
          have := After.trans g1 hd1 kk
          cases e with
          | normal => exact absurd he1 (by intro q; exact hne _ _ q)
          | exit id => exact ⟨rfl, this⟩
          | ret => exact ⟨rfl, this⟩
    · obtain ⟨rfl, h1, h2⟩ := he
      exact wp_exit ⟨rfl, same h1 h2⟩
    · obtain ⟨rfl, h1, h2⟩ := he
      exact wp_label ⟨rfl, same h1 h2⟩
    · obtain ⟨rfl, h1, h2⟩ := he
      exact wp_ret ⟨rfl, same h1 h2⟩

end Go.Proofs.Ytdhbclplondmjaa.C

end

section
/- Functions; calls that may not write what was there. -/
set_option linter.unusedVariables false
set_option linter.unusedSimpArgs false
namespace Go.Proofs.Ytdhbclplondmjaa.C
open Go.RowKit

variable {P : Program} {T : Tab} {base : Nat} {F : Nat → Prop}

/-- A function whose behaviour is given. -/
def ExtOk (P : Program) (f : FuncId) (e : List Value → Heap → Option (Value × Heap)) : Prop :=
  ∀ args H v H', e args H = some (v, H') → H.length ≤ H'.length ∧
    ∀ base F μ w args', HR base F μ H w → Free μ H.length H'.length → VRs μ args args' → Calls P f args'.toArray w (CallPost base F μ H H' w v)

structure Fits (P : Program) (T : Tab) : Prop where
  ag : Agree P T
  meth : ∀ t n f e, T.meth t n = some (f, e) → MethOk P t n f e
  call : ∀ f, ((T.fn f).isSome = true ∨ (T.ext f).isSome = true) → ∀ xs w, (callFunc f xs).run P w = .ok (.enter f xs) w
  code : ∀ f fn c, T.fn f = some fn → fn.body = some c → CodeOk P T c
  ext : ∀ f e, T.ext f = some e → ExtOk P f e

def resRun (tmps : Array Value) (r : ResultVar) : Sem Value :=
  match r with
  | .tmp t => pure (tmps.getD t undef)
  | .cell a t => do loadVar t (← asAddr (tmps.getD a undef))

theorem results_eq (fn : Func) (tmps : Array Value) : results fn tmps = (do let vs ← fn.results.mapM (resRun tmps); pure (if h : vs.size = 1 then vs[0] else .tuple vs)) := by
  unfold results
  congr 2

theorem mapM_res (ag : Agree P T) {μ : Mu} {H : Heap} {w : World} (h : HR base F μ H w) {s : List Value} {tmps : Array Value} (hs : SR μ s tmps) : ∀ {rs : List ResultVar} {vs : List Value}, rs.mapM (resOne T s H) = some vs →
    ∃ vs', (rs.mapM (resRun tmps)).run P w = .ok vs' w ∧ VRs μ vs vs'
  | [], vs, hv => by
    simp at hv; subst hv
    exact ⟨[], by simp, .nil⟩
  | r :: rs, vs, hv => by
    simp only [List.mapM_cons, Option.bind_eq_bind, Option.bind_eq_some_iff, Option.pure_def, Option.some.injEq] at hv
    obtain ⟨v, hr, us, hus, rfl⟩ := hv
    obtain ⟨us', hrun, hu⟩ := mapM_res ag h hs hus
    cases r with
    | tmp t =>
      simp only [resOne, Option.some.injEq] at hr
      subst hr
      exact ⟨tmps.getD t undef :: us', by simp [resRun, hrun], .cons (hs.get t) hu⟩
    | cell a t =>
      simp only [resOne] at hr
      obtain ⟨v', hl, hv⟩ := vLoad_ok ag h (hs.get a) hr
      have : ∃ ad, tmps.getD a undef = .pointer (some ad) ∧ (loadVar t ad).run P w = .ok v' w := by
        have hg := hs.get a
        generalize tmps.getD a undef = x at *
        generalize s.getD a undef = y at *
        unfold vLoad at hr
        simp only [Option.bind_eq_bind, Option.bind_eq_some_iff] at hr
        obtain ⟨i, hi, hr⟩ := hr
        split at hr
        · cases hg
          exact ⟨_, rfl, by simpa [Instr.loadAt, Instr.sureAddr] using hl⟩
        · simp at hr
      obtain ⟨ad, h1, h2⟩ := this
      exact ⟨v' :: us', by simp [resRun, h1, asAddr, h2, hrun], .cons hv hu⟩

theorem results_ok (ag : Agree P T) {μ : Mu} {H : Heap} {w : World} (h : HR base F μ H w) {s : List Value} {tmps : Array Value} (hs : SR μ s tmps) {fn : Func} {v : Value} (hv : resultsC T fn s H = some v) :
    ∃ v', (results fn tmps).run P w = .ok v' w ∧ VR μ v v' := by
  unfold resultsC at hv
  split at hv
  · rename_i u hu
    simp only [Option.some.injEq] at hv
    subst hv
    obtain ⟨vs', hrun, hr⟩ := mapM_res (P := P) ag h hs hu
    cases hr with
    | cons h1 h2 =>
      cases h2
      exact ⟨_, by simp [results_eq, Array.mapM_eq_mapM_toList, hrun], h1⟩
  · rename_i vs hne hu
    simp only [Option.some.injEq] at hv
    subst hv
    obtain ⟨vs', hrun, hr⟩ := mapM_res (P := P) ag h hs hu
    have hlen := hr.length
    have h1 : vs'.length ≠ 1 := by
      intro q
      rw [hlen] at q
      cases vs with
      | nil => simp at q
      | cons a l =>
        cases l with
        | nil => exact hne a rfl
        | cons b l => simp at q
    exact ⟨.tuple vs'.toArray, by simp [results_eq, Array.mapM_eq_mapM_toList, hrun, h1], .tuple hr⟩
  · simp at hv

theorem start_ok {μ : Mu} {args args' : List Value} (h : VRs μ args args') (fn : Func) : SR μ (startC fn args) (args'.toArray ++ Array.replicate (fn.ntmps - args'.toArray.size) undef) := by
  have hl := h.length
  refine ⟨by simp [startC, hl], ?_⟩
  have : (args'.toArray ++ Array.replicate (fn.ntmps - args'.toArray.size) undef).toList = args' ++ List.replicate (fn.ntmps - args.length) undef := by simp [hl]
  rw [this]
  unfold startC
  refine h.append (VRs.refl_of fun v hv => ?_)
  rw [List.eq_of_mem_replicate hv]
  exact .undef _

theorem callC_sound (hF : Fits P T) : ∀ n, SoundCall P (callC T n)
  | 0 => ⟨fun _ _ _ _ h => by simp [callC] at h, fun _ _ _ _ _ h => by simp [callC] at h, fun _ _ _ _ _ h => by simp [callC] at h⟩
  | n + 1 => by
    have ih := callC_sound hF n
    have key : ∀ f args H v H', callC T (n + 1) f args H = some (v, H') → (∃ e, T.ext f = some e ∧ e args H = some (v, H')) ∨
        ∃ fn c e s1, T.ext f = none ∧ T.fn f = some fn ∧ fn.body = some c ∧ evalC T (callC T n) n c (startC fn args) H = some (e, s1, H') ∧ (e = .normal ∨ e = .ret) ∧ resultsC T fn s1 H' = some v := by
      intro f args H v H' h
      unfold callC at h
      split at h
      · rename_i e he; exact .inl ⟨e, he, h⟩
      · rename_i he
        split at h
        · rename_i fn hfn
          split at h
          · rename_i c hc
            split at h
            · rename_i s1 H1 e1
              rw [Option.map_eq_some_iff] at h
              obtain ⟨u, hu, h⟩ := h
              simp only [Prod.mk.injEq] at h
              obtain ⟨rfl, rfl⟩ := h
              exact .inr ⟨fn, c, _, s1, he, hfn, hc, e1, .inl rfl, hu⟩
            · rename_i s1 H1 e1
              rw [Option.map_eq_some_iff] at h
              obtain ⟨u, hu, h⟩ := h
              simp only [Prod.mk.injEq] at h
              obtain ⟨rfl, rfl⟩ := h
              exact .inr ⟨fn, c, _, s1, he, hfn, hc, e1, .inr rfl, hu⟩
            · simp at h
          · simp at h
        · simp at h
    refine ⟨?_, ?_, ?_⟩
    · intro f args H r h xs w
      obtain ⟨v, H'⟩ := r
      rcases key _ _ _ _ _ h with ⟨e, he, _⟩ | ⟨fn, c, e, s1, _, hf, _⟩
      · exact hF.call f (.inr (by simp [he])) xs w
      · exact hF.call f (.inl (by simp [hf])) xs w
    · intro f args H v H' h base F μ w args' hh hfree ha
      rcases key _ _ _ _ _ h with ⟨e, he, hx⟩ | ⟨fn, c, e, s1, hne, hf, hb, he, hee, hr⟩
      · exact (hF.ext f e he args H v H' hx).2 base F μ w args' hh hfree ha
      · have hfa := hF.ag.fn f fn hf
        refine calls_of_wp hfa hb ?_
        refine wp_mono (evalC_wp hF.ag hF.meth ih n (hF.code f fn c hf hb) he hh (start_ok ha fn) hfree) ?_
        rintro x a' w' ⟨rfl, μ', g, hs', hd⟩
        obtain ⟨v', hrun, hv⟩ := results_ok (P := P) hF.ag g.hr hs' hr
        rcases hee with rfl | rfl
        · exact ⟨hd, v', hrun, v', μ', rfl, g, hv⟩
        · exact ⟨hd, v', hrun, v', μ', rfl, g, hv⟩
    · intro f args H v H' h
      rcases key _ _ _ _ _ h with ⟨e, he, hx⟩ | ⟨fn, c, e, s1, hne, hf, hb, he, hee, hr⟩
      · exact (hF.ext f e he args H v H' hx).1
      · exact evalC_len ih he

/-- Frozen, nothing is one's own. -/
theorem HR.freeze {μ : Mu} {H : Heap} {w : World} (h : HR base F μ H w) : HR w.heap.size (fun _ => False) μ (H.map Blk.freeze) w where
  own b sz cs l hb hl := by
    rw [List.getElem?_map, Option.map_eq_some_iff] at hb
    obtain ⟨x, hx, e⟩ := hb
    cases x <;> simp [Blk.freeze] at e
  ro b sz cs l hb hl := by
    rw [List.getElem?_map, Option.map_eq_some_iff] at hb
    obtain ⟨x, hx, e⟩ := hb
    cases x with
    | map es => simp [Blk.freeze] at e
    | row sz' cs' own live =>
      simp only [Blk.freeze, Blk.row.injEq, true_and] at e
      obtain ⟨rfl, rfl, rfl⟩ := e
      cases own with
      | true =>
        obtain ⟨h1, h2, h3, h4⟩ := h.own b _ _ l hx hl
        refine ⟨h1, h4.lt, fun i v hv => ?_⟩
        obtain ⟨arr, e, fr, g1, g2, g3, g4⟩ := h4
        obtain ⟨v', a, c⟩ := g4 i v hv
        exact ⟨v', by simp [World.cell?, g1, a], c⟩
      | false =>
        obtain ⟨h1, h2, h3⟩ := h.ro b _ _ l hx hl
        exact ⟨h1, Nat.lt_of_lt_of_le h2 h.base_le, h3⟩
  maps b es l hb hl := by
    rw [List.getElem?_map, Option.map_eq_some_iff] at hb
    obtain ⟨x, hx, e⟩ := hb
    cases x <;> simp [Blk.freeze] at e
  inj b b' k k' l l' hb hb' hk := by
    rw [List.getElem?_map, Option.map_eq_some_iff] at hb
    obtain ⟨x, hx, e⟩ := hb
    subst e
    cases x <;> simp [Blk.freeze, Blk.mine] at hk
  far k hk := hk.elim
  base_le := Nat.le_refl _

/-- What a frozen call leaves. -/
theorem HR.thaw {μ μ' : Mu} {H H2 : Heap} {w w' : World} (h : HR base F μ H w) (k : HR w.heap.size (fun _ => False) μ' H2 w') (hle : MuLe μ μ') (hsame : ∀ b, b < H.length → μ' b = μ b) (hlen : H.length ≤ H2.length)
    (fr : Fr w.heap.size (fun _ => False) w w') : HR base F μ' (H ++ (H2.drop H.length).map Blk.left) w' := by
  have hblk : ∀ k, k < w.heap.size → w'.heap[k]? = w.heap[k]? := fun k hk => fr.block k (.inl hk)
  have h' := (h.world hblk fr.size)
  have key : ∀ {b : Nat} {x : Blk} {l : Loc}, (H ++ (H2.drop H.length).map Blk.left)[b]? = some x → μ' b = some l → (b < H.length ∧ H[b]? = some x ∧ μ b = some l) ∨ (H.length ≤ b ∧ ∃ y, H2[b]? = some y ∧ y.left = x) := by
    intro b x l hb hl
    rcases Nat.lt_or_ge b H.length with hlt | hge
    · rw [List.getElem?_append_left hlt] at hb
      exact .inl ⟨hlt, hb, by rw [← hsame b hlt]; exact hl⟩
    · rw [List.getElem?_append_right hge, List.getElem?_map, Option.map_eq_some_iff] at hb
      obtain ⟨y, hy, e⟩ := hb
      rw [List.getElem?_drop] at hy
      exact .inr ⟨hge, y, by rw [← hy]; congr 1; omega, e⟩
  have left_mine : ∀ {y : Blk}, y.left.mine = true → y.left = y := by
    intro y hy
    cases y with
    | row sz cs own live => cases own <;> cases live <;> simp_all [Blk.left, Blk.mine]
    | map es => rfl
  have hb0 := h.base_le
  have hmine : ∀ {b : Nat} {x : Blk} {l : Loc}, H2[b]? = some x → x.mine = true → μ' b = some l → w.heap.size ≤ l.blk := fun hb hx hl => (k.mine_lt hb hx hl).2.1
  refine ⟨?_, ?_, ?_, ?_, ?_, ?_⟩
  · intro b sz cs l hb hl
    rcases key hb hl with ⟨_, hb, hl⟩ | ⟨_, y, hb, hy⟩
    · obtain ⟨a, c, d, e⟩ := h'.own b sz cs l hb hl
      exact ⟨a, c, d, e.mono hle rfl⟩
    · rw [left_mine (y := y) (by rw [hy]; rfl)] at hy
      subst hy
      obtain ⟨a, c, d, e⟩ := k.own b sz cs l hb hl
      exact ⟨a, by omega, fun q => by have := h.far _ q; omega, e⟩
  · intro b sz cs l hb hl
    rcases key hb hl with ⟨_, hb, hl⟩ | ⟨_, y, hb, hy⟩
    · obtain ⟨a, c, d⟩ := h'.ro b sz cs l hb hl
      exact ⟨a, c, fun i v hv => let ⟨v', x, y⟩ := d i v hv; ⟨v', x, y.mono hle⟩⟩
    · cases y with
      | map es => simp [Blk.left] at hy
      | row sz2 cs2 own live => cases own <;> simp [Blk.left] at hy
  · intro b es l hb hl
    rcases key hb hl with ⟨_, hb, hl⟩ | ⟨_, y, hb, hy⟩
    · obtain ⟨a, c, d⟩ := h'.maps b es l hb hl
      exact ⟨a, c, d.mono hle rfl⟩
    · rw [left_mine (y := y) (by rw [hy]; rfl)] at hy
      subst hy
      obtain ⟨a, c, d⟩ := k.maps b es l hb hl
      exact ⟨by omega, fun q => by have := h.far _ q; omega, d⟩
  · intro b b' x x' l l' hb hb' hx hx' hne hl hl'
    have fix : ∀ {b : Nat} {x : Blk}, x.mine = true → (∃ y, H2[b]? = some y ∧ y.left = x) → H2[b]? = some x := by
      rintro b x hx ⟨y, hy, rfl⟩
      rw [left_mine hx]; exact hy
    rcases key hb hl with ⟨_, hb, hl2⟩ | ⟨_, hb⟩ <;> rcases key hb' hl' with ⟨_, hb', hl2'⟩ | ⟨_, hb'⟩
    · exact h.inj b b' x x' l l' hb hb' hx hx' hne hl2 hl2'
    · have := (h.mine_lt hb hx hl2).1
      have := hmine (fix hx' hb') hx' hl'
      omega
    · have := (h.mine_lt hb' hx' hl2').1
      have := hmine (fix hx hb) hx hl
      omega
    · exact k.inj b b' x x' l l' (fix hx hb) (fix hx' hb') hx hx' hne hl hl'
  · exact h'.far
  · exact h'.base_le

/-- A frozen call is a call. -/
theorem quiet_sound {call : CallF} (hc : SoundCall P call) : SoundCall P (quiet call) where
  enter f args H r h xs w := by
    unfold quiet at h
    rw [Option.map_eq_some_iff] at h
    obtain ⟨x, hx, h⟩ := h
    exact hc.enter f args _ x hx xs w
  len f args H v H' h := quiet_len h
  calls f args H v H' h base F μ w args' hh hfree ha := by
    unfold quiet at h
    rw [Option.map_eq_some_iff] at h
    obtain ⟨⟨v2, H2⟩, hx, h⟩ := h
    simp only [Prod.mk.injEq] at h
    obtain ⟨rfl, rfl⟩ := h
    have hl := hc.len f args _ _ _ hx
    simp only [List.length_map] at hl
    have hlen : (H ++ (H2.drop H.length).map Blk.left).length = H2.length := by simp; omega
    rw [hlen] at hfree
    refine Calls.mono (hc.calls f args _ v2 H2 hx w.heap.size (fun _ => False) μ w args' hh.freeze (by simpa using hfree) ha) ?_
    rintro e w' ⟨v', μ', rfl, g, hv⟩
    have hsame : ∀ b, b < H.length ∨ H2.length ≤ b → μ' b = μ b := fun b hb => g.same b (by simpa using hb)
    refine ⟨v', μ', rfl, ⟨g.le, fun b hb => hsame b (by rw [hlen] at hb; exact hb), HR.thaw hh g.hr g.le (fun b hb => hsame b (.inl hb)) hl g.fr, ?_, by simp⟩, hv⟩
    exact ⟨g.fr.os, g.fr.tape, g.fr.output, g.fr.size, fun k hk => g.fr.block k (.inl (hk.elim (fun q => Nat.lt_of_lt_of_le q hh.base_le) (hh.far k)))⟩

end Go.Proofs.Ytdhbclplondmjaa.C

end

section
/- Drawn regions, first part: what an operation looks at, and how the memory moves on. -/
set_option linter.unusedVariables false
set_option linter.unusedSimpArgs false
namespace Go.Proofs.Ytdhbclplondmjaa.C
open Go.RowKit

variable {P : Program} {T : Tab} {base : Nat} {F : Nat → Prop}

/-- Operations that do not look at the memory. -/
def pureOp : Op → Bool
  | .move _ | .assign _ | .pick .. | .build .. | .nilCheck _ | .binOp .. | .unOp .. | .makeInterface .. | .makeFunc .. | .fieldAddr .. | .field .. | .indexAddr .. | .index .. | .extract .. | .typeAssert .. => true
  | .call { callee := .builtin .len, .. } | .call { callee := .builtin .max, .. } | .call { callee := .builtin .min, .. } => true
  | _ => false

theorem map_ev_congr {s s' : List Value} : ∀ {xs : List Operand}, (∀ x ∈ xs, ev s x = ev s' x) → xs.map (ev s) = xs.map (ev s')
  | [], _ => rfl
  | x :: xs, h => by
    simp only [List.map_cons]
    rw [h x List.mem_cons_self, map_ev_congr fun y hy => h y (List.mem_cons_of_mem _ hy)]

theorem parts_ev_congr {s s' : List Value} : ∀ {ps : List (Nat × Operand)}, (∀ x ∈ ps.map (·.2), ev s x = ev s' x) → (ps.map fun p => (p.1, ev s p.2)) = ps.map fun p => (p.1, ev s' p.2)
  | [], _ => rfl
  | p :: ps, h => by
    simp only [List.map_cons]
    rw [h p.2 (by simp), parts_ev_congr fun y hy => h y (by simp only [List.map_cons]; exact List.mem_cons_of_mem _ hy)]

theorem opt_ev_congr {s s' : List Value} {x : Option Operand} (h : ∀ y ∈ x.toList, ev s y = ev s' y) : x.map (ev s) = x.map (ev s') := by
  cases x with
  | none => rfl
  | some x => simp [h x (by simp)]

theorem opEval_congr {s s' : List Value} {H : Heap} {o : Op} (h : ∀ x ∈ o.operands.toList, ev s x = ev s' x) : opEval T s H o = opEval T s' H o := by
  cases o <;> try rfl
  case build t ps => simp only [opEval]; rw [parts_ev_congr (s := s) (s' := s') (by simpa [Op.operands] using h)]
  case buildSlice t n ps => simp only [opEval]; rw [parts_ev_congr (s := s) (s' := s') (by simpa [Op.operands] using h)]
  case makeFunc fn a c =>
    simp only [Op.operands, Array.toList_append, List.mem_append] at h
    simp only [opEval]
    rw [map_ev_congr (s := s) (s' := s') (xs := a.toList) fun x hx => h x (.inl hx), map_ev_congr (s := s) (s' := s') (xs := c.toList) fun x hx => h x (.inr hx)]
  case slice t x lo hi mx =>
    simp only [Op.operands, Array.toList_append, List.mem_append] at h
    simp only [opEval]
    rw [h x (by simp), opt_ev_congr (s := s) (s' := s') (x := lo) fun y hy => h y (by cases lo <;> simp_all), opt_ev_congr (s := s) (s' := s') (x := hi) fun y hy => h y (by cases hi <;> simp_all),
      opt_ev_congr (s := s) (s' := s') (x := mx) fun y hy => h y (by cases mx <;> simp_all)]
  case call c =>
    obtain ⟨callee, args, ats⟩ := c
    cases callee
    case builtin b =>
      simp only [opEval]
      rw [map_ev_congr (s := s) (s' := s') (xs := args.toList) fun x hx => h x (by simp [Op.operands, Call.operands] at hx ⊢; exact hx)]
    all_goals rfl
  case makeMap t r => cases r <;> rfl
  case typeAssert x a b c =>
    simp only [Op.operands] at h
    cases c
    · simp only [opEval]; rw [h x (by simp)]
    · rfl
  all_goals
    simp only [Op.operands] at h
    simp only [opEval]
    simp_all

theorem calleeOf_congr {s s' : List Value} {H : Heap} {o : Op} (h : ∀ x ∈ o.operands.toList, ev s x = ev s' x) : calleeOf T s H o = calleeOf T s' H o := by
  cases o <;> try rfl
  rename_i c
  obtain ⟨callee, args, ats⟩ := c
  cases callee
  case builtin b => rfl
  case value f =>
    simp only [Op.operands, Call.operands, Array.toList_append, List.mem_append] at h
    simp only [calleeOf]
    rw [h f (by simp), map_ev_congr (s := s) (s' := s') (xs := args.toList) fun x hx => h x (.inr hx)]
  case invoke r n =>
    simp only [Op.operands, Call.operands, Array.toList_append, List.mem_append] at h
    simp only [calleeOf]
    rw [h r (by simp), map_ev_congr (s := s) (s' := s') (xs := args.toList) fun x hx => h x (.inr hx)]

theorem evalOp_congr {call : CallF} {s s' : List Value} {H : Heap} {o : Op} (h : ∀ x ∈ o.operands.toList, ev s x = ev s' x) : evalOp T call s H o = evalOp T call s' H o := by
  unfold evalOp
  rw [opEval_congr h, calleeOf_congr h]

/-- What does not look at the memory. -/
theorem opEval_pure {s : List Value} {H H' : Heap} {o : Op} {v : Value} (hp : pureOp o = true) (h : opEval T s H o = some (v, H')) : H' = H ∧ ∀ K, opEval T s K o = some (v, K) := by
  have one : ∀ {x : Option Value}, x.map (fun v => (v, H)) = some (v, H') → H' = H ∧ ∀ K : Heap, x.map (fun v => (v, K)) = some (v, K) := by
    intro x hx
    rw [Option.map_eq_some_iff] at hx
    obtain ⟨u, rfl, hx⟩ := hx
    simp only [Prod.mk.injEq] at hx
    obtain ⟨rfl, rfl⟩ := hx
    exact ⟨rfl, fun K => rfl⟩
  cases o
  case call c =>
    obtain ⟨callee, args, ats⟩ := c
    cases callee
    case value f => simp [pureOp] at hp
    case invoke r n => simp [pureOp] at hp
    case builtin b =>
      change vBuiltin T H b (args.toList.map (ev s)) ats.toList = some (v, H') at h
      change H' = H ∧ ∀ K, vBuiltin T K b (args.toList.map (ev s)) ats.toList = some (v, K)
      generalize args.toList.map (ev s) = xs at h ⊢
      generalize ats.toList = ts at h ⊢
      unfold vBuiltin at h ⊢
      split at h
      · exact one h
      · simp only [Option.some.injEq, Prod.mk.injEq] at h; obtain ⟨rfl, rfl⟩ := h; exact ⟨rfl, fun K => rfl⟩
      · simp only [Option.some.injEq, Prod.mk.injEq] at h; obtain ⟨rfl, rfl⟩ := h; exact ⟨rfl, fun K => rfl⟩
      · simp [pureOp] at hp
      · simp [pureOp] at hp
      · simp [pureOp] at hp
      · simp at h
  all_goals simp only [pureOp, Bool.false_eq_true] at hp
  all_goals simp only [opEval] at h ⊢
  case pick c a b =>
    split at h <;> simp only [Option.some.injEq, Prod.mk.injEq, reduceCtorEq] at h
    obtain ⟨rfl, rfl⟩ := h
    exact ⟨rfl, fun K => rfl⟩
  case typeAssert x a b c =>
    cases c
    · exact one h
    · simp at h
  all_goals first
    | (simp only [Option.some.injEq, Prod.mk.injEq] at h; obtain ⟨rfl, rfl⟩ := h; exact ⟨rfl, fun K => rfl⟩)
    | exact one h

/-! ### How the memory moves on -/

def Blk.live : Blk → Bool
  | .row _ _ _ live => live
  | .map _ => true

/-- Nothing comes back to life. -/
def Onward (H H' : Heap) : Prop := H.length ≤ H'.length ∧ ∀ b y, b < H.length → H'[b]? = some y → y.live = true → ∃ x, H[b]? = some x ∧ x.live = true

/-- What lives is as it was. -/
def Weak (H H' : Heap) : Prop := H.length ≤ H'.length ∧ ∀ b y, b < H.length → H'[b]? = some y → y.live = true → H[b]? = some y

theorem Weak.refl (H : Heap) : Weak H H := ⟨Nat.le_refl _, fun _ _ _ h _ => h⟩
theorem Weak.trans {A B C : Heap} (h : Weak A B) (k : Weak B C) : Weak A C :=
  ⟨Nat.le_trans h.1 k.1, fun b y hb hy hl => h.2 b y hb (k.2 b y (Nat.lt_of_lt_of_le hb h.1) hy hl) hl⟩
theorem Weak.onward {A B : Heap} (h : Weak A B) : Onward A B := ⟨h.1, fun b y hb hy hl => ⟨y, h.2 b y hb hy hl, hl⟩⟩
theorem Weak.app (H L : Heap) : Weak H (H ++ L) := ⟨by simp, fun b y hb hy _ => by rwa [List.getElem?_append_left hb] at hy⟩

theorem getElem?_set' (H : Heap) (b c : Nat) (x : Blk) : (H.set b x)[c]? = if b = c then (if c < H.length then some x else none) else H[c]? := by
  rw [List.getElem?_set]
  by_cases h : b = c
  · subst h; simp
  · simp [h]

theorem Weak.kill (H : Heap) (b sz : Nat) (cs : List Value) (own : Bool) (L : Heap) : Weak H (H.set b (.row sz cs own false) ++ L) := by
  refine ⟨by simp, fun c y hc hy hl => ?_⟩
  rw [List.getElem?_append_left (by simpa using hc), getElem?_set'] at hy
  split at hy
  · simp at hy
    subst hy; simp [Blk.live] at hl
  · exact hy

theorem writeCells_onward {H H' : Heap} {b o : Nat} {vs : List Value} (h : writeCells H b o vs = some H') : Onward H H' := by
  refine ⟨by rw [writeCells_len h]; exact Nat.le_refl _, fun c y hc hy hl => ?_⟩
  unfold writeCells at h
  split at h
  · split at h
    · rename_i sz cs heq
      split at h <;> simp at h
      subst h
      rw [getElem?_set'] at hy
      split at hy
      · rename_i e; subst e; exact ⟨_, heq, rfl⟩
      · exact ⟨y, hy, hl⟩
    · simp at h
  · simp at h

theorem vMapUpdate_onward {H H' : Heap} {t : TypeId} {m k v : Value} (h : vMapUpdate T H t m k v = some H') : Onward H H' := by
  refine ⟨by rw [vMapUpdate_len h]; exact Nat.le_refl _, fun c y hc hy hl => ?_⟩
  unfold vMapUpdate at h
  split at h
  · split at h
    · rename_i es _ heq
      rw [Option.map_eq_some_iff] at h
      obtain ⟨es', _, h⟩ := h
      subst h
      rw [getElem?_set'] at hy
      split at hy
      · rename_i e; subst e; exact ⟨_, heq, rfl⟩
      · exact ⟨y, hy, hl⟩
    · simp at h
  · simp at h

theorem vClear_onward {H H' : Heap} {t : TypeId} {x : Value} (h : vClear T H t x = some H') : Onward H H' := by
  unfold vClear at h
  split at h
  · split at h
    · simp only [Option.some.injEq] at h; subst h; exact (Weak.refl _).onward
    · split at h
      · exact writeCells_onward h
      · simp at h
  · simp at h

theorem vCopy_onward {H H' : Heap} {t : TypeId} {x y r : Value} (h : vCopy T H t x y = some (r, H')) : Onward H H' := by
  unfold vCopy at h
  split at h
  · split at h
    · split at h
      · simp only [Option.some.injEq, Prod.mk.injEq] at h; obtain ⟨_, rfl⟩ := h; exact (Weak.refl _).onward
      · split at h
        · simp only [Option.bind_eq_some_iff, Option.map_eq_some_iff] at h
          obtain ⟨cs, hc, H1, h1, h⟩ := h
          simp only [Prod.mk.injEq] at h
          obtain ⟨_, rfl⟩ := h
          exact writeCells_onward h1
        · simp at h
    · simp at h
  · simp at h

theorem writeCells_nil {H H' : Heap} {b o : Nat} (h : writeCells H b o [] = some H') : H' = H := by
  unfold writeCells at h
  split at h
  · split at h
    · rename_i sz cs heq
      split at h <;> simp at h
      subst h
      apply List.ext_getElem?
      intro i
      rw [getElem?_set']
      split
      · rename_i e; subst e
        split
        · simp only [setCells]; exact heq.symm
        · rw [List.getElem?_eq_none (by omega)]
      · rfl
    · simp at h
  · simp at h

theorem srcCells_len {H : Heap} {a : Option Addr} {m size : Nat} {new : List Value} (h : srcCells H a m size = some new) (hm : m = 0) : new = [] := by
  subst hm
  unfold srcCells at h
  split at h <;> simp at h
  · exact h
  · exact h

theorem vAppend_onward {H H' : Heap} {t : TypeId} {x y r : Value} (h : vAppend T H t x y = some (r, H')) :
    Onward H H' ∧ ((∀ a n c a2 m c2, x = .slice a n c → y = .slice a2 m c2 → ¬ (c ≠ unk ∧ 0 < m ∧ n + m ≤ c)) → Weak H H') := by
  unfold vAppend at h
  simp only [Option.bind_eq_bind, Option.bind_eq_some_iff] at h
  obtain ⟨i, hi, h⟩ := h
  have both : ∀ {p : Prop}, Weak H H' → Onward H H' ∧ (p → Weak H H') := fun hw => ⟨hw.onward, fun _ => hw⟩
  split at h
  · rename_i el a n c a2 m c2 hdesc
    simp only [Option.bind_eq_some_iff] at h
    obtain ⟨ei, hei, h⟩ := h
    split at h
    · simp only [Option.bind_eq_some_iff] at h
      obtain ⟨new, hnew, h⟩ := h
      split at h
      · split at h
        · split at h <;> (simp only [Option.some.injEq, Prod.mk.injEq] at h; obtain ⟨rfl, rfl⟩ := h)
          · exact both (Weak.refl _)
          · exact both (Weak.app _ _)
        · split at h
          · split at h
            · split at h
              · split at h
                · simp only [Option.some.injEq, Prod.mk.injEq] at h; obtain ⟨rfl, rfl⟩ := h
                  exact both (Weak.kill _ _ _ _ _ _)
                · simp at h
              · simp at h
            · rename_i hunk
              split at h
              · rename_i hroom
                split at h
                · split at h
                  · rw [Option.map_eq_some_iff] at h
                    obtain ⟨H2, hH2, h⟩ := h
                    simp only [Prod.mk.injEq] at h
                    obtain ⟨rfl, rfl⟩ := h
                    refine ⟨writeCells_onward hH2, fun hno => ?_⟩
                    have hm : m = 0 := by
                      have := hno _ _ _ _ _ _ rfl rfl
                      simp only [not_and] at this
                      rcases Nat.eq_zero_or_pos m with h0 | h0
                      · exact h0
                      · exact absurd hroom (this hunk h0)
                    rw [srcCells_len hnew hm] at hH2
                    rw [writeCells_nil hH2]
                    exact Weak.refl _
                  · simp at h
                · simp at h
              · simp only [Option.bind_eq_some_iff] at h
                obtain ⟨old, hold, h⟩ := h
                simp only [Option.some.injEq, Prod.mk.injEq] at h; obtain ⟨rfl, rfl⟩ := h
                exact both (Weak.app _ _)
          · simp at h
      · simp at h
    · simp at h
  · simp at h

/-- What an operation of a drawn region does to the memory. -/
theorem evalOp_moves {call : CallF} {s : List Value} {H H' : Heap} {o : Op} {v : Value} (h : evalOp T (quiet call) s H o = some (v, H')) :
    Onward H H' ∧ (strong o = false → inPlace s o = false → Weak H H') ∧ (strong o = false → isAppend o = false → ∃ L, H' = H ++ L) ∧ (pureOp o = true → H' = H) := by
  unfold evalOp at h
  split at h
  · rename_i r hr
    simp only [Option.some.injEq] at h
    subst h
    have hsame := (opEval_len hr).2
    have easy : (∃ L, H' = H ++ L) → (pureOp o = true → H' = H) → Onward H H' ∧ (strong o = false → inPlace s o = false → Weak H H') ∧ (strong o = false → isAppend o = false → ∃ L, H' = H ++ L) ∧ (pureOp o = true → H' = H) := by
      rintro ⟨L, rfl⟩ hp
      exact ⟨(Weak.app _ _).onward, fun _ _ => Weak.app _ _, fun _ _ => ⟨L, rfl⟩, hp⟩
    have app : allocs o = true → (∃ L, H' = H ++ L) := by
      intro ha
      cases o <;> simp only [allocs, Bool.false_eq_true] at ha <;> simp only [opEval] at hr
      · rw [Option.bind_eq_some_iff] at hr
        obtain ⟨i, hi, hr⟩ := hr
        unfold vBox newRow at hr
        split at hr
        · simp at hr
        · rw [Option.map_eq_some_iff] at hr
          obtain ⟨k, hk, hr⟩ := hr
          simp only [Prod.mk.injEq] at hr
          exact ⟨_, hr.2.symm⟩
      · unfold vBox newRow at hr
        split at hr
        · simp at hr
        · rw [Option.map_eq_some_iff] at hr
          obtain ⟨k, hk, hr⟩ := hr
          simp only [Prod.mk.injEq] at hr
          exact ⟨_, hr.2.symm⟩
      · unfold vBuildSlice at hr
        simp only [Option.bind_eq_bind, Option.bind_eq_some_iff] at hr
        obtain ⟨i, hi, hr⟩ := hr
        split at hr
        · simp only [Option.bind_eq_some_iff] at hr
          obtain ⟨ei, hei, hr⟩ := hr
          split at hr
          · simp at hr
          · simp only [Option.bind_eq_some_iff] at hr
            obtain ⟨cs, hcs, hr⟩ := hr
            simp only [Option.some.injEq, Prod.mk.injEq] at hr
            exact ⟨_, hr.2.symm⟩
        · simp at hr
      · split at hr
        · simp only [Option.some.injEq, Prod.mk.injEq] at hr
          exact ⟨[], by simp [hr.2]⟩
        · unfold vBytes at hr
          split at hr
          rotate_left
          · rw [Option.map_eq_some_iff] at hr
            obtain ⟨u, _, hr⟩ := hr
            simp only [Prod.mk.injEq] at hr
            exact ⟨[], by simp [hr.2]⟩
          rename_i r0 hr0
          simp only [Option.some.injEq] at hr
          subst hr
          replace hr := hr0
          unfold vBytes0 at hr
          split at hr
          · split at hr
            · split at hr
              · split at hr
                · simp only [Option.some.injEq, Prod.mk.injEq] at hr
                  exact ⟨_, hr.2.symm⟩
                · simp at hr
              · simp at hr
            · simp at hr
          · simp at hr
      · rename_i r
        cases r with
        | some r => simp at hr
        | none =>
          simp only [Option.some.injEq, Prod.mk.injEq] at hr
          exact ⟨_, hr.2.symm⟩
      · unfold vMakeSlice at hr
        simp only [Option.bind_eq_bind, Option.bind_eq_some_iff] at hr
        obtain ⟨i, hi, hr⟩ := hr
        split at hr
        · simp only [Option.bind_eq_some_iff] at hr
          obtain ⟨ei, hei, hr⟩ := hr
          split at hr
          · simp only [Option.some.injEq, Prod.mk.injEq] at hr
            exact ⟨_, hr.2.symm⟩
          · simp at hr
        · simp at hr
    have hpure : pureOp o = true → H' = H := fun hp => (opEval_pure hp hr).1
    cases hst : strong o with
    | true =>
      cases o <;> simp only [strong, Bool.false_eq_true] at hst
      case mapUpdate t m k x =>
        simp only [opEval] at hr
        rw [Option.map_eq_some_iff] at hr
        obtain ⟨H1, hH, hr⟩ := hr
        simp only [Prod.mk.injEq] at hr
        obtain ⟨rfl, rfl⟩ := hr
        exact ⟨vMapUpdate_onward hH, fun q => by simp at q, fun q => by simp at q, hpure⟩
      case call c =>
        obtain ⟨callee, args, ats⟩ := c
        cases callee
        case value f => exact absurd hst (by simp)
        case invoke r n => exact absurd hst (by simp)
        rename_i b
        cases b <;> first | (simp at hst; done) | skip
        all_goals simp only [opEval] at hr
        all_goals generalize args.toList.map (ev s) = xs at hr
        all_goals generalize ats.toList = ts at hr
        · unfold vBuiltin at hr
          split at hr <;> simp only [reduceCtorEq] at *
          rw [Option.map_eq_some_iff] at hr
          obtain ⟨H1, hH, hr⟩ := hr
          simp only [Prod.mk.injEq] at hr
          obtain ⟨rfl, rfl⟩ := hr
          exact ⟨vClear_onward hH, fun q => by simp at q, fun q => by simp at q, hpure⟩
        · unfold vBuiltin at hr
          split at hr <;> simp only [reduceCtorEq] at *
          exact ⟨vCopy_onward hr, fun q => by simp at q, fun q => by simp at q, hpure⟩
      simp only [opEval] at hr
      rw [Option.map_eq_some_iff] at hr
      obtain ⟨H1, hH, hr⟩ := hr
      simp only [Prod.mk.injEq] at hr
      obtain ⟨rfl, rfl⟩ := hr
      unfold vStore at hH
      simp only [Option.bind_eq_bind, Option.bind_eq_some_iff] at hH
      obtain ⟨i, hi, hH⟩ := hH
      split at hH
      · split at hH
        · exact ⟨writeCells_onward hH, fun q => by simp at q, fun q => by simp at q, hpure⟩
        · simp at hH
      · simp at hH
    | false =>
      rw [hst] at easy
      cases hal : allocs o with
      | true => exact easy (app hal) hpure
      | false =>
        cases hap : isAppend o with
        | false => exact hap ▸ easy ⟨[], by rw [hsame hst hap hal]; simp⟩ hpure
        | true =>
          cases o <;> simp only [isAppend, Bool.false_eq_true] at hap
          rename_i c
          obtain ⟨callee, args, ats⟩ := c
          cases callee
          case value f => exact absurd hap (by simp)
          case invoke r n => exact absurd hap (by simp)
          rename_i b
          cases b <;> first | (simp at hap; done) | skip
          simp only [opEval] at hr
          generalize hx : args.toList.map (ev s) = xs at hr
          generalize ats.toList = ts at hr
          unfold vBuiltin at hr
          split at hr <;> simp only [reduceCtorEq] at *
          rename_i x y t u _ _ _
          split at hr
          · obtain ⟨h1, h2⟩ := vAppend_onward hr
            refine ⟨h1, fun _ hin => h2 ?_, fun _ q => by simp at q, hpure⟩
            rintro a n c a2 m c2 rfl rfl q
            simp [inPlace, hx, q] at hin
          · simp at hr
  · split at h
    · rename_i f args hcal
      unfold quiet at h
      rw [Option.map_eq_some_iff] at h
      obtain ⟨x, hx, h⟩ := h
      simp only [Prod.mk.injEq] at h
      obtain ⟨_, rfl⟩ := h
      refine ⟨(Weak.app _ _).onward, fun _ _ => Weak.app _ _, fun _ _ => ⟨_, rfl⟩, fun hp => ?_⟩
      unfold calleeOf at hcal
      split at hcal <;> simp [pureOp] at hp hcal
    · simp at h

end Go.Proofs.Ytdhbclplondmjaa.C

end

section
/- Drawn regions, second part: the memory of a region that is under way. -/
set_option linter.unusedVariables false
set_option linter.unusedSimpArgs false
namespace Go.Proofs.Ytdhbclplondmjaa.C
open Go.RowKit

variable {P : Program} {T : Tab} {base : Nat} {F : Nat → Prop}

/-- The memory's relation, for blocks told by a function. -/
structure HRf (base : Nat) (F : Nat → Prop) (μ : Mu) (H : Nat → Option Blk) (w : World) : Prop where
  own : ∀ b sz cs l, H b = some (.row sz cs true true) → μ b = some l → l.sz = sz ∧ base ≤ l.blk ∧ ¬ F l.blk ∧ RowAt μ w l cs
  ro : ∀ b sz cs l, H b = some (.row sz cs false true) → μ b = some l → l.sz = sz ∧ l.blk < base ∧
    ∀ (i : Nat) (v : Value), cs[i]? = some v → ∃ v', w.cell? ⟨l.blk, l.sh + i, none⟩ = some v' ∧ VR μ v v'
  maps : ∀ b es l, H b = some (.map es) → μ b = some l → base ≤ l.blk ∧ ¬ F l.blk ∧ MapAt μ w l es
  inj : ∀ b b' k k' l l', H b = some k → H b' = some k' → k.mine = true → k'.mine = true → b ≠ b' → μ b = some l → μ b' = some l' → l.blk ≠ l'.blk
  far : ∀ k, F k → k < w.heap.size
  base_le : base ≤ w.heap.size

theorem HR.toF {μ : Mu} {H : Heap} {w : World} (h : HR base F μ H w) : HRf base F μ (fun b => H[b]?) w := ⟨h.own, h.ro, h.maps, h.inj, h.far, h.base_le⟩

theorem HRf.mine_lt {μ : Mu} {H : Nat → Option Blk} {w : World} (h : HRf base F μ H w) {b : Nat} {k : Blk} {l : Loc} (hb : H b = some k) (hk : k.mine = true) (hl : μ b = some l) : l.blk < w.heap.size ∧ base ≤ l.blk ∧ ¬ F l.blk := by
  cases k with
  | row sz cs own live =>
    simp [Blk.mine] at hk
    obtain ⟨rfl, rfl⟩ := hk
    obtain ⟨_, a, c, d⟩ := h.own b sz cs l hb hl
    exact ⟨d.lt, a, c⟩
  | map es =>
    obtain ⟨a, c, d⟩ := h.maps b es l hb hl
    exact ⟨d.lt, a, c⟩

theorem Blk.live_of_mine {k : Blk} (h : k.mine = true) : k.live = true := by
  cases k with
  | row sz cs own live => simp [Blk.mine] at h; exact h.2
  | map es => rfl

def Sub (μ : Mu) (H : Heap) (hc : Nat → Option Blk) : Prop := ∀ b x, H[b]? = some x → x.live = true → μ b ≠ none → hc b = some x

theorem HRf.toHR {μ : Mu} {H : Heap} {hc : Nat → Option Blk} {w : World} (h : HRf base F μ hc w) (hs : Sub μ H hc) : HR base F μ H w where
  own b sz cs l hb hl := h.own b sz cs l (hs b _ hb rfl (by rw [hl]; simp)) hl
  ro b sz cs l hb hl := h.ro b sz cs l (hs b _ hb rfl (by rw [hl]; simp)) hl
  maps b es l hb hl := h.maps b es l (hs b _ hb rfl (by rw [hl]; simp)) hl
  inj b b' k k' l l' hb hb' hk hk' hne hl hl' := h.inj b b' k k' l l' (hs b _ hb (Blk.live_of_mine hk) (by rw [hl]; simp)) (hs b' _ hb' (Blk.live_of_mine hk') (by rw [hl']; simp)) hk hk' hne hl hl'
  far := h.far
  base_le := h.base_le

/-- The machine's blocks that must stay as they are while an operation runs. -/
def Guarded (F : Nat → Prop) (μ : Mu) (hc : Nat → Option Blk) (Hb : Heap) (k : Nat) : Prop :=
  F k ∨ ∃ b x l, hc b = some x ∧ x.mine = true ∧ μ b = some l ∧ l.blk = k ∧ ¬ ∃ y, Hb[b]? = some y ∧ y.live = true

theorem HRf.guarded {μ : Mu} {Hb : Heap} {hc : Nat → Option Blk} {w : World} (h : HRf base F μ hc w) (hs : Sub μ Hb hc) : HR base (Guarded F μ hc Hb) μ Hb w := by
  have h0 := h.toHR hs
  have not : ∀ {b : Nat} {x : Blk} {l : Loc}, Hb[b]? = some x → x.mine = true → μ b = some l → ¬ F l.blk → ¬ Guarded F μ hc Hb l.blk := by
    rintro b x l hb hx hl hF (q | ⟨b2, x2, l2, h1, h2, h3, h4, h5⟩)
    · exact hF q
    · have hne : b ≠ b2 := by
        rintro rfl
        exact h5 ⟨x, hb, Blk.live_of_mine hx⟩
      exact h.inj b b2 x x2 l l2 (hs b _ hb (Blk.live_of_mine hx) (by rw [hl]; simp)) h1 hx h2 hne hl h3 h4.symm
  refine ⟨?_, h0.ro, ?_, h0.inj, ?_, h0.base_le⟩
  · intro b sz cs l hb hl
    obtain ⟨a, c, d, e⟩ := h0.own b sz cs l hb hl
    exact ⟨a, c, not hb rfl hl d, e⟩
  · intro b es l hb hl
    obtain ⟨a, c, d⟩ := h0.maps b es l hb hl
    exact ⟨a, not hb rfl hl c, d⟩
  · rintro k (q | ⟨b2, x2, l2, h1, h2, h3, rfl, h5⟩)
    · exact h.far k q
    · exact (h.mine_lt h1 h2 h3).1

/-- The blocks behind an operation. -/
def behind (hc : Nat → Option Blk) (Hb Ha : Heap) : Nat → Option Blk := fun b =>
  if (∃ y, Hb[b]? = some y ∧ y.live = true) ∨ (Hb.length ≤ b ∧ b < Ha.length) then Ha[b]? else hc b

open Classical in
theorem HRf.step {μ μ' : Mu} {Hb Ha : Heap} {hc : Nat → Option Blk} {w w' : World} (h : HRf base F μ hc w) (hs : Sub μ Hb hc) (g : Goes base (Guarded F μ hc Hb) μ μ' Hb Ha w w') (hf : Free μ Hb.length Ha.length) :
    HRf base F μ' (behind hc Hb Ha) w' ∧ Fr base F w w' := by
  have hfr : Fr base F w w' := g.fr.weaken fun k hk => .inl hk
  have hF' : ∀ {k : Nat}, ¬ Guarded F μ hc Hb k → ¬ F k := fun h q => h (.inl q)
  refine ⟨?_, hfr⟩
  have key : ∀ {b : Nat} {x : Blk} {l : Loc}, behind hc Hb Ha b = some x → μ' b = some l →
      Ha[b]? = some x ∨ (hc b = some x ∧ μ b = some l ∧ ¬ ∃ y, Hb[b]? = some y ∧ y.live = true) := by
    intro b x l hb hl
    unfold behind at hb
    split at hb
    · exact .inl hb
    · rename_i hno
      simp only [not_or] at hno
      refine .inr ⟨hb, ?_, hno.1⟩
      rw [← g.same b (by have := hno.2; omega)]
      exact hl
  have kept : ∀ {b : Nat} {x : Blk} {l : Loc}, hc b = some x → x.mine = true → μ b = some l → (¬ ∃ y, Hb[b]? = some y ∧ y.live = true) → Guarded F μ hc Hb l.blk := fun h1 h2 h3 h4 => .inr ⟨_, _, _, h1, h2, h3, rfl, h4⟩
  refine ⟨?_, ?_, ?_, ?_, ?_, g.hr.base_le⟩
  · intro b sz cs l hb hl
    rcases key hb hl with hb | ⟨hb, hl, hno⟩
    · obtain ⟨a, c, d, e⟩ := g.hr.own b sz cs l hb hl
      exact ⟨a, c, hF' d, e⟩
    · obtain ⟨a, c, d, e⟩ := h.own b sz cs l hb hl
      exact ⟨a, c, d, e.mono g.le (g.fr.block _ (.inr (kept hb rfl hl hno)))⟩
  · intro b sz cs l hb hl
    rcases key hb hl with hb | ⟨hb, hl, hno⟩
    · exact g.hr.ro b sz cs l hb hl
    · obtain ⟨a, c, d⟩ := h.ro b sz cs l hb hl
      exact ⟨a, c, fun i v hv => let ⟨v', x, y⟩ := d i v hv; ⟨v', (cell_of_heap (g.fr.block _ (.inl c))).trans x, y.mono g.le⟩⟩
  · intro b es l hb hl
    rcases key hb hl with hb | ⟨hb, hl, hno⟩
    · obtain ⟨a, c, d⟩ := g.hr.maps b es l hb hl
      exact ⟨a, hF' c, d⟩
    · obtain ⟨a, c, d⟩ := h.maps b es l hb hl
      exact ⟨a, c, d.mono g.le (g.fr.block _ (.inr (kept hb rfl hl hno)))⟩
  · intro b b' k k' l l' hb hb' hk hk' hne hl hl'
    rcases key hb hl with hb | ⟨hb, hl2, hno⟩ <;> rcases key hb' hl' with hb' | ⟨hb', hl2', hno'⟩
    · exact g.hr.inj b b' k k' l l' hb hb' hk hk' hne hl hl'
    · intro q
      exact (g.hr.mine_lt hb hk hl).2.2 (q ▸ kept hb' hk' hl2' hno')
    · intro q
      exact (g.hr.mine_lt hb' hk' hl').2.2 (q ▸ kept hb hk hl2 hno)
    · exact h.inj b b' k k' l l' hb hb' hk hk' hne hl2 hl2'
  · intro k hk
    exact g.hr.far k (.inl hk)

/-! ### What is checked of a region -/

def readsOf (ops : Array Oper) (o : Oper) : List Tmp :=
  (o.op.operands.toList.filterMap fun x => match x with | .tmp t => some t | _ => none) ++ (match o.guard with | some (j, _) => ((ops[j]?).bind (·.dst)).toList | none => [])

def namesOf (ops : Array Oper) (o : Oper) : List Tmp := o.dst.toList ++ readsOf ops o

/-- Does an operation wait for another one? -/
def reach (ops : Array Oper) : Nat → Nat → Nat → Bool
  | 0, _, _ => false
  | n + 1, i, j => match ops[j]? with
    | none => false
    | some o => o.after.any fun e => Region.binds .any e && (e.on == i || reach ops n i e.on)

def writer (o : Op) : Bool := strong o || isAppend o

def clash (ops : Array Oper) (oi oj : Oper) : Bool :=
  oi.dst.toList.any (fun d => (namesOf ops oj).contains d) || oj.dst.toList.any (fun d => (namesOf ops oi).contains d) || (!pureOp oi.op && writer oj.op) || (strong oi.op && !pureOp oj.op)

def drawChk (ops : Array Oper) (ord : List Nat) : Bool :=
  ord.length == ops.size && (List.range ops.size).all (fun i => ord.contains i) && ord.all (fun i => decide (i < ops.size)) && decide ord.Nodup &&
  (List.range ops.size).all (fun q => (List.range q).all fun p => match ord[p]?, ord[q]? with
    | some i, some j => match ops[i]?, ops[j]? with
      | some oi, some oj => !clash ops oi oj || reach ops ops.size i j
      | _, _ => false
    | _, _ => false) &&
  (List.range ops.size).all (fun q => match ord[q]? with
    | some j => match ops[j]? with
      | some o => o.after.all fun e => !Region.binds .any e || (ord.take q).contains e.on
      | none => false
    | none => false)

structure Chk (ops : Array Oper) (ord : List Nat) : Prop where
  len : ord.length = ops.size
  cover : ∀ i : Nat, i < ops.size → ∃ p, p < ops.size ∧ ord[p]? = some i
  lt : ∀ p i : Nat, ord[p]? = some i → i < ops.size
  inj : ∀ p q i : Nat, ord[p]? = some i → ord[q]? = some i → p = q
  clash : ∀ (p q i j : Nat) (oi oj : Oper), p < q → ord[p]? = some i → ord[q]? = some j → ops[i]? = some oi → ops[j]? = some oj → C.clash ops oi oj = true → reach ops ops.size i j = true
  edge : ∀ (q j : Nat) (o : Oper) (e : Edge), ord[q]? = some j → ops[j]? = some o → e ∈ o.after → Region.binds .any e = true → ∃ p, p < q ∧ ord[p]? = some e.on

theorem drawChk_spec {ops : Array Oper} {ord : List Nat} (h : drawChk ops ord = true) : Chk ops ord := by
  unfold drawChk at h
  simp only [Bool.and_eq_true, beq_iff_eq, List.all_eq_true, List.mem_range, decide_eq_true_eq, List.contains_iff_mem] at h
  obtain ⟨⟨⟨⟨⟨h1, h2⟩, h3⟩, h4⟩, h5⟩, h6⟩ := h
  have lt : ∀ p i, ord[p]? = some i → p < ops.size := fun p i hp => by rw [← h1]; exact (List.getElem?_eq_some_iff.1 hp).1
  refine ⟨h1, ?_, ?_, ?_, ?_, ?_⟩
  · intro i hi
    obtain ⟨p, hp⟩ := List.getElem?_of_mem (h2 i hi)
    exact ⟨p, lt p i hp, hp⟩
  · intro p i hp
    exact h3 i (List.mem_of_getElem? hp)
  · intro p q i hp hq
    exact (List.getElem?_inj (List.getElem?_eq_some_iff.1 hp).1 h4).1 (hp.trans hq.symm)
  · intro p q i j oi oj hpq hp hq hi hj hc
    have := h5 q (lt q j hq) p hpq
    rw [hp, hq] at this
    simp only [hi, hj, hc, Bool.not_true, Bool.false_or] at this
    exact this
  · intro q j o e hq hj he hb
    have := h6 q (lt q j hq)
    rw [hq] at this
    simp only [hj, Array.all_eq_true_iff_forall_mem] at this
    have := this e he
    simp only [hb, Bool.not_true, Bool.false_or, List.contains_iff_mem] at this
    obtain ⟨p, hp⟩ := List.getElem?_of_mem this
    rw [List.getElem?_take] at hp
    split at hp
    · rename_i hlt; exact ⟨p, hlt, hp⟩
    · simp at hp

end Go.Proofs.Ytdhbclplondmjaa.C

end

section
/- Drawn regions, third part: whatever order is drawn. -/
set_option linter.unusedVariables false
set_option linter.unusedSimpArgs false
namespace Go.Proofs.Ytdhbclplondmjaa.C
open Go.RowKit

variable {P : Program} {T : Tab} {base : Nat} {F : Nat → Prop}

/-- The states of an evaluation, one by one. -/
theorem trace {call : CallF} {d : Bool} {ops : Array Oper} : ∀ {is : List Nat} {s s1 : List Value} {H H1 : Heap}, evalIdx T call d ops is s H = some (s1, H1) →
    ∃ st : Nat → List Value × Heap, st 0 = (s, H) ∧ st is.length = (s1, H1) ∧ ∀ p i, is[p]? = some i → ∃ o, ops[i]? = some o ∧ evalOne T call d ops o (st p).1 (st p).2 = some (st (p + 1))
  | [], s, s1, H, H1, h => by
    simp only [evalIdx, Option.some.injEq, Prod.mk.injEq] at h
    obtain ⟨rfl, rfl⟩ := h
    exact ⟨fun _ => (s, H), rfl, rfl, fun p i hp => by simp at hp⟩
  | i :: is, s, s1, H, H1, h => by
    unfold evalIdx at h
    split at h
    · simp at h
    · rename_i o ho
      split at h
      · rename_i s2 H2 e
        obtain ⟨st, h0, hn, hst⟩ := trace h
        refine ⟨fun p => match p with | 0 => (s, H) | p + 1 => st p, rfl, hn, fun p j hp => ?_⟩
        cases p with
        | zero =>
          simp only [List.getElem?_cons_zero, Option.some.injEq] at hp
          subst hp
          exact ⟨o, ho, by simp only [h0]; exact e⟩
        | succ p =>
          simp only [List.getElem?_cons_succ] at hp
          exact hst p j hp
      · simp at h

/-- Only what an operation looks at. -/
def only (ts : List Tmp) (s : List Value) : List Value := s.mapIdx fun i v => if ts.contains i then v else undef

theorem only_getD (ts : List Tmp) (s : List Value) (t : Nat) : (only ts s).getD t undef = if ts.contains t then s.getD t undef else undef := by
  simp only [only, List.getD_eq_getElem?_getD, List.getElem?_mapIdx]
  cases h : s[t]? <;> simp

theorem only_length (ts : List Tmp) (s : List Value) : (only ts s).length = s.length := by simp [only]

theorem reads_op {ops : Array Oper} {o : Oper} {t : Tmp} (h : Operand.tmp t ∈ o.op.operands.toList) : t ∈ readsOf ops o := by
  unfold readsOf
  refine List.mem_append.2 (.inl ?_)
  rw [List.mem_filterMap]
  exact ⟨_, h, rfl⟩

theorem only_ev {ops : Array Oper} {o : Oper} (s : List Value) : ∀ x ∈ o.op.operands.toList, ev (only (readsOf ops o) s) x = ev s x := by
  intro x hx
  cases x with
  | tmp t =>
    simp only [ev]
    rw [only_getD, if_pos (by simpa using reads_op hx)]
  | _ => rfl

theorem only_guard {ops : Array Oper} {o : Oper} (s : List Value) : guardC ops o (only (readsOf ops o) s) = guardC ops o s := by
  unfold guardC
  cases hg : o.guard with
  | none => rfl
  | some g =>
    obtain ⟨j, want⟩ := g
    simp only
    cases hd : (ops[j]?).bind (·.dst) with
    | none => rfl
    | some t =>
      simp only
      rw [only_getD, if_pos]
      simp [readsOf, hg, hd]

theorem inPlace_congr {s s' : List Value} {o : Op} (h : ∀ x ∈ o.operands.toList, ev s x = ev s' x) : inPlace s o = inPlace s' o := by
  cases o <;> try rfl
  rename_i c
  obtain ⟨callee, args, ats⟩ := c
  cases callee <;> try rfl
  rename_i b
  cases b <;> try rfl
  simp only [inPlace]
  rw [map_ev_congr (s := s) (s' := s') (xs := args.toList) fun x hx => h x (by simp [Op.operands, Call.operands] at hx ⊢; exact hx)]

theorem put_getD (s : List Value) (d : Option Tmp) (v : Value) (t : Nat) : (put s d v).getD t undef = if d = some t then (if t < s.length then v else undef) else s.getD t undef := by
  cases d with
  | none => simp [put]
  | some d =>
    simp only [put, List.getD_eq_getElem?_getD, List.getElem?_set]
    by_cases h : d = t
    · subst h
      simp only [if_true]
      by_cases hl : d < s.length <;> simp [hl]
    · rw [if_neg h, if_neg (by simpa using h)]

theorem put_length (s : List Value) (d : Option Tmp) (v : Value) : (put s d v).length = s.length := by cases d <;> simp [put]

theorem aput_getD (a : Act) (d : Option Tmp) (v : Value) (t : Nat) : (a.put d v).tmps.getD t undef = if d = some t then (if t < a.tmps.size then v else undef) else a.tmps.getD t undef := by
  cases d with
  | none => simp [Act.put]
  | some d =>
    simp only [Act.put, Array.getD_eq_getD_getElem?, Array.getElem?_setIfInBounds]
    by_cases h : d = t
    · subst h
      simp only [if_true]
      by_cases hl : d < a.tmps.size <;> simp [hl]
    · rw [if_neg h, if_neg (by simpa using h)]

theorem aput_size (a : Act) (d : Option Tmp) (v : Value) : (a.put d v).tmps.size = a.tmps.size := by cases d <;> simp [Act.put]

/-- What holds while a region is under way. -/
structure Mid (base : Nat) (F : Nat → Prop) (ops : Array Oper) (ord : List Nat) (st : Nat → List Value × Heap) (μ0 : Mu) (a0 : Act) (w0 : World) (listed : Array Bool) (a : Act) (w : World) (μ : Mu) (hc : Nat → Option Blk) : Prop where
  size : listed.size = ops.size
  closed : ∀ i o e, listed.getD i false = true → ops[i]? = some o → e ∈ o.after → Region.binds .any e = true → listed.getD e.on false = true
  defers : a.defers = a0.defers
  tmps : a.tmps.size = (st 0).1.length
  slots : ∀ t p, p ≤ ops.size → (∀ q i o, ord[q]? = some i → ops[i]? = some o → o.dst = some t → (listed.getD i false = true ↔ q < p)) → VR μ ((st p).1.getD t undef) (a.tmps.getD t undef)
  mem : HRf base F μ hc w
  subs : ∀ p, p ≤ ops.size → (∀ q i o, ord[q]? = some i → ops[i]? = some o → q < p → strong o.op = true → listed.getD i false = true) →
    (∀ q i o, ord[q]? = some i → ops[i]? = some o → p ≤ q → writer o.op = true → listed.getD i false = false) → Sub μ (st p).2 hc
  made : ∀ b, (st 0).2.length ≤ b → b < (st ops.size).2.length → μ b ≠ none → ∃ p i, ord[p]? = some i ∧ listed.getD i false = true ∧ (st p).2.length ≤ b ∧ b < (st (p + 1)).2.length
  le : MuLe μ0 μ
  same : ∀ b, (b < (st 0).2.length ∨ (st ops.size).2.length ≤ b) → μ b = μ0 b
  fr : Fr base F w0 w

theorem reach_listed {ops : Array Oper} {listed : Array Bool} (hc : ∀ i o e, listed.getD i false = true → ops[i]? = some o → e ∈ o.after → Region.binds .any e = true → listed.getD e.on false = true) :
    ∀ {n i j : Nat}, reach ops n i j = true → (∀ o e, ops[j]? = some o → e ∈ o.after → Region.binds .any e = true → listed.getD e.on false = true) → listed.getD i false = true
  | 0, _, _, h, _ => by simp [reach] at h
  | n + 1, i, j, h, hj => by
    unfold reach at h
    split at h
    · simp at h
    · rename_i o ho
      obtain ⟨e, he, hb⟩ := Array.any_eq_true'.1 h
      simp only [Bool.and_eq_true, Bool.or_eq_true, beq_iff_eq] at hb
      have hl := hj o e ho he hb.1
      rcases hb.2 with rfl | hr
      · exact hl
      · exact reach_listed hc hr fun o2 e2 ho2 he2 hb2 => hc e.on o2 e2 hl ho2 he2 hb2

end Go.Proofs.Ytdhbclplondmjaa.C

end
