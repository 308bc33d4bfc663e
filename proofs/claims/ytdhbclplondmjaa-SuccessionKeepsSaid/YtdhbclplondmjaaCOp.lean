/- Every operation that makes no call. -/
import Derived.Test.YtdhbclplondmjaaCCopy
import Derived.Orders
set_option linter.unusedVariables false
set_option linter.unusedSimpArgs false
namespace Go.Proofs.Ytdhbclplondmjaa.C
open Go.RowKit

variable {P : Program} {T : Tab} {μ : Mu} {base : Nat} {F : Nat → Prop} {H : Heap} {w : World}

/-- What an operation's answer must be. -/
def Ans (ν : Mu) (v : Value) (n : Next) : Prop := (n = .skip ∧ v = undef) ∨ ∃ v', n = .value v' ∧ VR ν v v'

theorem Step.map {α β : Type} {H' : Heap} {r : Result α} {R : Mu → α → Prop} {s : Result β} {S : Mu → β → Prop} (h : Step base F μ H H' w r R) (f : α → β) (hs : ∀ a w', r = .ok a w' → s = .ok (f a) w') (hR : ∀ ν a, R ν a → S ν (f a)) :
    Step base F μ H H' w s S := by
  obtain ⟨a, w', μ', e, h1, h2, h3, h4, h5⟩ := h
  exact ⟨f a, w', μ', hs a w' e, h1, h2, h3, h4, hR _ _ h5⟩

theorem Step.val {H' : Heap} {e : Sem Value} {v : Value} (h : Step base F μ H H' w (e.run P w) fun ν a => VR ν v a) : Step base F μ H H' w ((do pure (Next.value (← e)) : Sem Next).run P w) fun ν n => Ans ν v n :=
  h.map Next.value (fun a w' he => by simp [he]) fun ν a ha => .inr ⟨a, rfl, ha⟩

theorem Step.pure_val (h : HR base F μ H w) {e : Sem Value} {v : Value} (he : ∃ v', e.run P w = .ok v' w ∧ VR μ v v') : Step base F μ H H w ((do pure (Next.value (← e)) : Sem Next).run P w) fun ν n => Ans ν v n := by
  obtain ⟨v', he, hv⟩ := he
  exact Step.same h (a := Next.value v') (by simp [he]) (.inr ⟨v', rfl, hv⟩)

theorem VRs.of_map {μ : Mu} {ρ : Operand → Value} {s : List Value} (hev : ∀ x, VR μ (ev s x) (ρ x)) : ∀ xs : List Operand, VRs μ (xs.map (ev s)) (xs.map ρ)
  | [] => .nil
  | x :: xs => .cons (hev x) (VRs.of_map hev xs)

theorem VRo.of_map {μ : Mu} {ρ : Operand → Value} {s : List Value} (hev : ∀ x, VR μ (ev s x) (ρ x)) (x : Option Operand) : VRo μ (x.map (ev s)) (x.map ρ) := by
  cases x <;> simp [VRo, hev]

theorem vBox_len {e : TypeId} {v x : Value} {H' : Heap} (h : vBox T H e v = some (x, H')) : H'.length = H.length + 1 := by
  unfold vBox newRow at h
  split at h
  · simp at h
  · rw [Option.map_eq_some_iff] at h
    obtain ⟨i, hi, h⟩ := h
    simp only [Prod.mk.injEq] at h
    rw [← h.2]; simp

theorem vBuildSlice_len {t : TypeId} {n : Nat} {parts : List (Nat × Value)} {x : Value} {H' : Heap} (h : vBuildSlice T H t n parts = some (x, H')) : H'.length = H.length + 1 := by
  unfold vBuildSlice at h
  simp only [Option.bind_eq_bind, Option.bind_eq_some_iff] at h
  obtain ⟨i, hi, h⟩ := h
  split at h
  · simp only [Option.bind_eq_some_iff] at h
    obtain ⟨ei, hei, h⟩ := h
    split at h
    · simp at h
    · simp only [Option.bind_eq_some_iff] at h
      obtain ⟨cs, hcs, h⟩ := h
      simp only [Option.some.injEq, Prod.mk.injEq] at h
      rw [← h.2]; simp
  · simp at h

theorem vMakeSlice_len {t : TypeId} {n c : Value} {x : Value} {H' : Heap} (h : vMakeSlice T H t n c = some (x, H')) : H'.length = H.length + 1 := by
  unfold vMakeSlice at h
  simp only [Option.bind_eq_bind, Option.bind_eq_some_iff] at h
  obtain ⟨i, hi, h⟩ := h
  split at h
  · simp only [Option.bind_eq_some_iff] at h
    obtain ⟨ei, hei, h⟩ := h
    split at h
    · simp only [Option.some.injEq, Prod.mk.injEq] at h
      rw [← h.2]; simp
    · simp at h
  · simp at h

theorem vBytes0_len {a b : TypeId} {v x : Value} {H' : Heap} (h : vBytes0 T H a b v = some (x, H')) : H'.length = H.length + 1 := by
  unfold vBytes0 at h
  split at h
  · split at h
    · split at h
      · split at h
        · simp only [Option.some.injEq, Prod.mk.injEq] at h
          rw [← h.2]; simp
        · simp at h
      · simp at h
    · simp at h
  · simp at h

theorem vBytes_len {a b : TypeId} {v x : Value} {H' : Heap} (h : vBytes T H a b v = some (x, H')) : H.length ≤ H'.length := by
  unfold vBytes at h
  split at h
  · rename_i r hr
    simp only [Option.some.injEq] at h
    subst h
    have := vBytes0_len hr
    omega
  · rw [Option.map_eq_some_iff] at h
    obtain ⟨u, _, h⟩ := h
    simp only [Prod.mk.injEq] at h
    rw [← h.2]
    exact Nat.le_refl _

theorem vMapUpdate_len {t : TypeId} {m k v : Value} {H' : Heap} (h : vMapUpdate T H t m k v = some H') : H'.length = H.length := by
  unfold vMapUpdate at h
  split at h
  · split at h
    · rw [Option.map_eq_some_iff] at h
      obtain ⟨es', _, h⟩ := h
      rw [← h]; simp
    · simp at h
  · simp at h

theorem writeCells_len {b o : Nat} {vs : List Value} {H' : Heap} (h : writeCells H b o vs = some H') : H'.length = H.length := by
  unfold writeCells at h
  split at h
  · split at h
    · split at h <;> simp at h
      rw [← h]; simp
    · simp at h
  · simp at h

theorem vCopy_len {t : TypeId} {x y r : Value} {H' : Heap} (h : vCopy T H t x y = some (r, H')) : H'.length = H.length := by
  unfold vCopy at h
  split at h
  · split at h
    · split at h
      · simp only [Option.some.injEq, Prod.mk.injEq] at h; rw [← h.2]
      · split at h
        · simp only [Option.bind_eq_some_iff, Option.map_eq_some_iff] at h
          obtain ⟨cs, hc, H1, h1, h⟩ := h
          simp only [Prod.mk.injEq] at h
          rw [← h.2]; exact writeCells_len h1
        · simp at h
    · simp at h
  · simp at h

theorem vClear_len {t : TypeId} {x : Value} {H' : Heap} (h : vClear T H t x = some H') : H'.length = H.length := by
  unfold vClear at h
  split at h
  · split at h
    · simp only [Option.some.injEq] at h; rw [h]
    · split at h
      · exact writeCells_len h
      · simp at h
  · simp at h

theorem vAppend_len {t : TypeId} {x y r : Value} {H' : Heap} (h : vAppend T H t x y = some (r, H')) : H.length ≤ H'.length := by
  unfold vAppend at h
  simp only [Option.bind_eq_bind, Option.bind_eq_some_iff] at h
  obtain ⟨i, hi, h⟩ := h
  split at h
  · simp only [Option.bind_eq_some_iff] at h
    obtain ⟨ei, hei, h⟩ := h
    split at h
    · simp only [Option.bind_eq_some_iff] at h
      obtain ⟨new, hnew, h⟩ := h
      split at h
      · split at h
        · split at h <;> (simp only [Option.some.injEq, Prod.mk.injEq] at h; rw [← h.2]; simp)
        · split at h
          · split at h
            · split at h
              · split at h
                · simp only [Option.some.injEq, Prod.mk.injEq] at h; rw [← h.2]; simp
                · simp at h
              · simp at h
            · split at h
              · split at h
                · split at h
                  · rw [Option.map_eq_some_iff] at h
                    obtain ⟨H2, hH2, h⟩ := h
                    simp only [Prod.mk.injEq] at h
                    rw [← h.2, writeCells_len hH2]; exact Nat.le_refl _
                  · simp at h
                · simp at h
              · simp only [Option.bind_eq_some_iff] at h
                obtain ⟨old, hold, h⟩ := h
                simp only [Option.some.injEq, Prod.mk.injEq] at h; rw [← h.2]; simp
          · simp at h
      · simp at h
    · simp at h
  · simp at h

theorem map_arr {α β : Type} (f : α → β) (a : Array α) : (a.toList.map f).toArray = a.map f := by
  apply Array.ext'; simp

theorem VRs.of_parts {μ : Mu} {ρ : Operand → Value} {s : List Value} (hev : ∀ x, VR μ (ev s x) (ρ x)) : ∀ ps : List (Nat × Operand), VRs μ ((ps.map fun p => (p.1, ev s p.2)).map (·.2)) ((ps.map fun p => (p.1, ρ p.2)).map (·.2))
  | [] => .nil
  | p :: ps => .cons (hev p.2) (VRs.of_parts hev ps)

theorem vBuiltin_ok (ag : Agree P T) (h : HR base F μ H w) {b : Builtin} {xs xs' : List Value} {ts : List TypeId} {ty : TypeId} {cs : Array Bool} {v : Value} {H' : Heap} (hfree : H.length < H'.length → μ H.length = none) (hx : VRs μ xs xs') (hb : vBuiltin T H b xs ts = some (v, H')) :
    Step base F μ H H' w ((Go.builtin b ts.toArray ty cs xs'.toArray).run P w) fun ν n => Ans ν v n := by
  unfold vBuiltin at hb
  split at hb
  · rename_i x t
    rw [Option.map_eq_some_iff] at hb
    obtain ⟨u, hu, hb⟩ := hb
    simp only [Prod.mk.injEq] at hb
    obtain ⟨rfl, rfl⟩ := hb
    cases hx with
    | cons hx hn =>
      cases hn
      obtain ⟨h1, h2⟩ := vLen_ok (P := P) (ts := #[t]) (ty := ty) ag rfl hx hu w
      exact Step.pure_val h ⟨_, h1, h2⟩
  · rename_i k x k2 y
    simp only [Option.some.injEq, Prod.mk.injEq] at hb
    obtain ⟨rfl, rfl⟩ := hb
    cases hx with
    | cons hx hn =>
      cases hn with
      | cons hy hn =>
        cases hn; cases hx; cases hy
        refine Step.pure_val h ⟨_, ?_, .int _ _⟩
        simp [Builtin.max_, Builtin.max2]
  · rename_i k x k2 y
    simp only [Option.some.injEq, Prod.mk.injEq] at hb
    obtain ⟨rfl, rfl⟩ := hb
    cases hx with
    | cons hx hn =>
      cases hn with
      | cons hy hn =>
        cases hn; cases hx; cases hy
        refine Step.pure_val h ⟨_, ?_, .int _ _⟩
        simp [Builtin.min_, Builtin.min2]
  · rename_i x t
    rw [Option.map_eq_some_iff] at hb
    obtain ⟨H1, hH, hb⟩ := hb
    simp only [Prod.mk.injEq] at hb
    obtain ⟨rfl, rfl⟩ := hb
    cases hx with
    | cons hx hn =>
      cases hn
      exact Step.val (vClear_ok ag h hx hH).2
  · rename_i x y t u
    split at hb
    · rename_i htu
      subst htu
      cases hx with
      | cons hx hn =>
        cases hn with
        | cons hy hn =>
          cases hn
          exact Step.val (vAppend_ok (ty := ty) ag h hfree hx hy hb)
    · simp at hb
  · rename_i x y t u
    cases hx with
    | cons hx hn =>
      cases hn with
      | cons hy hn =>
        cases hn
        exact Step.val (vCopy_ok ag h hx hy hb)
  · simp at hb

theorem opEval_ok (ag : Agree P T) (h : HR base F μ H w) {s : List Value} {ρ : Operand → Value} (hev : ∀ x, VR μ (ev s x) (ρ x)) {o : Oper} {v : Value} {H' : Heap} (hfree : H.length < H'.length → μ H.length = none) (hb : opEval T s H o.op = some (v, H')) :
    Step base F μ H H' w ((execOp ρ o).run P w) fun ν n => Ans ν v n := by
  have one : ∀ {x : Option Value} {e : Sem Value}, x.map (fun v => (v, H)) = some (v, H') → (∀ u, x = some u → ∃ v', e.run P w = .ok v' w ∧ VR μ u v') → Step base F μ H H' w ((do pure (Next.value (← e)) : Sem Next).run P w) fun ν n => Ans ν v n := by
    intro x e hm hu
    rw [Option.map_eq_some_iff] at hm
    obtain ⟨u, hx, hm⟩ := hm
    simp only [Prod.mk.injEq] at hm
    obtain ⟨rfl, rfl⟩ := hm
    exact Step.pure_val h (hu _ hx)
  unfold opEval at hb
  unfold execOp
  cases hop : o.op <;> simp only [hop] at hb ⊢
  case move x =>
    simp only [Option.some.injEq, Prod.mk.injEq] at hb
    obtain ⟨rfl, rfl⟩ := hb
    exact Step.same h (a := Next.value (ρ x)) (by simp) (.inr ⟨_, rfl, hev x⟩)
  case assign x =>
    simp only [Option.some.injEq, Prod.mk.injEq] at hb
    obtain ⟨rfl, rfl⟩ := hb
    exact Step.same h (a := Next.value (ρ x)) (by simp) (.inr ⟨_, rfl, hev x⟩)
  case pick c a b =>
    split at hb <;> simp only [Option.some.injEq, Prod.mk.injEq, reduceCtorEq] at hb
    rename_i t ht
    obtain ⟨rfl, rfl⟩ := hb
    have hc := hev c
    rw [ht] at hc
    generalize hρ : ρ c = cv at hc
    cases hc
    refine Step.same h (a := Next.value (if t then ρ a else ρ b)) ?_ (.inr ⟨_, rfl, ?_⟩)
    · cases t <;> simp [hρ, asBool]
    · cases t <;> simp [hev]
  case alloc e =>
    rw [Option.bind_eq_some_iff] at hb
    obtain ⟨i, hi, hb⟩ := hb
    have ok := ag.ty e i hi
    have hz : VRs μ (cellsOf i.zero) (cellsOf i.zero) := VRs.refl_of fun u hu => plain_vr μ (ok.plains u hu)
    unfold vBox newRow at hb
    split at hb
    · simp at hb
    · rw [hi] at hb
      simp only [Option.map_some, Option.some.injEq, Prod.mk.injEq] at hb
      obtain ⟨rfl, rfl⟩ := hb
      replace hfree := hfree (by simp)
      refine Step.val (step_newRow h hfree hz i.size e (a := .pointer (some ⟨w.heap.size, 0, none⟩)) ?_ ?_)
      · have : i.zero.cells = (cellsOf i.zero).toArray := by rw [← cellsOf_cells]
        simp [Instr.alloc, ok.zero w, newVar, Go.newRow, this]
      · intro ν hm hl
        simpa using VR.ptr (o := 0) hl
  case box e x => exact Step.val (vBox_ok ag h (hfree (by rw [vBox_len hb]; omega)) (hev x) hb)
  case build t parts =>
    refine one hb fun u hu => ?_
    have := vBuild_ok (P := P) (parts' := parts.toList.map fun p => (p.1, ρ p.2)) ag hu (by simp) (VRs.of_parts hev parts.toList) w
    rw [map_arr] at this
    exact this
  case buildSlice t n parts =>
    refine Step.val ?_
    have := vBuildSlice_ok (P := P) (parts' := parts.toList.map fun p => (p.1, ρ p.2)) ag h (hfree (by rw [vBuildSlice_len hb]; omega)) hb (by simp) (VRs.of_parts hev parts.toList)
    rw [map_arr] at this
    exact this
  case load t a => exact one hb fun u hu => vLoad_ok ag h (hev a) hu
  case store t a x =>
    rw [Option.map_eq_some_iff] at hb
    obtain ⟨H1, hH, hb⟩ := hb
    simp only [Prod.mk.injEq] at hb
    obtain ⟨rfl, rfl⟩ := hb
    obtain ⟨_, a', w', μ', e, h1, h2, h3, h4, h5⟩ := vStore_ok ag h (hev a) (hev x) hH
    exact ⟨.skip, w', μ', by simp [e], h1, h2, h3, h4, .inl ⟨rfl, rfl⟩⟩
  case nilCheck x =>
    rw [Option.map_eq_some_iff] at hb
    obtain ⟨u, hx, hb⟩ := hb
    simp only [Prod.mk.injEq] at hb
    obtain ⟨rfl, rfl⟩ := hb
    have hs := vNilCheck_shape hx
    have hv := hev x
    rw [← hs] at hv
    refine Step.same h (a := Next.value (ρ x)) ?_ (.inr ⟨_, rfl, hv⟩)
    rw [hs] at hx
    unfold vNilCheck at hx
    rw [hs] at hv
    split at hx <;> simp at hx
    · rename_i a heq
      rw [heq] at hv
      generalize hρ : ρ x = y at hv
      cases hv
      simp
    · rename_i f a c heq
      rw [heq] at hv
      generalize hρ : ρ x = y at hv
      cases hv
      simp
    · rename_i t v heq
      rw [heq] at hv
      generalize hρ : ρ x = y at hv
      cases hv
      simp
  case binOp op t x y yt =>
    refine one hb fun u hu => ?_
    obtain ⟨h1, h2⟩ := binOp_ok ag (hev x) (hev y) hu x y w
    exact ⟨_, h1, h2⟩
  case unOp op t x =>
    refine one hb fun u hu => ?_
    obtain ⟨h1, h2⟩ := unOp_ok (P := P) (hev x) hu w
    exact ⟨_, h1, h2⟩
  case convert a b x =>
    split at hb
    · rename_i u hu
      simp only [Option.some.injEq, Prod.mk.injEq] at hb
      obtain ⟨rfl, rfl⟩ := hb
      obtain ⟨h1, h2⟩ := vConvert_ok ag (hev x) hu w
      exact Step.pure_val h ⟨_, h1, h2⟩
    · exact Step.val (vBytes_ok ag h hfree (hev x) hb)
  case makeMap t r =>
    cases r with
    | some r => simp at hb
    | none =>
      simp only [Option.some.injEq, Prod.mk.injEq] at hb
      obtain ⟨rfl, rfl⟩ := hb
      exact Step.val (vMakeMap_ok h (hfree (by simp)) t)
  case lookup t x k ok => exact one hb fun u hu => vLookup_ok ag h (hev x) (hev k) hu
  case mapUpdate t m k x =>
    rw [Option.map_eq_some_iff] at hb
    obtain ⟨H1, hH, hb⟩ := hb
    simp only [Prod.mk.injEq] at hb
    obtain ⟨rfl, rfl⟩ := hb
    obtain ⟨_, a', w', μ', e, h1, h2, h3, h4, h5⟩ := vMapUpdate_ok ag h (hev m) (hev k) (hev x) hH
    exact ⟨.skip, w', μ', by simp [e], h1, h2, h3, h4, .inl ⟨rfl, rfl⟩⟩
  case makeInterface t x => exact one hb fun u hu => vMakeIface_ok ag (hev x) hu w
  case makeFunc fn a c =>
    simp only [Option.some.injEq, Prod.mk.injEq] at hb
    obtain ⟨rfl, rfl⟩ := hb
    refine Step.pure_val h ⟨.func fn ((a.toList.map ρ).toArray) ((c.toList.map ρ).toArray), ?_, .func fn (VRs.of_map hev _) (VRs.of_map hev _)⟩
    simp [Instr.makeFunc, map_arr]
  case makeSlice t n c => exact Step.val (vMakeSlice_ok ag h (hfree (by rw [vMakeSlice_len hb]; omega)) (hev n) (hev c) hb)
  case slice t x lo hi mx => exact one hb fun u hu => sliceVal_ok ag h (hev x) (VRo.of_map hev lo) (VRo.of_map hev hi) (VRo.of_map hev mx) hu
  case fieldAddr t x f => exact one hb fun u hu => vFieldAddr_ok ag (hev x) hu w
  case field t x f => exact one hb fun u hu => vField_ok ag (hev x) hu w
  case indexAddr t x i => exact one hb fun u hu => indexAddr_ok ag h (hev x) (hev i) hu
  case index t x i =>
    refine one hb fun u hu => ?_
    obtain ⟨h1, h2⟩ := vIndex_ok (P := P) ag (hev x) (hev i) hu w
    exact ⟨_, h1, h2⟩
  case extract x i => exact one hb fun u hu => vExtract_ok (hev x) hu w
  case typeAssert x xt t ok =>
    cases ok
    · exact one hb fun u hu => vAssert_ok ag (hev x) hu w
    · simp at hb
  case call c =>
    obtain ⟨callee, args, ats⟩ := c
    cases callee <;> simp only [reduceCtorEq] at hb
    rename_i b
    have := fun cs => vBuiltin_ok (P := P) (ty := o.type) (cs := cs) ag h hfree (VRs.of_map hev args.toList) hb
    rw [map_arr] at this
    simp only [resolve, invoke, pure_bind]
    exact this _
  all_goals simp at hb

/-- Which operations may write. -/
def strong : Op → Bool
  | .store .. | .mapUpdate .. => true
  | .call { callee := .builtin .clear, .. } => true
  | .call { callee := .builtin .copy, .. } => true
  | _ => false

def isAppend : Op → Bool
  | .call { callee := .builtin .append, .. } => true
  | _ => false

def allocs : Op → Bool
  | .alloc _ | .box .. | .buildSlice .. | .makeSlice .. | .convert .. | .makeMap .. => true
  | _ => false

theorem opEval_len {s : List Value} {o : Op} {v : Value} {H' : Heap} (h : opEval T s H o = some (v, H')) : H.length ≤ H'.length ∧ (strong o = false → isAppend o = false → allocs o = false → H' = H) := by
  have same : ∀ {x : Option Value}, x.map (fun v => (v, H)) = some (v, H') → H' = H := by
    intro x hx
    rw [Option.map_eq_some_iff] at hx
    obtain ⟨u, _, hx⟩ := hx
    simp only [Prod.mk.injEq] at hx
    exact hx.2.symm
  have fin : H' = H → H.length ≤ H'.length ∧ (strong o = false → isAppend o = false → allocs o = false → H' = H) := fun e => ⟨by rw [e]; exact Nat.le_refl _, fun _ _ _ => e⟩
  unfold opEval at h
  split at h
  all_goals first
    | exact fin (same h)
    | (simp only [Option.some.injEq, Prod.mk.injEq] at h; exact fin h.2.symm)
    | skip
  · split at h
    · simp only [Option.some.injEq, Prod.mk.injEq] at h; exact fin h.2.symm
    · simp at h
  · rw [Option.bind_eq_some_iff] at h
    obtain ⟨i, hi, h⟩ := h
    exact ⟨by rw [vBox_len h]; omega, fun _ _ h2 => by simp [allocs] at h2⟩
  · exact ⟨by rw [vBox_len h]; omega, fun _ _ h2 => by simp [allocs] at h2⟩
  · exact ⟨by rw [vBuildSlice_len h]; omega, fun _ _ h2 => by simp [allocs] at h2⟩
  · rw [Option.map_eq_some_iff] at h
    obtain ⟨H1, hH, h⟩ := h
    simp only [Prod.mk.injEq] at h
    refine ⟨?_, fun h0 => by simp [strong] at h0⟩
    rw [← h.2]
    unfold vStore at hH
    simp only [Option.bind_eq_bind, Option.bind_eq_some_iff] at hH
    obtain ⟨i, hi, hH⟩ := hH
    split at hH
    · split at hH
      · rw [writeCells_len hH]; exact Nat.le_refl _
      · simp at hH
    · simp at hH
  · split at h
    · simp only [Option.some.injEq, Prod.mk.injEq] at h; exact fin h.2.symm
    · exact ⟨vBytes_len h, fun _ _ h2 => by simp [allocs] at h2⟩
  · simp only [Option.some.injEq, Prod.mk.injEq] at h
    exact ⟨by rw [← h.2]; simp, fun _ _ h2 => by simp [allocs] at h2⟩
  · rw [Option.map_eq_some_iff] at h
    obtain ⟨H1, hH, h⟩ := h
    simp only [Prod.mk.injEq] at h
    refine ⟨?_, fun h0 => by simp [strong] at h0⟩
    rw [← h.2, vMapUpdate_len hH]
    exact Nat.le_refl _
  · exact ⟨by rw [vMakeSlice_len h]; omega, fun _ _ h2 => by simp [allocs] at h2⟩
  · rename_i b args ats
    unfold vBuiltin at h
    split at h
    · exact fin (same h)
    · simp only [Option.some.injEq, Prod.mk.injEq] at h; exact fin h.2.symm
    · simp only [Option.some.injEq, Prod.mk.injEq] at h; exact fin h.2.symm
    · rw [Option.map_eq_some_iff] at h
      obtain ⟨H1, hH, h⟩ := h
      simp only [Prod.mk.injEq] at h
      refine ⟨?_, fun h0 => by simp [strong] at h0⟩
      rw [← h.2, vClear_len hH]
      exact Nat.le_refl _
    · split at h
      · exact ⟨vAppend_len h, fun _ h2 => by simp [isAppend] at h2⟩
      · simp at h
    · exact ⟨by rw [vCopy_len h]; exact Nat.le_refl _, fun h0 => by simp [strong] at h0⟩
    · simp at h
  · simp at h

end Go.Proofs.Ytdhbclplondmjaa.C
