/- Drawn regions, first part: what an operation looks at, and how the memory moves on. -/
import Derived.Test.YtdhbclplondmjaaCCall
set_option linter.unusedVariables false
set_option linter.unusedSimpArgs false
namespace Go.Proofs.Ytdhbclplondmjaa.C
open Go.RowKit

variable {P : Program} {T : Tab} {base : Nat} {F : Nat → Prop}

/-- Operations that do not look at the memory. -/
def pureOp : Op → Bool
  | .move _ | .assign _ | .pick .. | .build .. | .nilCheck _ | .binOp .. | .unOp .. | .makeInterface .. | .makeFunc .. | .fieldAddr .. | .field .. | .indexAddr .. | .index .. | .extract .. | .typeAssert .. => true
  | .call { callee := .builtin .len, .. } | .call { callee := .builtin .max, .. } | .call { callee := .builtin .min, .. } => true
  | _ => false

theorem map_ev_congr {s s' : List Value} : ∀ {xs : List Operand}, (∀ x ∈ xs, ev s x = ev s' x) → xs.map (ev s) = xs.map (ev s')
  | [], _ => rfl
  | x :: xs, h => by
    simp only [List.map_cons]
    rw [h x List.mem_cons_self, map_ev_congr fun y hy => h y (List.mem_cons_of_mem _ hy)]

theorem parts_ev_congr {s s' : List Value} : ∀ {ps : List (Nat × Operand)}, (∀ x ∈ ps.map (·.2), ev s x = ev s' x) → (ps.map fun p => (p.1, ev s p.2)) = ps.map fun p => (p.1, ev s' p.2)
  | [], _ => rfl
  | p :: ps, h => by
    simp only [List.map_cons]
    rw [h p.2 (by simp), parts_ev_congr fun y hy => h y (by simp only [List.map_cons]; exact List.mem_cons_of_mem _ hy)]

theorem opt_ev_congr {s s' : List Value} {x : Option Operand} (h : ∀ y ∈ x.toList, ev s y = ev s' y) : x.map (ev s) = x.map (ev s') := by
  cases x with
  | none => rfl
  | some x => simp [h x (by simp)]

theorem opEval_congr {s s' : List Value} {H : Heap} {o : Op} (h : ∀ x ∈ o.operands.toList, ev s x = ev s' x) : opEval T s H o = opEval T s' H o := by
  cases o <;> try rfl
  case build t ps => simp only [opEval]; rw [parts_ev_congr (s := s) (s' := s') (by simpa [Op.operands] using h)]
  case buildSlice t n ps => simp only [opEval]; rw [parts_ev_congr (s := s) (s' := s') (by simpa [Op.operands] using h)]
  case makeFunc fn a c =>
    simp only [Op.operands, Array.toList_append, List.mem_append] at h
    simp only [opEval]
    rw [map_ev_congr (s := s) (s' := s') (xs := a.toList) fun x hx => h x (.inl hx), map_ev_congr (s := s) (s' := s') (xs := c.toList) fun x hx => h x (.inr hx)]
  case slice t x lo hi mx =>
    simp only [Op.operands, Array.toList_append, List.mem_append] at h
    simp only [opEval]
    rw [h x (by simp), opt_ev_congr (s := s) (s' := s') (x := lo) fun y hy => h y (by cases lo <;> simp_all), opt_ev_congr (s := s) (s' := s') (x := hi) fun y hy => h y (by cases hi <;> simp_all),
      opt_ev_congr (s := s) (s' := s') (x := mx) fun y hy => h y (by cases mx <;> simp_all)]
  case call c =>
    obtain ⟨callee, args, ats⟩ := c
    cases callee
    case builtin b =>
      simp only [opEval]
      rw [map_ev_congr (s := s) (s' := s') (xs := args.toList) fun x hx => h x (by simp [Op.operands, Call.operands] at hx ⊢; exact hx)]
    all_goals rfl
  case makeMap t r => cases r <;> rfl
  case typeAssert x a b c =>
    simp only [Op.operands] at h
    cases c
    · simp only [opEval]; rw [h x (by simp)]
    · rfl
  all_goals
    simp only [Op.operands] at h
    simp only [opEval]
    simp_all

theorem calleeOf_congr {s s' : List Value} {H : Heap} {o : Op} (h : ∀ x ∈ o.operands.toList, ev s x = ev s' x) : calleeOf T s H o = calleeOf T s' H o := by
  cases o <;> try rfl
  rename_i c
  obtain ⟨callee, args, ats⟩ := c
  cases callee
  case builtin b => rfl
  case value f =>
    simp only [Op.operands, Call.operands, Array.toList_append, List.mem_append] at h
    simp only [calleeOf]
    rw [h f (by simp), map_ev_congr (s := s) (s' := s') (xs := args.toList) fun x hx => h x (.inr hx)]
  case invoke r n =>
    simp only [Op.operands, Call.operands, Array.toList_append, List.mem_append] at h
    simp only [calleeOf]
    rw [h r (by simp), map_ev_congr (s := s) (s' := s') (xs := args.toList) fun x hx => h x (.inr hx)]

theorem evalOp_congr {call : CallF} {s s' : List Value} {H : Heap} {o : Op} (h : ∀ x ∈ o.operands.toList, ev s x = ev s' x) : evalOp T call s H o = evalOp T call s' H o := by
  unfold evalOp
  rw [opEval_congr h, calleeOf_congr h]

/-- What does not look at the memory. -/
theorem opEval_pure {s : List Value} {H H' : Heap} {o : Op} {v : Value} (hp : pureOp o = true) (h : opEval T s H o = some (v, H')) : H' = H ∧ ∀ K, opEval T s K o = some (v, K) := by
  have one : ∀ {x : Option Value}, x.map (fun v => (v, H)) = some (v, H') → H' = H ∧ ∀ K : Heap, x.map (fun v => (v, K)) = some (v, K) := by
    intro x hx
    rw [Option.map_eq_some_iff] at hx
    obtain ⟨u, rfl, hx⟩ := hx
    simp only [Prod.mk.injEq] at hx
    obtain ⟨rfl, rfl⟩ := hx
    exact ⟨rfl, fun K => rfl⟩
  cases o
  case call c =>
    obtain ⟨callee, args, ats⟩ := c
    cases callee
    case value f => simp [pureOp] at hp
    case invoke r n => simp [pureOp] at hp
    case builtin b =>
      change vBuiltin T H b (args.toList.map (ev s)) ats.toList = some (v, H') at h
      change H' = H ∧ ∀ K, vBuiltin T K b (args.toList.map (ev s)) ats.toList = some (v, K)
      generalize args.toList.map (ev s) = xs at h ⊢
      generalize ats.toList = ts at h ⊢
      unfold vBuiltin at h ⊢
      split at h
      · exact one h
      · simp only [Option.some.injEq, Prod.mk.injEq] at h; obtain ⟨rfl, rfl⟩ := h; exact ⟨rfl, fun K => rfl⟩
      · simp only [Option.some.injEq, Prod.mk.injEq] at h; obtain ⟨rfl, rfl⟩ := h; exact ⟨rfl, fun K => rfl⟩
      · simp [pureOp] at hp
      · simp [pureOp] at hp
      · simp [pureOp] at hp
      · simp at h
  all_goals simp only [pureOp, Bool.false_eq_true] at hp
  all_goals simp only [opEval] at h ⊢
  case pick c a b =>
    split at h <;> simp only [Option.some.injEq, Prod.mk.injEq, reduceCtorEq] at h
    obtain ⟨rfl, rfl⟩ := h
    exact ⟨rfl, fun K => rfl⟩
  case typeAssert x a b c =>
    cases c
    · exact one h
    · simp at h
  all_goals first
    | (simp only [Option.some.injEq, Prod.mk.injEq] at h; obtain ⟨rfl, rfl⟩ := h; exact ⟨rfl, fun K => rfl⟩)
    | exact one h

/-! ### How the memory moves on -/

def Blk.live : Blk → Bool
  | .row _ _ _ live => live
  | .map _ => true

/-- Nothing comes back to life. -/
def Onward (H H' : Heap) : Prop := H.length ≤ H'.length ∧ ∀ b y, b < H.length → H'[b]? = some y → y.live = true → ∃ x, H[b]? = some x ∧ x.live = true

/-- What lives is as it was. -/
def Weak (H H' : Heap) : Prop := H.length ≤ H'.length ∧ ∀ b y, b < H.length → H'[b]? = some y → y.live = true → H[b]? = some y

theorem Weak.refl (H : Heap) : Weak H H := ⟨Nat.le_refl _, fun _ _ _ h _ => h⟩
theorem Weak.trans {A B C : Heap} (h : Weak A B) (k : Weak B C) : Weak A C :=
  ⟨Nat.le_trans h.1 k.1, fun b y hb hy hl => h.2 b y hb (k.2 b y (Nat.lt_of_lt_of_le hb h.1) hy hl) hl⟩
theorem Weak.onward {A B : Heap} (h : Weak A B) : Onward A B := ⟨h.1, fun b y hb hy hl => ⟨y, h.2 b y hb hy hl, hl⟩⟩
theorem Weak.app (H L : Heap) : Weak H (H ++ L) := ⟨by simp, fun b y hb hy _ => by rwa [List.getElem?_append_left hb] at hy⟩

theorem getElem?_set' (H : Heap) (b c : Nat) (x : Blk) : (H.set b x)[c]? = if b = c then (if c < H.length then some x else none) else H[c]? := by
  rw [List.getElem?_set]
  by_cases h : b = c
  · subst h; simp
  · simp [h]

theorem Weak.kill (H : Heap) (b sz : Nat) (cs : List Value) (own : Bool) (L : Heap) : Weak H (H.set b (.row sz cs own false) ++ L) := by
  refine ⟨by simp, fun c y hc hy hl => ?_⟩
  rw [List.getElem?_append_left (by simpa using hc), getElem?_set'] at hy
  split at hy
  · simp at hy
    subst hy; simp [Blk.live] at hl
  · exact hy

theorem writeCells_onward {H H' : Heap} {b o : Nat} {vs : List Value} (h : writeCells H b o vs = some H') : Onward H H' := by
  refine ⟨by rw [writeCells_len h]; exact Nat.le_refl _, fun c y hc hy hl => ?_⟩
  unfold writeCells at h
  split at h
  · split at h
    · rename_i sz cs heq
      split at h <;> simp at h
      subst h
      rw [getElem?_set'] at hy
      split at hy
      · rename_i e; subst e; exact ⟨_, heq, rfl⟩
      · exact ⟨y, hy, hl⟩
    · simp at h
  · simp at h

theorem vMapUpdate_onward {H H' : Heap} {t : TypeId} {m k v : Value} (h : vMapUpdate T H t m k v = some H') : Onward H H' := by
  refine ⟨by rw [vMapUpdate_len h]; exact Nat.le_refl _, fun c y hc hy hl => ?_⟩
  unfold vMapUpdate at h
  split at h
  · split at h
    · rename_i es _ heq
      rw [Option.map_eq_some_iff] at h
      obtain ⟨es', _, h⟩ := h
      subst h
      rw [getElem?_set'] at hy
      split at hy
      · rename_i e; subst e; exact ⟨_, heq, rfl⟩
      · exact ⟨y, hy, hl⟩
    · simp at h
  · simp at h

theorem vClear_onward {H H' : Heap} {t : TypeId} {x : Value} (h : vClear T H t x = some H') : Onward H H' := by
  unfold vClear at h
  split at h
  · split at h
    · simp only [Option.some.injEq] at h; subst h; exact (Weak.refl _).onward
    · split at h
      · exact writeCells_onward h
      · simp at h
  · simp at h

theorem vCopy_onward {H H' : Heap} {t : TypeId} {x y r : Value} (h : vCopy T H t x y = some (r, H')) : Onward H H' := by
  unfold vCopy at h
  split at h
  · split at h
    · split at h
      · simp only [Option.some.injEq, Prod.mk.injEq] at h; obtain ⟨_, rfl⟩ := h; exact (Weak.refl _).onward
      · split at h
        · simp only [Option.bind_eq_some_iff, Option.map_eq_some_iff] at h
          obtain ⟨cs, hc, H1, h1, h⟩ := h
          simp only [Prod.mk.injEq] at h
          obtain ⟨_, rfl⟩ := h
          exact writeCells_onward h1
        · simp at h
    · simp at h
  · simp at h

theorem writeCells_nil {H H' : Heap} {b o : Nat} (h : writeCells H b o [] = some H') : H' = H := by
  unfold writeCells at h
  split at h
  · split at h
    · rename_i sz cs heq
      split at h <;> simp at h
      subst h
      apply List.ext_getElem?
      intro i
      rw [getElem?_set']
      split
      · rename_i e; subst e
        split
        · simp only [setCells]; exact heq.symm
        · rw [List.getElem?_eq_none (by omega)]
      · rfl
    · simp at h
  · simp at h

theorem srcCells_len {H : Heap} {a : Option Addr} {m size : Nat} {new : List Value} (h : srcCells H a m size = some new) (hm : m = 0) : new = [] := by
  subst hm
  unfold srcCells at h
  split at h <;> simp at h
  · exact h
  · exact h

theorem vAppend_onward {H H' : Heap} {t : TypeId} {x y r : Value} (h : vAppend T H t x y = some (r, H')) :
    Onward H H' ∧ ((∀ a n c a2 m c2, x = .slice a n c → y = .slice a2 m c2 → ¬ (c ≠ unk ∧ 0 < m ∧ n + m ≤ c)) → Weak H H') := by
  unfold vAppend at h
  simp only [Option.bind_eq_bind, Option.bind_eq_some_iff] at h
  obtain ⟨i, hi, h⟩ := h
  have both : ∀ {p : Prop}, Weak H H' → Onward H H' ∧ (p → Weak H H') := fun hw => ⟨hw.onward, fun _ => hw⟩
  split at h
  · rename_i el a n c a2 m c2 hdesc
    simp only [Option.bind_eq_some_iff] at h
    obtain ⟨ei, hei, h⟩ := h
    split at h
    · simp only [Option.bind_eq_some_iff] at h
      obtain ⟨new, hnew, h⟩ := h
      split at h
      · split at h
        · split at h <;> (simp only [Option.some.injEq, Prod.mk.injEq] at h; obtain ⟨rfl, rfl⟩ := h)
          · exact both (Weak.refl _)
          · exact both (Weak.app _ _)
        · split at h
          · split at h
            · split at h
              · split at h
                · simp only [Option.some.injEq, Prod.mk.injEq] at h; obtain ⟨rfl, rfl⟩ := h
                  exact both (Weak.kill _ _ _ _ _ _)
                · simp at h
              · simp at h
            · rename_i hunk
              split at h
              · rename_i hroom
                split at h
                · split at h
                  · rw [Option.map_eq_some_iff] at h
                    obtain ⟨H2, hH2, h⟩ := h
                    simp only [Prod.mk.injEq] at h
                    obtain ⟨rfl, rfl⟩ := h
                    refine ⟨writeCells_onward hH2, fun hno => ?_⟩
                    have hm : m = 0 := by
                      have := hno _ _ _ _ _ _ rfl rfl
                      simp only [not_and] at this
                      rcases Nat.eq_zero_or_pos m with h0 | h0
                      · exact h0
                      · exact absurd hroom (this hunk h0)
                    rw [srcCells_len hnew hm] at hH2
                    rw [writeCells_nil hH2]
                    exact Weak.refl _
                  · simp at h
                · simp at h
              · simp only [Option.bind_eq_some_iff] at h
                obtain ⟨old, hold, h⟩ := h
                simp only [Option.some.injEq, Prod.mk.injEq] at h; obtain ⟨rfl, rfl⟩ := h
                exact both (Weak.app _ _)
          · simp at h
      · simp at h
    · simp at h
  · simp at h

/-- What an operation of a drawn region does to the memory. -/
theorem evalOp_moves {call : CallF} {s : List Value} {H H' : Heap} {o : Op} {v : Value} (h : evalOp T (quiet call) s H o = some (v, H')) :
    Onward H H' ∧ (strong o = false → inPlace s o = false → Weak H H') ∧ (strong o = false → isAppend o = false → ∃ L, H' = H ++ L) ∧ (pureOp o = true → H' = H) := by
  unfold evalOp at h
  split at h
  · rename_i r hr
    simp only [Option.some.injEq] at h
    subst h
    have hsame := (opEval_len hr).2
    have easy : (∃ L, H' = H ++ L) → (pureOp o = true → H' = H) → Onward H H' ∧ (strong o = false → inPlace s o = false → Weak H H') ∧ (strong o = false → isAppend o = false → ∃ L, H' = H ++ L) ∧ (pureOp o = true → H' = H) := by
      rintro ⟨L, rfl⟩ hp
      exact ⟨(Weak.app _ _).onward, fun _ _ => Weak.app _ _, fun _ _ => ⟨L, rfl⟩, hp⟩
    have app : allocs o = true → (∃ L, H' = H ++ L) := by
      intro ha
      cases o <;> simp only [allocs, Bool.false_eq_true] at ha <;> simp only [opEval] at hr
      · rw [Option.bind_eq_some_iff] at hr
        obtain ⟨i, hi, hr⟩ := hr
        unfold vBox newRow at hr
        split at hr
        · simp at hr
        · rw [Option.map_eq_some_iff] at hr
          obtain ⟨k, hk, hr⟩ := hr
          simp only [Prod.mk.injEq] at hr
          exact ⟨_, hr.2.symm⟩
      · unfold vBox newRow at hr
        split at hr
        · simp at hr
        · rw [Option.map_eq_some_iff] at hr
          obtain ⟨k, hk, hr⟩ := hr
          simp only [Prod.mk.injEq] at hr
          exact ⟨_, hr.2.symm⟩
      · unfold vBuildSlice at hr
        simp only [Option.bind_eq_bind, Option.bind_eq_some_iff] at hr
        obtain ⟨i, hi, hr⟩ := hr
        split at hr
        · simp only [Option.bind_eq_some_iff] at hr
          obtain ⟨ei, hei, hr⟩ := hr
          split at hr
          · simp at hr
          · simp only [Option.bind_eq_some_iff] at hr
            obtain ⟨cs, hcs, hr⟩ := hr
            simp only [Option.some.injEq, Prod.mk.injEq] at hr
            exact ⟨_, hr.2.symm⟩
        · simp at hr
      · split at hr
        · simp only [Option.some.injEq, Prod.mk.injEq] at hr
          exact ⟨[], by simp [hr.2]⟩
        · unfold vBytes at hr
          split at hr
          rotate_left
          · rw [Option.map_eq_some_iff] at hr
            obtain ⟨u, _, hr⟩ := hr
            simp only [Prod.mk.injEq] at hr
            exact ⟨[], by simp [hr.2]⟩
          rename_i r0 hr0
          simp only [Option.some.injEq] at hr
          subst hr
          replace hr := hr0
          unfold vBytes0 at hr
          split at hr
          · split at hr
            · split at hr
              · split at hr
                · simp only [Option.some.injEq, Prod.mk.injEq] at hr
                  exact ⟨_, hr.2.symm⟩
                · simp at hr
              · simp at hr
            · simp at hr
          · simp at hr
      · rename_i r
        cases r with
        | some r => simp at hr
        | none =>
          simp only [Option.some.injEq, Prod.mk.injEq] at hr
          exact ⟨_, hr.2.symm⟩
      · unfold vMakeSlice at hr
        simp only [Option.bind_eq_bind, Option.bind_eq_some_iff] at hr
        obtain ⟨i, hi, hr⟩ := hr
        split at hr
        · simp only [Option.bind_eq_some_iff] at hr
          obtain ⟨ei, hei, hr⟩ := hr
          split at hr
          · simp only [Option.some.injEq, Prod.mk.injEq] at hr
            exact ⟨_, hr.2.symm⟩
          · simp at hr
        · simp at hr
    have hpure : pureOp o = true → H' = H := fun hp => (opEval_pure hp hr).1
    cases hst : strong o with
    | true =>
      cases o <;> simp only [strong, Bool.false_eq_true] at hst
      case mapUpdate t m k x =>
        simp only [opEval] at hr
        rw [Option.map_eq_some_iff] at hr
        obtain ⟨H1, hH, hr⟩ := hr
        simp only [Prod.mk.injEq] at hr
        obtain ⟨rfl, rfl⟩ := hr
        exact ⟨vMapUpdate_onward hH, fun q => by simp at q, fun q => by simp at q, hpure⟩
      case call c =>
        obtain ⟨callee, args, ats⟩ := c
        cases callee
        case value f => exact absurd hst (by simp)
        case invoke r n => exact absurd hst (by simp)
        rename_i b
        cases b <;> first | (simp at hst; done) | skip
        all_goals simp only [opEval] at hr
        all_goals generalize args.toList.map (ev s) = xs at hr
        all_goals generalize ats.toList = ts at hr
        · unfold vBuiltin at hr
          split at hr <;> simp only [reduceCtorEq] at *
          rw [Option.map_eq_some_iff] at hr
          obtain ⟨H1, hH, hr⟩ := hr
          simp only [Prod.mk.injEq] at hr
          obtain ⟨rfl, rfl⟩ := hr
          exact ⟨vClear_onward hH, fun q => by simp at q, fun q => by simp at q, hpure⟩
        · unfold vBuiltin at hr
          split at hr <;> simp only [reduceCtorEq] at *
          exact ⟨vCopy_onward hr, fun q => by simp at q, fun q => by simp at q, hpure⟩
      simp only [opEval] at hr
      rw [Option.map_eq_some_iff] at hr
      obtain ⟨H1, hH, hr⟩ := hr
      simp only [Prod.mk.injEq] at hr
      obtain ⟨rfl, rfl⟩ := hr
      unfold vStore at hH
      simp only [Option.bind_eq_bind, Option.bind_eq_some_iff] at hH
      obtain ⟨i, hi, hH⟩ := hH
      split at hH
      · split at hH
        · exact ⟨writeCells_onward hH, fun q => by simp at q, fun q => by simp at q, hpure⟩
        · simp at hH
      · simp at hH
    | false =>
      rw [hst] at easy
      cases hal : allocs o with
      | true => exact easy (app hal) hpure
      | false =>
        cases hap : isAppend o with
        | false => exact hap ▸ easy ⟨[], by rw [hsame hst hap hal]; simp⟩ hpure
        | true =>
          cases o <;> simp only [isAppend, Bool.false_eq_true] at hap
          rename_i c
          obtain ⟨callee, args, ats⟩ := c
          cases callee
          case value f => exact absurd hap (by simp)
          case invoke r n => exact absurd hap (by simp)
          rename_i b
          cases b <;> first | (simp at hap; done) | skip
          simp only [opEval] at hr
          generalize hx : args.toList.map (ev s) = xs at hr
          generalize ats.toList = ts at hr
          unfold vBuiltin at hr
          split at hr <;> simp only [reduceCtorEq] at *
          rename_i x y t u _ _ _
          split at hr
          · obtain ⟨h1, h2⟩ := vAppend_onward hr
            refine ⟨h1, fun _ hin => h2 ?_, fun _ q => by simp at q, hpure⟩
            rintro a n c a2 m c2 rfl rfl q
            simp [inPlace, hx, q] at hin
          · simp at hr
  · split at h
    · rename_i f args hcal
      unfold quiet at h
      rw [Option.map_eq_some_iff] at h
      obtain ⟨x, hx, h⟩ := h
      simp only [Prod.mk.injEq] at h
      obtain ⟨_, rfl⟩ := h
      refine ⟨(Weak.app _ _).onward, fun _ _ => Weak.app _ _, fun _ _ => ⟨_, rfl⟩, fun hp => ?_⟩
      unfold calleeOf at hcal
      split at hcal <;> simp [pureOp] at hp hcal
    · simp at h

end Go.Proofs.Ytdhbclplondmjaa.C
