/- Texts of one's own, laid together: CDraw, CDraw2, CDraw3, CDraw4, CDraw5, CFits -/
import Derived.Test.YtdhbclplondmjaaQo00
/- Drawn regions, first part: what an operation looks at, and how the memory moves on. -/
set_option linter.unusedVariables false
set_option linter.unusedSimpArgs false
namespace Go.Proofs.Ytdhbclplondmjaa.C
open Go.RowKit

variable {P : Program} {T : Tab} {base : Nat} {F : Nat → Prop}

/-- Operations that do not look at the memory. -/
def pureOp : Op → Bool
  | .move _ | .assign _ | .pick .. | .build .. | .nilCheck _ | .binOp .. | .unOp .. | .makeInterface .. | .makeFunc .. | .fieldAddr .. | .field .. | .indexAddr .. | .index .. | .extract .. | .typeAssert .. => true
  | .call { callee := .builtin .len, .. } | .call { callee := .builtin .max, .. } | .call { callee := .builtin .min, .. } => true
  | _ => false

theorem map_ev_congr {s s' : List Value} : ∀ {xs : List Operand}, (∀ x ∈ xs, ev s x = ev s' x) → xs.map (ev s) = xs.map (ev s')
  | [], _ => rfl
  | x :: xs, h => by
    simp only [List.map_cons]
    rw [h x List.mem_cons_self, map_ev_congr fun y hy => h y (List.mem_cons_of_mem _ hy)]

theorem parts_ev_congr {s s' : List Value} : ∀ {ps : List (Nat × Operand)}, (∀ x ∈ ps.map (·.2), ev s x = ev s' x) → (ps.map fun p => (p.1, ev s p.2)) = ps.map fun p => (p.1, ev s' p.2)
  | [], _ => rfl
  | p :: ps, h => by
    simp only [List.map_cons]
    rw [h p.2 (by simp), parts_ev_congr fun y hy => h y (by simp only [List.map_cons]; exact List.mem_cons_of_mem _ hy)]

theorem opt_ev_congr {s s' : List Value} {x : Option Operand} (h : ∀ y ∈ x.toList, ev s y = ev s' y) : x.map (ev s) = x.map (ev s') := by
  cases x with
  | none => rfl
  | some x => simp [h x (by simp)]

theorem opEval_congr {s s' : List Value} {H : Heap} {o : Op} (h : ∀ x ∈ o.operands.toList, ev s x = ev s' x) : opEval T s H o = opEval T s' H o := by
  cases o <;> try rfl
  case build t ps => simp only [opEval]; rw [parts_ev_congr (s := s) (s' := s') (by simpa [Op.operands] using h)]
  case buildSlice t n ps => simp only [opEval]; rw [parts_ev_congr (s := s) (s' := s') (by simpa [Op.operands] using h)]
  case makeFunc fn a c =>
    simp only [Op.operands, Array.toList_append, List.mem_append] at h
    simp only [opEval]
    rw [map_ev_congr (s := s) (s' := s') (xs := a.toList) fun x hx => h x (.inl hx), map_ev_congr (s := s) (s' := s') (xs := c.toList) fun x hx => h x (.inr hx)]
  case slice t x lo hi mx =>
    simp only [Op.operands, Array.toList_append, List.mem_append] at h
    simp only [opEval]
    rw [h x (by simp), opt_ev_congr (s := s) (s' := s') (x := lo) fun y hy => h y (by cases lo <;> simp_all), opt_ev_congr (s := s) (s' := s') (x := hi) fun y hy => h y (by cases hi <;> simp_all),
      opt_ev_congr (s := s) (s' := s') (x := mx) fun y hy => h y (by cases mx <;> simp_all)]
  case call c =>
    obtain ⟨callee, args, ats⟩ := c
    cases callee
    case builtin b =>
      simp only [opEval]
      rw [map_ev_congr (s := s) (s' := s') (xs := args.toList) fun x hx => h x (by simp [Op.operands, Call.operands] at hx ⊢; exact hx)]
    all_goals rfl
  case makeMap t r => cases r <;> rfl
  case typeAssert x a b c =>
    simp only [Op.operands] at h
    cases c
    · simp only [opEval]; rw [h x (by simp)]
    · rfl
  all_goals
    simp only [Op.operands] at h
    simp only [opEval]
    simp_all

theorem calleeOf_congr {s s' : List Value} {H : Heap} {o : Op} (h : ∀ x ∈ o.operands.toList, ev s x = ev s' x) : calleeOf T s H o = calleeOf T s' H o := by
  cases o <;> try rfl
  rename_i c
  obtain ⟨callee, args, ats⟩ := c
  cases callee
  case builtin b => rfl
  case value f =>
    simp only [Op.operands, Call.operands, Array.toList_append, List.mem_append] at h
    simp only [calleeOf]
    rw [h f (by simp), map_ev_congr (s := s) (s' := s') (xs := args.toList) fun x hx => h x (.inr hx)]
  case invoke r n =>
    simp only [Op.operands, Call.operands, Array.toList_append, List.mem_append] at h
    simp only [calleeOf]
    rw [h r (by simp), map_ev_congr (s := s) (s' := s') (xs := args.toList) fun x hx => h x (.inr hx)]

theorem evalOp_congr {call : CallF} {s s' : List Value} {H : Heap} {o : Op} (h : ∀ x ∈ o.operands.toList, ev s x = ev s' x) : evalOp T call s H o = evalOp T call s' H o := by
  unfold evalOp
  rw [opEval_congr h, calleeOf_congr h]

/-- What does not look at the memory. -/
theorem opEval_pure {s : List Value} {H H' : Heap} {o : Op} {v : Value} (hp : pureOp o = true) (h : opEval T s H o = some (v, H')) : H' = H ∧ ∀ K, opEval T s K o = some (v, K) := by
  have one : ∀ {x : Option Value}, x.map (fun v => (v, H)) = some (v, H') → H' = H ∧ ∀ K : Heap, x.map (fun v => (v, K)) = some (v, K) := by
    intro x hx
    rw [Option.map_eq_some_iff] at hx
    obtain ⟨u, rfl, hx⟩ := hx
    simp only [Prod.mk.injEq] at hx
    obtain ⟨rfl, rfl⟩ := hx
    exact ⟨rfl, fun K => rfl⟩
  cases o
  case call c =>
    obtain ⟨callee, args, ats⟩ := c
    cases callee
    case value f => simp [pureOp] at hp
    case invoke r n => simp [pureOp] at hp
    case builtin b =>
      change vBuiltin T H b (args.toList.map (ev s)) ats.toList = some (v, H') at h
      change H' = H ∧ ∀ K, vBuiltin T K b (args.toList.map (ev s)) ats.toList = some (v, K)
      generalize args.toList.map (ev s) = xs at h ⊢
      generalize ats.toList = ts at h ⊢
      unfold vBuiltin at h ⊢
      split at h
      · exact one h
      · simp only [Option.some.injEq, Prod.mk.injEq] at h; obtain ⟨rfl, rfl⟩ := h; exact ⟨rfl, fun K => rfl⟩
      · simp only [Option.some.injEq, Prod.mk.injEq] at h; obtain ⟨rfl, rfl⟩ := h; exact ⟨rfl, fun K => rfl⟩
      · simp [pureOp] at hp
      · simp [pureOp] at hp
      · simp [pureOp] at hp
      · simp at h
  all_goals simp only [pureOp, Bool.false_eq_true] at hp
  all_goals simp only [opEval] at h ⊢
  case pick c a b =>
    split at h <;> simp only [Option.some.injEq, Prod.mk.injEq, reduceCtorEq] at h
    obtain ⟨rfl, rfl⟩ := h
    exact ⟨rfl, fun K => rfl⟩
  case typeAssert x a b c =>
    cases c
    · exact one h
    · simp at h
  all_goals first
    | (simp only [Option.some.injEq, Prod.mk.injEq] at h; obtain ⟨rfl, rfl⟩ := h; exact ⟨rfl, fun K => rfl⟩)
    | exact one h

/-! ### How the memory moves on -/

def Blk.live : Blk → Bool
  | .row _ _ _ live => live
  | .map _ => true

/-- Nothing comes back to life. -/
def Onward (H H' : Heap) : Prop := H.length ≤ H'.length ∧ ∀ b y, b < H.length → H'[b]? = some y → y.live = true → ∃ x, H[b]? = some x ∧ x.live = true

/-- What lives is as it was. -/
def Weak (H H' : Heap) : Prop := H.length ≤ H'.length ∧ ∀ b y, b < H.length → H'[b]? = some y → y.live = true → H[b]? = some y

theorem Weak.refl (H : Heap) : Weak H H := ⟨Nat.le_refl _, fun _ _ _ h _ => h⟩
theorem Weak.trans {A B C : Heap} (h : Weak A B) (k : Weak B C) : Weak A C :=
  ⟨Nat.le_trans h.1 k.1, fun b y hb hy hl => h.2 b y hb (k.2 b y (Nat.lt_of_lt_of_le hb h.1) hy hl) hl⟩
theorem Weak.onward {A B : Heap} (h : Weak A B) : Onward A B := ⟨h.1, fun b y hb hy hl => ⟨y, h.2 b y hb hy hl, hl⟩⟩
theorem Weak.app (H L : Heap) : Weak H (H ++ L) := ⟨by simp, fun b y hb hy _ => by rwa [List.getElem?_append_left hb] at hy⟩

theorem getElem?_set' (H : Heap) (b c : Nat) (x : Blk) : (H.set b x)[c]? = if b = c then (if c < H.length then some x else none) else H[c]? := by
  rw [List.getElem?_set]
  by_cases h : b = c
  · subst h; simp
  · simp [h]

theorem Weak.kill (H : Heap) (b sz : Nat) (cs : List Value) (own : Bool) (L : Heap) : Weak H (H.set b (.row sz cs own false) ++ L) := by
  refine ⟨by simp, fun c y hc hy hl => ?_⟩
  rw [List.getElem?_append_left (by simpa using hc), getElem?_set'] at hy
  split at hy
  · simp at hy
    subst hy; simp [Blk.live] at hl
  · exact hy

theorem writeCells_onward {H H' : Heap} {b o : Nat} {vs : List Value} (h : writeCells H b o vs = some H') : Onward H H' := by
  refine ⟨by rw [writeCells_len h]; exact Nat.le_refl _, fun c y hc hy hl => ?_⟩
  unfold writeCells at h
  split at h
  · split at h
    · rename_i sz cs heq
      split at h <;> simp at h
      subst h
      rw [getElem?_set'] at hy
      split at hy
      · rename_i e; subst e; exact ⟨_, heq, rfl⟩
      · exact ⟨y, hy, hl⟩
    · simp at h
  · simp at h

theorem vMapUpdate_onward {H H' : Heap} {t : TypeId} {m k v : Value} (h : vMapUpdate T H t m k v = some H') : Onward H H' := by
  refine ⟨by rw [vMapUpdate_len h]; exact Nat.le_refl _, fun c y hc hy hl => ?_⟩
  unfold vMapUpdate at h
  split at h
  · split at h
    · rename_i es _ heq
      rw [Option.map_eq_some_iff] at h
      obtain ⟨es', _, h⟩ := h
      subst h
      rw [getElem?_set'] at hy
      split at hy
      · rename_i e; subst e; exact ⟨_, heq, rfl⟩
      · exact ⟨y, hy, hl⟩
    · simp at h
  · simp at h

theorem vClear_onward {H H' : Heap} {t : TypeId} {x : Value} (h : vClear T H t x = some H') : Onward H H' := by
  unfold vClear at h
  split at h
  · split at h
    · simp only [Option.some.injEq] at h; subst h; exact (Weak.refl _).onward
    · split at h
      · exact writeCells_onward h
      · simp at h
  · simp at h

theorem vCopy_onward {H H' : Heap} {t : TypeId} {x y r : Value} (h : vCopy T H t x y = some (r, H')) : Onward H H' := by
  unfold vCopy at h
  split at h
  · split at h
    · split at h
      · simp only [Option.some.injEq, Prod.mk.injEq] at h; obtain ⟨_, rfl⟩ := h; exact (Weak.refl _).onward
      · split at h
        · simp only [Option.bind_eq_some_iff, Option.map_eq_some_iff] at h
          obtain ⟨cs, hc, H1, h1, h⟩ := h
          simp only [Prod.mk.injEq] at h
          obtain ⟨_, rfl⟩ := h
          exact writeCells_onward h1
        · simp at h
    · simp at h
  · simp at h

theorem writeCells_nil {H H' : Heap} {b o : Nat} (h : writeCells H b o [] = some H') : H' = H := by
  unfold writeCells at h
  split at h
  · split at h
    · rename_i sz cs heq
      split at h <;> simp at h
      subst h
      apply List.ext_getElem?
      intro i
      rw [getElem?_set']
      split
      · rename_i e; subst e
        split
        · simp only [setCells]; exact heq.symm
        · rw [List.getElem?_eq_none (by omega)]
      · rfl
    · simp at h
  · simp at h

theorem srcCells_len {H : Heap} {a : Option Addr} {m size : Nat} {new : List Value} (h : srcCells H a m size = some new) (hm : m = 0) : new = [] := by
  subst hm
  unfold srcCells at h
  split at h <;> simp at h
  · exact h
  · exact h

theorem vAppend_onward {H H' : Heap} {t : TypeId} {x y r : Value} (h : vAppend T H t x y = some (r, H')) :
    Onward H H' ∧ ((∀ a n c a2 m c2, x = .slice a n c → y = .slice a2 m c2 → ¬ (c ≠ unk ∧ 0 < m ∧ n + m ≤ c)) → Weak H H') := by
  unfold vAppend at h
  simp only [Option.bind_eq_bind, Option.bind_eq_some_iff] at h
  obtain ⟨i, hi, h⟩ := h
  have both : ∀ {p : Prop}, Weak H H' → Onward H H' ∧ (p → Weak H H') := fun hw => ⟨hw.onward, fun _ => hw⟩
  split at h
  · rename_i el a n c a2 m c2 hdesc
    simp only [Option.bind_eq_some_iff] at h
    obtain ⟨ei, hei, h⟩ := h
    split at h
    · simp only [Option.bind_eq_some_iff] at h
      obtain ⟨new, hnew, h⟩ := h
      split at h
      · split at h
        · split at h <;> (simp only [Option.some.injEq, Prod.mk.injEq] at h; obtain ⟨rfl, rfl⟩ := h)
          · exact both (Weak.refl _)
          · exact both (Weak.app _ _)
        · split at h
          · split at h
            · split at h
              · split at h
                · simp only [Option.some.injEq, Prod.mk.injEq] at h; obtain ⟨rfl, rfl⟩ := h
                  exact both (Weak.kill _ _ _ _ _ _)
                · simp at h
              · simp at h
            · rename_i hunk
              split at h
              · rename_i hroom
                split at h
                · split at h
                  · rw [Option.map_eq_some_iff] at h
                    obtain ⟨H2, hH2, h⟩ := h
                    simp only [Prod.mk.injEq] at h
                    obtain ⟨rfl, rfl⟩ := h
                    refine ⟨writeCells_onward hH2, fun hno => ?_⟩
                    have hm : m = 0 := by
                      have := hno _ _ _ _ _ _ rfl rfl
                      simp only [not_and] at this
                      rcases Nat.eq_zero_or_pos m with h0 | h0
                      · exact h0
                      · exact absurd hroom (this hunk h0)
                    rw [srcCells_len hnew hm] at hH2
                    rw [writeCells_nil hH2]
                    exact Weak.refl _
                  · simp at h
                · simp at h
              · simp only [Option.bind_eq_some_iff] at h
                obtain ⟨old, hold, h⟩ := h
                simp only [Option.some.injEq, Prod.mk.injEq] at h; obtain ⟨rfl, rfl⟩ := h
                exact both (Weak.app _ _)
          · simp at h
      · simp at h
    · simp at h
  · simp at h

/-- What an operation of a drawn region does to the memory. -/
theorem evalOp_moves {call : CallF} {s : List Value} {H H' : Heap} {o : Op} {v : Value} (h : evalOp T (quiet call) s H o = some (v, H')) :
    Onward H H' ∧ (strong o = false → inPlace s o = false → Weak H H') ∧ (strong o = false → isAppend o = false → ∃ L, H' = H ++ L) ∧ (pureOp o = true → H' = H) := by
  unfold evalOp at h
  split at h
  · rename_i r hr
    simp only [Option.some.injEq] at h
    subst h
    have hsame := (opEval_len hr).2
    have easy : (∃ L, H' = H ++ L) → (pureOp o = true → H' = H) → Onward H H' ∧ (strong o = false → inPlace s o = false → Weak H H') ∧ (strong o = false → isAppend o = false → ∃ L, H' = H ++ L) ∧ (pureOp o = true → H' = H) := by
      rintro ⟨L, rfl⟩ hp
      exact ⟨(Weak.app _ _).onward, fun _ _ => Weak.app _ _, fun _ _ => ⟨L, rfl⟩, hp⟩
    have app : allocs o = true → (∃ L, H' = H ++ L) := by
      intro ha
      cases o <;> simp only [allocs, Bool.false_eq_true] at ha <;> simp only [opEval] at hr
      · rw [Option.bind_eq_some_iff] at hr
        obtain ⟨i, hi, hr⟩ := hr
        unfold vBox newRow at hr
        split at hr
        · simp at hr
        · rw [Option.map_eq_some_iff] at hr
          obtain ⟨k, hk, hr⟩ := hr
          simp only [Prod.mk.injEq] at hr
          exact ⟨_, hr.2.symm⟩
      · unfold vBox newRow at hr
        split at hr
        · simp at hr
        · rw [Option.map_eq_some_iff] at hr
          obtain ⟨k, hk, hr⟩ := hr
          simp only [Prod.mk.injEq] at hr
          exact ⟨_, hr.2.symm⟩
      · unfold vBuildSlice at hr
        simp only [Option.bind_eq_bind, Option.bind_eq_some_iff] at hr
        obtain ⟨i, hi, hr⟩ := hr
        split at hr
        · simp only [Option.bind_eq_some_iff] at hr
          obtain ⟨ei, hei, hr⟩ := hr
          split at hr
          · simp at hr
          · simp only [Option.bind_eq_some_iff] at hr
            obtain ⟨cs, hcs, hr⟩ := hr
            simp only [Option.some.injEq, Prod.mk.injEq] at hr
            exact ⟨_, hr.2.symm⟩
        · simp at hr
      · split at hr
        · simp only [Option.some.injEq, Prod.mk.injEq] at hr
          exact ⟨[], by simp [hr.2]⟩
        · unfold vBytes at hr
          split at hr
          rotate_left
          · rw [Option.map_eq_some_iff] at hr
            obtain ⟨u, _, hr⟩ := hr
            simp only [Prod.mk.injEq] at hr
            exact ⟨[], by simp [hr.2]⟩
          rename_i r0 hr0
          simp only [Option.some.injEq] at hr
          subst hr
          replace hr := hr0
          unfold vBytes0 at hr
          split at hr
          · split at hr
            · split at hr
              · split at hr
                · simp only [Option.some.injEq, Prod.mk.injEq] at hr
                  exact ⟨_, hr.2.symm⟩
                · simp at hr
              · simp at hr
            · simp at hr
          · simp at hr
      · rename_i r
        cases r with
        | some r => simp at hr
        | none =>
          simp only [Option.some.injEq, Prod.mk.injEq] at hr
          exact ⟨_, hr.2.symm⟩
      · unfold vMakeSlice at hr
        simp only [Option.bind_eq_bind, Option.bind_eq_some_iff] at hr
        obtain ⟨i, hi, hr⟩ := hr
        split at hr
        · simp only [Option.bind_eq_some_iff] at hr
          obtain ⟨ei, hei, hr⟩ := hr
          split at hr
          · simp only [Option.some.injEq, Prod.mk.injEq] at hr
            exact ⟨_, hr.2.symm⟩
          · simp at hr
        · simp at hr
    have hpure : pureOp o = true → H' = H := fun hp => (opEval_pure hp hr).1
    cases hst : strong o with
    | true =>
      cases o <;> simp only [strong, Bool.false_eq_true] at hst
      case mapUpdate t m k x =>
        simp only [opEval] at hr
        rw [Option.map_eq_some_iff] at hr
        obtain ⟨H1, hH, hr⟩ := hr
        simp only [Prod.mk.injEq] at hr
        obtain ⟨rfl, rfl⟩ := hr
        exact ⟨vMapUpdate_onward hH, fun q => by simp at q, fun q => by simp at q, hpure⟩
      case call c =>
        obtain ⟨callee, args, ats⟩ := c
        cases callee
        case value f => exact absurd hst (by simp)
        case invoke r n => exact absurd hst (by simp)
        rename_i b
        cases b <;> first | (simp at hst; done) | skip
        all_goals simp only [opEval] at hr
        all_goals generalize args.toList.map (ev s) = xs at hr
        all_goals generalize ats.toList = ts at hr
        · unfold vBuiltin at hr
          split at hr <;> simp only [reduceCtorEq] at *
          rw [Option.map_eq_some_iff] at hr
          obtain ⟨H1, hH, hr⟩ := hr
          simp only [Prod.mk.injEq] at hr
          obtain ⟨rfl, rfl⟩ := hr
          exact ⟨vClear_onward hH, fun q => by simp at q, fun q => by simp at q, hpure⟩
        · unfold vBuiltin at hr
          split at hr <;> simp only [reduceCtorEq] at *
          exact ⟨vCopy_onward hr, fun q => by simp at q, fun q => by simp at q, hpure⟩
      simp only [opEval] at hr
      rw [Option.map_eq_some_iff] at hr
      obtain ⟨H1, hH, hr⟩ := hr
      simp only [Prod.mk.injEq] at hr
      obtain ⟨rfl, rfl⟩ := hr
      unfold vStore at hH
      simp only [Option.bind_eq_bind, Option.bind_eq_some_iff] at hH
      obtain ⟨i, hi, hH⟩ := hH
      split at hH
      · split at hH
        · exact ⟨writeCells_onward hH, fun q => by simp at q, fun q => by simp at q, hpure⟩
        · simp at hH
      · simp at hH
    | false =>
      rw [hst] at easy
      cases hal : allocs o with
      | true => exact easy (app hal) hpure
      | false =>
        cases hap : isAppend o with
        | false => exact hap ▸ easy ⟨[], by rw [hsame hst hap hal]; simp⟩ hpure
        | true =>
          cases o <;> simp only [isAppend, Bool.false_eq_true] at hap
          rename_i c
          obtain ⟨callee, args, ats⟩ := c
          cases callee
          case value f => exact absurd hap (by simp)
          case invoke r n => exact absurd hap (by simp)
          rename_i b
          cases b <;> first | (simp at hap; done) | skip
          simp only [opEval] at hr
          generalize hx : args.toList.map (ev s) = xs at hr
          generalize ats.toList = ts at hr
          unfold vBuiltin at hr
          split at hr <;> simp only [reduceCtorEq] at *
          rename_i x y t u _ _ _
          split at hr
          · obtain ⟨h1, h2⟩ := vAppend_onward hr
            refine ⟨h1, fun _ hin => h2 ?_, fun _ q => by simp at q, hpure⟩
            rintro a n c a2 m c2 rfl rfl q
            simp [inPlace, hx, q] at hin
          · simp at hr
  · split at h
    · rename_i f args hcal
      unfold quiet at h
      rw [Option.map_eq_some_iff] at h
      obtain ⟨x, hx, h⟩ := h
      simp only [Prod.mk.injEq] at h
      obtain ⟨_, rfl⟩ := h
      refine ⟨(Weak.app _ _).onward, fun _ _ => Weak.app _ _, fun _ _ => ⟨_, rfl⟩, fun hp => ?_⟩
      unfold calleeOf at hcal
      split at hcal <;> simp [pureOp] at hp hcal
    · simp at h

end Go.Proofs.Ytdhbclplondmjaa.C

/- Drawn regions, second part: the memory of a region that is under way. -/
set_option linter.unusedVariables false
set_option linter.unusedSimpArgs false
namespace Go.Proofs.Ytdhbclplondmjaa.C
open Go.RowKit

variable {P : Program} {T : Tab} {base : Nat} {F : Nat → Prop}

/-- The memory's relation, for blocks told by a function. -/
structure HRf (base : Nat) (F : Nat → Prop) (μ : Mu) (H : Nat → Option Blk) (w : World) : Prop where
  own : ∀ b sz cs l, H b = some (.row sz cs true true) → μ b = some l → l.sz = sz ∧ base ≤ l.blk ∧ ¬ F l.blk ∧ RowAt μ w l cs
  ro : ∀ b sz cs l, H b = some (.row sz cs false true) → μ b = some l → l.sz = sz ∧ l.blk < base ∧
    ∀ (i : Nat) (v : Value), cs[i]? = some v → ∃ v', w.cell? ⟨l.blk, l.sh + i, none⟩ = some v' ∧ VR μ v v'
  maps : ∀ b es l, H b = some (.map es) → μ b = some l → base ≤ l.blk ∧ ¬ F l.blk ∧ MapAt μ w l es
  inj : ∀ b b' k k' l l', H b = some k → H b' = some k' → k.mine = true → k'.mine = true → b ≠ b' → μ b = some l → μ b' = some l' → l.blk ≠ l'.blk
  far : ∀ k, F k → k < w.heap.size
  base_le : base ≤ w.heap.size

theorem HR.toF {μ : Mu} {H : Heap} {w : World} (h : HR base F μ H w) : HRf base F μ (fun b => H[b]?) w := ⟨h.own, h.ro, h.maps, h.inj, h.far, h.base_le⟩

theorem HRf.mine_lt {μ : Mu} {H : Nat → Option Blk} {w : World} (h : HRf base F μ H w) {b : Nat} {k : Blk} {l : Loc} (hb : H b = some k) (hk : k.mine = true) (hl : μ b = some l) : l.blk < w.heap.size ∧ base ≤ l.blk ∧ ¬ F l.blk := by
  cases k with
  | row sz cs own live =>
    simp [Blk.mine] at hk
    obtain ⟨rfl, rfl⟩ := hk
    obtain ⟨_, a, c, d⟩ := h.own b sz cs l hb hl
    exact ⟨d.lt, a, c⟩
  | map es =>
    obtain ⟨a, c, d⟩ := h.maps b es l hb hl
    exact ⟨d.lt, a, c⟩

theorem Blk.live_of_mine {k : Blk} (h : k.mine = true) : k.live = true := by
  cases k with
  | row sz cs own live => simp [Blk.mine] at h; exact h.2
  | map es => rfl

def Sub (μ : Mu) (H : Heap) (hc : Nat → Option Blk) : Prop := ∀ b x, H[b]? = some x → x.live = true → μ b ≠ none → hc b = some x

theorem HRf.toHR {μ : Mu} {H : Heap} {hc : Nat → Option Blk} {w : World} (h : HRf base F μ hc w) (hs : Sub μ H hc) : HR base F μ H w where
  own b sz cs l hb hl := h.own b sz cs l (hs b _ hb rfl (by rw [hl]; simp)) hl
  ro b sz cs l hb hl := h.ro b sz cs l (hs b _ hb rfl (by rw [hl]; simp)) hl
  maps b es l hb hl := h.maps b es l (hs b _ hb rfl (by rw [hl]; simp)) hl
  inj b b' k k' l l' hb hb' hk hk' hne hl hl' := h.inj b b' k k' l l' (hs b _ hb (Blk.live_of_mine hk) (by rw [hl]; simp)) (hs b' _ hb' (Blk.live_of_mine hk') (by rw [hl']; simp)) hk hk' hne hl hl'
  far := h.far
  base_le := h.base_le

/-- The machine's blocks that must stay as they are while an operation runs. -/
def Guarded (F : Nat → Prop) (μ : Mu) (hc : Nat → Option Blk) (Hb : Heap) (k : Nat) : Prop :=
  F k ∨ ∃ b x l, hc b = some x ∧ x.mine = true ∧ μ b = some l ∧ l.blk = k ∧ ¬ ∃ y, Hb[b]? = some y ∧ y.live = true

theorem HRf.guarded {μ : Mu} {Hb : Heap} {hc : Nat → Option Blk} {w : World} (h : HRf base F μ hc w) (hs : Sub μ Hb hc) : HR base (Guarded F μ hc Hb) μ Hb w := by
  have h0 := h.toHR hs
  have not : ∀ {b : Nat} {x : Blk} {l : Loc}, Hb[b]? = some x → x.mine = true → μ b = some l → ¬ F l.blk → ¬ Guarded F μ hc Hb l.blk := by
    rintro b x l hb hx hl hF (q | ⟨b2, x2, l2, h1, h2, h3, h4, h5⟩)
    · exact hF q
    · have hne : b ≠ b2 := by
        rintro rfl
        exact h5 ⟨x, hb, Blk.live_of_mine hx⟩
      exact h.inj b b2 x x2 l l2 (hs b _ hb (Blk.live_of_mine hx) (by rw [hl]; simp)) h1 hx h2 hne hl h3 h4.symm
  refine ⟨?_, h0.ro, ?_, h0.inj, ?_, h0.base_le⟩
  · intro b sz cs l hb hl
    obtain ⟨a, c, d, e⟩ := h0.own b sz cs l hb hl
    exact ⟨a, c, not hb rfl hl d, e⟩
  · intro b es l hb hl
    obtain ⟨a, c, d⟩ := h0.maps b es l hb hl
    exact ⟨a, not hb rfl hl c, d⟩
  · rintro k (q | ⟨b2, x2, l2, h1, h2, h3, rfl, h5⟩)
    · exact h.far k q
    · exact (h.mine_lt h1 h2 h3).1

/-- The blocks behind an operation. -/
def behind (hc : Nat → Option Blk) (Hb Ha : Heap) : Nat → Option Blk := fun b =>
  if (∃ y, Hb[b]? = some y ∧ y.live = true) ∨ (Hb.length ≤ b ∧ b < Ha.length) then Ha[b]? else hc b

open Classical in
theorem HRf.step {μ μ' : Mu} {Hb Ha : Heap} {hc : Nat → Option Blk} {w w' : World} (h : HRf base F μ hc w) (hs : Sub μ Hb hc) (g : Goes base (Guarded F μ hc Hb) μ μ' Hb Ha w w') (hf : Free μ Hb.length Ha.length) :
    HRf base F μ' (behind hc Hb Ha) w' ∧ Fr base F w w' := by
  have hfr : Fr base F w w' := g.fr.weaken fun k hk => .inl hk
  have hF' : ∀ {k : Nat}, ¬ Guarded F μ hc Hb k → ¬ F k := fun h q => h (.inl q)
  refine ⟨?_, hfr⟩
  have key : ∀ {b : Nat} {x : Blk} {l : Loc}, behind hc Hb Ha b = some x → μ' b = some l →
      Ha[b]? = some x ∨ (hc b = some x ∧ μ b = some l ∧ ¬ ∃ y, Hb[b]? = some y ∧ y.live = true) := by
    intro b x l hb hl
    unfold behind at hb
    split at hb
    · exact .inl hb
    · rename_i hno
      simp only [not_or] at hno
      refine .inr ⟨hb, ?_, hno.1⟩
      rw [← g.same b (by have := hno.2; omega)]
      exact hl
  have kept : ∀ {b : Nat} {x : Blk} {l : Loc}, hc b = some x → x.mine = true → μ b = some l → (¬ ∃ y, Hb[b]? = some y ∧ y.live = true) → Guarded F μ hc Hb l.blk := fun h1 h2 h3 h4 => .inr ⟨_, _, _, h1, h2, h3, rfl, h4⟩
  refine ⟨?_, ?_, ?_, ?_, ?_, g.hr.base_le⟩
  · intro b sz cs l hb hl
    rcases key hb hl with hb | ⟨hb, hl, hno⟩
    · obtain ⟨a, c, d, e⟩ := g.hr.own b sz cs l hb hl
      exact ⟨a, c, hF' d, e⟩
    · obtain ⟨a, c, d, e⟩ := h.own b sz cs l hb hl
      exact ⟨a, c, d, e.mono g.le (g.fr.block _ (.inr (kept hb rfl hl hno)))⟩
  · intro b sz cs l hb hl
    rcases key hb hl with hb | ⟨hb, hl, hno⟩
    · exact g.hr.ro b sz cs l hb hl
    · obtain ⟨a, c, d⟩ := h.ro b sz cs l hb hl
      exact ⟨a, c, fun i v hv => let ⟨v', x, y⟩ := d i v hv; ⟨v', (cell_of_heap (g.fr.block _ (.inl c))).trans x, y.mono g.le⟩⟩
  · intro b es l hb hl
    rcases key hb hl with hb | ⟨hb, hl, hno⟩
    · obtain ⟨a, c, d⟩ := g.hr.maps b es l hb hl
      exact ⟨a, hF' c, d⟩
    · obtain ⟨a, c, d⟩ := h.maps b es l hb hl
      exact ⟨a, c, d.mono g.le (g.fr.block _ (.inr (kept hb rfl hl hno)))⟩
  · intro b b' k k' l l' hb hb' hk hk' hne hl hl'
    rcases key hb hl with hb | ⟨hb, hl2, hno⟩ <;> rcases key hb' hl' with hb' | ⟨hb', hl2', hno'⟩
    · exact g.hr.inj b b' k k' l l' hb hb' hk hk' hne hl hl'
    · intro q
      exact (g.hr.mine_lt hb hk hl).2.2 (q ▸ kept hb' hk' hl2' hno')
    · intro q
      exact (g.hr.mine_lt hb' hk' hl').2.2 (q ▸ kept hb hk hl2 hno)
    · exact h.inj b b' k k' l l' hb hb' hk hk' hne hl2 hl2'
  · intro k hk
    exact g.hr.far k (.inl hk)

/-! ### What is checked of a region -/

def readsOf (ops : Array Oper) (o : Oper) : List Tmp :=
  (o.op.operands.toList.filterMap fun x => match x with | .tmp t => some t | _ => none) ++ (match o.guard with | some (j, _) => ((ops[j]?).bind (·.dst)).toList | none => [])

def namesOf (ops : Array Oper) (o : Oper) : List Tmp := o.dst.toList ++ readsOf ops o

/-- Does an operation wait for another one? -/
def reach (ops : Array Oper) : Nat → Nat → Nat → Bool
  | 0, _, _ => false
  | n + 1, i, j => match ops[j]? with
    | none => false
    | some o => o.after.any fun e => Region.binds .any e && (e.on == i || reach ops n i e.on)

def writer (o : Op) : Bool := strong o || isAppend o

def clash (ops : Array Oper) (oi oj : Oper) : Bool :=
  oi.dst.toList.any (fun d => (namesOf ops oj).contains d) || oj.dst.toList.any (fun d => (namesOf ops oi).contains d) || (!pureOp oi.op && writer oj.op) || (strong oi.op && !pureOp oj.op)

def drawChk (ops : Array Oper) (ord : List Nat) : Bool :=
  ord.length == ops.size && (List.range ops.size).all (fun i => ord.contains i) && ord.all (fun i => decide (i < ops.size)) && decide ord.Nodup &&
  (List.range ops.size).all (fun q => (List.range q).all fun p => match ord[p]?, ord[q]? with
    | some i, some j => match ops[i]?, ops[j]? with
      | some oi, some oj => !clash ops oi oj || reach ops ops.size i j
      | _, _ => false
    | _, _ => false) &&
  (List.range ops.size).all (fun q => match ord[q]? with
    | some j => match ops[j]? with
      | some o => o.after.all fun e => !Region.binds .any e || (ord.take q).contains e.on
      | none => false
    | none => false)

structure Chk (ops : Array Oper) (ord : List Nat) : Prop where
  len : ord.length = ops.size
  cover : ∀ i : Nat, i < ops.size → ∃ p, p < ops.size ∧ ord[p]? = some i
  lt : ∀ p i : Nat, ord[p]? = some i → i < ops.size
  inj : ∀ p q i : Nat, ord[p]? = some i → ord[q]? = some i → p = q
  clash : ∀ (p q i j : Nat) (oi oj : Oper), p < q → ord[p]? = some i → ord[q]? = some j → ops[i]? = some oi → ops[j]? = some oj → C.clash ops oi oj = true → reach ops ops.size i j = true
  edge : ∀ (q j : Nat) (o : Oper) (e : Edge), ord[q]? = some j → ops[j]? = some o → e ∈ o.after → Region.binds .any e = true → ∃ p, p < q ∧ ord[p]? = some e.on

theorem drawChk_spec {ops : Array Oper} {ord : List Nat} (h : drawChk ops ord = true) : Chk ops ord := by
  unfold drawChk at h
  simp only [Bool.and_eq_true, beq_iff_eq, List.all_eq_true, List.mem_range, decide_eq_true_eq, List.contains_iff_mem] at h
  obtain ⟨⟨⟨⟨⟨h1, h2⟩, h3⟩, h4⟩, h5⟩, h6⟩ := h
  have lt : ∀ p i, ord[p]? = some i → p < ops.size := fun p i hp => by rw [← h1]; exact (List.getElem?_eq_some_iff.1 hp).1
  refine ⟨h1, ?_, ?_, ?_, ?_, ?_⟩
  · intro i hi
    obtain ⟨p, hp⟩ := List.getElem?_of_mem (h2 i hi)
    exact ⟨p, lt p i hp, hp⟩
  · intro p i hp
    exact h3 i (List.mem_of_getElem? hp)
  · intro p q i hp hq
    exact (List.getElem?_inj (List.getElem?_eq_some_iff.1 hp).1 h4).1 (hp.trans hq.symm)
  · intro p q i j oi oj hpq hp hq hi hj hc
    have := h5 q (lt q j hq) p hpq
    rw [hp, hq] at this
    simp only [hi, hj, hc, Bool.not_true, Bool.false_or] at this
    exact this
  · intro q j o e hq hj he hb
    have := h6 q (lt q j hq)
    rw [hq] at this
    simp only [hj, Array.all_eq_true_iff_forall_mem] at this
    have := this e he
    simp only [hb, Bool.not_true, Bool.false_or, List.contains_iff_mem] at this
    obtain ⟨p, hp⟩ := List.getElem?_of_mem this
    rw [List.getElem?_take] at hp
    split at hp
    · rename_i hlt; exact ⟨p, hlt, hp⟩
    · simp at hp

end Go.Proofs.Ytdhbclplondmjaa.C

/- Drawn regions, third part: whatever order is drawn. -/
set_option linter.unusedVariables false
set_option linter.unusedSimpArgs false
namespace Go.Proofs.Ytdhbclplondmjaa.C
open Go.RowKit

variable {P : Program} {T : Tab} {base : Nat} {F : Nat → Prop}

/-- The states of an evaluation, one by one. -/
theorem trace {call : CallF} {d : Bool} {ops : Array Oper} : ∀ {is : List Nat} {s s1 : List Value} {H H1 : Heap}, evalIdx T call d ops is s H = some (s1, H1) →
    ∃ st : Nat → List Value × Heap, st 0 = (s, H) ∧ st is.length = (s1, H1) ∧ ∀ p i, is[p]? = some i → ∃ o, ops[i]? = some o ∧ evalOne T call d ops o (st p).1 (st p).2 = some (st (p + 1))
  | [], s, s1, H, H1, h => by
    simp only [evalIdx, Option.some.injEq, Prod.mk.injEq] at h
    obtain ⟨rfl, rfl⟩ := h
    exact ⟨fun _ => (s, H), rfl, rfl, fun p i hp => by simp at hp⟩
  | i :: is, s, s1, H, H1, h => by
    unfold evalIdx at h
    split at h
    · simp at h
    · rename_i o ho
      split at h
      · rename_i s2 H2 e
        obtain ⟨st, h0, hn, hst⟩ := trace h
        refine ⟨fun p => match p with | 0 => (s, H) | p + 1 => st p, rfl, hn, fun p j hp => ?_⟩
        cases p with
        | zero =>
          simp only [List.getElem?_cons_zero, Option.some.injEq] at hp
          subst hp
          exact ⟨o, ho, by simp only [h0]; exact e⟩
        | succ p =>
          simp only [List.getElem?_cons_succ] at hp
          exact hst p j hp
      · simp at h

/-- Only what an operation looks at. -/
def only (ts : List Tmp) (s : List Value) : List Value := s.mapIdx fun i v => if ts.contains i then v else undef

theorem only_getD (ts : List Tmp) (s : List Value) (t : Nat) : (only ts s).getD t undef = if ts.contains t then s.getD t undef else undef := by
  simp only [only, List.getD_eq_getElem?_getD, List.getElem?_mapIdx]
  cases h : s[t]? <;> simp

theorem only_length (ts : List Tmp) (s : List Value) : (only ts s).length = s.length := by simp [only]

theorem reads_op {ops : Array Oper} {o : Oper} {t : Tmp} (h : Operand.tmp t ∈ o.op.operands.toList) : t ∈ readsOf ops o := by
  unfold readsOf
  refine List.mem_append.2 (.inl ?_)
  rw [List.mem_filterMap]
  exact ⟨_, h, rfl⟩

theorem only_ev {ops : Array Oper} {o : Oper} (s : List Value) : ∀ x ∈ o.op.operands.toList, ev (only (readsOf ops o) s) x = ev s x := by
  intro x hx
  cases x with
  | tmp t =>
    simp only [ev]
    rw [only_getD, if_pos (by simpa using reads_op hx)]
  | _ => rfl

theorem only_guard {ops : Array Oper} {o : Oper} (s : List Value) : guardC ops o (only (readsOf ops o) s) = guardC ops o s := by
  unfold guardC
  cases hg : o.guard with
  | none => rfl
  | some g =>
    obtain ⟨j, want⟩ := g
    simp only
    cases hd : (ops[j]?).bind (·.dst) with
    | none => rfl
    | some t =>
      simp only
      rw [only_getD, if_pos]
      simp [readsOf, hg, hd]

theorem inPlace_congr {s s' : List Value} {o : Op} (h : ∀ x ∈ o.operands.toList, ev s x = ev s' x) : inPlace s o = inPlace s' o := by
  cases o <;> try rfl
  rename_i c
  obtain ⟨callee, args, ats⟩ := c
  cases callee <;> try rfl
  rename_i b
  cases b <;> try rfl
  simp only [inPlace]
  rw [map_ev_congr (s := s) (s' := s') (xs := args.toList) fun x hx => h x (by simp [Op.operands, Call.operands] at hx ⊢; exact hx)]

theorem put_getD (s : List Value) (d : Option Tmp) (v : Value) (t : Nat) : (put s d v).getD t undef = if d = some t then (if t < s.length then v else undef) else s.getD t undef := by
  cases d with
  | none => simp [put]
  | some d =>
    simp only [put, List.getD_eq_getElem?_getD, List.getElem?_set]
    by_cases h : d = t
    · subst h
      simp only [if_true]
      by_cases hl : d < s.length <;> simp [hl]
    · rw [if_neg h, if_neg (by simpa using h)]

theorem put_length (s : List Value) (d : Option Tmp) (v : Value) : (put s d v).length = s.length := by cases d <;> simp [put]

theorem aput_getD (a : Act) (d : Option Tmp) (v : Value) (t : Nat) : (a.put d v).tmps.getD t undef = if d = some t then (if t < a.tmps.size then v else undef) else a.tmps.getD t undef := by
  cases d with
  | none => simp [Act.put]
  | some d =>
    simp only [Act.put, Array.getD_eq_getD_getElem?, Array.getElem?_setIfInBounds]
    by_cases h : d = t
    · subst h
      simp only [if_true]
      by_cases hl : d < a.tmps.size <;> simp [hl]
    · rw [if_neg h, if_neg (by simpa using h)]

theorem aput_size (a : Act) (d : Option Tmp) (v : Value) : (a.put d v).tmps.size = a.tmps.size := by cases d <;> simp [Act.put]

/-- What holds while a region is under way. -/
structure Mid (base : Nat) (F : Nat → Prop) (ops : Array Oper) (ord : List Nat) (st : Nat → List Value × Heap) (μ0 : Mu) (a0 : Act) (w0 : World) (listed : Array Bool) (a : Act) (w : World) (μ : Mu) (hc : Nat → Option Blk) : Prop where
  size : listed.size = ops.size
  closed : ∀ i o e, listed.getD i false = true → ops[i]? = some o → e ∈ o.after → Region.binds .any e = true → listed.getD e.on false = true
  defers : a.defers = a0.defers
  tmps : a.tmps.size = (st 0).1.length
  slots : ∀ t p, p ≤ ops.size → (∀ q i o, ord[q]? = some i → ops[i]? = some o → o.dst = some t → (listed.getD i false = true ↔ q < p)) → VR μ ((st p).1.getD t undef) (a.tmps.getD t undef)
  mem : HRf base F μ hc w
  subs : ∀ p, p ≤ ops.size → (∀ q i o, ord[q]? = some i → ops[i]? = some o → q < p → strong o.op = true → listed.getD i false = true) →
    (∀ q i o, ord[q]? = some i → ops[i]? = some o → p ≤ q → writer o.op = true → listed.getD i false = false) → Sub μ (st p).2 hc
  made : ∀ b, (st 0).2.length ≤ b → b < (st ops.size).2.length → μ b ≠ none → ∃ p i, ord[p]? = some i ∧ listed.getD i false = true ∧ (st p).2.length ≤ b ∧ b < (st (p + 1)).2.length
  le : MuLe μ0 μ
  same : ∀ b, (b < (st 0).2.length ∨ (st ops.size).2.length ≤ b) → μ b = μ0 b
  fr : Fr base F w0 w

theorem reach_listed {ops : Array Oper} {listed : Array Bool} (hc : ∀ i o e, listed.getD i false = true → ops[i]? = some o → e ∈ o.after → Region.binds .any e = true → listed.getD e.on false = true) :
    ∀ {n i j : Nat}, reach ops n i j = true → (∀ o e, ops[j]? = some o → e ∈ o.after → Region.binds .any e = true → listed.getD e.on false = true) → listed.getD i false = true
  | 0, _, _, h, _ => by simp [reach] at h
  | n + 1, i, j, h, hj => by
    unfold reach at h
    split at h
    · simp at h
    · rename_i o ho
      obtain ⟨e, he, hb⟩ := Array.any_eq_true'.1 h
      simp only [Bool.and_eq_true, Bool.or_eq_true, beq_iff_eq] at hb
      have hl := hj o e ho he hb.1
      rcases hb.2 with rfl | hr
      · exact hl
      · exact reach_listed hc hr fun o2 e2 ho2 he2 hb2 => hc e.on o2 e2 hl ho2 he2 hb2

end Go.Proofs.Ytdhbclplondmjaa.C

/- Drawn regions, fourth part: one operation, and all of them. -/
set_option linter.unusedVariables false
set_option linter.unusedSimpArgs false
namespace Go.Proofs.Ytdhbclplondmjaa.C
open Go.RowKit

variable {P : Program} {T : Tab} {base : Nat} {F : Nat → Prop}

theorem evalOne_moves {call : CallF} {ops : Array Oper} {o : Oper} {s s1 : List Value} {H H1 : Heap} (h : evalOne T (quiet call) true ops o s H = some (s1, H1)) :
    Onward H H1 ∧ (strong o.op = false → Weak H H1) ∧ (writer o.op = false → ∃ L, H1 = H ++ L) ∧ (pureOp o.op = true → H1 = H) ∧ ∃ v, s1 = put s o.dst v := by
  unfold evalOne at h
  split at h
  · split at h
    · simp at h
    · rename_i hin
      simp only [Bool.true_and, Bool.not_eq_true] at hin
      rw [Option.map_eq_some_iff] at h
      obtain ⟨⟨v, H2⟩, hx, h⟩ := h
      simp only [Prod.mk.injEq] at h
      obtain ⟨rfl, rfl⟩ := h
      obtain ⟨m1, m2, m3, m4⟩ := evalOp_moves hx
      refine ⟨m1, fun q => m2 q hin, fun q => ?_, m4, v, rfl⟩
      simp only [writer, Bool.or_eq_false_iff] at q
      exact m3 q.1 q.2
  · simp only [Option.some.injEq, Prod.mk.injEq] at h
    obtain ⟨rfl, rfl⟩ := h
    exact ⟨(Weak.refl _).onward, fun _ => Weak.refl _, fun _ => ⟨[], by simp⟩, fun _ => rfl, .chan none, rfl⟩
  · simp at h

theorem pure_weak {o : Op} (h : pureOp o = true) : strong o = false ∧ writer o = false := by
  have : strong o = false ∧ isAppend o = false := by
    cases o <;> first | exact ⟨rfl, rfl⟩ | (simp [pureOp] at h; done) | skip
    rename_i c
    obtain ⟨callee, args, ats⟩ := c
    cases callee <;> first | exact ⟨rfl, rfl⟩ | (simp [pureOp] at h; done) | skip
    rename_i b
    cases b <;> first | exact ⟨rfl, rfl⟩ | (simp [pureOp] at h; done)
  exact ⟨this.1, by simp [writer, this.1, this.2]⟩

theorem evalOp_pure {call : CallF} {s : List Value} {H H' : Heap} {o : Op} {v : Value} (hp : pureOp o = true) (h : evalOp T call s H o = some (v, H')) (K : Heap) : evalOp T call s K o = some (v, K) := by
  unfold evalOp at h ⊢
  split at h
  · rename_i r hr
    simp only [Option.some.injEq] at h
    subst h
    rw [(opEval_pure hp hr).2 K]
  · split at h
    · rename_i f args hcal
      exfalso
      unfold calleeOf at hcal
      split at hcal <;> simp [pureOp] at hp hcal
    · simp at h

theorem SR.of_getD {μ : Mu} {s : List Value} {t : Array Value} (hl : t.size = s.length) (h : ∀ i, VR μ (s.getD i undef) (t.getD i undef)) : SR μ s t := by
  refine ⟨hl, VRs.of_get (by simpa using hl) fun i v hv => ?_⟩
  have hlt := (List.getElem?_eq_some_iff.1 hv).1
  have hlt2 : i < t.size := by omega
  have := h i
  rw [List.getD_eq_getElem?_getD, hv, Array.getD_eq_getD_getElem?, Array.getElem?_eq_getElem hlt2] at this
  exact ⟨t[i], by simp [hlt2], this⟩

section
variable {call : CallF} {ops : Array Oper} {ord : List Nat} {st : Nat → List Value × Heap} {μ0 μ : Mu} {a0 a : Act} {w0 w : World} {listed : Array Bool} {hc : Nat → Option Blk}

def Traced (T : Tab) (call : CallF) (ops : Array Oper) (ord : List Nat) (st : Nat → List Value × Heap) : Prop :=
  ∀ p i, ord[p]? = some i → ∃ o, ops[i]? = some o ∧ evalOne T (quiet call) true ops o (st p).1 (st p).2 = some (st (p + 1))

theorem Traced.at (ht : Traced T call ops ord st) (chk : Chk ops ord) {p : Nat} (hp : p < ops.size) : ∃ i o, ord[p]? = some i ∧ ops[i]? = some o ∧ evalOne T (quiet call) true ops o (st p).1 (st p).2 = some (st (p + 1)) := by
  have hlt : p < ord.length := by rw [chk.len]; exact hp
  obtain ⟨o, h1, h2⟩ := ht p ord[p] (List.getElem?_eq_getElem hlt)
  exact ⟨_, o, List.getElem?_eq_getElem hlt, h1, h2⟩

theorem Traced.mono (ht : Traced T call ops ord st) (chk : Chk ops ord) {p : Nat} : ∀ {q : Nat}, p ≤ q → q ≤ ops.size → (st p).2.length ≤ (st q).2.length
  | 0, h, _ => by have : p = 0 := by omega
                  subst this; exact Nat.le_refl _
  | q + 1, h, hq => by
    rcases Nat.lt_or_ge p (q + 1) with hlt | hge
    · obtain ⟨i, o, h1, h2, h3⟩ := ht.at chk (p := q) (by omega)
      exact Nat.le_trans (ht.mono chk (by omega) (by omega)) (evalOne_moves (s1 := (st (q + 1)).1) h3).1.1
    · have : p = q + 1 := by omega
      subst this; exact Nat.le_refl _

theorem Traced.slen (ht : Traced T call ops ord st) (chk : Chk ops ord) : ∀ {q : Nat}, q ≤ ops.size → (st q).1.length = (st 0).1.length
  | 0, _ => rfl
  | q + 1, hq => by
    obtain ⟨i, o, h1, h2, h3⟩ := ht.at chk (p := q) (by omega)
    obtain ⟨v, hv⟩ := (evalOne_moves (s1 := (st (q + 1)).1) h3).2.2.2.2
    rw [hv, put_length, ht.slen chk (by omega)]

theorem Traced.const (ht : Traced T call ops ord st) (chk : Chk ops ord) {p t : Nat} : ∀ {q : Nat}, p ≤ q → q ≤ ops.size → (∀ r i o, p ≤ r → r < q → ord[r]? = some i → ops[i]? = some o → o.dst ≠ some t) →
    (st q).1.getD t undef = (st p).1.getD t undef
  | 0, h, _, _ => by have : p = 0 := by omega
                     subst this; rfl
  | q + 1, h, hq, hno => by
    rcases Nat.lt_or_ge p (q + 1) with hlt | hge
    · obtain ⟨i, o, h1, h2, h3⟩ := ht.at chk (p := q) (by omega)
      obtain ⟨v, hv⟩ := (evalOne_moves (s1 := (st (q + 1)).1) h3).2.2.2.2
      rw [hv, put_getD, if_neg (hno q i o (by omega) (by omega) h1 h2)]
      exact ht.const chk (by omega) (by omega) fun r i o h1 h2 => hno r i o h1 (by omega)
    · have : p = q + 1 := by omega
      subst this; rfl

theorem Traced.weak (ht : Traced T call ops ord st) (chk : Chk ops ord) {p : Nat} : ∀ {q : Nat}, p ≤ q → q ≤ ops.size → (∀ r i o, p ≤ r → r < q → ord[r]? = some i → ops[i]? = some o → strong o.op = false) → Weak (st p).2 (st q).2
  | 0, h, _, _ => by have : p = 0 := by omega
                     subst this; exact Weak.refl _
  | q + 1, h, hq, hno => by
    rcases Nat.lt_or_ge p (q + 1) with hlt | hge
    · obtain ⟨i, o, h1, h2, h3⟩ := ht.at chk (p := q) (by omega)
      exact (ht.weak chk (by omega) (by omega) fun r i o h1 h2 => hno r i o h1 (by omega)).trans ((evalOne_moves (s1 := (st (q + 1)).1) h3).2.1 (hno q i o (by omega) (by omega) h1 h2))
    · have : p = q + 1 := by omega
      subst this; exact Weak.refl _

theorem listed_set {i j : Nat} (hi : i < listed.size) : (listed.setIfInBounds i true).getD j false = true ↔ listed.getD j false = true ∨ j = i := by
  simp only [Array.getD_eq_getD_getElem?, Array.getElem?_setIfInBounds]
  by_cases h : i = j
  · subst h; simp [hi]
  · simp only [if_neg h]
    constructor
    · exact fun q => .inl q
    · rintro (q | q)
      · exact q
      · exact absurd q.symm h

/-- One operation has run. -/
theorem Mid.next (ht : Traced T call ops ord st) (chk : Chk ops ord) (hfree : Free μ0 (st 0).2.length (st ops.size).2.length) (M : Mid base F ops ord st μ0 a0 w0 listed a w μ hc) {p0 i : Nat} {o : Oper} (hp0 : ord[p0]? = some i) (ho : ops[i]? = some o)
    (hnot : listed.getD i false = false) (hrdy : ∀ e ∈ o.after, Region.binds .any e = true → listed.getD e.on false = true) {v v' : Value} (hput : (st (p0 + 1)).1 = put (st p0).1 o.dst v)
    {Hb Ha : Heap} (hH : (pureOp o.op = true ∧ Hb = [] ∧ Ha = []) ∨ (pureOp o.op = false ∧ Hb = (st p0).2 ∧ Ha = (st (p0 + 1)).2)) (hsub : Sub μ Hb hc) (hf : Free μ Hb.length Ha.length) {μ' : Mu} {w' : World}
    (g : Goes base (Guarded F μ hc Hb) μ μ' Hb Ha w w') (hv : VR μ' v v') : Mid base F ops ord st μ0 a0 w0 (listed.setIfInBounds i true) (a.put o.dst v') w' μ' (behind hc Hb Ha) := by
  have hi : i < ops.size := chk.lt p0 i hp0
  have hp : p0 < ops.size := by rw [← chk.len]; exact (List.getElem?_eq_some_iff.1 hp0).1
  have hil : i < listed.size := by rw [M.size]; exact hi
  have D' : ∀ j, (listed.setIfInBounds i true).getD j false = true ↔ listed.getD j false = true ∨ j = i := fun j => listed_set hil
  have later : ∀ q j oj, p0 < q → ord[q]? = some j → ops[j]? = some oj → clash ops o oj = true → listed.getD j false = true → False := by
    intro q j oj hq hj hoj hcl hd
    have hr := chk.clash p0 q i j o oj hq hp0 hj ho hoj hcl
    have := reach_listed M.closed hr fun o2 e2 h1 h2 h3 => M.closed j o2 e2 hd h1 h2 h3
    rw [hnot] at this; simp at this
  have ne : ∀ {q j : Nat}, ord[q]? = some j → q ≠ p0 → j ≠ i := by
    rintro q j hq hne rfl
    exact hne (chk.inj q p0 j hq hp0)
  have hstep := (ht p0 i hp0)
  obtain ⟨o2, ho2, he⟩ := hstep
  rw [ho] at ho2
  simp only [Option.some.injEq] at ho2
  subst ho2
  obtain ⟨mOn, mWeak, mApp, mPure, _⟩ := evalOne_moves (s1 := (st (p0 + 1)).1) (H1 := (st (p0 + 1)).2) he
  obtain ⟨hmem, hfr⟩ := M.mem.step hsub g hf
  have hlen0 : (st 0).2.length ≤ (st p0).2.length := ht.mono chk (Nat.zero_le _) (by omega)
  have hlen1 : (st (p0 + 1)).2.length ≤ (st ops.size).2.length := ht.mono chk (by omega) (Nat.le_refl _)
  refine ⟨by simp [M.size], ?_, by rw [put_defers]; exact M.defers, by rw [aput_size]; exact M.tmps, ?_, hmem, ?_, ?_, M.le.trans g.le, ?_, M.fr.trans hfr⟩
  · intro j oj e hd hoj he hb
    rcases (D' j).1 hd with h | rfl
    · exact (D' _).2 (.inl (M.closed j oj e h hoj he hb))
    · rw [ho] at hoj
      simp only [Option.some.injEq] at hoj
      subst hoj
      exact (D' _).2 (.inl (hrdy e he hb))
  · intro t p hpn hag
    rw [aput_getD]
    by_cases hd : o.dst = some t
    · rw [if_pos hd]
      have hlt : p0 < p := (hag p0 i o hp0 ho hd).1 ((D' i).2 (.inr rfl))
      have hc2 := ht.const chk (p := p0 + 1) (t := t) (q := p) (by omega) hpn ?_
      · rw [hc2, hput, put_getD, if_pos hd]
        have h1 : (st p0).1.length = a.tmps.size := by rw [M.tmps, ht.slen chk (by omega)]
        rw [h1]
        by_cases hlt : t < a.tmps.size
        · simp only [hlt, if_true]; exact hv
        · simp only [hlt, if_false]; exact .undef _
      · intro r j oj h1 h2 hr hoj hdj
        have hne : j ≠ i := ne hr (by omega)
        have hDj := (D' j).1 ((hag r j oj hr hoj hdj).2 h2)
        refine later r j oj (by omega) hr hoj ?_ (hDj.resolve_right hne)
        unfold clash
        have : (o.dst.toList.any fun d => (namesOf ops oj).contains d) = true := by simp [hd, namesOf, hdj]
        rw [this]; simp
    · rw [if_neg hd]
      refine (M.slots t p hpn fun q j oj hq hoj hdj => ?_).mono g.le
      have hne : j ≠ i := by
        rintro rfl
        rw [ho] at hoj
        simp only [Option.some.injEq] at hoj
        subst hoj
        exact hd hdj
      rw [← hag q j oj hq hoj hdj, D' j]
      simp [hne]
  · intro p hpn V1 V2 b x hx hl hμ
    have v2 : ∀ q j oj, ord[q]? = some j → ops[j]? = some oj → p ≤ q → writer oj.op = true → listed.getD j false = false := by
      intro q j oj h1 h2 h3 h4
      have := V2 q j oj h1 h2 h3 h4
      cases hh : listed.getD j false with
      | false => rfl
      | true => rw [(D' j).2 (.inl hh)] at this; simp at this
    rcases hH with ⟨hpure, rfl, rfl⟩ | ⟨hheap, rfl, rfl⟩
    · have hb : behind hc [] [] b = hc b := by unfold behind; simp
      rw [hb]
      refine M.subs p hpn ?_ v2 b x hx hl ?_
      · intro q j oj h1 h2 h3 h4
        rcases (D' j).1 (V1 q j oj h1 h2 h3 h4) with h | rfl
        · exact h
        · rw [ho] at h2
          simp only [Option.some.injEq] at h2
          subst h2
          rw [(pure_weak hpure).1] at h4; simp at h4
      · rw [g.same b (.inr (Nat.zero_le _))] at hμ; exact hμ
    · rcases Nat.lt_or_ge p0 p with hlt | hge
      · have nostrong : ∀ r j oj, p0 + 1 ≤ r → r < p → ord[r]? = some j → ops[j]? = some oj → strong oj.op = false := by
          intro r j oj h1 h2 h3 h4
          cases hs : strong oj.op with
          | false => rfl
          | true =>
            exfalso
            have hne : j ≠ i := ne h3 (by omega)
            refine later r j oj (by omega) h3 h4 ?_ (((D' j).1 (V1 r j oj h3 h4 h2 hs)).resolve_right hne)
            simp [clash, hheap, writer, hs]
        have hw := ht.weak chk (p := p0 + 1) (q := p) (by omega) hpn nostrong
        have hlenp : (st p).2.length ≤ (st ops.size).2.length := ht.mono chk hpn (Nat.le_refl _)
        have hbp : b < (st p).2.length := (List.getElem?_eq_some_iff.1 hx).1
        rcases Nat.lt_or_ge b (st (p0 + 1)).2.length with hb | hb
        · have hax := hw.2 b x hb hx hl
          unfold behind
          split
          · exact hax
          · rename_i hno
            simp only [not_or] at hno
            exfalso
            have hlt2 : b < (st p0).2.length := by have := hno.2; omega
            obtain ⟨y, hy, hyl⟩ := mOn.2 b x hlt2 hax hl
            exact hno.1 ⟨y, hy, hyl⟩
        · have hbeh : behind hc (st p0).2 (st (p0 + 1)).2 b = hc b := by
            unfold behind
            rw [if_neg]
            rintro (⟨y, hy, _⟩ | ⟨_, h2⟩)
            · have := (List.getElem?_eq_some_iff.1 hy).1
              have := mOn.1
              omega
            · omega
          rw [hbeh]
          have hμ2 : μ b ≠ none := by rw [g.same b (.inr hb)] at hμ; exact hμ
          obtain ⟨q, j, hq, hDj, hq1, hq2⟩ := M.made b (by have := mOn.1; omega) (by omega) hμ2
          have hqn : q < ops.size := by rw [← chk.len]; exact (List.getElem?_eq_some_iff.1 hq).1
          have hqp : p0 < q := by
            rcases Nat.lt_or_ge p0 q with h | h
            · exact h
            · have := ht.mono chk (p := q + 1) (q := p0 + 1) (by omega) (by omega)
              omega
          obtain ⟨oj, hoj, hej⟩ := ht q j hq
          have hpj : pureOp oj.op = false := by
            cases h : pureOp oj.op with
            | false => rfl
            | true =>
              have := (evalOne_moves (s1 := (st (q + 1)).1) (H1 := (st (q + 1)).2) hej).2.2.2.1 h
              rw [this] at hq2
              omega
          have hso : strong o.op = false := by
            cases h : strong o.op with
            | false => rfl
            | true => exact (later q j oj hqp hq hoj (by simp [clash, h, hpj]) hDj).elim
          refine M.subs p hpn ?_ v2 b x hx hl hμ2
          intro q j oj h1 h2 h3 h4
          rcases (D' j).1 (V1 q j oj h1 h2 h3 h4) with h | rfl
          · exact h
          · rw [ho] at h2
            simp only [Option.some.injEq] at h2
            subst h2
            rw [hso] at h4; simp at h4
      · have hwr : writer o.op = false := by
          cases h : writer o.op with
          | false => rfl
          | true =>
            have := V2 p0 i o hp0 ho hge h
            rw [(D' i).2 (.inr rfl)] at this; simp at this
        obtain ⟨L, hL⟩ := mApp hwr
        have v1 : ∀ q j oj, ord[q]? = some j → ops[j]? = some oj → q < p → strong oj.op = true → listed.getD j false = true := by
          intro q j oj h1 h2 h3 h4
          exact ((D' j).1 (V1 q j oj h1 h2 h3 h4)).resolve_right (ne h1 (by omega))
        have hbp : b < (st p).2.length := (List.getElem?_eq_some_iff.1 hx).1
        have hpp : (st p).2.length ≤ (st p0).2.length := ht.mono chk hge (by omega)
        have hμ2 : μ b ≠ none := by rw [g.same b (.inl (by omega))] at hμ; exact hμ
        have hcb := M.subs p hpn v1 v2 b x hx hl hμ2
        unfold behind
        split
        · rename_i hcond
          rcases hcond with ⟨y, hy, hyl⟩ | ⟨h1, _⟩
          · have := hsub b y hy hyl hμ2
            rw [hcb] at this
            simp only [Option.some.injEq] at this
            subst this
            rw [hL, List.getElem?_append_left (by omega)]
            exact hy
          · omega
        · exact hcb
  · intro b h1 h2 h3
    by_cases hμ : μ b = none
    · have : Hb.length ≤ b ∧ b < Ha.length := by
        rcases Nat.lt_or_ge b Hb.length with h | h
        · rw [g.same b (.inl h)] at h3; exact absurd hμ h3
        · rcases Nat.lt_or_ge b Ha.length with h' | h'
          · exact ⟨h, h'⟩
          · rw [g.same b (.inr h')] at h3; exact absurd hμ h3
      rcases hH with ⟨_, rfl, rfl⟩ | ⟨_, rfl, rfl⟩
      · simp at this
      · exact ⟨p0, i, hp0, (D' i).2 (.inr rfl), this.1, this.2⟩
    · obtain ⟨p, j, h4, h5, h6, h7⟩ := M.made b h1 h2 hμ
      exact ⟨p, j, h4, (D' j).2 (.inl h5), h6, h7⟩
  · intro b hb
    rw [← M.same b hb]
    refine g.same b ?_
    rcases hH with ⟨_, rfl, rfl⟩ | ⟨_, rfl, rfl⟩
    · exact .inr (Nat.zero_le _)
    · rcases hb with hb | hb
      · exact .inl (by omega)
      · exact .inr (by omega)

end

end Go.Proofs.Ytdhbclplondmjaa.C

/- Drawn regions, fifth part: the region's law. -/
set_option linter.unusedVariables false
set_option linter.unusedSimpArgs false
namespace Go.Proofs.Ytdhbclplondmjaa.C
open Go.RowKit

variable {P : Program} {T : Tab} {base : Nat} {F : Nat → Prop}

section
variable {call : CallF} {ops : Array Oper} {ord : List Nat} {st : Nat → List Value × Heap} {μ0 μ : Mu} {a0 a : Act} {w0 w : World} {listed : Array Bool} {hc : Nat → Option Blk}

/-- Whatever is ready may run. -/
theorem Mid.run (ag : Agree P T) (hm : ∀ t n f e, T.meth t n = some (f, e) → MethOk P t n f e) (hcall : SoundCall P call) (ht : Traced T call ops ord st) (chk : Chk ops ord) (hfree : Free μ0 (st 0).2.length (st ops.size).2.length)
    (M : Mid base F ops ord st μ0 a0 w0 listed a w μ hc) {i : Nat} (hi : i ∈ Region.ready .any ops listed) {K : Act → World → Prop} {Q : Exit → Act → World → Prop}
    (hK : ∀ a' w' μ' hc', Mid base F ops ord st μ0 a0 w0 (listed.setIfInBounds i true) a' w' μ' hc' → K a' w') : wpOp P ops Q i K a w := by
  obtain ⟨hun, o, ho, hrdy⟩ := mem_ready.1 hi
  have hisz : i < ops.size := (Array.getElem?_eq_some_iff.1 ho).1
  have hil : i < listed.size := by rw [M.size]; exact hisz
  have hnot : listed.getD i false = false := by
    rw [Array.getD_eq_getD_getElem?, Array.getElem?_eq_getElem hil] at hun ⊢
    exact hun
  obtain ⟨p0, hpn, hp0⟩ := chk.cover i hisz
  obtain ⟨o2, ho2, he⟩ := ht p0 i hp0
  rw [ho] at ho2
  simp only [Option.some.injEq] at ho2
  subst ho2
  have before : ∀ q j oj, q < p0 → ord[q]? = some j → ops[j]? = some oj → clash ops oj o = true → listed.getD j false = true := fun q j oj hq hj hoj hcl =>
    reach_listed M.closed (chk.clash q p0 j i oj o hq hj hp0 hoj ho hcl) fun o2 e2 h1 h2 h3 => by
      rw [ho] at h1
      simp only [Option.some.injEq] at h1
      subst h1
      exact hrdy e2 h2 h3
  have later : ∀ q j oj, p0 < q → ord[q]? = some j → ops[j]? = some oj → clash ops o oj = true → listed.getD j false = false := by
    intro q j oj hq hj hoj hcl
    cases hd : listed.getD j false with
    | false => rfl
    | true =>
      have := reach_listed M.closed (chk.clash p0 q i j o oj hq hp0 hj ho hoj hcl) fun o2 e2 h1 h2 h3 => M.closed j o2 e2 hd h1 h2 h3
      rw [hnot] at this; simp at this
  -- what the operation looks at is there
  have slot : ∀ t, t ∈ readsOf ops o → VR μ ((st p0).1.getD t undef) (a.tmps.getD t undef) := by
    intro t htm
    refine M.slots t p0 (by omega) fun q j oj hq hoj hdj => ?_
    rcases Nat.lt_trichotomy q p0 with h | h | h
    · have := before q j oj h hq hoj (by
        have : (oj.dst.toList.any fun d => (namesOf ops o).contains d) = true := by simp [hdj, namesOf, htm]
        unfold clash
        rw [this]
        simp only [Bool.true_or, Bool.or_true])
      simp [this, h]
    · subst h
      rw [hp0] at hq
      simp only [Option.some.injEq] at hq
      subst hq
      simp [hnot]
    · have := later q j oj h hq hoj (by
        have : (oj.dst.toList.any fun d => (namesOf ops o).contains d) = true := by simp [hdj, namesOf, htm]
        unfold clash
        rw [this]
        simp only [Bool.true_or, Bool.or_true])
      rw [this]
      simp; omega
  have hsr : SR μ (only (readsOf ops o) (st p0).1) a.tmps := by
    refine SR.of_getD ?_ fun t => ?_
    · rw [only_length, M.tmps, ht.slen chk (q := p0) (by omega)]
    · rw [only_getD]
      split
      · rename_i h; exact slot t (by simpa using h)
      · exact .undef _
  -- the memory that it is evaluated in
  have hvalid : pureOp o.op = false → Sub μ (st p0).2 hc := by
    intro hh
    refine M.subs p0 (by omega) ?_ ?_
    · intro q j oj h1 h2 h3 h4
      exact before q j oj h3 h1 h2 (by simp [clash, h4, hh])
    · intro q j oj h1 h2 h3 h4
      rcases Nat.lt_or_ge p0 q with h | h
      · exact later q j oj h h1 h2 (by simp [clash, h4, hh])
      · have : q = p0 := by omega
        subst this
        rw [hp0] at h1
        simp only [Option.some.injEq] at h1
        subst h1
        exact hnot
  have hfr : pureOp o.op = false → Free μ (st p0).2.length (st (p0 + 1)).2.length := by
    intro hh b h1 h2
    have hl0 : (st 0).2.length ≤ (st p0).2.length := ht.mono chk (Nat.zero_le _) (by omega)
    have hl1 : (st (p0 + 1)).2.length ≤ (st ops.size).2.length := ht.mono chk (by omega) (Nat.le_refl _)
    cases hμ : μ b with
    | none => rfl
    | some l =>
      exfalso
      obtain ⟨q, j, hq, hd, h3, h4⟩ := M.made b (by omega) (by omega) (by rw [hμ]; simp)
      have hqn : q < ops.size := by rw [← chk.len]; exact (List.getElem?_eq_some_iff.1 hq).1
      rcases Nat.lt_trichotomy q p0 with h | h | h
      · have := ht.mono chk (p := q + 1) (q := p0) (by omega) (by omega)
        omega
      · subst h
        rw [hp0] at hq
        simp only [Option.some.injEq] at hq
        subst hq
        rw [hnot] at hd; simp at hd
      · have := ht.mono chk (p := p0 + 1) (q := q) (by omega) (by omega)
        omega
  have hmoves := evalOne_moves (s1 := (st (p0 + 1)).1) (H1 := (st (p0 + 1)).2) he
  unfold wpOp
  simp only [ho]
  unfold evalOne at he
  have hgd := only_guard (ops := ops) (o := o) (st p0).1
  split at he
  · rename_i hg
    rw [hg] at hgd
    rw [guard_ok hsr hgd, if_pos rfl]
    split at he
    · simp at he
    · rw [Option.map_eq_some_iff] at he
      obtain ⟨⟨v, H2⟩, hx, he⟩ := he
      have h1 : (st (p0 + 1)).1 = put (st p0).1 o.dst v := by rw [← he]
      have h2 : (st (p0 + 1)).2 = H2 := by rw [← he]
      have hx' : evalOp T (quiet call) (only (readsOf ops o) (st p0).1) (st p0).2 o.op = some (v, H2) := by
        rw [evalOp_congr (only_ev (ops := ops) (st p0).1)]; exact hx
      refine .inl ?_
      cases hh : pureOp o.op with
      | true =>
        have hs0 : Sub μ [] hc := fun b x hb => by simp at hb
        refine evalOp_wp ag hm (quiet_sound hcall) (evalOp_pure hh hx' []) (M.mem.guarded hs0) (fun b _ hb => by simp at hb) hsr.evals fun v' w' μ' g hv => ?_
        exact hK _ _ _ _ (Mid.next ht chk hfree M hp0 ho hnot hrdy h1 (.inl ⟨hh, rfl, rfl⟩) hs0 (fun b _ hb => by simp at hb) g hv)
      | false =>
        have hs0 := hvalid hh
        have hf0 := hfr hh
        subst h2
        refine evalOp_wp ag hm (quiet_sound hcall) hx' (M.mem.guarded hs0) hf0 hsr.evals fun v' w' μ' g hv => ?_
        exact hK _ _ _ _ (Mid.next ht chk hfree M hp0 ho hnot hrdy h1 (.inr ⟨hh, rfl, rfl⟩) hs0 hf0 g hv)
  · rename_i hg
    rw [hg] at hgd
    rw [guard_ok hsr hgd]
    simp only [Option.some.injEq] at he
    have h1 : (st (p0 + 1)).1 = put (st p0).1 o.dst (.chan none) := by rw [← he]
    have h2 : (st (p0 + 1)).2 = (st p0).2 := by rw [← he]
    simp only [Bool.false_eq_true, if_false]
    cases hh : pureOp o.op with
    | true =>
      have hs0 : Sub μ [] hc := fun b x hb => by simp at hb
      exact hK _ _ _ _ (Mid.next ht chk hfree M hp0 ho hnot hrdy h1 (.inl ⟨hh, rfl, rfl⟩) hs0 (fun b _ hb => by simp at hb) (Goes.refl (M.mem.guarded hs0)) .skip)
    | false =>
      have hs0 := hvalid hh
      have g0 : Goes base (Guarded F μ hc (st p0).2) μ μ (st p0).2 (st (p0 + 1)).2 w w := by
        rw [h2]
        exact Goes.refl (M.mem.guarded hs0)
      exact hK _ _ _ _ (Mid.next ht chk hfree M hp0 ho hnot hrdy h1 (.inr ⟨hh, rfl, rfl⟩) hs0 (hfr hh) g0 .skip)
  · simp at he

theorem countP_lt {α : Type} {p q : α → Bool} : ∀ {l : List α}, (∀ x ∈ l, q x = true → p x = true) → (∃ x ∈ l, p x = true ∧ q x = false) → l.countP q < l.countP p
  | [], _, h => by obtain ⟨x, hx, _⟩ := h; simp at hx
  | y :: l, h, hex => by
    have hle : l.countP q ≤ l.countP p := List.countP_mono_left fun x hx => h x (List.mem_cons_of_mem _ hx)
    have hy := h y List.mem_cons_self
    rw [List.countP_cons, List.countP_cons]
    by_cases hpy : p y = true
    · by_cases hqy : q y = true
      · simp only [hpy, hqy, if_true]
        have : ∃ x ∈ l, p x = true ∧ q x = false := by
          obtain ⟨x, hx, h1, h2⟩ := hex
          rcases List.mem_cons.1 hx with rfl | hx
          · rw [hqy] at h2; simp at h2
          · exact ⟨x, hx, h1, h2⟩
        have := countP_lt (fun x hx => h x (List.mem_cons_of_mem _ hx)) this
        omega
      · simp only [hpy, hqy, if_true]
        simp; omega
    · have hqy : ¬ q y = true := fun q => hpy (hy q)
      simp only [hpy, hqy]
      have : ∃ x ∈ l, p x = true ∧ q x = false := by
        obtain ⟨x, hx, h1, h2⟩ := hex
        rcases List.mem_cons.1 hx with rfl | hx
        · exact absurd h1 hpy
        · exact ⟨x, hx, h1, h2⟩
      have := countP_lt (fun x hx => h x (List.mem_cons_of_mem _ hx)) this
      simpa using this

def open_ (ops : Array Oper) (listed : Array Bool) : Nat := (List.range ops.size).countP fun i => !(listed.getD i false)

/-- If nothing is ready, all have come up. -/
theorem Mid.all (ht : Traced T call ops ord st) (chk : Chk ops ord) (M : Mid base F ops ord st μ0 a0 w0 listed a w μ hc) (hr : Region.ready .any ops listed = []) : ∀ p i : Nat, ord[p]? = some i → listed.getD i false = true := by
  intro p
  induction p using Nat.strongRecOn with
  | _ p ih =>
    intro i hp
    cases hd : listed.getD i false with
    | true => rfl
    | false =>
      exfalso
      obtain ⟨o, ho, _⟩ := ht p i hp
      have hisz := chk.lt p i hp
      have hil : i < listed.size := by rw [M.size]; exact hisz
      have : i ∈ Region.ready .any ops listed := by
        rw [mem_ready]
        refine ⟨?_, o, ho, fun e he hb => ?_⟩
        · rw [Array.getD_eq_getD_getElem?, Array.getElem?_eq_getElem hil] at hd ⊢
          exact hd
        · obtain ⟨q, hq, hqe⟩ := chk.edge p i o e hp ho he hb
          exact ih q hq e.on hqe
      rw [hr] at this; simp at this

theorem Mid.done (ht : Traced T call ops ord st) (chk : Chk ops ord) (M : Mid base F ops ord st μ0 a0 w0 listed a w μ hc) (hr : Region.ready .any ops listed = []) :
    Goes base F μ0 μ (st 0).2 (st ops.size).2 w0 w ∧ SR μ (st ops.size).1 a.tmps ∧ a.defers = a0.defers := by
  have hall := M.all ht chk hr
  have hlt : ∀ {q j : Nat}, ord[q]? = some j → q < ops.size := fun h => by rw [← chk.len]; exact (List.getElem?_eq_some_iff.1 h).1
  refine ⟨⟨M.le, M.same, M.mem.toHR (M.subs ops.size (Nat.le_refl _) (fun q j oj h1 _ _ _ => hall q j h1) (fun q j oj h1 _ h3 _ => absurd (hlt h1) (by omega))), M.fr, ht.mono chk (Nat.zero_le _) (Nat.le_refl _)⟩, ?_, M.defers⟩
  refine SR.of_getD (by rw [M.tmps, ht.slen chk (Nat.le_refl _)]) fun t => M.slots t ops.size (Nat.le_refl _) fun q j oj hq _ _ => ?_
  simp [hall q j hq, hlt hq]

theorem Mid.any (ag : Agree P T) (hm : ∀ t n f e, T.meth t n = some (f, e) → MethOk P t n f e) (hcall : SoundCall P call) (ht : Traced T call ops ord st) (chk : Chk ops ord) (hfree : Free μ0 (st 0).2.length (st ops.size).2.length) {Q : Exit → Act → World → Prop}
    (hQ : ∀ a' w' μ', Goes base F μ0 μ' (st 0).2 (st ops.size).2 w0 w' → SR μ' (st ops.size).1 a'.tmps → a'.defers = a0.defers → Q .normal a' w') :
    ∀ (fuel : Nat) (listed : Array Bool) (a : Act) (w : World) (μ : Mu) (hc : Nat → Option Blk), Mid base F ops ord st μ0 a0 w0 listed a w μ hc → open_ ops listed ≤ fuel → wpAny P .any ops Q fuel listed a w
  | 0, listed, a, w, μ, hc, M, hle => by
    have hr : Region.ready .any ops listed = [] := by
      apply List.eq_nil_iff_forall_not_mem.2
      intro i hi
      obtain ⟨hun, o, ho, _⟩ := mem_ready.1 hi
      have hisz : i < ops.size := (Array.getElem?_eq_some_iff.1 ho).1
      have hil : i < listed.size := by rw [M.size]; exact hisz
      have : listed.getD i false = false := by
        rw [Array.getD_eq_getD_getElem?, Array.getElem?_eq_getElem hil] at hun ⊢
        exact hun
      have h0 : open_ ops listed = 0 := by omega
      rw [open_, List.countP_eq_zero] at h0
      have := h0 i (List.mem_range.2 hisz)
      simp_all
    obtain ⟨h1, h2, h3⟩ := M.done ht chk hr
    exact ⟨hr, hQ a w μ h1 h2 h3⟩
  | fuel + 1, listed, a, w, μ, hc, M, hle => by
    refine ⟨fun hr => ?_, fun i hi => ?_⟩
    · obtain ⟨h1, h2, h3⟩ := M.done ht chk hr
      exact hQ a w μ h1 h2 h3
    · refine M.run ag hm hcall ht chk hfree hi fun a' w' μ' hc' M' => ?_
      refine Mid.any ag hm hcall ht chk hfree hQ fuel _ a' w' μ' hc' M' ?_
      obtain ⟨hun, o, ho, _⟩ := mem_ready.1 hi
      have hisz : i < ops.size := (Array.getElem?_eq_some_iff.1 ho).1
      have hil : i < listed.size := by rw [M.size]; exact hisz
      have hnot : listed.getD i false = false := by
        rw [Array.getD_eq_getD_getElem?, Array.getElem?_eq_getElem hil] at hun ⊢
        exact hun
      have : open_ ops (listed.setIfInBounds i true) < open_ ops listed := by
        refine countP_lt (fun x _ hx => ?_) ⟨i, List.mem_range.2 hisz, by simp [hnot], ?_⟩
        · cases h : listed.getD x false with
          | false => rfl
          | true => rw [(listed_set (j := x) hil).2 (.inl h)] at hx; simp at hx
        · rw [(listed_set (j := i) hil).2 (.inr rfl)]; rfl
      omega

end

/-- Whatever order is drawn. -/
theorem draw_any (ag : Agree P T) (hm : ∀ t n f e, T.meth t n = some (f, e) → MethOk P t n f e) {ops : Array Oper} (hchk : drawChk ops (orderOf ops) = true) (call : CallF) (hcall : SoundCall P call) {base : Nat} {F : Nat → Prop} {μ : Mu} {s s1 : List Value} {H H1 : Heap} {w : World} {a : Act}
    (he : evalIdx T (quiet call) true ops (orderOf ops) s H = some (s1, H1)) (h : HR base F μ H w) (hs : SR μ s a.tmps) (hfree : Free μ H.length H1.length) :
    wpAny P .any ops (fun e a' w' => e = .normal ∧ After base F μ H s1 H1 a w a' w') ops.size (Array.replicate ops.size false) a { w with drawn := w.drawn + 1 } := by
  have chk := drawChk_spec hchk
  obtain ⟨st, h0, hn, ht⟩ := trace he
  rw [chk.len] at hn
  have e0 : (st 0).2 = H := by rw [h0]
  have e0' : (st 0).1 = s := by rw [h0]
  have en : (st ops.size).2 = H1 := by rw [hn]
  have en' : (st ops.size).1 = s1 := by rw [hn]
  have htr : Traced T call ops (orderOf ops) st := ht
  have hf0 : Free μ (st 0).2.length (st ops.size).2.length := by rw [e0, en]; exact hfree
  have hd0 : ∀ i, (Array.replicate ops.size false).getD i false = false := by
    intro i
    rw [Array.getD_eq_getD_getElem?]
    cases hq : (Array.replicate ops.size false)[i]? with
    | none => rfl
    | some x =>
      have := Array.getElem?_eq_some_iff.1 hq
      obtain ⟨_, hx⟩ := this
      simp at hx
      simp [← hx]
  refine Mid.any (base := base) (F := F) (w0 := w) ag hm hcall htr chk hf0 (a0 := a) (μ0 := μ) ?_ ops.size _ a _ μ (fun b => (st 0).2[b]?) ?_ ?_
  · intro a' w' μ' g hs' hd'
    rw [e0, en] at g
    rw [en'] at hs'
    exact ⟨rfl, μ', g, hs', hd'⟩
  · refine ⟨by simp, fun i o e hd => by rw [hd0] at hd; simp at hd, rfl, by rw [e0']; exact hs.1, ?_, ?_, ?_, ?_, MuLe.refl _, fun _ _ => rfl, Fr.drew⟩
    · intro t p hp hag
      rw [htr.const chk (p := 0) (q := p) (Nat.zero_le _) hp, e0']
      · exact hs.get t
      · intro r i o _ hr hi ho hd
        have := (hag r i o hi ho hd).2 hr
        rw [hd0] at this; simp at this
    · rw [e0]; exact h.drew.toF
    · intro p hp V1 V2 b x hx hl hμ
      have hw := htr.weak chk (p := 0) (q := p) (Nat.zero_le _) hp (fun r i o _ hr hi ho => by
        cases hs : strong o.op with
        | false => rfl
        | true =>
          have := V1 r i o hi ho hr hs
          rw [hd0] at this; simp at this)
      rcases Nat.lt_or_ge b (st 0).2.length with hb | hb
      · exact hw.2 b x hb hx hl
      · have h1 := (List.getElem?_eq_some_iff.1 hx).1
        have h2 := htr.mono chk (p := p) hp (Nat.le_refl _)
        exact absurd (hf0 b hb (by omega)) hμ
    · intro b h1 h2 h3
      exact absurd (hf0 b h1 h2) h3
  · unfold open_
    refine Nat.le_trans List.countP_le_length ?_
    simp

/-- The law of a drawn region. -/
theorem draw_ok (ag : Agree P T) (hm : ∀ t n f e, T.meth t n = some (f, e) → MethOk P t n f e) (hmix : P.follows .mixedOrders = true) {ops : Array Oper} (hchk : drawChk ops (orderOf ops) = true) : DrawOk P T ops :=
  fun _ call hcall _ _ _ _ _ _ _ _ _ he h hs hfree => wp_region_any hmix (draw_any ag hm hchk call hcall he h hs hfree)

end Go.Proofs.Ytdhbclplondmjaa.C

/- What a table of functions needs. -/
set_option linter.unusedVariables false
set_option linter.unusedSimpArgs false
namespace Go.Proofs.Ytdhbclplondmjaa.C
open Go.RowKit

def codeChk : Code → Bool
  | .region _ ops draw => !draw || drawChk ops (orderOf ops)
  | .seq a b => codeChk a && codeChk b
  | .cond _ a b => codeChk a && codeChk b
  | .block _ a => codeChk a
  | .loop a => codeChk a
  | _ => true

def funcChk (fn : Func) : Bool := match fn.body with | some c => codeChk c | none => false

theorem codeOk {P : Program} {T : Tab} (ag : Agree P T) (hm : ∀ t n f e, T.meth t n = some (f, e) → MethOk P t n f e) (hmix : P.follows .mixedOrders = true) : ∀ {c : Code}, codeChk c = true → CodeOk P T c
  | .region _ ops draw, h => by
    intro hd
    subst hd
    simp only [codeChk, Bool.not_true, Bool.false_or] at h
    exact draw_ok ag hm hmix h
  | .seq a b, h => by
    simp only [codeChk, Bool.and_eq_true] at h
    exact ⟨codeOk ag hm hmix h.1, codeOk ag hm hmix h.2⟩
  | .cond _ a b, h => by
    simp only [codeChk, Bool.and_eq_true] at h
    exact ⟨codeOk ag hm hmix h.1, codeOk ag hm hmix h.2⟩
  | .block _ a, h => codeOk (c := a) ag hm hmix (by simpa [codeChk] using h)
  | .loop a, h => codeOk (c := a) ag hm hmix (by simpa [codeChk] using h)
  | .skip, _ | .exit _, _ | .label _, _ | .ret, _ | .goto _, _ | .refuse _, _ | .scope _, _ | .rangeFunc .., _ => trivial

def lookF (fns : List (FuncId × Func)) (f : FuncId) : Option Func :=
  match fns with
  | [] => none
  | p :: l => if p.1 = f then some p.2 else lookF l f

def AllFn (P : Program) : List (FuncId × Func) → Prop
  | [] => True
  | p :: l => (P.funcs[p.1]? = some p.2 ∧ (∀ xs w, (callFunc p.1 xs).run P w = .ok (.enter p.1 xs) w) ∧ funcChk p.2 = true) ∧ AllFn P l

theorem AllFn.get {P : Program} : ∀ {l : List (FuncId × Func)}, AllFn P l → ∀ {f : FuncId} {fn : Func}, lookF l f = some fn → P.funcs[f]? = some fn ∧ (∀ xs w, (callFunc f xs).run P w = .ok (.enter f xs) w) ∧ funcChk fn = true
  | [], _, f, fn, h => by simp [lookF] at h
  | p :: l, hh, f, fn, h => by
    unfold lookF at h
    split at h
    · rename_i e
      subst e
      simp only [Option.some.injEq] at h
      subst h
      exact hh.1
    · exact AllFn.get hh.2 h

def lookM (ms : List (TypeId × String × FuncId × Option TypeId)) (t : TypeId) (n : String) : Option (FuncId × Option TypeId) :=
  match ms with
  | [] => none
  | p :: l => if p.1 = t ∧ p.2.1 = n then some p.2.2 else lookM l t n

def AllM (P : Program) : List (TypeId × String × FuncId × Option TypeId) → Prop
  | [] => True
  | p :: l => MethOk P p.1 p.2.1 p.2.2.1 p.2.2.2 ∧ AllM P l

theorem AllM.get {P : Program} : ∀ {l : List (TypeId × String × FuncId × Option TypeId)}, AllM P l → ∀ {t : TypeId} {n : String} {f : FuncId} {e : Option TypeId}, lookM l t n = some (f, e) → MethOk P t n f e
  | [], _, _, _, _, _, h => by simp [lookM] at h
  | p :: l, hh, t, n, f, e, h => by
    unfold lookM at h
    split at h
    · rename_i q
      obtain ⟨h1, h2⟩ := q
      simp only [Option.some.injEq] at h
      have := hh.1
      rw [h1, h2, h] at this
      exact this
    · exact AllM.get hh.2 h

theorem fitsOf {P : Program} {T : Tab} (hmix : P.follows .mixedOrders = true) (hty : ∀ t i, T.T t = some i → TyOk P t i) {fns : List (FuncId × Func)} (hfn : T.fn = lookF fns) (hall : AllFn P fns)
    (hm : ∀ t n f e, T.meth t n = some (f, e) → MethOk P t n f e) (hext : ∀ f e, T.ext f = some e → ExtOk P f e ∧ ∀ xs w, (callFunc f xs).run P w = .ok (.enter f xs) w) : Fits P T := by
  have ag : Agree P T := ⟨hty, fun f c h => (hall.get (by rw [← hfn]; exact h)).1⟩
  refine ⟨ag, hm, ?_, ?_, fun f e h => (hext f e h).1⟩
  · intro f h xs w
    rcases h with h | h
    · obtain ⟨fn, hf⟩ := Option.isSome_iff_exists.1 h
      exact (hall.get (by rw [← hfn]; exact hf)).2.1 xs w
    · obtain ⟨e, he⟩ := Option.isSome_iff_exists.1 h
      exact (hext f e he).2 xs w
  · intro f fn c hf hb
    have := (hall.get (by rw [← hfn]; exact hf)).2.2
    unfold funcChk at this
    rw [hb] at this
    exact codeOk ag hm hmix this

end Go.Proofs.Ytdhbclplondmjaa.C
