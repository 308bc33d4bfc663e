/- Drawn regions, third part: whatever order is drawn. -/
import Derived.Test.YtdhbclplondmjaaCDraw2
set_option linter.unusedVariables false
set_option linter.unusedSimpArgs false
namespace Go.Proofs.Ytdhbclplondmjaa.C
open Go.RowKit

variable {P : Program} {T : Tab} {base : Nat} {F : Nat → Prop}

/-- The states of an evaluation, one by one. -/
theorem trace {call : CallF} {d : Bool} {ops : Array Oper} : ∀ {is : List Nat} {s s1 : List Value} {H H1 : Heap}, evalIdx T call d ops is s H = some (s1, H1) →
    ∃ st : Nat → List Value × Heap, st 0 = (s, H) ∧ st is.length = (s1, H1) ∧ ∀ p i, is[p]? = some i → ∃ o, ops[i]? = some o ∧ evalOne T call d ops o (st p).1 (st p).2 = some (st (p + 1))
  | [], s, s1, H, H1, h => by
    simp only [evalIdx, Option.some.injEq, Prod.mk.injEq] at h
    obtain ⟨rfl, rfl⟩ := h
    exact ⟨fun _ => (s, H), rfl, rfl, fun p i hp => by simp at hp⟩
  | i :: is, s, s1, H, H1, h => by
    unfold evalIdx at h
    split at h
    · simp at h
    · rename_i o ho
      split at h
      · rename_i s2 H2 e
        obtain ⟨st, h0, hn, hst⟩ := trace h
        refine ⟨fun p => match p with | 0 => (s, H) | p + 1 => st p, rfl, hn, fun p j hp => ?_⟩
        cases p with
        | zero =>
          simp only [List.getElem?_cons_zero, Option.some.injEq] at hp
          subst hp
          exact ⟨o, ho, by simp only [h0]; exact e⟩
        | succ p =>
          simp only [List.getElem?_cons_succ] at hp
          exact hst p j hp
      · simp at h

/-- Only what an operation looks at. -/
def only (ts : List Tmp) (s : List Value) : List Value := s.mapIdx fun i v => if ts.contains i then v else undef

theorem only_getD (ts : List Tmp) (s : List Value) (t : Nat) : (only ts s).getD t undef = if ts.contains t then s.getD t undef else undef := by
  simp only [only, List.getD_eq_getElem?_getD, List.getElem?_mapIdx]
  cases h : s[t]? <;> simp

theorem only_length (ts : List Tmp) (s : List Value) : (only ts s).length = s.length := by simp [only]

theorem reads_op {ops : Array Oper} {o : Oper} {t : Tmp} (h : Operand.tmp t ∈ o.op.operands.toList) : t ∈ readsOf ops o := by
  unfold readsOf
  refine List.mem_append.2 (.inl ?_)
  rw [List.mem_filterMap]
  exact ⟨_, h, rfl⟩

theorem only_ev {ops : Array Oper} {o : Oper} (s : List Value) : ∀ x ∈ o.op.operands.toList, ev (only (readsOf ops o) s) x = ev s x := by
  intro x hx
  cases x with
  | tmp t =>
    simp only [ev]
    rw [only_getD, if_pos (by simpa using reads_op hx)]
  | _ => rfl

theorem only_guard {ops : Array Oper} {o : Oper} (s : List Value) : guardC ops o (only (readsOf ops o) s) = guardC ops o s := by
  unfold guardC
  cases hg : o.guard with
  | none => rfl
  | some g =>
    obtain ⟨j, want⟩ := g
    simp only
    cases hd : (ops[j]?).bind (·.dst) with
    | none => rfl
    | some t =>
      simp only
      rw [only_getD, if_pos]
      simp [readsOf, hg, hd]

theorem inPlace_congr {s s' : List Value} {o : Op} (h : ∀ x ∈ o.operands.toList, ev s x = ev s' x) : inPlace s o = inPlace s' o := by
  cases o <;> try rfl
  rename_i c
  obtain ⟨callee, args, ats⟩ := c
  cases callee <;> try rfl
  rename_i b
  cases b <;> try rfl
  simp only [inPlace]
  rw [map_ev_congr (s := s) (s' := s') (xs := args.toList) fun x hx => h x (by simp [Op.operands, Call.operands] at hx ⊢; exact hx)]

theorem put_getD (s : List Value) (d : Option Tmp) (v : Value) (t : Nat) : (put s d v).getD t undef = if d = some t then (if t < s.length then v else undef) else s.getD t undef := by
  cases d with
  | none => simp [put]
  | some d =>
    simp only [put, List.getD_eq_getElem?_getD, List.getElem?_set]
    by_cases h : d = t
    · subst h
      simp only [if_true]
      by_cases hl : d < s.length <;> simp [hl]
    · rw [if_neg h, if_neg (by simpa using h)]

theorem put_length (s : List Value) (d : Option Tmp) (v : Value) : (put s d v).length = s.length := by cases d <;> simp [put]

theorem aput_getD (a : Act) (d : Option Tmp) (v : Value) (t : Nat) : (a.put d v).tmps.getD t undef = if d = some t then (if t < a.tmps.size then v else undef) else a.tmps.getD t undef := by
  cases d with
  | none => simp [Act.put]
  | some d =>
    simp only [Act.put, Array.getD_eq_getD_getElem?, Array.getElem?_setIfInBounds]
    by_cases h : d = t
    · subst h
      simp only [if_true]
      by_cases hl : d < a.tmps.size <;> simp [hl]
    · rw [if_neg h, if_neg (by simpa using h)]

theorem aput_size (a : Act) (d : Option Tmp) (v : Value) : (a.put d v).tmps.size = a.tmps.size := by cases d <;> simp [Act.put]

/-- What holds while a region is under way. -/
structure Mid (base : Nat) (F : Nat → Prop) (ops : Array Oper) (ord : List Nat) (st : Nat → List Value × Heap) (μ0 : Mu) (a0 : Act) (w0 : World) (listed : Array Bool) (a : Act) (w : World) (μ : Mu) (hc : Nat → Option Blk) : Prop where
  size : listed.size = ops.size
  closed : ∀ i o e, listed.getD i false = true → ops[i]? = some o → e ∈ o.after → Region.binds .any e = true → listed.getD e.on false = true
  defers : a.defers = a0.defers
  tmps : a.tmps.size = (st 0).1.length
  slots : ∀ t p, p ≤ ops.size → (∀ q i o, ord[q]? = some i → ops[i]? = some o → o.dst = some t → (listed.getD i false = true ↔ q < p)) → VR μ ((st p).1.getD t undef) (a.tmps.getD t undef)
  mem : HRf base F μ hc w
  subs : ∀ p, p ≤ ops.size → (∀ q i o, ord[q]? = some i → ops[i]? = some o → q < p → strong o.op = true → listed.getD i false = true) →
    (∀ q i o, ord[q]? = some i → ops[i]? = some o → p ≤ q → writer o.op = true → listed.getD i false = false) → Sub μ (st p).2 hc
  made : ∀ b, (st 0).2.length ≤ b → b < (st ops.size).2.length → μ b ≠ none → ∃ p i, ord[p]? = some i ∧ listed.getD i false = true ∧ (st p).2.length ≤ b ∧ b < (st (p + 1)).2.length
  le : MuLe μ0 μ
  same : ∀ b, (b < (st 0).2.length ∨ (st ops.size).2.length ≤ b) → μ b = μ0 b
  fr : Fr base F w0 w

theorem reach_listed {ops : Array Oper} {listed : Array Bool} (hc : ∀ i o e, listed.getD i false = true → ops[i]? = some o → e ∈ o.after → Region.binds .any e = true → listed.getD e.on false = true) :
    ∀ {n i j : Nat}, reach ops n i j = true → (∀ o e, ops[j]? = some o → e ∈ o.after → Region.binds .any e = true → listed.getD e.on false = true) → listed.getD i false = true
  | 0, _, _, h, _ => by simp [reach] at h
  | n + 1, i, j, h, hj => by
    unfold reach at h
    split at h
    · simp at h
    · rename_i o ho
      obtain ⟨e, he, hb⟩ := Array.any_eq_true'.1 h
      simp only [Bool.and_eq_true, Bool.or_eq_true, beq_iff_eq] at hb
      have hl := hj o e ho he hb.1
      rcases hb.2 with rfl | hr
      · exact hl
      · exact reach_listed hc hr fun o2 e2 ho2 he2 hb2 => hc e.on o2 e2 hl ho2 he2 hb2

end Go.Proofs.Ytdhbclplondmjaa.C
