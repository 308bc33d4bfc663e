/- Symbolic runs of the abstract machine: calls without fuel, code by what holds after it, regions operation by operation. -/
import Derived.Test.YtdhbclplondmjaaCFits
set_option linter.unusedVariables false
set_option linter.unusedSimpArgs false
namespace Go.Proofs.Ytdhbclplondmjaa.C
open Go.RowKit

variable {T : Tab}

/-- Calls with as much fuel as it takes. -/
noncomputable def big (T : Tab) : CallF := fun f args H =>
  open Classical in if h : ∃ n, (callC T n f args H).isSome = true then callC T (Classical.choose h) f args H else none

theorem big_some {f : FuncId} {args : List Value} {H : Heap} {r : Value × Heap} : big T f args H = some r ↔ ∃ n, callC T n f args H = some r := by
  unfold big
  constructor
  · intro h
    split at h
    · rename_i hh
      exact ⟨_, h⟩
    · simp at h
  · rintro ⟨n, h⟩
    have hh : ∃ n, (callC T n f args H).isSome = true := ⟨n, by simp [h]⟩
    rw [dif_pos hh]
    obtain ⟨r', hr⟩ := Option.isSome_iff_exists.1 (Classical.choose_spec hh)
    have h1 := callC_mono (T := T) (Nat.le_max_left n (Classical.choose hh)) _ _ _ _ h
    have h2 := callC_mono (T := T) (Nat.le_max_right n (Classical.choose hh)) _ _ _ _ hr
    rw [h1] at h2
    rw [hr, h2]

structure Lim (c : Nat → CallF) (l : CallF) : Prop where
  mono : ∀ n m, n ≤ m → CallLe (c n) (c m)
  lim : ∀ f args H r, l f args H = some r → ∃ n, c n f args H = some r

theorem Lim.big (T : Tab) : Lim (callC T) (big T) := ⟨fun _ _ h => callC_mono h, fun _ _ _ _ h => big_some.1 h⟩
theorem Lim.quiet {c : Nat → CallF} {l : CallF} (h : Lim c l) : Lim (fun n => quiet (c n)) (quiet l) := by
  refine ⟨fun n m hnm => quiet_mono (h.mono n m hnm), fun f args H r hr => ?_⟩
  unfold C.quiet at hr
  rw [Option.map_eq_some_iff] at hr
  obtain ⟨x, hx, hr⟩ := hr
  obtain ⟨n, hn⟩ := h.lim _ _ _ _ hx
  refine ⟨n, ?_⟩
  show C.quiet (c n) f args H = some r
  unfold C.quiet
  rw [hn]; exact congrArg some hr

theorem Lim.op {c : Nat → CallF} {l : CallF} (h : Lim c l) {s : List Value} {H : Heap} {o : Op} {r : Value × Heap} (e : evalOp T l s H o = some r) : ∃ n, evalOp T (c n) s H o = some r := by
  unfold evalOp at *
  split at e
  · exact ⟨0, e⟩
  · split at e
    · exact h.lim _ _ _ _ e
    · simp at e

theorem Lim.one {c : Nat → CallF} {l : CallF} (h : Lim c l) {d : Bool} {ops : Array Oper} {o : Oper} {s : List Value} {H : Heap} {r : List Value × Heap} (e : evalOne T l d ops o s H = some r) : ∃ n, evalOne T (c n) d ops o s H = some r := by
  unfold evalOne at *
  split at e
  · split at e
    · simp at e
    · rename_i hd
      rw [Option.map_eq_some_iff] at e
      obtain ⟨x, hx, e⟩ := e
      obtain ⟨n, hn⟩ := h.op hx
      exact ⟨n, by rw [if_neg hd, hn]; simp [e]⟩
  · exact ⟨0, e⟩
  · simp at e

theorem Lim.idx {c : Nat → CallF} {l : CallF} (h : Lim c l) {d : Bool} {ops : Array Oper} : ∀ {is : List Nat} {s : List Value} {H : Heap} {r : List Value × Heap}, evalIdx T l d ops is s H = some r → ∃ n, evalIdx T (c n) d ops is s H = some r
  | [], _, _, _, e => ⟨0, e⟩
  | i :: is, s, H, r, e => by
    unfold evalIdx at *
    split at e
    · simp at e
    · rename_i o ho
      split at e
      · rename_i s1 H1 e1
        obtain ⟨n, hn⟩ := h.one e1
        obtain ⟨m, hm⟩ := h.idx e
        refine ⟨max n m, ?_⟩
        rw [evalOne_mono (h.mono _ _ (Nat.le_max_left n m)) hn]
        exact evalIdx_mono (h.mono _ _ (Nat.le_max_right n m)) hm
      · simp at e

theorem Lim.region {c : Nat → CallF} {l : CallF} (h : Lim c l) {ops : Array Oper} {draw : Bool} {s : List Value} {H : Heap} {r : List Value × Heap} (e : evalRegion T l ops draw s H = some r) : ∃ n, evalRegion T (c n) ops draw s H = some r := by
  unfold evalRegion at *
  cases draw with
  | true => exact h.quiet.idx e
  | false => exact h.idx e

theorem Lim.code {c : Nat → CallF} {l : CallF} (h : Lim c l) : ∀ {n : Nat} {b : Code} {s : List Value} {H : Heap} {r : Ex × List Value × Heap}, evalC T l n b s H = some r → ∃ m, evalC T (c m) n b s H = some r
  | 0, _, _, _, _, e => by simp [evalC] at e
  | n + 1, b, s, H, r, e => by
    have two : ∀ {a1 a2 : Code} {s H s1 H1 r}, evalC T l n a1 s H = some (.normal, s1, H1) → evalC T l n a2 s1 H1 = some r → ∃ m, evalC T (c m) n a1 s H = some (.normal, s1, H1) ∧ evalC T (c m) n a2 s1 H1 = some r := by
      intro a1 a2 s H s1 H1 r e1 e2
      obtain ⟨m1, h1⟩ := h.code e1
      obtain ⟨m2, h2⟩ := h.code e2
      exact ⟨max m1 m2, evalC_mono (h.mono _ _ (Nat.le_max_left _ _)) (Nat.le_refl _) h1, evalC_mono (h.mono _ _ (Nat.le_max_right _ _)) (Nat.le_refl _) h2⟩
    cases b <;> simp only [evalC] at e ⊢ <;> try exact ⟨0, e⟩
    · rw [Option.map_eq_some_iff] at e
      obtain ⟨x, hx, e⟩ := e
      obtain ⟨m, hm⟩ := h.region hx
      exact ⟨m, by rw [hm]; simp [e]⟩
    · split at e
      · rename_i s1 H1 e1
        obtain ⟨m, h1, h2⟩ := two e1 e
        exact ⟨m, by rw [h1]; exact h2⟩
      · rename_i x y
        obtain ⟨m, hm⟩ := h.code e
        refine ⟨m, ?_⟩
        rw [hm]
        split
        · rename_i s1 H1 e1
          simp only [Option.some.injEq] at e1
          subst e1
          exact absurd e (y _ _)
        · rfl
    · split at e
      · exact h.code e
      · exact h.code e
      · simp at e
    · split at e
      · rename_i j s1 H1 e1
        obtain ⟨m, hm⟩ := h.code e1
        exact ⟨m, by rw [hm]; exact e⟩
      · rename_i x y
        obtain ⟨m, hm⟩ := h.code e
        refine ⟨m, ?_⟩
        rw [hm]
        split
        · rename_i j s1 H1 e1
          simp only [Option.some.injEq] at e1
          subst e1
          exact absurd e (y _ _ _)
        · rfl
    · split at e
      · rename_i s1 H1 e1
        obtain ⟨m, h1, h2⟩ := two e1 e
        exact ⟨m, by rw [h1]; exact h2⟩
      · rename_i x y
        obtain ⟨m, hm⟩ := h.code e
        refine ⟨m, ?_⟩
        rw [hm]
        split
        · rename_i s1 H1 e1
          simp only [Option.some.injEq] at e1
          subst e1
          exact absurd e (y _ _)
        · rfl

/-! ### Code -/

abbrev St := List Value → Heap → Prop

def post (N : St) (X : Nat → St) (R : St) : Ex → St
  | .normal => N
  | .exit j => X j
  | .ret => R

def Runs (T : Tab) (c : Code) (s : List Value) (H : Heap) (N : St) (X : Nat → St) (R : St) : Prop :=
  ∃ n e s1 H1, evalC T (big T) n c s H = some (e, s1, H1) ∧ post N X R e s1 H1

section
variable {s : List Value} {H : Heap} {N : St} {X : Nat → St} {R : St}

theorem Runs.mono {c : Code} {N' : St} {X' : Nat → St} {R' : St} (h : Runs T c s H N X R) (hN : ∀ s H, N s H → N' s H) (hX : ∀ j s H, X j s H → X' j s H) (hR : ∀ s H, R s H → R' s H) : Runs T c s H N' X' R' := by
  obtain ⟨n, e, s1, H1, h1, h2⟩ := h
  refine ⟨n, e, s1, H1, h1, ?_⟩
  cases e
  · exact hN _ _ h2
  · exact hX _ _ _ h2
  · exact hR _ _ h2

theorem Runs.skip (h : N s H) : Runs T .skip s H N X R := ⟨1, .normal, s, H, rfl, h⟩
theorem Runs.label {l : Nat} (h : N s H) : Runs T (.label l) s H N X R := ⟨1, .normal, s, H, rfl, h⟩
theorem Runs.exit {j : Nat} (h : X j s H) : Runs T (.exit j) s H N X R := ⟨1, .exit j, s, H, rfl, h⟩
theorem Runs.ret (h : R s H) : Runs T .ret s H N X R := ⟨1, .ret, s, H, rfl, h⟩

theorem Runs.seq {a b : Code} (h : Runs T a s H (fun s1 H1 => Runs T b s1 H1 N X R) X R) : Runs T (.seq a b) s H N X R := by
  obtain ⟨n, e, s1, H1, h1, h2⟩ := h
  cases e with
  | normal =>
    obtain ⟨m, e2, s2, H2, g1, g2⟩ := h2
    refine ⟨max n m + 1, e2, s2, H2, ?_, g2⟩
    have a1 := evalC_mono (CallLe.refl (big T)) (Nat.le_max_left n m) h1
    have a2 := evalC_mono (CallLe.refl (big T)) (Nat.le_max_right n m) g1
    simp only [evalC, a1, a2]
  | exit j => exact ⟨n + 1, .exit j, s1, H1, by simp only [evalC, h1], h2⟩
  | ret => exact ⟨n + 1, .ret, s1, H1, by simp only [evalC, h1], h2⟩

theorem Runs.cond {c : Operand} {a b : Code} (v : Bool) (hv : ev s c = .bool v) (ht : v = true → Runs T a s H N X R) (hf : v = false → Runs T b s H N X R) : Runs T (.cond c a b) s H N X R := by
  cases v with
  | true =>
    obtain ⟨n, e, s1, H1, h1, h2⟩ := ht rfl
    exact ⟨n + 1, e, s1, H1, by simp only [evalC, hv, h1], h2⟩
  | false =>
    obtain ⟨n, e, s1, H1, h1, h2⟩ := hf rfl
    exact ⟨n + 1, e, s1, H1, by simp only [evalC, hv, h1], h2⟩

theorem Runs.block {id : Nat} {a : Code} (h : Runs T a s H N (fun j s1 H1 => bif Nat.beq j id then N s1 H1 else X j s1 H1) R) : Runs T (.block id a) s H N X R := by
  obtain ⟨n, e, s1, H1, h1, h2⟩ := h
  cases e with
  | normal => exact ⟨n + 1, .normal, s1, H1, by simp only [evalC, h1], h2⟩
  | exit j =>
    simp only [post] at h2
    by_cases e : j = id
    · rw [show Nat.beq j id = true from (by subst e; exact Nat.beq_refl _)] at h2
      exact ⟨n + 1, .normal, s1, H1, by simp only [evalC, h1]; rw [if_pos e], h2⟩
    · rw [show Nat.beq j id = false from (by cases q : Nat.beq j id with | true => exact absurd (Nat.eq_of_beq_eq_true q) e | false => rfl)] at h2
      exact ⟨n + 1, .exit j, s1, H1, by simp only [evalC, h1]; rw [if_neg e], h2⟩
  | ret => exact ⟨n + 1, .ret, s1, H1, by simp only [evalC, h1], h2⟩

theorem Runs.loop {a : Code} (I : Nat → St) (m : Nat) (h0 : I m s H) (step : ∀ m s H, I m s H → Runs T a s H (fun s1 H1 => ∃ m1, m1 < m ∧ I m1 s1 H1) X R) : Runs T (.loop a) s H N X R := by
  induction m using Nat.strongRecOn generalizing s H with
  | _ m ih =>
    obtain ⟨n, e, s1, H1, h1, h2⟩ := step m s H h0
    cases e with
    | normal =>
      obtain ⟨m1, hm, hi⟩ := h2
      obtain ⟨k, e2, s2, H2, g1, g2⟩ := ih m1 hm hi
      refine ⟨max n k + 1, e2, s2, H2, ?_, g2⟩
      have a1 := evalC_mono (CallLe.refl (big T)) (Nat.le_max_left n k) h1
      have a2 := evalC_mono (CallLe.refl (big T)) (Nat.le_max_right n k) g1
      simp only [evalC, a1, a2]
    | exit j => exact ⟨n + 1, .exit j, s1, H1, by simp only [evalC, h1], h2⟩
    | ret => exact ⟨n + 1, .ret, s1, H1, by simp only [evalC, h1], h2⟩

/-! ### Regions -/

def Rg (T : Tab) (call : CallF) (d : Bool) (ops : Array Oper) (is : List Nat) (s : List Value) (H : Heap) (Q : St) : Prop :=
  ∃ s1 H1, evalIdx T call d ops is s H = some (s1, H1) ∧ Q s1 H1

theorem Runs.region {id : Nat} {ops : Array Oper} (h : Rg T (big T) false ops (List.range ops.size) s H N) : Runs T (.region id ops false) s H N X R := by
  obtain ⟨s1, H1, h1, h2⟩ := h
  refine ⟨1, .normal, s1, H1, ?_, h2⟩
  have : evalRegion T (big T) ops false s H = some (s1, H1) := h1
  simp only [evalC, this, Option.map_some]

theorem Runs.drawn {id : Nat} {ops : Array Oper} {is : List Nat} (ho : orderOf ops = is) (h : Rg T (quiet (big T)) true ops is s H N) : Runs T (.region id ops true) s H N X R := by
  subst ho
  obtain ⟨s1, H1, h1, h2⟩ := h
  refine ⟨1, .normal, s1, H1, ?_, h2⟩
  have : evalRegion T (big T) ops true s H = some (s1, H1) := h1
  simp only [evalC, this, Option.map_some]

variable {cal : CallF} {d : Bool} {ops : Array Oper} {i : Nat} {is : List Nat} {Q : St}

theorem Rg.nil (h : Q s H) : Rg T cal d ops [] s H Q := ⟨s, H, rfl, h⟩

theorem Rg.step {o : Oper} {s1 : List Value} {H1 : Heap} (ho : ops[i]? = some o) (he : evalOne T cal d ops o s H = some (s1, H1)) (k : Rg T cal d ops is s1 H1 Q) : Rg T cal d ops (i :: is) s H Q := by
  obtain ⟨s2, H2, h1, h2⟩ := k
  exact ⟨s2, H2, by simp only [evalIdx, ho, he, h1], h2⟩

/-- An operation that makes no call. -/
theorem Rg.op {o : Oper} {v : Value} {H1 : Heap} (ho : ops[i]? = some o) (hg : o.guard = none) (he : opEval T s H o.op = some (v, H1)) (hd : (d && inPlace s o.op) = false) (k : Rg T cal d ops is (put s o.dst v) H1 Q) : Rg T cal d ops (i :: is) s H Q :=
  Rg.step ho (by simp only [evalOne, guardC, evalOp, hg, he, hd, Option.map_some, Bool.false_eq_true, if_false]) k

/-- A call. -/
theorem Rg.call {o : Oper} {v : Value} {H1 : Heap} {f : FuncId} {args : List Value} (ho : ops[i]? = some o) (hg : o.guard = none) (hn : opEval T s H o.op = none) (hc : calleeOf T s H o.op = some (f, args)) (hd : (d && inPlace s o.op) = false)
    (hr : cal f args H = some (v, H1)) (k : Rg T cal d ops is (put s o.dst v) H1 Q) : Rg T cal d ops (i :: is) s H Q :=
  Rg.step ho (by simp only [evalOne, guardC, evalOp, hg, hn, hc, hr, hd, Option.map_some, Bool.false_eq_true, if_false]) k

/-- An operation under a guard. -/
theorem Rg.guard {o : Oper} (b : Bool) (ho : ops[i]? = some o) (hg : guardC ops o s = some b)
    (ht : b = true → ∃ v H1, evalOp T cal s H o.op = some (v, H1) ∧ (d && inPlace s o.op) = false ∧ Rg T cal d ops is (put s o.dst v) H1 Q) (hf : b = false → Rg T cal d ops is (put s o.dst (.chan none)) H Q) : Rg T cal d ops (i :: is) s H Q := by
  cases b with
  | true =>
    obtain ⟨v, H1, h1, hd, k⟩ := ht rfl
    exact Rg.step ho (by simp only [evalOne, hg, h1, hd, Option.map_some, Bool.false_eq_true, if_false]) k
  | false => exact Rg.step ho (by simp only [evalOne, hg]) (hf rfl)

end

/-! ### Functions -/

theorem big_of_runs {f : FuncId} {fn : Func} {c : Code} {args : List Value} {H : Heap} {Post : Value → Heap → Prop} (he : T.ext f = none) (hf : T.fn f = some fn) (hb : fn.body = some c)
    (h : Runs T c (startC fn args) H (fun s1 H1 => ∃ v, resultsC T fn s1 H1 = some v ∧ Post v H1) (fun _ _ _ => False) (fun s1 H1 => ∃ v, resultsC T fn s1 H1 = some v ∧ Post v H1)) :
    ∃ v H1, big T f args H = some (v, H1) ∧ Post v H1 := by
  obtain ⟨n, e, s1, H1, h1, h2⟩ := h
  obtain ⟨m, hm⟩ := (Lim.big T).code h1
  have a1 := evalC_mono (callC_mono (T := T) (Nat.le_max_left m n)) (Nat.le_max_right m n) hm
  cases e with
  | normal =>
    obtain ⟨v, hv, hp⟩ := h2
    exact ⟨v, H1, big_some.2 ⟨max m n + 1, by simp only [callC, he, hf, hb, a1, hv, Option.map_some]⟩, hp⟩
  | exit j => exact h2.elim
  | ret =>
    obtain ⟨v, hv, hp⟩ := h2
    exact ⟨v, H1, big_some.2 ⟨max m n + 1, by simp only [callC, he, hf, hb, a1, hv, Option.map_some]⟩, hp⟩

end Go.Proofs.Ytdhbclplondmjaa.C
