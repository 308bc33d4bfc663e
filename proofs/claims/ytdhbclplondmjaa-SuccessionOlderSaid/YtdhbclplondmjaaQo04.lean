/- Texts of one's own, laid together: CW, CW2, CIn, CRange, CRange2, CPx, CW3, CFast, CSub, WTab, Shelf, CLib, WTab2, Wa, Wc, Wd, We -/
import Derived.Test.YtdhbclplondmjaaQo03
import Derived.RangeFuncIn
import Derived.RangeFuncRecord
import Derived.OrdersIn
import Derived.RangeFuncLeaves
import Derived.IntWalk
import Derived.Shelf.Small.Bits
import Derived.Shelf.Strconv.Itoa0
import Derived.Shelf.Sort.Plain
import Derived.Shelf.Bits.Mul64
import Derived.Shelf.Slices.Turned
import Derived.Shelf.Slices.CompactS
import Derived.Shelf.Slices.Cells
import Derived.Shelf.Slices.In.SortNone
import Derived.Test.YtdhbclplondmjaaProg
import Derived.Lib.SortBridge
import Derived.Lib.RowBridge
import Derived.Lib.SlicesCompact
/- Symbolic runs of the abstract machine: calls without fuel, code by what holds after it, regions operation by operation. -/
set_option linter.unusedVariables false
set_option linter.unusedSimpArgs false
namespace Go.Proofs.Ytdhbclplondmjaa.C
open Go.RowKit

variable {T : Tab}

/-- Calls with as much fuel as it takes. -/
noncomputable def big (T : Tab) : CallF := fun f args H =>
  open Classical in if h : ∃ n, (callC T n f args H).isSome = true then callC T (Classical.choose h) f args H else none

theorem big_some {f : FuncId} {args : List Value} {H : Heap} {r : Value × Heap} : big T f args H = some r ↔ ∃ n, callC T n f args H = some r := by
  unfold big
  constructor
  · intro h
    split at h
    · rename_i hh
      exact ⟨_, h⟩
    · simp at h
  · rintro ⟨n, h⟩
    have hh : ∃ n, (callC T n f args H).isSome = true := ⟨n, by simp [h]⟩
    rw [dif_pos hh]
    obtain ⟨r', hr⟩ := Option.isSome_iff_exists.1 (Classical.choose_spec hh)
    have h1 := callC_mono (T := T) (Nat.le_max_left n (Classical.choose hh)) _ _ _ _ h
    have h2 := callC_mono (T := T) (Nat.le_max_right n (Classical.choose hh)) _ _ _ _ hr
    rw [h1] at h2
    rw [hr, h2]

structure Lim (c : Nat → CallF) (l : CallF) : Prop where
  mono : ∀ n m, n ≤ m → CallLe (c n) (c m)
  lim : ∀ f args H r, l f args H = some r → ∃ n, c n f args H = some r

theorem Lim.big (T : Tab) : Lim (callC T) (big T) := ⟨fun _ _ h => callC_mono h, fun _ _ _ _ h => big_some.1 h⟩
theorem Lim.quiet {c : Nat → CallF} {l : CallF} (h : Lim c l) : Lim (fun n => quiet (c n)) (quiet l) := by
  refine ⟨fun n m hnm => quiet_mono (h.mono n m hnm), fun f args H r hr => ?_⟩
  unfold C.quiet at hr
  rw [Option.map_eq_some_iff] at hr
  obtain ⟨x, hx, hr⟩ := hr
  obtain ⟨n, hn⟩ := h.lim _ _ _ _ hx
  refine ⟨n, ?_⟩
  show C.quiet (c n) f args H = some r
  unfold C.quiet
  rw [hn]; exact congrArg some hr

theorem Lim.op {c : Nat → CallF} {l : CallF} (h : Lim c l) {s : List Value} {H : Heap} {o : Op} {r : Value × Heap} (e : evalOp T l s H o = some r) : ∃ n, evalOp T (c n) s H o = some r := by
  unfold evalOp at *
  split at e
  · exact ⟨0, e⟩
  · split at e
    · exact h.lim _ _ _ _ e
    · simp at e

theorem Lim.one {c : Nat → CallF} {l : CallF} (h : Lim c l) {d : Bool} {ops : Array Oper} {o : Oper} {s : List Value} {H : Heap} {r : List Value × Heap} (e : evalOne T l d ops o s H = some r) : ∃ n, evalOne T (c n) d ops o s H = some r := by
  unfold evalOne at *
  split at e
  · split at e
    · simp at e
    · rename_i hd
      rw [Option.map_eq_some_iff] at e
      obtain ⟨x, hx, e⟩ := e
      obtain ⟨n, hn⟩ := h.op hx
      exact ⟨n, by rw [if_neg hd, hn]; simp [e]⟩
  · exact ⟨0, e⟩
  · simp at e

theorem Lim.idx {c : Nat → CallF} {l : CallF} (h : Lim c l) {d : Bool} {ops : Array Oper} : ∀ {is : List Nat} {s : List Value} {H : Heap} {r : List Value × Heap}, evalIdx T l d ops is s H = some r → ∃ n, evalIdx T (c n) d ops is s H = some r
  | [], _, _, _, e => ⟨0, e⟩
  | i :: is, s, H, r, e => by
    unfold evalIdx at *
    split at e
    · simp at e
    · rename_i o ho
      split at e
      · rename_i s1 H1 e1
        obtain ⟨n, hn⟩ := h.one e1
        obtain ⟨m, hm⟩ := h.idx e
        refine ⟨max n m, ?_⟩
        rw [evalOne_mono (h.mono _ _ (Nat.le_max_left n m)) hn]
        exact evalIdx_mono (h.mono _ _ (Nat.le_max_right n m)) hm
      · simp at e

theorem Lim.region {c : Nat → CallF} {l : CallF} (h : Lim c l) {ops : Array Oper} {draw : Bool} {s : List Value} {H : Heap} {r : List Value × Heap} (e : evalRegion T l ops draw s H = some r) : ∃ n, evalRegion T (c n) ops draw s H = some r := by
  unfold evalRegion at *
  cases draw with
  | true => exact h.quiet.idx e
  | false => exact h.idx e

theorem Lim.code {c : Nat → CallF} {l : CallF} (h : Lim c l) : ∀ {n : Nat} {b : Code} {s : List Value} {H : Heap} {r : Ex × List Value × Heap}, evalC T l n b s H = some r → ∃ m, evalC T (c m) n b s H = some r
  | 0, _, _, _, _, e => by simp [evalC] at e
  | n + 1, b, s, H, r, e => by
    have two : ∀ {a1 a2 : Code} {s H s1 H1 r}, evalC T l n a1 s H = some (.normal, s1, H1) → evalC T l n a2 s1 H1 = some r → ∃ m, evalC T (c m) n a1 s H = some (.normal, s1, H1) ∧ evalC T (c m) n a2 s1 H1 = some r := by
      intro a1 a2 s H s1 H1 r e1 e2
      obtain ⟨m1, h1⟩ := h.code e1
      obtain ⟨m2, h2⟩ := h.code e2
      exact ⟨max m1 m2, evalC_mono (h.mono _ _ (Nat.le_max_left _ _)) (Nat.le_refl _) h1, evalC_mono (h.mono _ _ (Nat.le_max_right _ _)) (Nat.le_refl _) h2⟩
    cases b <;> simp only [evalC] at e ⊢ <;> try exact ⟨0, e⟩
    · rw [Option.map_eq_some_iff] at e
      obtain ⟨x, hx, e⟩ := e
      obtain ⟨m, hm⟩ := h.region hx
      exact ⟨m, by rw [hm]; simp [e]⟩
    · split at e
      · rename_i s1 H1 e1
        obtain ⟨m, h1, h2⟩ := two e1 e
        exact ⟨m, by rw [h1]; exact h2⟩
      · rename_i x y
        obtain ⟨m, hm⟩ := h.code e
        refine ⟨m, ?_⟩
        rw [hm]
        split
        · rename_i s1 H1 e1
          simp only [Option.some.injEq] at e1
          subst e1
          exact absurd e (y _ _)
        · rfl
    · split at e
      · exact h.code e
      · exact h.code e
      · simp at e
    · split at e
      · rename_i j s1 H1 e1
        obtain ⟨m, hm⟩ := h.code e1
        exact ⟨m, by rw [hm]; exact e⟩
      · rename_i x y
        obtain ⟨m, hm⟩ := h.code e
        refine ⟨m, ?_⟩
        rw [hm]
        split
        · rename_i j s1 H1 e1
          simp only [Option.some.injEq] at e1
          subst e1
          exact absurd e (y _ _ _)
        · rfl
    · split at e
      · rename_i s1 H1 e1
        obtain ⟨m, h1, h2⟩ := two e1 e
        exact ⟨m, by rw [h1]; exact h2⟩
      · rename_i x y
        obtain ⟨m, hm⟩ := h.code e
        refine ⟨m, ?_⟩
        rw [hm]
        split
        · rename_i s1 H1 e1
          simp only [Option.some.injEq] at e1
          subst e1
          exact absurd e (y _ _)
        · rfl

/-! ### Code -/

abbrev St := List Value → Heap → Prop

def post (N : St) (X : Nat → St) (R : St) : Ex → St
  | .normal => N
  | .exit j => X j
  | .ret => R

def Runs (T : Tab) (c : Code) (s : List Value) (H : Heap) (N : St) (X : Nat → St) (R : St) : Prop :=
  ∃ n e s1 H1, evalC T (big T) n c s H = some (e, s1, H1) ∧ post N X R e s1 H1

section
variable {s : List Value} {H : Heap} {N : St} {X : Nat → St} {R : St}

theorem Runs.mono {c : Code} {N' : St} {X' : Nat → St} {R' : St} (h : Runs T c s H N X R) (hN : ∀ s H, N s H → N' s H) (hX : ∀ j s H, X j s H → X' j s H) (hR : ∀ s H, R s H → R' s H) : Runs T c s H N' X' R' := by
  obtain ⟨n, e, s1, H1, h1, h2⟩ := h
  refine ⟨n, e, s1, H1, h1, ?_⟩
  cases e
  · exact hN _ _ h2
  · exact hX _ _ _ h2
  · exact hR _ _ h2

theorem Runs.skip (h : N s H) : Runs T .skip s H N X R := ⟨1, .normal, s, H, rfl, h⟩
theorem Runs.label {l : Nat} (h : N s H) : Runs T (.label l) s H N X R := ⟨1, .normal, s, H, rfl, h⟩
theorem Runs.exit {j : Nat} (h : X j s H) : Runs T (.exit j) s H N X R := ⟨1, .exit j, s, H, rfl, h⟩
theorem Runs.ret (h : R s H) : Runs T .ret s H N X R := ⟨1, .ret, s, H, rfl, h⟩

theorem Runs.seq {a b : Code} (h : Runs T a s H (fun s1 H1 => Runs T b s1 H1 N X R) X R) : Runs T (.seq a b) s H N X R := by
  obtain ⟨n, e, s1, H1, h1, h2⟩ := h
  cases e with
  | normal =>
    obtain ⟨m, e2, s2, H2, g1, g2⟩ := h2
    refine ⟨max n m + 1, e2, s2, H2, ?_, g2⟩
    have a1 := evalC_mono (CallLe.refl (big T)) (Nat.le_max_left n m) h1
    have a2 := evalC_mono (CallLe.refl (big T)) (Nat.le_max_right n m) g1
    simp only [evalC, a1, a2]
  | exit j => exact ⟨n + 1, .exit j, s1, H1, by simp only [evalC, h1], h2⟩
  | ret => exact ⟨n + 1, .ret, s1, H1, by simp only [evalC, h1], h2⟩

theorem Runs.cond {c : Operand} {a b : Code} (v : Bool) (hv : ev s c = .bool v) (ht : v = true → Runs T a s H N X R) (hf : v = false → Runs T b s H N X R) : Runs T (.cond c a b) s H N X R := by
  cases v with
  | true =>
    obtain ⟨n, e, s1, H1, h1, h2⟩ := ht rfl
    exact ⟨n + 1, e, s1, H1, by simp only [evalC, hv, h1], h2⟩
  | false =>
    obtain ⟨n, e, s1, H1, h1, h2⟩ := hf rfl
    exact ⟨n + 1, e, s1, H1, by simp only [evalC, hv, h1], h2⟩

theorem Runs.block {id : Nat} {a : Code} (h : Runs T a s H N (fun j s1 H1 => bif Nat.beq j id then N s1 H1 else X j s1 H1) R) : Runs T (.block id a) s H N X R := by
  obtain ⟨n, e, s1, H1, h1, h2⟩ := h
  cases e with
  | normal => exact ⟨n + 1, .normal, s1, H1, by simp only [evalC, h1], h2⟩
  | exit j =>
    simp only [post] at h2
    by_cases e : j = id
    · rw [show Nat.beq j id = true from (by subst e; exact Nat.beq_refl _)] at h2
      exact ⟨n + 1, .normal, s1, H1, by simp only [evalC, h1]; rw [if_pos e], h2⟩
    · rw [show Nat.beq j id = false from (by cases q : Nat.beq j id with | true => exact absurd (Nat.eq_of_beq_eq_true q) e | false => rfl)] at h2
      exact ⟨n + 1, .exit j, s1, H1, by simp only [evalC, h1]; rw [if_neg e], h2⟩
  | ret => exact ⟨n + 1, .ret, s1, H1, by simp only [evalC, h1], h2⟩

theorem Runs.loop {a : Code} (I : Nat → St) (m : Nat) (h0 : I m s H) (step : ∀ m s H, I m s H → Runs T a s H (fun s1 H1 => ∃ m1, m1 < m ∧ I m1 s1 H1) X R) : Runs T (.loop a) s H N X R := by
  induction m using Nat.strongRecOn generalizing s H with
  | _ m ih =>
    obtain ⟨n, e, s1, H1, h1, h2⟩ := step m s H h0
    cases e with
    | normal =>
      obtain ⟨m1, hm, hi⟩ := h2
      obtain ⟨k, e2, s2, H2, g1, g2⟩ := ih m1 hm hi
      refine ⟨max n k + 1, e2, s2, H2, ?_, g2⟩
      have a1 := evalC_mono (CallLe.refl (big T)) (Nat.le_max_left n k) h1
      have a2 := evalC_mono (CallLe.refl (big T)) (Nat.le_max_right n k) g1
      simp only [evalC, a1, a2]
    | exit j => exact ⟨n + 1, .exit j, s1, H1, by simp only [evalC, h1], h2⟩
    | ret => exact ⟨n + 1, .ret, s1, H1, by simp only [evalC, h1], h2⟩

/-! ### Regions -/

def Rg (T : Tab) (call : CallF) (d : Bool) (ops : Array Oper) (is : List Nat) (s : List Value) (H : Heap) (Q : St) : Prop :=
  ∃ s1 H1, evalIdx T call d ops is s H = some (s1, H1) ∧ Q s1 H1

theorem Runs.region {id : Nat} {ops : Array Oper} (h : Rg T (big T) false ops (List.range ops.size) s H N) : Runs T (.region id ops false) s H N X R := by
  obtain ⟨s1, H1, h1, h2⟩ := h
  refine ⟨1, .normal, s1, H1, ?_, h2⟩
  have : evalRegion T (big T) ops false s H = some (s1, H1) := h1
  simp only [evalC, this, Option.map_some]

theorem Runs.drawn {id : Nat} {ops : Array Oper} {is : List Nat} (ho : orderOf ops = is) (h : Rg T (quiet (big T)) true ops is s H N) : Runs T (.region id ops true) s H N X R := by
  subst ho
  obtain ⟨s1, H1, h1, h2⟩ := h
  refine ⟨1, .normal, s1, H1, ?_, h2⟩
  have : evalRegion T (big T) ops true s H = some (s1, H1) := h1
  simp only [evalC, this, Option.map_some]

variable {cal : CallF} {d : Bool} {ops : Array Oper} {i : Nat} {is : List Nat} {Q : St}

theorem Rg.nil (h : Q s H) : Rg T cal d ops [] s H Q := ⟨s, H, rfl, h⟩

theorem Rg.step {o : Oper} {s1 : List Value} {H1 : Heap} (ho : ops[i]? = some o) (he : evalOne T cal d ops o s H = some (s1, H1)) (k : Rg T cal d ops is s1 H1 Q) : Rg T cal d ops (i :: is) s H Q := by
  obtain ⟨s2, H2, h1, h2⟩ := k
  exact ⟨s2, H2, by simp only [evalIdx, ho, he, h1], h2⟩

/-- An operation that makes no call. -/
theorem Rg.op {o : Oper} {v : Value} {H1 : Heap} (ho : ops[i]? = some o) (hg : o.guard = none) (he : opEval T s H o.op = some (v, H1)) (hd : (d && inPlace s o.op) = false) (k : Rg T cal d ops is (put s o.dst v) H1 Q) : Rg T cal d ops (i :: is) s H Q :=
  Rg.step ho (by simp only [evalOne, guardC, evalOp, hg, he, hd, Option.map_some, Bool.false_eq_true, if_false]) k

/-- A call. -/
theorem Rg.call {o : Oper} {v : Value} {H1 : Heap} {f : FuncId} {args : List Value} (ho : ops[i]? = some o) (hg : o.guard = none) (hn : opEval T s H o.op = none) (hc : calleeOf T s H o.op = some (f, args)) (hd : (d && inPlace s o.op) = false)
    (hr : cal f args H = some (v, H1)) (k : Rg T cal d ops is (put s o.dst v) H1 Q) : Rg T cal d ops (i :: is) s H Q :=
  Rg.step ho (by simp only [evalOne, guardC, evalOp, hg, hn, hc, hr, hd, Option.map_some, Bool.false_eq_true, if_false]) k

/-- An operation under a guard. -/
theorem Rg.guard {o : Oper} (b : Bool) (ho : ops[i]? = some o) (hg : guardC ops o s = some b)
    (ht : b = true → ∃ v H1, evalOp T cal s H o.op = some (v, H1) ∧ (d && inPlace s o.op) = false ∧ Rg T cal d ops is (put s o.dst v) H1 Q) (hf : b = false → Rg T cal d ops is (put s o.dst (.chan none)) H Q) : Rg T cal d ops (i :: is) s H Q := by
  cases b with
  | true =>
    obtain ⟨v, H1, h1, hd, k⟩ := ht rfl
    exact Rg.step ho (by simp only [evalOne, hg, h1, hd, Option.map_some, Bool.false_eq_true, if_false]) k
  | false => exact Rg.step ho (by simp only [evalOne, hg]) (hf rfl)

end

/-! ### Functions -/

theorem big_of_runs {f : FuncId} {fn : Func} {c : Code} {args : List Value} {H : Heap} {Post : Value → Heap → Prop} (he : T.ext f = none) (hf : T.fn f = some fn) (hb : fn.body = some c)
    (h : Runs T c (startC fn args) H (fun s1 H1 => ∃ v, resultsC T fn s1 H1 = some v ∧ Post v H1) (fun _ _ _ => False) (fun s1 H1 => ∃ v, resultsC T fn s1 H1 = some v ∧ Post v H1)) :
    ∃ v H1, big T f args H = some (v, H1) ∧ Post v H1 := by
  obtain ⟨n, e, s1, H1, h1, h2⟩ := h
  obtain ⟨m, hm⟩ := (Lim.big T).code h1
  have a1 := evalC_mono (callC_mono (T := T) (Nat.le_max_left m n)) (Nat.le_max_right m n) hm
  cases e with
  | normal =>
    obtain ⟨v, hv, hp⟩ := h2
    exact ⟨v, H1, big_some.2 ⟨max m n + 1, by simp only [callC, he, hf, hb, a1, hv, Option.map_some]⟩, hp⟩
  | exit j => exact h2.elim
  | ret =>
    obtain ⟨v, hv, hp⟩ := h2
    exact ⟨v, H1, big_some.2 ⟨max m n + 1, by simp only [callC, he, hf, hb, a1, hv, Option.map_some]⟩, hp⟩

end Go.Proofs.Ytdhbclplondmjaa.C

/- Memory as the symbolic runs see it: what grows, slices by their elements, slices under way. -/
set_option linter.unusedVariables false
set_option linter.unusedSimpArgs false
namespace Go.Proofs.Ytdhbclplondmjaa.C
open Go.RowKit

variable {T : Tab}

/-- Only new blocks, and all of them made by the call. -/
structure Ext (H H1 : Heap) : Prop where
  len : H.length ≤ H1.length
  old : ∀ b, b < H.length → H1[b]? = H[b]?
  new : ∀ b X, H.length ≤ b → H1[b]? = some X → X.left = X

theorem Ext.refl (H : Heap) : Ext H H := ⟨Nat.le_refl _, fun _ _ => rfl, fun b X h e => by rw [List.getElem?_eq_none h] at e; simp at e⟩
theorem Ext.trans {A B C : Heap} (h : Ext A B) (k : Ext B C) : Ext A C where
  len := Nat.le_trans h.len k.len
  old b hb := (k.old b (Nat.lt_of_lt_of_le hb h.len)).trans (h.old b hb)
  new b X hb e := by
    rcases Nat.lt_or_ge b B.length with q | q
    · exact h.new b X hb ((k.old b q).symm.trans e)
    · exact k.new b X q e
theorem Ext.snoc {H H1 : Heap} (h : Ext H H1) {X : Blk} (hX : X.left = X) : Ext H (H1 ++ [X]) where
  len := by have := h.len; simp; omega
  old b hb := by rw [List.getElem?_append_left (Nat.lt_of_lt_of_le hb h.len)]; exact h.old b hb
  new b Y hb e := by
    rw [getElem?_snoc] at e
    split at e
    · simp only [Option.some.injEq] at e; subst e; exact hX
    · exact h.new b Y hb e
theorem Ext.set {H H1 : Heap} (h : Ext H H1) {X : Blk} (hX : X.left = X) {b : Nat} (hb : H.length ≤ b) : Ext H (H1.set b X) where
  len := by have := h.len; simp; omega
  old c hc := by rw [List.getElem?_set_ne (by omega)]; exact h.old c hc
  new c Y hc e := by
    by_cases q : b = c
    · subst q
      rcases Nat.lt_or_ge b H1.length with z | z
      · rw [List.getElem?_set_self z] at e; simp only [Option.some.injEq] at e; subst e; exact hX
      · rw [List.getElem?_eq_none (by simpa using z)] at e; simp at e
    · rw [List.getElem?_set_ne q] at e; exact h.new c Y hc e
theorem Ext.row {H H1 : Heap} (h : Ext H H1) (sz : Nat) (cs : List Value) : Ext H (H1 ++ [.row sz cs true true]) := h.snoc rfl

/-- What can be read in one can be read in the other. -/
def Sees (H K : Heap) : Prop := ∀ (b sz : Nat) (cs : List Value) (own : Bool), H[b]? = some (Blk.row sz cs own true) → ∃ own1, K[b]? = some (Blk.row sz cs own1 true)

theorem Sees.refl (H : Heap) : Sees H H := fun b sz cs own h => ⟨own, h⟩
theorem Sees.trans {A B C : Heap} (h : Sees A B) (k : Sees B C) : Sees A C := fun b sz cs own e => let ⟨o, q⟩ := h b sz cs own e; k b sz cs o q
theorem Ext.sees {H K : Heap} (h : Ext H K) : Sees H K := fun b sz cs own e => ⟨own, (h.old b (List.getElem?_eq_some_iff.1 e).1).trans e⟩
theorem Sees.freeze (H : Heap) : Sees H (H.map Blk.freeze) := fun b sz cs own e => ⟨false, by rw [List.getElem?_map, e]; rfl⟩
theorem Sees.thaw (H : Heap) : Sees (H.map Blk.freeze) H := by
  intro b sz cs own e
  rw [List.getElem?_map, Option.map_eq_some_iff] at e
  obtain ⟨x, hx, e⟩ := e
  cases x with
  | map es => simp [Blk.freeze] at e
  | row sz1 cs1 own1 live1 =>
    simp only [Blk.freeze, Blk.row.injEq] at e
    obtain ⟨rfl, rfl, -, rfl⟩ := e
    exact ⟨own1, hx⟩

/-- A call in a drawn region. -/
theorem quiet_some {f : FuncId} {args : List Value} {H H1 : Heap} {v : Value} (h : big T f args (H.map Blk.freeze) = some (v, H1)) (he : Ext (H.map Blk.freeze) H1) :
    ∃ K, quiet (big T) f args H = some (v, K) ∧ Ext H K ∧ (∀ b, H.length ≤ b → K[b]? = H1[b]?) ∧ Sees H1 K := by
  have hl := he.len
  simp only [List.length_map] at hl
  have hnew : ∀ b, H.length ≤ b → (H ++ (H1.drop H.length).map Blk.left)[b]? = H1[b]? := by
    intro b hb
    rw [List.getElem?_append_right hb, List.getElem?_map, List.getElem?_drop, show H.length + (b - H.length) = b by omega]
    cases e : H1[b]? with
    | none => rfl
    | some X => simp only [Option.map_some]; rw [he.new b X (by simpa using hb) e]
  have hold : ∀ b, b < H.length → (H ++ (H1.drop H.length).map Blk.left)[b]? = H[b]? := fun b hb => List.getElem?_append_left hb
  refine ⟨H ++ (H1.drop H.length).map Blk.left, by unfold quiet; rw [h]; rfl, ⟨by simp, hold, ?_⟩, hnew, ?_⟩
  · intro b X hb e
    rw [hnew b hb] at e
    exact he.new b X (by simpa using hb) e
  · intro b sz cs own e
    rcases Nat.lt_or_ge b H.length with q | q
    · rw [hold b q]
      have := he.old b (by simpa using q)
      rw [this] at e
      exact Sees.thaw H b sz cs own e
    · rw [hnew b q]; exact ⟨own, e⟩

/-! ### Reading -/

theorem readCells_sees {H K : Heap} (h : Sees H K) {b o n : Nat} {cs : List Value} (e : readCells H b o n = some cs) : readCells K b o n = some cs := by
  unfold readCells at *
  split at e
  · rename_i sz c own hb
    obtain ⟨o1, h1⟩ := h _ _ _ _ hb
    rw [h1]; exact e
  · simp at e
theorem szAt_sees {H K : Heap} (h : Sees H K) {b sz : Nat} (e : szAt H b = some sz) : szAt K b = some sz := by
  unfold szAt at *
  split at e
  · rename_i sz c own hb
    obtain ⟨o1, h1⟩ := h _ _ _ _ hb
    rw [h1]; exact e
  · simp at e

/-- From this address on lie these elements. -/
def Cells (H : Heap) (sz : Nat) (a : Option Addr) (es : List (List Value)) : Prop :=
  es = [] ∨ ∃ b o, a = some ⟨b, o, none⟩ ∧ szAt H b = some sz ∧ ∀ i e, es[i]? = some e → readCells H b (o + i * sz) sz = some e

/-- A slice and its elements. -/
def Sl (H : Heap) (sz : Nat) (v : Value) (es : List (List Value)) : Prop := ∃ a c, v = .slice a es.length c ∧ es.length ≤ c ∧ Cells H sz a es

theorem Cells.sees {H K : Heap} (h : Sees H K) {sz : Nat} {a : Option Addr} {es : List (List Value)} (e : Cells H sz a es) : Cells K sz a es := by
  rcases e with rfl | ⟨b, o, rfl, h1, h2⟩
  · exact .inl rfl
  · exact .inr ⟨b, o, rfl, szAt_sees h h1, fun i e he => readCells_sees h (h2 i e he)⟩
theorem Sl.sees {H K : Heap} (h : Sees H K) {sz : Nat} {v : Value} {es : List (List Value)} (e : Sl H sz v es) : Sl K sz v es := by
  obtain ⟨a, c, rfl, hc, h1⟩ := e
  exact ⟨a, c, rfl, hc, h1.sees h⟩
theorem Sl.nil (H : Heap) (sz : Nat) : Sl H sz (.slice none 0 0) [] := ⟨none, 0, rfl, Nat.le_refl _, .inl rfl⟩

theorem Cells.lt {H : Heap} {sz : Nat} {a : Option Addr} {es : List (List Value)} (h : Cells H sz a es) {i : Nat} (hi : i < es.length) :
    ∃ b o, a = some ⟨b, o, none⟩ ∧ szAt H b = some sz ∧ ∀ i e, es[i]? = some e → readCells H b (o + i * sz) sz = some e := by
  rcases h with rfl | h
  · simp at hi
  · exact h

/-- A row of cells holds elements of a size. -/
theorem flat_get {es : List (List Value)} {sz : Nat} (hs : ∀ e ∈ es, e.length = sz) : ∀ {i : Nat} {e : List Value}, es[i]? = some e → i * sz + sz ≤ es.flatten.length ∧ (es.flatten.drop (i * sz)).take sz = e := by
  induction es with
  | nil => intro i e h; simp at h
  | cons x es ih =>
    intro i e h
    have hx := hs x List.mem_cons_self
    cases i with
    | zero =>
      simp at h; subst h
      refine ⟨by simp; omega, ?_⟩
      simp [← hx]
    | succ i =>
      obtain ⟨h1, h2⟩ := ih (fun e he => hs e (List.mem_cons_of_mem _ he)) (i := i) (e := e) (by simpa using h)
      refine ⟨by rw [List.flatten_cons, List.length_append, Nat.succ_mul]; omega, ?_⟩
      rw [List.flatten_cons, Nat.succ_mul, List.drop_append, List.drop_of_length_le (by omega), hx, show i * sz + sz - sz = i * sz by omega]
      simpa using h2
theorem flat_len {es : List (List Value)} {sz : Nat} (hs : ∀ e ∈ es, e.length = sz) : es.flatten.length = es.length * sz := by
  induction es with
  | nil => simp
  | cons x es ih =>
    have hx := hs x List.mem_cons_self
    simp [ih (fun e he => hs e (List.mem_cons_of_mem _ he)), Nat.succ_mul, hx]; omega

theorem Cells.row {H : Heap} {b sz : Nat} {own : Bool} {es : List (List Value)} (hs : ∀ e ∈ es, e.length = sz) (h : H[b]? = some (.row sz es.flatten own true)) : Cells H sz (some ⟨b, 0, none⟩) es := by
  refine .inr ⟨b, 0, rfl, by simp [szAt, h], fun i e he => ?_⟩
  obtain ⟨h1, h2⟩ := flat_get hs he
  simp only [readCells, h, Nat.zero_add, if_pos h1, h2]

/-- Elements in cells that lie together. -/
theorem Cells.all {H : Heap} {sz : Nat} {b o : Nat} : ∀ {es : List (List Value)}, (∀ e ∈ es, e.length = sz) → (∀ i e, es[i]? = some e → readCells H b (o + i * sz) sz = some e) → es ≠ [] → readCells H b o (es.length * sz) = some es.flatten := by
  intro es hs hr hne
  have hlast := hr (es.length - 1) (es.getLast hne) (by rw [List.getLast_eq_getElem]; exact List.getElem?_eq_getElem _)
  unfold readCells at hlast ⊢
  split at hlast
  · rename_i sz1 cs own hb
    have hpos : 0 < es.length := List.length_pos_iff.2 hne
    have hle : o + es.length * sz ≤ cs.length := by
      split at hlast
      · rename_i q
        have : (es.length - 1) * sz + sz = es.length * sz := by rw [← Nat.succ_mul]; congr 1; omega
        omega
      · simp at hlast
    simp only [hle, if_true, Option.some.injEq]
    clear hlast hne
    have hr' : ∀ i e, es[i]? = some e → (cs.drop (o + i * sz)).take sz = e := by
      intro i e he
      have := hr i e he
      unfold readCells at this
      rw [hb] at this
      simp only at this
      split at this
      · simpa using this
      · simp at this
    clear hr hb hpos
    induction es generalizing o with
    | nil => simp
    | cons x es ih =>
      have h0 := hr' 0 x rfl
      have hx := hs x List.mem_cons_self
      have := ih (o := o + sz) (fun e he => hs e (List.mem_cons_of_mem _ he)) (by simp [Nat.succ_mul] at hle; omega) (fun i e he => by have := hr' (i + 1) e (by simpa using he); rw [Nat.succ_mul] at this; rw [← this]; congr 2; omega)
      rw [List.flatten_cons, List.length_cons, Nat.succ_mul, Nat.add_comm (es.length * sz), List.take_add]
      simp only [Nat.zero_mul, Nat.add_zero] at h0
      rw [h0, List.drop_drop, this]
  · simp at hlast

/-- What an append takes from a slice. -/
theorem Cells.src {H : Heap} {sz : Nat} {a : Option Addr} {es : List (List Value)} (h : Cells H sz a es) (hs : ∀ e ∈ es, e.length = sz) : (a = none ∨ ∃ b o, a = some ⟨b, o, none⟩) → srcCells H a es.length sz = some es.flatten := by
  intro ha
  rcases h with rfl | ⟨b, o, rfl, h1, h2⟩
  · rcases ha with rfl | ⟨b, o, rfl⟩ <;> simp [srcCells]
  · by_cases hne : es = []
    · subst hne; simp [srcCells]
    · have : es.length ≠ 0 := by simpa using hne
      simp only [srcCells, this, if_false]
      exact Cells.all hs h2 hne

/-! ### Slices under way -/

/-- A slice that is being appended to: no block yet, or block p, of which the call is the only owner. -/
def Acc (H : Heap) (lo sz : Nat) (v : Value) (es : List (List Value)) (p : Nat) : Prop :=
  (∀ e ∈ es, e.length = sz) ∧ ((es = [] ∧ v = .slice none 0 0) ∨ (v = .slice (some ⟨p, 0, none⟩) es.length unk ∧ lo ≤ p ∧ H[p]? = some (.row sz es.flatten true true)))

theorem Acc.nil (H : Heap) (lo sz p : Nat) : Acc H lo sz (.slice none 0 0) [] p := ⟨by simp, .inl ⟨rfl, rfl⟩⟩

theorem Acc.sl {H : Heap} {lo sz p : Nat} {v : Value} {es : List (List Value)} (h : Acc H lo sz v es p) (hl : es.length ≤ unk) : Sl H sz v es := by
  obtain ⟨hs, ⟨rfl, rfl⟩ | ⟨rfl, h1, h2⟩⟩ := h
  · exact Sl.nil _ _
  · exact ⟨_, _, rfl, hl, Cells.row hs h2⟩

theorem Acc.keep {H K : Heap} {lo sz p : Nat} {v : Value} {es : List (List Value)} (h : Acc H lo sz v es p) (hk : ∀ b X, H[b]? = some X → b = p → K[b]? = some X) : Acc K lo sz v es p := by
  obtain ⟨hs, ⟨rfl, rfl⟩ | ⟨rfl, h1, h2⟩⟩ := h
  · exact Acc.nil _ _ _ _
  · exact ⟨hs, .inr ⟨rfl, h1, hk p _ h2 rfl⟩⟩

/-- The types that an append is about. -/
structure SliceTy (T : Tab) (t e : TypeId) (i ei : TI) : Prop where
  t : T.T t = some i
  d : i.desc = .slice e
  e : T.T e = some ei
  pos : 0 < ei.size ∧ 0 < ei.bytes

/-- What an append changes. -/
structure Grow (lo p p1 : Nat) (H H1 : Heap) : Prop where
  ext : ∀ H0 : Heap, H0.length = lo → Ext H0 H → Ext H0 H1
  same : ∀ b, b < H.length → b < lo ∨ b ≠ p → H1[b]? = H[b]?
  len : H.length ≤ H1.length
  at_ : p1 = p ∨ H.length ≤ p1

theorem push_app {H : Heap} {t e : TypeId} {i ei : TI} (ty : SliceTy T t e i ei) {lo p : Nat} {v : Value} {es xs : List (List Value)} {a2 : Option Addr} {c2 : Nat} (h : Acc H lo ei.size v es p)
    (hsrc : srcCells H a2 xs.length ei.size = some xs.flatten) (hx : ∀ e ∈ xs, e.length = ei.size ∧ e.all oneCell = true) (hb : (es.length + xs.length) * ei.bytes ≤ 2 ^ 40) (hn : es.length + xs.length ≤ 2 ^ 40) (hlo : lo ≤ H.length) :
    ∃ v1 H1 p1, vAppend T H t v (.slice a2 xs.length c2) = some (v1, H1) ∧ Acc H1 lo ei.size v1 (es ++ xs) p1 ∧ Grow lo p p1 H H1 := by
  obtain ⟨hs, hv⟩ := h
  have hone : xs.flatten.all oneCell = true := by
    simp only [List.all_eq_true, List.mem_flatten]
    rintro v ⟨l, hl, hv⟩
    exact List.all_eq_true.1 (hx l hl).2 v hv
  have hall : ∀ e ∈ es ++ xs, e.length = ei.size := by
    intro e he
    rcases List.mem_append.1 he with q | q
    · exact hs e q
    · exact (hx e q).1
  rcases hv with ⟨rfl, rfl⟩ | ⟨rfl, h1, h2⟩
  · unfold vAppend
    simp only [ty.t, ty.d, ty.e, Option.bind_eq_bind, Option.bind_some, List.length_nil, Nat.zero_add] at hb hn ⊢
    have hc : 0 < ei.size ∧ 0 < ei.bytes ∧ xs.length * ei.bytes ≤ 2 ^ 40 ∧ xs.length ≤ 2 ^ 40 := ⟨ty.pos.1, ty.pos.2, hb, hn⟩
    simp only [if_pos hc, hsrc, Option.bind_some, hone, if_true, and_self]
    by_cases hx0 : xs = []
    · subst hx0
      exact ⟨_, _, p, rfl, Acc.nil _ _ _ _, fun _ _ h => h, fun b _ _ => rfl, Nat.le_refl _, .inl rfl⟩
    · have hx1 : xs.length ≠ 0 := by simpa using hx0
      simp only [if_neg hx1]
      exact ⟨.slice (some ⟨H.length, 0, none⟩) xs.length unk, _, H.length, rfl, ⟨hall, .inr ⟨by simp, hlo, by simp⟩⟩, fun _ _ h => h.row _ _, fun b hb _ => List.getElem?_append_left hb, by simp, .inr (Nat.le_refl _)⟩
  · have hlt : p < H.length := (List.getElem?_eq_some_iff.1 h2).1
    unfold vAppend
    simp only [ty.t, ty.d, ty.e, Option.bind_eq_bind, Option.bind_some]
    have hc : 0 < ei.size ∧ 0 < ei.bytes ∧ (es.length + xs.length) * ei.bytes ≤ 2 ^ 40 ∧ es.length + xs.length ≤ 2 ^ 40 := ⟨ty.pos.1, ty.pos.2, hb, hn⟩
    have hu : ¬ (es.length = 0 ∧ unk = 0) := by simp [unk]
    have hfl := flat_len hs
    have hle : 0 + es.length * ei.size ≤ es.flatten.length := by rw [hfl]; omega
    simp only [if_pos hc, hsrc, Option.bind_some, hone, if_true, if_neg hu, h2, true_and, hle]
    refine ⟨.slice (some ⟨H.length, 0, none⟩) (es.length + xs.length) unk, _, H.length, rfl, ⟨hall, .inr ⟨by simp, hlo, ?_⟩⟩, ?_, ?_, by simp, .inr (Nat.le_refl _)⟩
    · rw [getElem?_snoc, if_pos (by simp)]
      simp only [List.drop_zero, ← hfl, List.take_length, List.flatten_append]
    · intro H0 hl h
      exact Ext.row (Ext.set h (X := .row ei.size es.flatten true false) rfl (by omega)) _ _
    · intro b hb hne
      have : p ≠ b := by rcases hne with q | q <;> omega
      rw [List.getElem?_append_left (by simpa using hb), List.getElem?_set_ne this]

end Go.Proofs.Ytdhbclplondmjaa.C

/- Code in a round of a range over a function. -/
set_option linter.unusedVariables false
set_option linter.unusedSimpArgs false
namespace Go.Proofs.Ytdhbclplondmjaa.C
open Go.RowKit

variable {P : Program} {T : Tab} {base : Nat} {F : Nat → Prop}

def calmOp (o : Oper) : Bool := match o.op with | .defer _ => false | _ => true

def calm : Code → Bool
  | .region _ ops _ => ops.all calmOp
  | .seq a b => calm a && calm b
  | .cond _ a b => calm a && calm b
  | .block _ a => calm a
  | .loop a => calm a
  | _ => true

theorem calls_round {f : FuncId} {args : Array Value} {w : World} {R : Ending → World → Prop} {n l : Nat} (h : Calls P f args w R) : CallsIn (Fence.wide.inRound l) n P f args w R := (callsIn_wide (n := n)).2 h

theorem opIn_of {o : Oper} {a : Act} {w : World} {K K' : Act → World → Prop} {Q : Exit → Act → World → Prop} {l n : Nat} (hnd : calmOp o = true) (hL : ¬ LetsOut Q) (h : o.wp P a w K Q ∨ (o.asks P a w ∧ LetsOut Q)) (hK : ∀ a w, K a w → K' a w) :
    o.wpIn (Fence.wide.inRound l) n P a w K' Q := by
  replace h := h.resolve_right (fun q => hL q.2)
  refine ⟨fun _ _ => trivial, ?_⟩
  rw [Oper.semAt_eq _ _ _ (fun c e => by simp [calmOp, e] at hnd)]
  unfold Oper.wp at h
  cases e : (execOp a.eval o).run P w with
  | halt x w1 =>
    rw [e] at h
    cases x <;> simp only [Oper.upon] at h <;> exact h
  | ok x w1 =>
    rw [e] at h
    cases x with
    | value v => exact hK _ _ h
    | skip => exact hK _ _ h
    | defer d => exact hK _ _ h
    | enter f args =>
      refine ⟨fun q => by simp [Fence.wide] at q, calls_round ?_⟩
      refine Calls.mono h ?_
      intro e w2 q
      cases e with
      | returned v => exact hK _ _ q
      | panicked ch => exact q
      | outgrown => exact q
    | row row args =>
      refine ⟨fun q => by simp [Fence.wide] at q, ?_⟩
      intro c cs _
      obtain ⟨v, w2, hr, hs⟩ := h c cs
      exact ⟨v, w2, hK _ _ hr, stepsIn_wide.2 hs⟩
    | _ => exact h.elim

theorem opsIn_of {ops : Array Oper} {Q : Exit → Act → World → Prop} {l n : Nat} (hca : ops.all calmOp = true) (hL : ¬ LetsOut Q) : ∀ (is : List Nat) (a : Act) (w : World), wpOps P ops Q is a w → wpOpsIn (Fence.wide.inRound l) n P ops Q is a w
  | [], a, w, h => h
  | i :: is, a, w, h => by
    unfold wpOps at h
    unfold wpOpsIn
    split
    · rename_i ho
      simp only [ho] at h
      exact opsIn_of hca hL is a w h
    · rename_i o ho
      simp only [ho] at h
      have hnd : calmOp o = true := by
        rw [Array.all_eq_true'] at hca
        exact hca o (Array.mem_of_getElem? ho)
      split
      · rename_i hw
        rw [if_pos hw] at h
        exact opIn_of hnd hL h fun a w h => opsIn_of hca hL is a w h
      · rename_i hw
        rw [if_neg hw] at h
        exact ⟨fun _ _ => trivial, opsIn_of hca hL is _ w h⟩

theorem anyIn_of {ops : Array Oper} {Q : Exit → Act → World → Prop} {l n : Nat} (hca : ops.all calmOp = true) (hL : ¬ LetsOut Q) : ∀ (fuel : Nat) (listed : Array Bool) (a : Act) (w : World), wpAny P .any ops Q fuel listed a w → wpAnyIn (Fence.wide.inRound l) n P .any ops Q fuel listed a w
  | 0, listed, a, w, h => h
  | fuel + 1, listed, a, w, h => by
    refine ⟨h.1, fun i hi => ?_⟩
    have h2 := h.2 i hi
    unfold wpOp at h2
    unfold wpOpIn
    split
    · rename_i ho
      simp only [ho] at h2
      exact anyIn_of hca hL fuel _ a w h2
    · rename_i o ho
      simp only [ho] at h2
      have hnd : calmOp o = true := by
        rw [Array.all_eq_true'] at hca
        exact hca o (Array.mem_of_getElem? ho)
      split
      · rename_i hw
        rw [if_pos hw] at h2
        exact opIn_of hnd hL h2 fun a w h => anyIn_of hca hL fuel _ a w h
      · rename_i hw
        rw [if_neg hw] at h2
        exact ⟨fun _ _ => trivial, anyIn_of hca hL fuel _ _ w h2⟩

theorem wpIn_loop_rel {Fn : Fence} {nn : Nat} {c : Code} {Q : Exit → Act → World → Prop} (I : Nat → Act → World → Prop) {m0 : Nat} {a : Act} {w : World} (h0 : I m0 a w)
    (round : ∀ m a w, I m a w → c.wpIn Fn nn P (Exit.then (fun a' w' => ∃ m', m' < m ∧ I m' a' w') Q) a w) : (Code.loop c).wpIn Fn nn P Q a w := by
  intro b k cs hro hb hr
  have key : ∀ m a w, I m a w → ∃ e a' w', Q e a' w' ∧ ArrivesIn (Machine.fenced P Fn) P (lone (b.atR a (.code c :: .inLoop c :: k)) cs w) b k cs e a' w' := by
    intro m
    induction m using Nat.strongRecOn with
    | _ m ih =>
      intro a w hI
      obtain ⟨e, a1, w1, hq, harr⟩ := round m a w hI b (.inLoop c :: k) cs hro hb hr
      cases e with
      | normal =>
        obtain ⟨m', hlt, hI'⟩ := hq
        obtain ⟨e2, a2, w2, hq2, harr2⟩ := ih m' hlt a1 w1 hI'
        exact ⟨e2, a2, w2, hq2, .of_steps (StepsIn.trans harr (.one (fenced_calm hb hr rfl) stepR_inLoop)) harr2⟩
      | exit id => exact ⟨_, a1, w1, hq, .pass (x := .inLoop c) rfl (fun _ _ => .inl (by simp)) harr⟩
      | goto l => exact ⟨_, a1, w1, hq, .pass (x := .inLoop c) rfl (fun _ _ => .inl (by simp)) harr⟩
      | ret => exact ⟨_, a1, w1, hq, .pass (x := .inLoop c) rfl (fun _ _ => .inl (by simp)) harr⟩
      | panic ch => exact ⟨_, a1, w1, hq, .pass (x := .inLoop c) rfl (fun _ _ => .inl (by simp)) harr⟩
      | outgrown => exact ⟨_, a1, w1, hq, .pass (x := .inLoop c) rfl (fun _ _ => .inl (by simp)) harr⟩
  obtain ⟨e, a', w', hq, harr⟩ := key m0 a w h0
  exact ⟨e, a', w', hq, .of_steps (.one (fenced_calm hb hr rfl) stepR_loop) harr⟩

theorem evalC_in {call : CallF} (ag : Agree P T) (hm : ∀ t n f e, T.meth t n = some (f, e) → MethOk P t n f e) (hc : SoundCall P call) (hmix : P.follows .mixedOrders = true) (lp nn : Nat) :
    ∀ (n : Nat) {c : Code} {μ : Mu} {s s1 : List Value} {H H1 : Heap} {e : Ex} {w : World} {a : Act}, codeChk c = true → calm c = true → evalC T call n c s H = some (e, s1, H1) → HR base F μ H w → SR μ s a.tmps → Free μ H.length H1.length →
      c.wpIn (Fence.wide.inRound lp) nn P (fun x a' w' => x = exOf e ∧ After base F μ H s1 H1 a w a' w') a w
  | 0, c, μ, s, s1, H, H1, e, w, a, hok, hca, he, h, hs, hf => by simp [evalC] at he
  | n + 1, c, μ, s, s1, H, H1, e, w, a, hok, hca, he, h, hs, hf => by
    have same : s = s1 → H = H1 → After base F μ H s1 H1 a w a w := by
      rintro rfl rfl
      exact ⟨μ, Goes.refl h, hs, rfl⟩
    unfold evalC at he
    cases c <;> simp only [Option.some.injEq, Prod.mk.injEq, reduceCtorEq] at he
    · obtain ⟨rfl, h1, h2⟩ := he
      exact wpIn_skip ⟨rfl, same h1 h2⟩
    · rename_i id ops draw
      rw [Option.map_eq_some_iff] at he
      obtain ⟨⟨s2, H2⟩, hx, he⟩ := he
      simp only [Prod.mk.injEq] at he
      obtain ⟨rfl, rfl, rfl⟩ := he
      unfold evalRegion at hx
      split at hx
      · rename_i hd
        subst hd
        simp only [codeChk, Bool.not_true, Bool.false_or] at hok
        exact wpIn_region_any hmix (anyIn_of hca (fun q => by obtain ⟨_, _, q, _⟩ := q; exact absurd q (by simp [exOf])) _ _ _ _ (draw_any ag hm hok call hc hx h hs hf))
      · rename_i hd
        simp only [Bool.not_eq_true] at hd
        subst hd
        exact wpIn_region (opsIn_of hca (fun q => by obtain ⟨_, _, q, _⟩ := q; exact absurd q (by simp [exOf])) _ _ _ (evalIdx_wp ag hm hc hx h hs hf fun a' w' k => ⟨rfl, k⟩))
    · rename_i x y
      simp only [codeChk, calm, Bool.and_eq_true] at hok hca
      obtain ⟨hx, hy⟩ := hok
      obtain ⟨cx, cy⟩ := hca
      refine wpIn_seq ?_
      split at he
      · rename_i s2 H2 e2
        have hl := evalC_len hc e2
        have hl2 := evalC_len hc he
        refine wpIn_mono (evalC_in ag hm hc hmix lp nn n hx cx e2 h hs (hf.le hl2)) ?_
        rintro e' a' w' ⟨rfl, μ', g, hs', hd⟩
        refine wpIn_mono (evalC_in ag hm hc hmix lp nn n hy cy he g.hr hs' (hf.after g)) ?_
        rintro e2 a2 w2 ⟨rfl, k⟩
        exact ⟨rfl, After.trans g hd k⟩
      · rename_i hne
        refine wpIn_mono (evalC_in ag hm hc hmix lp nn n hx cx he h hs hf) ?_
        rintro e' a' w' ⟨rfl, k⟩
        cases e with
        | normal => exact absurd he (by intro q; exact hne _ _ q)
        | exit id => exact ⟨rfl, k⟩
        | ret => exact ⟨rfl, k⟩
    · rename_i c x y
      have hv := hs.evals c
      simp only [codeChk, calm, Bool.and_eq_true] at hok hca
      split at he
      · rename_i ht
        rw [ht] at hv
        generalize hρ : a.eval c = cv at hv
        cases hv
        exact wpIn_cond_true hρ (evalC_in ag hm hc hmix lp nn n hok.1 hca.1 he h hs hf)
      · rename_i ht
        rw [ht] at hv
        generalize hρ : a.eval c = cv at hv
        cases hv
        exact wpIn_cond_false hρ (evalC_in ag hm hc hmix lp nn n hok.2 hca.2 he h hs hf)
      · simp at he
    · rename_i id x
      simp only [codeChk, calm] at hok hca
      refine wpIn_block ?_
      split at he
      · rename_i j s2 H2 e2
        have hH : H2 = H1 := by split at he <;> (simp only [Option.some.injEq, Prod.mk.injEq] at he; exact he.2.2)
        have hS : s2 = s1 := by split at he <;> (simp only [Option.some.injEq, Prod.mk.injEq] at he; exact he.2.1)
        subst hH hS
        refine wpIn_mono (evalC_in ag hm hc hmix lp nn n hok hca e2 h hs hf) ?_
        rintro e' a' w' ⟨rfl, k⟩
        simp only [exOf, Exit.inBlock]
        split at he
        · rename_i hj
          simp only [Option.some.injEq, Prod.mk.injEq] at he
          rw [if_pos hj]
          exact ⟨by rw [← he.1], k⟩
        · rename_i hj
          simp only [Option.some.injEq, Prod.mk.injEq] at he
          rw [if_neg hj]
          exact ⟨by rw [← he.1], k⟩
      · rename_i hne
        refine wpIn_mono (evalC_in ag hm hc hmix lp nn n hok hca he h hs hf) ?_
        rintro e' a' w' ⟨rfl, k⟩
        cases e with
        | exit id => exact absurd he (by intro q; exact hne _ _ _ q)
        | normal => exact ⟨rfl, k⟩
        | ret => exact ⟨rfl, k⟩
    · rename_i x
      simp only [codeChk, calm] at hok hca
      have he0 : evalC T call (n + 1) (.loop x) s H = some (e, s1, H1) := by rw [evalC]; exact he
      refine wpIn_loop_rel (fun m a' w' => ∃ μ' s' H', m ≤ n + 1 ∧ evalC T call m (.loop x) s' H' = some (e, s1, H1) ∧ Goes base F μ μ' H H' w w' ∧ SR μ' s' a'.tmps ∧ a'.defers = a.defers ∧ Free μ' H'.length H1.length)
        (m0 := n + 1) ⟨μ, s, H, Nat.le_refl _, he0, Goes.refl h, hs, rfl, hf⟩ ?_
      rintro m a1 w1 ⟨μ1, s', H', hm1, he1, g1, hs1, hd1, hf1⟩
      cases m with
      | zero => simp [evalC] at he1
      | succ k =>
        have hk : k ≤ n := by omega
        rw [evalC] at he1
        split at he1
        · rename_i s2 H2 e2
          have e2' := evalC_mono (CallLe.refl call) hk e2
          have hl := evalC_len hc e2
          have hl2 := evalC_len hc he1
          refine wpIn_mono (evalC_in ag hm hc hmix lp nn n hok hca e2' g1.hr hs1 (hf1.le hl2)) ?_
          rintro e' a2 w2 ⟨rfl, μ2, g2, hs2, hd2⟩
          exact ⟨k, Nat.lt_succ_self k, μ2, s2, H2, by omega, he1, g1.trans g2, hs2, hd2.trans hd1, hf1.after g2⟩
        · rename_i hne
          have e2' := evalC_mono (CallLe.refl call) hk he1
          refine wpIn_mono (evalC_in ag hm hc hmix lp nn n hok hca e2' g1.hr hs1 hf1) ?_
          rintro e' a2 w2 ⟨rfl, kk⟩
          have := After.trans g1 hd1 kk
          cases e with
          | normal => exact absurd he1 (by intro q; exact hne _ _ q)
          | exit id => exact ⟨rfl, this⟩
          | ret => exact ⟨rfl, this⟩
    · obtain ⟨rfl, h1, h2⟩ := he
      exact wpIn_exit ⟨rfl, same h1 h2⟩
    · obtain ⟨rfl, h1, h2⟩ := he
      exact wpIn_label ⟨rfl, same h1 h2⟩
    · obtain ⟨rfl, h1, h2⟩ := he
      exact wpIn_ret ⟨rfl, same h1 h2⟩

end Go.Proofs.Ytdhbclplondmjaa.C

/- A range over a function: its iterator calls yield, each round runs the body. -/
set_option linter.unusedVariables false
set_option linter.unusedSimpArgs false
namespace Go.Proofs.Ytdhbclplondmjaa.C
open Go.RowKit

variable {P : Program} {T : Tab} {base : Nat} {F : Nat → Prop}

/-! ### What is computed -/

def yieldArgs (s : List Value) (b : Nat) (o : Op) : Option (List Value) :=
  match o with
  | .call { callee := .value f, args, .. } => match ev s f with | .chan (some c) => if c = b then some (args.toList.map (ev s)) else none | _ => none
  | _ => none

abbrev RoundF := List Value → Heap → Option Heap

def evalOneY (T : Tab) (call : CallF) (b : Nat) (rd : RoundF) (ops : Array Oper) (o : Oper) (s : List Value) (H : Heap) : Option (List Value × Heap) :=
  match guardC ops o s with
  | some true =>
    match yieldArgs s b o.op with
    | some args => (rd args H).map fun H1 => (put s o.dst (.bool true), H1)
    | none => (evalOp T call s H o.op).map fun r => (put s o.dst r.1, r.2)
  | some false => some (put s o.dst (.chan none), H)
  | none => none

def evalIdxY (T : Tab) (call : CallF) (b : Nat) (rd : RoundF) (ops : Array Oper) : List Nat → List Value → Heap → Option (List Value × Heap)
  | [], s, H => some (s, H)
  | i :: is, s, H =>
    match ops[i]? with
    | none => none
    | some o => match evalOneY T call b rd ops o s H with
      | some (s1, H1) => evalIdxY T call b rd ops is s1 H1
      | none => none

def evalCY (T : Tab) (call : CallF) (b : Nat) (rd : RoundF) : Nat → Code → List Value → Heap → Option (Ex × List Value × Heap)
  | 0, _, _, _ => none
  | n + 1, c, s, H =>
    match c with
    | .skip | .label _ => some (.normal, s, H)
    | .region _ ops draw => if draw then none else (evalIdxY T call b rd ops (List.range ops.size) s H).map fun r => (.normal, r.1, r.2)
    | .seq x y =>
      match evalCY T call b rd n x s H with
      | some (.normal, s1, H1) => evalCY T call b rd n y s1 H1
      | r => r
    | .cond c x y =>
      match ev s c with
      | .bool true => evalCY T call b rd n x s H
      | .bool false => evalCY T call b rd n y s H
      | _ => none
    | .block id x =>
      match evalCY T call b rd n x s H with
      | some (.exit j, s1, H1) => if j = id then some (.normal, s1, H1) else some (.exit j, s1, H1)
      | r => r
    | .loop x =>
      match evalCY T call b rd n x s H with
      | some (.normal, s1, H1) => evalCY T call b rd n (.loop x) s1 H1
      | r => r
    | .exit id => some (.exit id, s, H)
    | .ret => some (.ret, s, H)
    | _ => none

def putAll (s : List Value) : List Tmp → List Value → List Value
  | t :: ts, v :: vs => putAll (s.set t v) ts vs
  | _, _ => s

def rangeRound (T : Tab) (call : CallF) (n : Nat) (s : List Value) (ps : Array Tmp) (assign body : Code) : RoundF := fun args H =>
  if args.length = ps.size then
    match evalC T call n assign (putAll s ps.toList args) H with
    | some (.normal, s1, H1) =>
      match evalC T call n body s1 H1 with
      | some (.normal, _, H2) => some H2
      | _ => none
    | _ => none
  else none

def evalRange (T : Tab) (call : CallF) (n : Nat) (s : List Value) (H : Heap) (g : Operand) (ps : Array Tmp) (assign body : Code) : Option Heap :=
  match ev s g with
  | .func (.func f) first cap =>
    match T.fn f with
    | some fn =>
      match fn.body with
      | some c =>
        if calm c && codeChk assign && calm assign && codeChk body && calm body then
          match evalCY T call H.length (rangeRound T call n s ps assign body) n c (startC fn (first.toList ++ [.chan (some H.length)] ++ cap.toList)) (H ++ [.row 0 [] false false]) with
          | some (.normal, s1, H1) => (resultsC T fn s1 H1).map fun _ => H1
          | some (.ret, s1, H1) => (resultsC T fn s1 H1).map fun _ => H1
          | _ => none
        else none
      | none => none
    | none => none
  | _ => none

def hasRange : Code → Bool
  | .rangeFunc .. => true
  | .seq a b => hasRange a || hasRange b
  | .cond _ a b => hasRange a || hasRange b
  | .block _ a => hasRange a
  | .loop a => hasRange a
  | _ => false

def evalX (T : Tab) (call : CallF) (n : Nat) : Code → List Value → Heap → Option (Ex × List Value × Heap)
  | .seq a b, s, H =>
    if hasRange a then
      match evalX T call n a s H with
      | some (.normal, s1, H1) => if codeChk b then evalC T call n b s1 H1 else none
      | r => r
    else
      match (if codeChk a then evalC T call n a s H else none) with
      | some (.normal, s1, H1) => evalX T call n b s1 H1
      | r => r
  | .block id a, s, H =>
    match evalX T call n a s H with
    | some (.exit j, s1, H1) => if j = id then some (.normal, s1, H1) else some (.exit j, s1, H1)
    | r => r
  | .rangeFunc g ps assign body, s, H => (evalRange T call n s H g ps assign body).map fun H1 => (.normal, s, H1)
  | _, _, _ => none

/-- More fuel. -/
theorem evalCY_mono {T : Tab} {call : CallF} {b : Nat} {rd : RoundF} : ∀ {n m : Nat} (hnm : n ≤ m) {c : Code} {s : List Value} {H : Heap} {r : Ex × List Value × Heap}, evalCY T call b rd n c s H = some r → evalCY T call b rd m c s H = some r
  | 0, _, _, _, _, _, _, h => by simp [evalCY] at h
  | n + 1, 0, hnm, _, _, _, _, h => by omega
  | n + 1, m + 1, hnm, c, s, H, r, h => by
    have hle : n ≤ m := by omega
    unfold evalCY at *
    cases c <;> simp only at h ⊢ <;> try exact h
    · split at h
      · rename_i s1 H1 e
        rw [evalCY_mono hle e]
        exact evalCY_mono hle h
      · rename_i x y
        rw [evalCY_mono hle h]
        split
        · rename_i s1 H1 e
          simp only [Option.some.injEq] at e
          subst e
          exact absurd h (y _ _)
        · rfl
    · split at h
      · exact evalCY_mono hle h
      · exact evalCY_mono hle h
      · simp at h
    · split at h
      · rename_i j s1 H1 e
        rw [evalCY_mono hle e]
        exact h
      · rename_i x y
        rw [evalCY_mono hle h]
        split
        · rename_i j s1 H1 e
          simp only [Option.some.injEq] at e
          subst e
          exact absurd h (y _ _ _)
        · rfl
    · split at h
      · rename_i s1 H1 e
        rw [evalCY_mono hle e]
        exact evalCY_mono hle h
      · rename_i x y
        rw [evalCY_mono hle h]
        split
        · rename_i s1 H1 e
          simp only [Option.some.injEq] at e
          subst e
          exact absurd h (y _ _)
        · rfl

/-! ### That the machine computes it -/

/-- The fence of everything. -/
theorem opW_of {o : Oper} {a : Act} {w : World} {K K' : Act → World → Prop} {Q : Exit → Act → World → Prop} {n : Nat} (hnd : calmOp o = true) (h : o.wp P a w K Q) (hK : ∀ a w, K a w → K' a w) (hQ : ∀ a w, ¬ Q .outgrown a w) :
    o.wpIn Fence.wide n P a w K' Q := by
  refine ⟨fun _ _ => trivial, ?_⟩
  rw [Oper.semAt_eq _ _ _ (fun c e => by simp [calmOp, e] at hnd)]
  unfold Oper.wp at h
  cases e : (execOp a.eval o).run P w with
  | halt x w1 =>
    rw [e] at h
    cases x <;> simp only [Oper.upon] at h <;> exact h
  | ok x w1 =>
    rw [e] at h
    cases x with
    | value v => exact hK _ _ h
    | skip => exact hK _ _ h
    | defer d => exact hK _ _ h
    | enter f args =>
      refine ⟨fun q => by simp [Fence.wide] at q, callsIn_wide.2 ?_⟩
      refine Calls.mono h ?_
      intro e w2 q
      cases e with
      | returned v => exact hK _ _ q
      | panicked ch => exact q
      | outgrown => exact q
    | row row args =>
      refine ⟨fun q => by simp [Fence.wide] at q, ?_⟩
      intro c cs _
      obtain ⟨v, w2, hr, hs⟩ := h c cs
      exact ⟨v, w2, hK _ _ hr, stepsIn_wide.2 hs⟩
    | _ => exact h.elim

/-- The loop's record and the block for deferred calls are left alone but by the rounds. -/
structure GoY (base : Nat) (F : Nat → Prop) (lp D : Nat) (rec : Loop) (μ μ' : Mu) (H H' : Heap) (w w' : World) : Prop where
  le : MuLe μ μ'
  same : ∀ b, (b < H.length ∨ H'.length ≤ b) → μ' b = μ b
  hr : HR base (fun k => F k ∨ k = lp ∨ k = D) μ' H' w'
  fr : Fr base F w w'
  len : H.length ≤ H'.length
  rec_ : w'.heap[lp]? = some (.loop rec)
  df : w'.heap[D]? = some (.deferred (some []))

section
variable {lp D : Nat} {rec : Loop}

theorem GoY.trans {μ μ' μ'' : Mu} {H H' H'' : Heap} {w w' w'' : World} (h : GoY base F lp D rec μ μ' H H' w w') (k : GoY base F lp D rec μ' μ'' H' H'' w' w'') : GoY base F lp D rec μ μ'' H H'' w w'' where
  le := h.le.trans k.le
  same b hb := by
    have h1 := h.len
    have h2 := k.len
    rw [k.same b (by omega), h.same b (by omega)]
  hr := k.hr
  fr := h.fr.trans k.fr
  len := Nat.le_trans h.len k.len
  rec_ := k.rec_
  df := k.df

theorem GoY.of {μ μ' : Mu} {H H' : Heap} {w w' : World} (g : Goes base (fun k => F k ∨ k = lp ∨ k = D) μ μ' H H' w w') (h1 : w.heap[lp]? = some (.loop rec)) (h2 : w.heap[D]? = some (.deferred (some []))) : GoY base F lp D rec μ μ' H H' w w' :=
  ⟨g.le, g.same, g.hr, g.fr.weaken (fun k hk => .inl hk), g.len, (g.fr.block lp (.inr (.inr (.inl rfl)))).trans h1, (g.fr.block D (.inr (.inr (.inr rfl)))).trans h2⟩

theorem Free.afterY {μ μ' : Mu} {H H' : Heap} {w w' : World} {n : Nat} (hf : Free μ H.length n) (h : GoY base F lp D rec μ μ' H H' w w') : Free μ' H'.length n := by
  intro b h1 h2
  have := h.len
  rw [h.same b (.inr h1)]
  exact hf b (by omega) h2

/-- A call of yield. -/
def YieldsAt (F : Fence) (m : Nat) (P : Program) (l : Nat) (args : Array Value) (W : World) (R : Ending → World → Prop) : Prop :=
  ∃ fn tmps assign body, (Instr.yield l args).run P W = .ok (.round l fn tmps assign body) W ∧ RoundIn F m P l fn tmps assign body W R

/-- What a round of the loop does, at any time. -/
def RoundOk (P : Program) (base : Nat) (F : Nat → Prop) (lp D b n : Nat) (rec : Loop) (μ0 : Mu) (L : Loc) (rd : RoundF) : Prop :=
  ∀ args H H1, rd args H = some H1 → H.length ≤ H1.length ∧ ∀ μ w args', MuLe μ0 μ → HR base (fun k => F k ∨ k = lp ∨ k = D) μ H w → w.heap[lp]? = some (.loop rec) → w.heap[D]? = some (.deferred (some [])) → VRs μ args args' → Free μ H.length H1.length →
    YieldsAt Fence.wide n P lp args'.toArray w fun e w' => e = .returned (.bool true) ∧ ∃ μ', GoY base F lp D rec μ μ' H H1 w w'

variable {b n : Nat} {μ0 : Mu} {L : Loc} {rd : RoundF} {call : CallF}

theorem RoundOk.len (h : RoundOk P base F lp D b n rec μ0 L rd) : ∀ args H H1, rd args H = some H1 → H.length ≤ H1.length := fun a H H1 e => (h a H H1 e).1

theorem evalOneY_len (hc : SoundCall P call) (hrd : ∀ args H H1, rd args H = some H1 → H.length ≤ H1.length) {ops : Array Oper} {o : Oper} {s s1 : List Value} {H H1 : Heap} (h : evalOneY T call b rd ops o s H = some (s1, H1)) : H.length ≤ H1.length := by
  unfold evalOneY at h
  split at h
  · split at h
    · rw [Option.map_eq_some_iff] at h
      obtain ⟨H2, h2, h⟩ := h
      simp only [Prod.mk.injEq] at h
      rw [← h.2]
      exact hrd _ _ _ h2
    · rw [Option.map_eq_some_iff] at h
      obtain ⟨⟨v, H2⟩, h2, h⟩ := h
      simp only [Prod.mk.injEq] at h
      rw [← h.2]
      exact evalOp_len hc h2
  · simp only [Option.some.injEq, Prod.mk.injEq] at h
    rw [← h.2]
    exact Nat.le_refl _
  · simp at h

theorem evalIdxY_len (hc : SoundCall P call) (hrd : ∀ args H H1, rd args H = some H1 → H.length ≤ H1.length) {ops : Array Oper} : ∀ {is : List Nat} {s s1 : List Value} {H H1 : Heap}, evalIdxY T call b rd ops is s H = some (s1, H1) → H.length ≤ H1.length
  | [], s, s1, H, H1, h => by
    simp only [evalIdxY, Option.some.injEq, Prod.mk.injEq] at h
    rw [h.2]; exact Nat.le_refl _
  | i :: is, s, s1, H, H1, h => by
    unfold evalIdxY at h
    split at h
    · simp at h
    · split at h
      · rename_i s2 H2 e
        exact Nat.le_trans (evalOneY_len hc hrd e) (evalIdxY_len hc hrd h)
      · simp at h

theorem evalCY_len (hc : SoundCall P call) (hrd : ∀ args H H1, rd args H = some H1 → H.length ≤ H1.length) : ∀ {k : Nat} {c : Code} {s : List Value} {H : Heap} {r : Ex × List Value × Heap}, evalCY T call b rd k c s H = some r → H.length ≤ r.2.2.length
  | 0, c, s, H, r, h => by simp [evalCY] at h
  | k + 1, c, s, H, r, h => by
    unfold evalCY at h
    cases c <;> simp only [Option.some.injEq, reduceCtorEq] at h
    · subst h; exact Nat.le_refl _
    · split at h
      · simp at h
      · rw [Option.map_eq_some_iff] at h
        obtain ⟨x, hx, h⟩ := h
        subst h
        exact evalIdxY_len hc hrd hx
    · split at h
      · rename_i s1 H1 e
        exact Nat.le_trans (evalCY_len hc hrd e) (evalCY_len hc hrd h)
      · exact evalCY_len hc hrd h
    · split at h
      · exact evalCY_len hc hrd h
      · exact evalCY_len hc hrd h
      · simp at h
    · split at h
      · rename_i j s1 H1 e
        have := evalCY_len hc hrd e
        split at h <;> (simp only [Option.some.injEq] at h; subst h; exact this)
      · exact evalCY_len hc hrd h
    · split at h
      · rename_i s1 H1 e
        exact Nat.le_trans (evalCY_len hc hrd e) (evalCY_len hc hrd h)
      · exact evalCY_len hc hrd h
    · subst h; exact Nat.le_refl _
    · subst h; exact Nat.le_refl _
    · subst h; exact Nat.le_refl _

/-- A state of the iterator. -/
structure AtY (base : Nat) (F : Nat → Prop) (lp D b : Nat) (rec : Loop) (μ0 : Mu) (L : Loc) (μ : Mu) (s : List Value) (H : Heap) (a : Act) (w : World) : Prop where
  hr : HR base (fun k => F k ∨ k = lp ∨ k = D) μ H w
  rec_ : w.heap[lp]? = some (.loop rec)
  df : w.heap[D]? = some (.deferred (some []))
  le : MuLe μ0 μ
  at_ : μ0 b = some L
  blk : L.blk = lp
  sr : SR μ s a.tmps

def AfterY (base : Nat) (F : Nat → Prop) (lp D b : Nat) (rec : Loop) (μ0 : Mu) (L : Loc) (μ : Mu) (H : Heap) (s1 : List Value) (H1 : Heap) (a : Act) (w : World) (a' : Act) (w' : World) : Prop :=
  ∃ μ', GoY base F lp D rec μ μ' H H1 w w' ∧ AtY base F lp D b rec μ0 L μ' s1 H1 a' w' ∧ a'.defers = a.defers

theorem AtY.refl {μ : Mu} {s : List Value} {H : Heap} {a : Act} {w : World} (h : AtY base F lp D b rec μ0 L μ s H a w) : GoY base F lp D rec μ μ H H w w :=
  ⟨MuLe.refl _, fun _ _ => rfl, h.hr, Fr.refl _ _ _, Nat.le_refl _, h.rec_, h.df⟩

theorem evalOneY_wp (ag : Agree P T) (hm : ∀ t n f e, T.meth t n = some (f, e) → MethOk P t n f e) (hc : SoundCall P call) (hrd : RoundOk P base F lp D b n rec μ0 L rd) {μ : Mu} {ops : Array Oper} {o : Oper} {s s1 : List Value} {H H1 : Heap} {w : World} {a : Act} (hnd : calmOp o = true)
    (he : evalOneY T call b rd ops o s H = some (s1, H1)) (h : AtY base F lp D b rec μ0 L μ s H a w) (hf : Free μ H.length H1.length) {K : Act → World → Prop} {Q : Exit → Act → World → Prop} (hQ : ∀ a w, ¬ Q .outgrown a w)
    (hK : ∀ a' w', AfterY base F lp D b rec μ0 L μ H s1 H1 a w a' w' → K a' w') :
    if Region.wanted o (yielded ops a.tmps) then o.wpIn Fence.wide (n + 1) P a w K Q else (∀ f, o.about P w a.eval = some f → Fence.wide.fn f) ∧ K (a.put o.dst undef) w := by
  unfold evalOneY at he
  split at he
  · rename_i hg
    rw [guard_ok h.sr hg, if_pos rfl]
    split at he
    · rename_i args hy
      rw [Option.map_eq_some_iff] at he
      obtain ⟨H2, h2, he⟩ := he
      simp only [Prod.mk.injEq] at he
      obtain ⟨rfl, rfl⟩ := he
      unfold yieldArgs at hy
      split at hy
      · rename_i fo xs ats hop
        split at hy
        · rename_i c hfo
          split at hy
          · rename_i hcb
            subst hcb
            simp only [Option.some.injEq] at hy
            subst hy
            have hv := h.sr.evals fo
            rw [hfo] at hv
            generalize hρ : a.eval fo = fv at hv
            cases hv with
            | yield hl =>
              have hL := h.le _ _ h.at_
              rw [hL] at hl
              simp only [Option.some.injEq] at hl
              subst hl
              obtain ⟨_, hr2⟩ := hrd _ _ _ h2
              obtain ⟨fn, tmps, assign, body, hyr, hR⟩ := hr2 μ w _ h.le h.hr h.rec_ h.df (VRs.of_map h.sr.evals xs.toList) hf
              refine ⟨fun _ _ => trivial, ?_⟩
              rw [Oper.semAt_eq _ _ _ (fun c e => by simp [calmOp, e] at hnd)]
              have hrun : (execOp a.eval o).run P w = .ok (.round L.blk fn tmps assign body) w := by
                simp only [execOp, hop, resolve, hρ, Deferred.ofValue, pure_bind, invoke]
                rw [h.blk]
                simpa [map_arr] using hyr
              rw [hrun]
              refine ⟨fun q => by simp [Fence.wide] at q, ?_⟩
              rw [h.blk]
              refine RoundIn.mono hR ?_
              rintro e w' ⟨rfl, μ', g⟩
              refine hK _ _ ⟨μ', g, ⟨g.hr, g.rec_, g.df, h.le.trans g.le, h.at_, h.blk, (h.sr.mono g.le).puts o.dst (.bool true)⟩, put_defers _ _ _⟩
          · simp at hy
        · simp at hy
      · simp at hy
    · rw [Option.map_eq_some_iff] at he
      obtain ⟨⟨v, H2⟩, hx, he⟩ := he
      simp only [Prod.mk.injEq] at he
      obtain ⟨rfl, rfl⟩ := he
      refine opW_of hnd (K := K) (evalOp_wp ag hm hc hx h.hr hf h.sr.evals fun v' w' μ' g hv => ?_) (fun _ _ h => h) hQ
      have g' := GoY.of (lp := lp) (D := D) (rec := rec) g h.rec_ h.df
      exact hK _ _ ⟨μ', g', ⟨g'.hr, g'.rec_, g'.df, h.le.trans g.le, h.at_, h.blk, (h.sr.mono g.le).puts o.dst hv⟩, put_defers _ _ _⟩
  · rename_i hg
    rw [guard_ok h.sr hg]
    simp only [Option.some.injEq, Prod.mk.injEq] at he
    obtain ⟨rfl, rfl⟩ := he
    simp only [Bool.false_eq_true, if_false]
    exact ⟨fun _ _ => trivial, hK _ _ ⟨μ, h.refl, ⟨h.hr, h.rec_, h.df, h.le, h.at_, h.blk, h.sr.puts o.dst .skip⟩, put_defers _ _ _⟩⟩
  · simp at he

theorem AfterY.trans {μ μ' : Mu} {H H1 H2 : Heap} {s2 : List Value} {a a1 a2 : Act} {w w1 w2 : World} (g : GoY base F lp D rec μ μ' H H1 w w1) (hd : a1.defers = a.defers) (k : AfterY base F lp D b rec μ0 L μ' H1 s2 H2 a1 w1 a2 w2) : AfterY base F lp D b rec μ0 L μ H s2 H2 a w a2 w2 := by
  obtain ⟨μ2, g2, h2, hd2⟩ := k
  exact ⟨μ2, g.trans g2, h2, hd2.trans hd⟩

theorem evalIdxY_wp (ag : Agree P T) (hm : ∀ t n f e, T.meth t n = some (f, e) → MethOk P t n f e) (hc : SoundCall P call) (hrd : RoundOk P base F lp D b n rec μ0 L rd) {ops : Array Oper} (hca : ops.all calmOp = true) {Q : Exit → Act → World → Prop} (hQn : ∀ a w, ¬ Q .outgrown a w) :
    ∀ {is : List Nat} {μ : Mu} {s s1 : List Value} {H H1 : Heap} {w : World} {a : Act}, evalIdxY T call b rd ops is s H = some (s1, H1) → AtY base F lp D b rec μ0 L μ s H a w → Free μ H.length H1.length →
      (∀ a' w', AfterY base F lp D b rec μ0 L μ H s1 H1 a w a' w' → Q .normal a' w') → wpOpsIn Fence.wide (n + 1) P ops Q is a w
  | [], μ, s, s1, H, H1, w, a, he, h, hf, hQ => by
    simp only [evalIdxY, Option.some.injEq, Prod.mk.injEq] at he
    obtain ⟨rfl, rfl⟩ := he
    exact hQ a w ⟨μ, h.refl, h, rfl⟩
  | i :: is, μ, s, s1, H, H1, w, a, he, h, hf, hQ => by
    unfold evalIdxY at he
    split at he
    · simp at he
    · rename_i o ho
      split at he
      · rename_i s2 H2 e
        have hl1 := evalOneY_len hc hrd.len e
        have hl2 := evalIdxY_len hc hrd.len he
        rw [wpOpsIn]
        simp only [ho]
        have hnd : calmOp o = true := by
          rw [Array.all_eq_true'] at hca
          exact hca o (Array.mem_of_getElem? ho)
        refine evalOneY_wp ag hm hc hrd hnd e h (hf.le hl2) hQn fun a' w' k => ?_
        obtain ⟨μ', g, h', hd⟩ := k
        exact evalIdxY_wp ag hm hc hrd hca hQn he h' (hf.afterY g) fun a2 w2 k2 => hQ a2 w2 (AfterY.trans g hd k2)
      · simp at he

theorem evalCY_wp (ag : Agree P T) (hm : ∀ t n f e, T.meth t n = some (f, e) → MethOk P t n f e) (hc : SoundCall P call) (hrd : RoundOk P base F lp D b n rec μ0 L rd) :
    ∀ (k : Nat) {c : Code} {μ : Mu} {s s1 : List Value} {H H1 : Heap} {e : Ex} {w : World} {a : Act}, calm c = true → evalCY T call b rd k c s H = some (e, s1, H1) → AtY base F lp D b rec μ0 L μ s H a w → Free μ H.length H1.length →
      c.wpIn Fence.wide (n + 1) P (fun x a' w' => x = exOf e ∧ AfterY base F lp D b rec μ0 L μ H s1 H1 a w a' w') a w
  | 0, c, μ, s, s1, H, H1, e, w, a, hca, he, h, hf => by simp [evalCY] at he
  | k + 1, c, μ, s, s1, H, H1, e, w, a, hca, he, h, hf => by
    have same : s = s1 → H = H1 → AfterY base F lp D b rec μ0 L μ H s1 H1 a w a w := by
      rintro rfl rfl
      exact ⟨μ, h.refl, h, rfl⟩
    unfold evalCY at he
    cases c <;> simp only [Option.some.injEq, Prod.mk.injEq, reduceCtorEq] at he
    · obtain ⟨rfl, h1, h2⟩ := he
      exact wpIn_skip ⟨rfl, same h1 h2⟩
    · rename_i id ops draw
      split at he
      · simp at he
      · rename_i hd
        simp only [Bool.not_eq_true] at hd
        subst hd
        rw [Option.map_eq_some_iff] at he
        obtain ⟨⟨s2, H2⟩, hx, he⟩ := he
        simp only [Prod.mk.injEq] at he
        obtain ⟨rfl, rfl, rfl⟩ := he
        exact wpIn_region (evalIdxY_wp ag hm hc hrd hca (fun a w q => by exact absurd q.1 (by simp [exOf])) hx h hf fun a' w' k => ⟨rfl, k⟩)
    · rename_i x y
      simp only [calm, Bool.and_eq_true] at hca
      refine wpIn_seq ?_
      split at he
      · rename_i s2 H2 e2
        have hl := evalCY_len hc hrd.len e2
        have hl2 := evalCY_len hc hrd.len he
        refine wpIn_mono (evalCY_wp ag hm hc hrd k hca.1 e2 h (hf.le hl2)) ?_
        rintro e' a' w' ⟨rfl, μ', g, h', hd⟩
        refine wpIn_mono (evalCY_wp ag hm hc hrd k hca.2 he h' (hf.afterY g)) ?_
        rintro e2 a2 w2 ⟨rfl, k2⟩
        exact ⟨rfl, AfterY.trans g hd k2⟩
      · rename_i hne
        refine wpIn_mono (evalCY_wp ag hm hc hrd k hca.1 he h hf) ?_
        rintro e' a' w' ⟨rfl, k2⟩
        cases e with
        | normal => exact absurd he (by intro q; exact hne _ _ q)
        | exit id => exact ⟨rfl, k2⟩
        | ret => exact ⟨rfl, k2⟩
    · rename_i c x y
      have hv := h.sr.evals c
      simp only [calm, Bool.and_eq_true] at hca
      split at he
      · rename_i ht
        rw [ht] at hv
        generalize hρ : a.eval c = cv at hv
        cases hv
        exact wpIn_cond_true hρ (evalCY_wp ag hm hc hrd k hca.1 he h hf)
      · rename_i ht
        rw [ht] at hv
        generalize hρ : a.eval c = cv at hv
        cases hv
        exact wpIn_cond_false hρ (evalCY_wp ag hm hc hrd k hca.2 he h hf)
      · simp at he
    · rename_i id x
      simp only [calm] at hca
      refine wpIn_block ?_
      split at he
      · rename_i j s2 H2 e2
        have hH : H2 = H1 := by split at he <;> (simp only [Option.some.injEq, Prod.mk.injEq] at he; exact he.2.2)
        have hS : s2 = s1 := by split at he <;> (simp only [Option.some.injEq, Prod.mk.injEq] at he; exact he.2.1)
        subst hH hS
        refine wpIn_mono (evalCY_wp ag hm hc hrd k hca e2 h hf) ?_
        rintro e' a' w' ⟨rfl, k2⟩
        simp only [exOf, Exit.inBlock]
        split at he
        · rename_i hj
          simp only [Option.some.injEq, Prod.mk.injEq] at he
          rw [if_pos hj]
          exact ⟨by rw [← he.1], k2⟩
        · rename_i hj
          simp only [Option.some.injEq, Prod.mk.injEq] at he
          rw [if_neg hj]
          exact ⟨by rw [← he.1], k2⟩
      · rename_i hne
        refine wpIn_mono (evalCY_wp ag hm hc hrd k hca he h hf) ?_
        rintro e' a' w' ⟨rfl, k2⟩
        cases e with
        | exit id => exact absurd he (by intro q; exact hne _ _ _ q)
        | normal => exact ⟨rfl, k2⟩
        | ret => exact ⟨rfl, k2⟩
    · rename_i x
      simp only [calm] at hca
      have he0 : evalCY T call b rd (k + 1) (.loop x) s H = some (e, s1, H1) := by rw [evalCY]; exact he
      refine wpIn_loop_rel (fun m a' w' => ∃ μ' s' H', m ≤ k + 1 ∧ evalCY T call b rd m (.loop x) s' H' = some (e, s1, H1) ∧ GoY base F lp D rec μ μ' H H' w w' ∧ AtY base F lp D b rec μ0 L μ' s' H' a' w' ∧ a'.defers = a.defers ∧ Free μ' H'.length H1.length)
        (m0 := k + 1) ⟨μ, s, H, Nat.le_refl _, he0, h.refl, h, rfl, hf⟩ ?_
      rintro m a1 w1 ⟨μ1, s', H', hm1, he1, g1, hs1, hd1, hf1⟩
      cases m with
      | zero => simp [evalCY] at he1
      | succ j =>
        have hk : j ≤ k := by omega
        have mono : ∀ {r}, evalCY T call b rd j x s' H' = some r → evalCY T call b rd k x s' H' = some r := evalCY_mono hk
        rw [evalCY] at he1
        split at he1
        · rename_i s2 H2 e2
          have e2' := mono e2
          have hl := evalCY_len hc hrd.len e2
          have hl2 := evalCY_len hc hrd.len he1
          refine wpIn_mono (evalCY_wp ag hm hc hrd k hca e2' hs1 (hf1.le hl2)) ?_
          rintro e' a2 w2 ⟨rfl, μ2, g2, hs2, hd2⟩
          exact ⟨j, Nat.lt_succ_self j, μ2, s2, H2, by omega, he1, g1.trans g2, hs2, hd2.trans hd1, hf1.afterY g2⟩
        · rename_i hne
          have e2' := mono he1
          refine wpIn_mono (evalCY_wp ag hm hc hrd k hca e2' hs1 hf1) ?_
          rintro e' a2 w2 ⟨rfl, kk⟩
          have := AfterY.trans g1 hd1 kk
          cases e with
          | normal => exact absurd he1 (by intro q; exact hne _ _ q)
          | exit id => exact ⟨rfl, this⟩
          | ret => exact ⟨rfl, this⟩
    · obtain ⟨rfl, h1, h2⟩ := he
      exact wpIn_exit ⟨rfl, same h1 h2⟩
    · obtain ⟨rfl, h1, h2⟩ := he
      exact wpIn_label ⟨rfl, same h1 h2⟩
    · obtain ⟨rfl, h1, h2⟩ := he
      exact wpIn_ret ⟨rfl, same h1 h2⟩

end

end Go.Proofs.Ytdhbclplondmjaa.C

/- A range over a function, as a whole; functions that hold one. -/
set_option linter.unusedVariables false
set_option linter.unusedSimpArgs false
namespace Go.Proofs.Ytdhbclplondmjaa.C
open Go.RowKit

variable {P : Program} {T : Tab} {base : Nat} {F : Nat → Prop}

/-- A block that is no cells of ours turns. -/
theorem HR.putObj {μ : Mu} {H : Heap} {w : World} (h : HR base F μ H w) {lp : Nat} (o : Obj) (hb : base ≤ lp) (hf : F lp) : HR base F μ H (w.putObj lp o) where
  own b sz cs l hb1 hl := by
    obtain ⟨a, c, d, e⟩ := h.own b sz cs l hb1 hl
    exact ⟨a, c, d, e.mono (MuLe.refl _) (World.putObj_heap_other (fun q => d (q ▸ hf)))⟩
  ro b sz cs l hb1 hl := by
    obtain ⟨a, c, d⟩ := h.ro b sz cs l hb1 hl
    refine ⟨a, c, fun i v hv => ?_⟩
    obtain ⟨v', x, y⟩ := d i v hv
    exact ⟨v', (cell_of_heap (World.putObj_heap_other (by show l.blk ≠ lp; omega))).trans x, y⟩
  maps b es l hb1 hl := by
    obtain ⟨a, c, d⟩ := h.maps b es l hb1 hl
    exact ⟨a, c, d.mono (MuLe.refl _) (World.putObj_heap_other (fun q => c (q ▸ hf)))⟩
  inj := h.inj
  far k hk := by simpa using h.far k hk
  base_le := by simpa using h.base_le

theorem Fr.putObj {w : World} {lp : Nat} (o : Obj) (hb : base ≤ lp) (hf : ¬ F lp) : Fr base F w (w.putObj lp o) :=
  ⟨rfl, rfl, rfl, by simp, fun k hk => World.putObj_heap_other (fun q => hk.elim (fun h => by omega) (fun h => hf (q ▸ h)))⟩

/-- A dead block. -/
theorem HR.dead {μ : Mu} {H : Heap} {w : World} (h : HR base F μ H w) (hfree : μ H.length = none) (l0 : Loc) : HR base F (μ.set H.length l0) (H ++ [.row 0 [] false false]) w := by
  have hm : MuLe μ (μ.set H.length l0) := Mu.le_set hfree
  have key : ∀ {b : Nat} {x : Blk} {l : Loc}, (H ++ [Blk.row 0 [] false false])[b]? = some x → (μ.set H.length l0) b = some l → (b = H.length ∧ x = .row 0 [] false false) ∨ (H[b]? = some x ∧ μ b = some l) := by
    intro b x l hb hl
    rw [getElem?_snoc] at hb
    by_cases e : b = H.length
    · rw [if_pos e] at hb; simp at hb; exact .inl ⟨e, hb.symm⟩
    · rw [if_neg e] at hb; rw [Mu.set_ne _ _ e] at hl; exact .inr ⟨hb, hl⟩
  refine ⟨?_, ?_, ?_, ?_, h.far, h.base_le⟩
  · intro b sz cs l hb hl
    rcases key hb hl with ⟨_, hx⟩ | ⟨hb, hl⟩
    · simp at hx
    · obtain ⟨a, c, d, e⟩ := h.own b sz cs l hb hl
      exact ⟨a, c, d, e.mono hm rfl⟩
  · intro b sz cs l hb hl
    rcases key hb hl with ⟨_, hx⟩ | ⟨hb, hl⟩
    · simp at hx
    · obtain ⟨a, c, d⟩ := h.ro b sz cs l hb hl
      exact ⟨a, c, fun i v hv => let ⟨v', x, y⟩ := d i v hv; ⟨v', x, y.mono hm⟩⟩
  · intro b es l hb hl
    rcases key hb hl with ⟨_, hx⟩ | ⟨hb, hl⟩
    · simp at hx
    · obtain ⟨a, c, d⟩ := h.maps b es l hb hl
      exact ⟨a, c, d.mono hm rfl⟩
  · intro b b' k k' l l' hb hb' hk hk' hne hl hl'
    rcases key hb hl with ⟨_, hx⟩ | ⟨hb, hl⟩
    · subst hx; simp [Blk.mine] at hk
    · rcases key hb' hl' with ⟨_, hx⟩ | ⟨hb', hl'⟩
      · subst hx; simp [Blk.mine] at hk'
      · exact h.inj b b' k k' l l' hb hb' hk hk' hne hl hl'

/-- More that is left alone, of what lies behind. -/
theorem HR.wider {μ : Mu} {H : Heap} {w w' : World} (h : HR base F μ H w) (hw : ∀ k, k < w.heap.size → w'.heap[k]? = w.heap[k]?) (hs : w.heap.size ≤ w'.heap.size) (G : Nat → Prop) (hG : ∀ k, G k → w.heap.size ≤ k ∧ k < w'.heap.size) :
    HR base (fun k => F k ∨ G k) μ H w' := by
  have h' := h.world hw hs
  refine ⟨?_, h'.ro, ?_, h'.inj, ?_, h'.base_le⟩
  · intro b sz cs l hb hl
    obtain ⟨a, c, d, e⟩ := h.own b sz cs l hb hl
    refine ⟨a, c, fun q => q.elim d (fun q => ?_), e.mono (MuLe.refl _) (hw _ e.lt)⟩
    have := e.lt
    have := hG _ q
    omega
  · intro b es l hb hl
    obtain ⟨a, c, d⟩ := h.maps b es l hb hl
    refine ⟨a, fun q => q.elim c (fun q => ?_), d.mono (MuLe.refl _) (hw _ d.lt)⟩
    have := d.lt
    have := hG _ q
    omega
  · intro k hk
    exact hk.elim (fun q => h'.far k q) (fun q => (hG k q).2)

theorem SR.putAll {μ : Mu} : ∀ (ts : List Tmp) {vs vs' : List Value} {s : List Value} {t : Array Value}, SR μ s t → VRs μ vs vs' → SR μ (putAll s ts vs) ((ts.zip vs').foldl (fun tmps (x : Tmp × Value) => tmps.setIfInBounds x.1 x.2) t)
  | [], _, _, s, t, h, _ => by simpa [C.putAll] using h
  | x :: ts, _, _, s, t, h, .nil => by simpa [C.putAll] using h
  | x :: ts, _, _, s, t, h, .cons hv ht => by
    simp only [C.putAll, List.zip_cons_cons, List.foldl_cons]
    exact SR.putAll ts (h.put x hv) ht

def recOf (fn : FuncId) (tmps : Array Value) (ps : Array Tmp) (assign body : Code) (D : Nat) : Loop := { state := .ready, pending := none, fn, tmps, params := ps, assign, body, defers := D }

theorem rangeRound_ok {call : CallF} (ag : Agree P T) (hm : ∀ t n f e, T.meth t n = some (f, e) → MethOk P t n f e) (hc : SoundCall P call) (hmix : P.follows .mixedOrders = true) {k n b lp D : Nat} {fn : FuncId} {s : List Value} {tmps : Array Value} {ps : Array Tmp} {assign body : Code} {μ0 : Mu} {L : Loc}
    (h1 : codeChk assign = true) (h2 : calm assign = true) (h3 : codeChk body = true) (h4 : calm body = true) (hs : SR μ0 s tmps) (hlp : base ≤ lp) (hD : base ≤ D) (hne : lp ≠ D) (hFl : ¬ F lp) :
    RoundOk P base F lp D b n (recOf fn tmps ps assign body D) μ0 L (rangeRound T call k s ps assign body) := by
  intro args H H1 hr
  unfold rangeRound at hr
  split at hr
  · rename_i hlen
    split at hr
    · rename_i sA HA eA
      split at hr
      · rename_i sB HB eB
        simp only [Option.some.injEq] at hr
        subst hr
        have l1 := evalC_len hc eA
        have l2 := evalC_len hc eB
        simp only at l1 l2
        refine ⟨Nat.le_trans l1 l2, fun μ w args' hle hh hrec hdf hva hfree => ?_⟩
        have hsz : args'.toArray.size = (recOf fn tmps ps assign body D).params.size := by simp [hva.length, recOf, hlen]
        refine ⟨_, _, _, _, run_yield hrec hsz, ?_⟩
        refine roundIn_of_wpIn trivial ?_
        have hsr : SR μ (putAll s ps.toList args) (((recOf fn tmps ps assign body D).params.zip args'.toArray).foldl (fun tmps (x : Tmp × Value) => tmps.setIfInBounds x.1 x.2) (recOf fn tmps ps assign body D).tmps) := by
          have := SR.putAll ps.toList (hs.mono hle) hva
          rw [← Array.foldl_toList, Array.toList_zip]
          simpa [recOf] using this
        refine wpIn_mono (evalC_in (F := fun k => F k ∨ k = lp ∨ k = D) ag hm hc hmix lp n k h1 h2 eA hh (a := { tmps := _, defers := [] }) hsr (hfree.le l2)) ?_
        rintro x a1 w1 ⟨rfl, μ1, g1, hs1, hd1⟩
        have hrec1 : w1.heap[lp]? = some (.loop (recOf fn tmps ps assign body D)) := (g1.fr.block lp (.inr (.inr (.inl rfl)))).trans hrec
        have hdf1 : w1.heap[D]? = some (.deferred (some [])) := (g1.fr.block D (.inr (.inr (.inr rfl)))).trans hdf
        refine ⟨_, run_beginRound hrec1 rfl, ?_⟩
        have hh2 := g1.hr.putObj (lp := lp) (.loop { recOf fn tmps ps assign body D with state := .busy }) hlp (.inr (.inl rfl))
        refine wpIn_mono (evalC_in (F := fun k => F k ∨ k = lp ∨ k = D) ag hm hc hmix lp n k h3 h4 eB hh2 hs1 (hfree.after g1)) ?_
        rintro x a2 w2 ⟨rfl, μ2, g2, hs2, hd2⟩
        have hlt1 : lp < w1.heap.size := (Array.getElem?_eq_some_iff.1 hrec1).1
        have hrec2 : w2.heap[lp]? = some (.loop { recOf fn tmps ps assign body D with state := .busy }) := (g2.fr.block lp (.inr (.inr (.inl rfl)))).trans (World.putObj_heap_same hlt1)
        have hdf2 : w2.heap[D]? = some (.deferred (some [])) := (g2.fr.block D (.inr (.inr (.inr rfl)))).trans ((World.putObj_heap_other (Ne.symm hne)).trans hdf1)
        have hlt2 : lp < w2.heap.size := (Array.getElem?_eq_some_iff.1 hrec2).1
        refine ⟨_, _, run_endRound none hrec2, rfl, μ2, ?_⟩
        refine ⟨g1.le.trans g2.le, fun b hb => ?_, g2.hr.putObj _ hlp (.inr (.inl rfl)), ?_, Nat.le_trans g1.len g2.len, World.putObj_heap_same hlt2, (World.putObj_heap_other (Ne.symm hne)).trans hdf2⟩
        · have := g1.len
          have := g2.len
          rw [g2.same b (by omega), g1.same b (by omega)]
        · exact (((g1.fr.weaken (fun k hk => .inl hk)).trans (Fr.putObj _ hlp hFl)).trans (g2.fr.weaken (fun k hk => .inl hk))).trans (Fr.putObj _ hlp hFl)
      · simp at hr
    · simp at hr
  · simp at hr

/-- After code that may hold a range over a function: more is left alone; perhaps a mark lies among the deferred calls. -/
def AfterX (base : Nat) (F : Nat → Prop) (μ : Mu) (H : Heap) (s1 : List Value) (H1 : Heap) (a : Act) (w : World) (a' : Act) (w' : World) : Prop :=
  ∃ μ' F', (∀ k, F k → F' k) ∧ MuLe μ μ' ∧ (∀ b, (b < H.length ∨ H1.length ≤ b) → μ' b = μ b) ∧ HR base F' μ' H1 w' ∧ Fr base F w w' ∧ H.length ≤ H1.length ∧ SR μ' s1 a'.tmps ∧
    (a'.defers = a.defers ∨ ∃ D, a'.defers = [{ target := .collected D, args := #[] }] ++ a.defers ∧ F' D ∧ base ≤ D ∧ ¬ F D ∧ w'.heap[D]? = some (.deferred (some [])))

theorem AfterX.of {μ : Mu} {H H1 : Heap} {s1 : List Value} {a a' : Act} {w w' : World} (h : After base F μ H s1 H1 a w a' w') : AfterX base F μ H s1 H1 a w a' w' := by
  obtain ⟨μ', g, hs, hd⟩ := h
  exact ⟨μ', F, fun _ h => h, g.le, g.same, g.hr, g.fr, g.len, hs, .inl hd⟩

theorem rangeRound_len {call : CallF} (hc : SoundCall P call) {k : Nat} {s : List Value} {ps : Array Tmp} {assign body : Code} : ∀ args H H1, rangeRound T call k s ps assign body args H = some H1 → H.length ≤ H1.length := by
  intro args H H1 hr
  unfold rangeRound at hr
  split at hr
  · split at hr
    · rename_i sA HA eA
      split at hr
      · rename_i sB HB eB
        simp only [Option.some.injEq] at hr
        subst hr
        exact Nat.le_trans (evalC_len hc eA) (evalC_len hc eB)
      · simp at hr
    · simp at hr
  · simp at hr

theorem evalRange_len {call : CallF} (hc : SoundCall P call) {k : Nat} {g : Operand} {ps : Array Tmp} {assign body : Code} {s : List Value} {H H1 : Heap} (he : evalRange T call k s H g ps assign body = some H1) : H.length < H1.length := by
  unfold evalRange at he
  split at he
  · split at he
    · split at he
      · split at he
        · split at he
          · rename_i s1 H2 e2
            rw [Option.map_eq_some_iff] at he
            obtain ⟨v, hv, rfl⟩ := he
            have := evalCY_len hc (rangeRound_len hc) e2
            simp at this
            omega
          · rename_i s1 H2 e2
            rw [Option.map_eq_some_iff] at he
            obtain ⟨v, hv, rfl⟩ := he
            have := evalCY_len hc (rangeRound_len hc) e2
            simp at this
            omega
          · simp at he
        · simp at he
      · simp at he
    · simp at he
  · simp at he

theorem evalRange_in {call : CallF} (hF : Fits P T) (hc : SoundCall P call) (hmix : P.follows .mixedOrders = true) {k m : Nat} {g : Operand} {ps : Array Tmp} {assign body : Code} {μ : Mu} {s : List Value} {H H1 : Heap} {w : World} {a : Act}
    (he : evalRange T call k s H g ps assign body = some H1) (hltH : H.length < H1.length) (h : HR base F μ H w) (hs : SR μ s a.tmps) (hfree : Free μ H.length H1.length) :
    (Code.rangeFunc g ps assign body).wpIn Fence.wide (m + 2) P (fun x a' w' => x = .normal ∧ AfterX base F μ H s H1 a w a' w') a w := by
  unfold evalRange at he
  split at he
  · rename_i f first cap hg
    split at he
    · rename_i fn hfn
      split at he
      · rename_i c hb
        split at he
        · rename_i hchk
          simp only [Bool.and_eq_true] at hchk
          obtain ⟨⟨⟨⟨hc0, hc1⟩, hc2⟩, hc3⟩, hc4⟩ := hchk
          have hv := hs.evals g
          rw [hg] at hv
          generalize hρ : a.eval g = gv at hv
          cases hv with
          | func fn0 hfs hcs =>
            rename_i f1 first' c1 cap'
            simp only [List.toList_toArray] at he
            -- the two new blocks
            let D := w.heap.size
            let lp := w.heap.size + 1
            let L : Loc := ⟨lp, 0, 0, 0⟩
            have hcy : ∃ (e : Ex) (s1 : List Value) (v : Value), evalCY T call H.length (rangeRound T call k s ps assign body) k c (startC fn (f1 ++ [Value.chan (some H.length)] ++ c1)) (H ++ [.row 0 [] false false]) = some (e, s1, H1) ∧ (e = Ex.normal ∨ e = Ex.ret) ∧ resultsC T fn s1 H1 = some v := by
              split at he
              · rename_i s1 H2 e2
                rw [Option.map_eq_some_iff] at he
                obtain ⟨v, hv, rfl⟩ := he
                exact ⟨_, _, v, e2, .inl rfl, hv⟩
              · rename_i s1 H2 e2
                rw [Option.map_eq_some_iff] at he
                obtain ⟨v, hv, rfl⟩ := he
                exact ⟨_, _, v, e2, .inr rfl, hv⟩
              · simp at he
            obtain ⟨e, s1, v, he2, hee, hres⟩ := hcy
            have hbD : base ≤ D := h.base_le
            have hblp : base ≤ lp := Nat.le_succ_of_le h.base_le
            have hFD : ¬ F D := fun q => Nat.lt_irrefl _ (h.far _ q)
            have hFlp : ¬ F lp := fun q => by have := h.far _ q; simp [lp] at this; omega
            have hne : lp ≠ D := by simp [lp, D]
            have hlen0 : H.length ≤ H1.length := Nat.le_of_lt hltH
            have hμb : μ H.length = none := hfree _ (Nat.le_refl _) hltH
            have hmle : MuLe μ (μ.set H.length L) := Mu.le_set hμb
            refine wpIn_rangeFunc ?_
            intro fid _
            have hro := rangeRound_ok (base := base) (F := F) (lp := lp) (D := D) (b := H.length) (n := m) (fn := fid) (L := L) hF.ag hF.meth hc hmix (k := k) (s := s) (ps := ps) (assign := assign) (body := body) (μ0 := μ.set H.length L) hc1 hc2 hc3 hc4 (hs.mono hmle) hblp hbD hne hFlp
            have hent := hF.call f (.inl (by simp [hfn]))
            let w1 : World := (w.alloc (.deferred (some []))).alloc (.loop (recOf fid a.tmps ps assign body D))
            let d : Deferred := { target := .fn (.func f) cap'.toArray, args := first'.toArray ++ #[.func (.yield lp) #[] #[]] }
            have hold : ∀ k, k < w.heap.size → w1.heap[k]? = w.heap[k]? := by
              intro k hk
              rw [show w1.heap[k]? = (w.alloc (.deferred (some []))).heap[k]? from Below.heap_alloc _ _ k (by simp; omega)]
              exact Below.heap_alloc _ _ k hk
            have hsz1 : w1.heap.size = w.heap.size + 2 := by simp [w1]
            have hrec1 : w1.heap[lp]? = some (.loop (recOf fid a.tmps ps assign body D)) := by
              have := World.alloc_heap_new (w.alloc (.deferred (some []))) (.loop (recOf fid a.tmps ps assign body D))
              rw [World.size_alloc] at this
              exact this
            have hdf1 : w1.heap[D]? = some (.deferred (some [])) := by
              rw [show w1.heap[D]? = (w.alloc (.deferred (some []))).heap[D]? from Below.heap_alloc _ _ D (by simp [D])]
              exact World.alloc_heap_new w _
            have hh1 : HR base (fun k => F k ∨ k = lp ∨ k = D) (μ.set H.length L) (H ++ [.row 0 [] false false]) w1 := by
              have := h.wider hold (by omega) (fun k => k = lp ∨ k = D) (fun k hk => by rcases hk with rfl | rfl <;> simp [lp, D, hsz1])
              exact this.dead hμb L
            refine ⟨lp, [{ target := .collected w.heap.size, args := #[] }], w1, d, w1, f, first'.toArray ++ #[Value.func (.yield lp) #[] #[]] ++ cap'.toArray, w1, run_enterLoop_outer fid a.tmps ps assign body, ?_, fun _ _ => trivial, ?_, fun q => by simp [Fence.wide] at q, ?_⟩
            · simp [rangeCall, resolve, hρ, Deferred.ofValue, d, lp]
              rfl
            · simp only [d, invoke]
              exact hent _ _
            · show CallsIn Fence.wide (m + 1) P f _ w1 _
              have hargs : VRs (μ.set H.length L) (f1 ++ [Value.chan (some H.length)] ++ c1) (first' ++ [Value.func (.yield lp) #[] #[]] ++ cap') := by
                refine ((hfs.mono hmle).append (.cons ?_ .nil)).append (hcs.mono hmle)
                exact VR.yield (l := L) (Mu.set_same _ _ _)
              have hst := start_ok hargs fn
              have harr : (first'.toArray ++ #[Value.func (.yield lp) #[] #[]] ++ cap'.toArray) = (first' ++ [Value.func (.yield lp) #[] #[]] ++ cap').toArray := by simp
              rw [harr]
              refine callsIn_of_wp (hF.ag.fn f fn hfn) hb trivial ?_ rfl
              refine wpIn_mono (evalCY_wp hF.ag hF.meth hc hro k hc0 he2 (μ := μ.set H.length L) (a := { tmps := _, defers := [] }) ⟨hh1, hrec1, hdf1, MuLe.refl _, Mu.set_same _ _ _, rfl, hst⟩ ?_) ?_
              · intro b hb1 hb2
                simp at hb1
                rw [Mu.set_ne _ _ (by omega)]
                exact hfree b (by omega) hb2
              · rintro x a2 w2 ⟨rfl, μ2, g2, h2, hd2⟩
                obtain ⟨v', hrun, hvv⟩ := results_ok (P := P) hF.ag h2.hr h2.sr hres
                have hlt2 : lp < w2.heap.size := (Array.getElem?_eq_some_iff.1 h2.rec_).1
                have hpost : rangePost Fence.wide (m + 2) P lp (fun x a' w' => x = .normal ∧ AfterX base F μ H s H1 a w a' w') { a with defers := [{ target := .collected w.heap.size, args := #[] }] ++ a.defers } (.returned v') w2 := by
                  refine ⟨none, _, run_endLoop h2.rec_ (by simp [recOf]), rfl, ?_⟩
                  refine ⟨μ2, fun k => F k ∨ k = lp ∨ k = D, fun k hk => .inl hk, hmle.trans g2.le, fun b hb => ?_, h2.hr.putObj _ hblp (.inr (.inl rfl)), ?_, hlen0, hs.mono (hmle.trans g2.le), .inr ⟨D, rfl, .inr (.inr rfl), hbD, hFD, (World.putObj_heap_other (Ne.symm hne)).trans h2.df⟩⟩
                  · have e1 := g2.same b (by simp; omega)
                    rw [e1, Mu.set_ne _ _ (by omega)]
                  · refine (Fr.trans ?_ g2.fr).trans (Fr.putObj _ hblp hFlp)
                    exact ⟨rfl, rfl, rfl, by omega, fun k hk => hold k (hk.elim (fun q => Nat.lt_of_lt_of_le q h.base_le) (h.far k))⟩
                rcases hee with rfl | rfl
                · exact ⟨hd2, v', hrun, hpost⟩
                · exact ⟨hd2, v', hrun, hpost⟩
        · simp at he
      · simp at he
    · simp at he
  · simp at he

theorem hasRange_wide {n : Nat} {c : Code} {Q : Exit → Act → World → Prop} {a : Act} {w : World} (h : c.wp P Q a w) : c.wpIn Fence.wide n P Q a w := wpIn_wide.2 h

theorem evalX_in {call : CallF} (hF : Fits P T) (hc : SoundCall P call) (hmix : P.follows .mixedOrders = true) {k m : Nat} : ∀ {c : Code} {μ : Mu} {s s1 : List Value} {H H1 : Heap} {e : Ex} {w : World} {a : Act},
    evalX T call k c s H = some (e, s1, H1) → H.length ≤ H1.length ∧ (HR base F μ H w → SR μ s a.tmps → Free μ H.length H1.length →
      c.wpIn Fence.wide (m + 2) P (fun x a' w' => x = exOf e ∧ AfterX base F μ H s1 H1 a w a' w') a w)
  | .seq x y, μ, s, s1, H, H1, e, w, a, he => by
    unfold evalX at he
    split at he
    · have key : ∀ {e2 : Ex} {s2 : List Value} {H2 : Heap}, evalX T call k x s H = some (e2, s2, H2) → (e2 = .normal → codeChk y = true ∧ evalC T call k y s2 H2 = some (e, s1, H1)) → (e2 ≠ .normal → e2 = e ∧ s2 = s1 ∧ H2 = H1) →
          H.length ≤ H1.length ∧ (HR base F μ H w → SR μ s a.tmps → Free μ H.length H1.length → (Code.seq x y).wpIn Fence.wide (m + 2) P (fun x a' w' => x = exOf e ∧ AfterX base F μ H s1 H1 a w a' w') a w) := by
        intro e2 s2 H2 hx hn ho
        have ih := evalX_in (μ := μ) (w := w) (a := a) (m := m) hF hc hmix hx
        cases e2 with
        | normal =>
          obtain ⟨hcy, hy⟩ := hn rfl
          have l2 := evalC_len hc hy
          refine ⟨Nat.le_trans ih.1 l2, fun h hs hfree => ?_⟩
          refine wpIn_seq (wpIn_mono (ih.2 h hs (hfree.le l2)) ?_)
          rintro e' a' w' ⟨rfl, μ', F', hF', hle, hsame, hr, hfr, hlen, hsr, hd⟩
          have hfree' : Free μ' H2.length H1.length := by
            intro b h1 h2
            rw [hsame b (.inr h1)]
            exact hfree b (by omega) h2
          refine wpIn_mono (hasRange_wide (evalC_wp (F := F') hF.ag hF.meth hc k (codeOk hF.ag hF.meth hmix hcy) hy hr hsr hfree')) ?_
          rintro e3 a3 w3 ⟨rfl, μ3, g3, hs3, hd3⟩
          refine ⟨rfl, μ3, F', hF', hle.trans g3.le, fun b hb => ?_, g3.hr, hfr.trans (g3.fr.weaken hF'), Nat.le_trans hlen g3.len, hs3, ?_⟩
          · have := g3.len
            rw [g3.same b (by omega), hsame b (by omega)]
          · rcases hd with hd | ⟨D, hd, h1, h2, h3, h4⟩
            · exact .inl (hd3.trans hd)
            · exact .inr ⟨D, hd3.trans hd, h1, h2, h3, (g3.fr.block D (.inr h1)).trans h4⟩
        | exit j =>
          obtain ⟨rfl, rfl, rfl⟩ := ho (by simp)
          refine ⟨ih.1, fun h hs hfree => wpIn_seq (wpIn_mono (ih.2 h hs hfree) ?_)⟩
          rintro e' a' w' ⟨rfl, hh⟩
          exact ⟨rfl, hh⟩
        | ret =>
          obtain ⟨rfl, rfl, rfl⟩ := ho (by simp)
          refine ⟨ih.1, fun h hs hfree => wpIn_seq (wpIn_mono (ih.2 h hs hfree) ?_)⟩
          rintro e' a' w' ⟨rfl, hh⟩
          exact ⟨rfl, hh⟩
      split at he
      · rename_i s2 H2 e2
        split at he
        · rename_i hcy
          exact key e2 (fun _ => ⟨hcy, he⟩) (fun q => absurd rfl q)
        · simp at he
      · rename_i hne
        exact key he (fun q => by subst q; exact absurd he (hne _ _)) (fun _ => ⟨rfl, rfl, rfl⟩)
    · have key : ∀ {e2 : Ex} {s2 : List Value} {H2 : Heap}, codeChk x = true → evalC T call k x s H = some (e2, s2, H2) → (e2 = .normal → evalX T call k y s2 H2 = some (e, s1, H1)) → (e2 ≠ .normal → e2 = e ∧ s2 = s1 ∧ H2 = H1) →
          H.length ≤ H1.length ∧ (HR base F μ H w → SR μ s a.tmps → Free μ H.length H1.length → (Code.seq x y).wpIn Fence.wide (m + 2) P (fun x a' w' => x = exOf e ∧ AfterX base F μ H s1 H1 a w a' w') a w) := by
        intro e2 s2 H2 hcx hx hn ho
        have l1 := evalC_len hc hx
        have wx := fun (h : HR base F μ H w) (hs : SR μ s a.tmps) (hfree : Free μ H.length H2.length) => hasRange_wide (n := m + 2) (evalC_wp (F := F) hF.ag hF.meth hc k (codeOk hF.ag hF.meth hmix hcx) hx h hs hfree)
        cases e2 with
        | normal =>
          have ih0 := evalX_in (μ := μ) (w := w) (a := a) (m := m) hF hc hmix (hn rfl)
          refine ⟨Nat.le_trans l1 ih0.1, fun h hs hfree => ?_⟩
          refine wpIn_seq (wpIn_mono (wx h hs (hfree.le ih0.1)) ?_)
          rintro e' a' w' ⟨rfl, μ', g, hsr, hd⟩
          have ih := evalX_in (μ := μ') (w := w') (a := a') (m := m) hF hc hmix (hn rfl)
          refine wpIn_mono (ih.2 g.hr hsr (hfree.after g)) ?_
          rintro e3 a3 w3 ⟨rfl, μ3, F', hF', hle, hsame, hr, hfr, hlen, hs3, hd3⟩
          refine ⟨rfl, μ3, F', hF', g.le.trans hle, fun b hb => ?_, hr, g.fr.trans hfr, Nat.le_trans g.len hlen, hs3, ?_⟩
          · have := g.len
            rw [hsame b (by omega), g.same b (by omega)]
          · rw [← hd]; exact hd3
        | exit j =>
          obtain ⟨rfl, rfl, rfl⟩ := ho (by simp)
          refine ⟨l1, fun h hs hfree => wpIn_seq (wpIn_mono (wx h hs hfree) ?_)⟩
          rintro e' a' w' ⟨rfl, hh⟩
          exact ⟨rfl, AfterX.of hh⟩
        | ret =>
          obtain ⟨rfl, rfl, rfl⟩ := ho (by simp)
          refine ⟨l1, fun h hs hfree => wpIn_seq (wpIn_mono (wx h hs hfree) ?_)⟩
          rintro e' a' w' ⟨rfl, hh⟩
          exact ⟨rfl, AfterX.of hh⟩
      by_cases hcx : codeChk x = true
      · simp only [hcx, if_true] at he
        split at he
        · rename_i s2 H2 e2
          exact key hcx e2 (fun _ => he) (fun q => absurd rfl q)
        · rename_i hne
          exact key hcx he (fun q => by subst q; exact absurd he (hne _ _)) (fun _ => ⟨rfl, rfl, rfl⟩)
      · simp only [hcx, if_false, Bool.false_eq_true, reduceCtorEq] at he
  | .block id x, μ, s, s1, H, H1, e, w, a, he => by
    unfold evalX at he
    split at he
    · rename_i j s2 H2 e2
      have hH : H2 = H1 := by split at he <;> (simp only [Option.some.injEq, Prod.mk.injEq] at he; exact he.2.2)
      have hS : s2 = s1 := by split at he <;> (simp only [Option.some.injEq, Prod.mk.injEq] at he; exact he.2.1)
      subst hH hS
      have ih := evalX_in (μ := μ) (w := w) (a := a) (m := m) hF hc hmix e2
      refine ⟨ih.1, fun h hs hfree => wpIn_block (wpIn_mono (ih.2 h hs hfree) ?_)⟩
      rintro e' a' w' ⟨rfl, k2⟩
      simp only [exOf, Exit.inBlock]
      split at he
      · rename_i hj
        simp only [Option.some.injEq, Prod.mk.injEq] at he
        rw [if_pos hj]
        exact ⟨by rw [← he.1], k2⟩
      · rename_i hj
        simp only [Option.some.injEq, Prod.mk.injEq] at he
        rw [if_neg hj]
        exact ⟨by rw [← he.1], k2⟩
    · rename_i hne
      have ih := evalX_in (μ := μ) (w := w) (a := a) (m := m) hF hc hmix he
      refine ⟨ih.1, fun h hs hfree => wpIn_block (wpIn_mono (ih.2 h hs hfree) ?_)⟩
      rintro e' a' w' ⟨rfl, k2⟩
      cases e with
      | exit id => exact absurd he (hne _ _ _)
      | normal => exact ⟨rfl, k2⟩
      | ret => exact ⟨rfl, k2⟩
  | .rangeFunc g ps assign body, μ, s, s1, H, H1, e, w, a, he => by
    unfold evalX at he
    rw [Option.map_eq_some_iff] at he
    obtain ⟨H2, he, h2⟩ := he
    simp only [Prod.mk.injEq] at h2
    obtain ⟨rfl, rfl, rfl⟩ := h2
    have hlt := evalRange_len hc he
    exact ⟨Nat.le_of_lt hlt, fun h hs hfree => evalRange_in hF hc hmix he hlt h hs hfree⟩
  | .skip, _, _, _, _, _, _, _, _, he | .exit _, _, _, _, _, _, _, _, _, he | .label _, _, _, _, _, _, _, _, _, he | .ret, _, _, _, _, _, _, _, _, he | .goto _, _, _, _, _, _, _, _, _, he | .refuse _, _, _, _, _, _, _, _, _, he | .scope _, _, _, _, _, _, _, _, _, he
  | .region .., _, _, _, _, _, _, _, _, he | .cond .., _, _, _, _, _, _, _, _, he | .loop _, _, _, _, _, _, _, _, _, he => by simp [evalX] at he

/-- A function that holds a range over a function. -/
def callX (T : Tab) (call : CallF) (n : Nat) (fn : Func) : List Value → Heap → Option (Value × Heap) := fun args H =>
  match fn.body with
  | some c =>
    match evalX T call n c (startC fn args) H with
    | some (.normal, s1, H1) => (resultsC T fn s1 H1).map fun v => (v, H1)
    | some (.ret, s1, H1) => (resultsC T fn s1 H1).map fun v => (v, H1)
    | _ => none
  | none => none

theorem callX_ok {call : CallF} (hF : Fits P T) (hc : SoundCall P call) (hmix : P.follows .mixedOrders = true) (n : Nat) {f : FuncId} {fn : Func} (hf : P.funcs[f]? = some fn) : ExtOk P f (callX T call n fn) := by
  intro args H v H1 he
  unfold callX at he
  split at he
  · rename_i c hb
    have hx : ∃ (e : Ex) (s1 : List Value), evalX T call n c (startC fn args) H = some (e, s1, H1) ∧ (e = Ex.normal ∨ e = Ex.ret) ∧ resultsC T fn s1 H1 = some v := by
      split at he
      · rename_i s1 H2 e2
        rw [Option.map_eq_some_iff] at he
        obtain ⟨u, hu, he⟩ := he
        simp only [Prod.mk.injEq] at he
        obtain ⟨rfl, rfl⟩ := he
        exact ⟨_, _, e2, .inl rfl, hu⟩
      · rename_i s1 H2 e2
        rw [Option.map_eq_some_iff] at he
        obtain ⟨u, hu, he⟩ := he
        simp only [Prod.mk.injEq] at he
        obtain ⟨rfl, rfl⟩ := he
        exact ⟨_, _, e2, .inr rfl, hu⟩
      · simp at he
    obtain ⟨e, s1, hx, hee, hres⟩ := hx
    refine ⟨(evalX_in (base := 0) (F := fun _ => False) (μ := fun _ => none) (a := ⟨#[], []⟩) (w := default) (m := 0) hF hc hmix hx).1, ?_⟩
    intro base F μ w args' hh hfree ha
    refine callsIn_wide.1 (callsIn_of_wp_marks (n := 2) hf hb trivial ?_ rfl)
    refine wpIn_mono ((evalX_in (base := base) (F := F) (μ := μ) (a := { tmps := _, defers := [] }) (w := w) (m := 0) hF hc hmix hx).2 hh (start_ok ha fn) hfree) ?_
    rintro x a2 w2 ⟨rfl, μ2, F2, hF2, hle, hsame, hr2, hfr, hlen, hs2, hd⟩
    have fin : LeavesInM Fence.wide 2 P fn a2.tmps (CallPost base F μ H H1 w v) a2.defers .returning w2 := by
      rcases hd with hd | ⟨D, hd, h1, h2, h3, h4⟩
      · rw [hd]
        obtain ⟨v', hrun, hv⟩ := results_ok (P := P) hF.ag hr2 hs2 hres
        have hr3 : HR base F μ2 H1 w2 := ⟨fun b sz cs l a b' => let ⟨p, q, r, t⟩ := hr2.own b sz cs l a b'; ⟨p, q, fun z => r (hF2 _ z), t⟩, hr2.ro, fun b es l a b' => let ⟨p, q, t⟩ := hr2.maps b es l a b'; ⟨p, fun z => q (hF2 _ z), t⟩, hr2.inj, fun k hk => hr2.far k (hF2 _ hk), hr2.base_le⟩
        exact ⟨v', hrun, v', μ2, rfl, ⟨hle, hsame, hr3, hfr, hlen⟩, hv⟩
      · rw [hd]
        have hr4 := hr2.putObj (lp := D) (.deferred none) h2 h1
        obtain ⟨v', hrun, hv⟩ := results_ok (P := P) hF.ag hr4 hs2 hres
        have hr3 : HR base F μ2 H1 (w2.putObj D (.deferred none)) := ⟨fun b sz cs l a b' => let ⟨p, q, r, t⟩ := hr4.own b sz cs l a b'; ⟨p, q, fun z => r (hF2 _ z), t⟩, hr4.ro, fun b es l a b' => let ⟨p, q, t⟩ := hr4.maps b es l a b'; ⟨p, fun z => q (hF2 _ z), t⟩, hr4.inj, fun k hk => hr4.far k (hF2 _ hk), hr4.base_le⟩
        exact ⟨by simp, .inl ⟨D, _, rfl, run_takeDeferred h4, v', hrun, v', μ2, rfl, ⟨hle, hsame, hr3, hfr.trans (Fr.putObj _ h2 h3), hlen⟩, hv⟩⟩
    rcases hee with rfl | rfl
    · exact fin
    · exact fin
  · simp at he

end Go.Proofs.Ytdhbclplondmjaa.C

/- Functions of plain values, run once and for all; tables one upon another. -/
set_option linter.unusedVariables false
set_option linter.unusedSimpArgs false
namespace Go.Proofs.Ytdhbclplondmjaa.C
open Go.RowKit

variable {P : Program} {T : Tab}

def plains : List Value → Bool
  | [] => true
  | v :: l => plain v && plains l

def flat : Value → Bool
  | .agg cs => plains cs.toList
  | .tuple cs => plains cs.toList && decide (cs.size ≠ 0)
  | v => plain v

theorem plain_eq {μ : Mu} {v v' : Value} (hp : plain v = true) (h : VR μ v v') : v' = v := by
  cases h <;> simp [plain] at hp <;> rfl

theorem plains_eq {μ : Mu} : ∀ {l l' : List Value}, plains l = true → VRs μ l l' → l' = l
  | [], _, _, .nil => rfl
  | v :: l, _, hp, .cons h t => by
    simp only [plains, Bool.and_eq_true] at hp
    rw [plain_eq hp.1 h, plains_eq hp.2 t]

theorem plains_refl {μ : Mu} : ∀ {l : List Value}, plains l = true → VRs μ l l
  | [], _ => .nil
  | v :: l, hp => by
    simp only [plains, Bool.and_eq_true] at hp
    exact .cons (plain_vr μ hp.1) (plains_refl hp.2)

theorem flat_eq {μ : Mu} {v v' : Value} (hp : flat v = true) (h : VR μ v v') : v' = v := by
  cases h with
  | agg hc => simp only [flat, List.toList_toArray] at hp; rw [plains_eq hp hc]
  | tuple hc =>
    simp only [flat, List.toList_toArray, Bool.and_eq_true] at hp; rw [plains_eq hp.1 hc]
  | undef v => simp [flat] at hp
  | skip => simp [flat, plain] at hp
  | yield h => simp [flat, plain] at hp
  | _ => exact plain_eq (μ := μ) hp (by constructor <;> assumption)

theorem flat_refl {μ : Mu} {v : Value} (hp : flat v = true) : VR μ v v := by
  cases v with
  | agg cs =>
    have := VR.agg (plains_refl (μ := μ) (l := cs.toList) hp)
    simpa using this
  | tuple cs =>
    simp only [flat, Bool.and_eq_true] at hp
    have := VR.tuple (plains_refl (μ := μ) (l := cs.toList) hp.1)
    simpa using this
  | _ => exact plain_vr μ hp

def flats : List Value → Bool
  | [] => true
  | v :: l => flat v && flats l

theorem flats_eq {μ : Mu} : ∀ {l l' : List Value}, flats l = true → VRs μ l l' → l' = l
  | [], _, _, .nil => rfl
  | v :: l, _, hp, .cons h t => by
    simp only [flats, Bool.and_eq_true] at hp
    rw [flat_eq hp.1 h, flats_eq hp.2 t]

theorem flats_refl {μ : Mu} : ∀ {l : List Value}, flats l = true → VRs μ l l
  | [], _ => .nil
  | v :: l, hp => by
    simp only [flats, Bool.and_eq_true] at hp
    exact .cons (flat_refl hp.1) (flats_refl hp.2)

/-- A function that is run in an empty memory. -/
def pureX (T : Tab) (n : Nat) (f : FuncId) : List Value → Heap → Option (Value × Heap) := fun args H =>
  if flats args then
    match callC T n f args [] with
    | some (v, _) => if flat v then some (v, H) else none
    | none => none
  else none

theorem pureX_ok (hF : Fits P T) (n : Nat) (f : FuncId) : ExtOk P f (pureX T n f) := by
  intro args H v H1 he
  unfold pureX at he
  split at he
  · rename_i hfl
    split at he
    · rename_i v2 E e2
      split at he
      · rename_i hv
        simp only [Option.some.injEq, Prod.mk.injEq] at he
        obtain ⟨rfl, rfl⟩ := he
        refine ⟨Nat.le_refl _, fun base F μ w args' hh hfree ha => ?_⟩
        have := flats_eq hfl ha
        subst this
        have h0 : HR w.heap.size (fun _ => False) (fun _ => none) [] w := ⟨fun b _ _ _ hb => by simp at hb, fun b _ _ _ hb => by simp at hb, fun b _ _ hb => by simp at hb, fun b _ _ _ _ _ hb => by simp at hb, fun _ h => h.elim, Nat.le_refl _⟩
        refine Calls.mono ((callC_sound hF n).calls f args' [] _ _ e2 w.heap.size (fun _ => False) (fun _ => none) w args' h0 (fun _ _ _ => rfl) (flats_refl hfl)) ?_
        rintro e w' ⟨v', μ', rfl, g, hv'⟩
        have := flat_eq hv hv'
        subst this
        refine ⟨_, μ, rfl, ⟨MuLe.refl _, fun _ _ => rfl, hh.world (fun k hk => g.fr.block k (.inl hk)) g.fr.size, ?_, Nat.le_refl _⟩, flat_refl hv⟩
        exact ⟨g.fr.os, g.fr.tape, g.fr.output, g.fr.size, fun k hk => g.fr.block k (.inl (hk.elim (fun q => Nat.lt_of_lt_of_le q hh.base_le) (hh.far k)))⟩
      · simp at he
    · simp at he
  · simp at he

end Go.Proofs.Ytdhbclplondmjaa.C

/- Symbolic runs: slots by what is known of them, operations by what they ask. -/
set_option linter.unusedVariables false
set_option linter.unusedSimpArgs false
namespace Go.Proofs.Ytdhbclplondmjaa.C
open Go.RowKit Go.IntWalk

variable {T : Tab}

/-- What a slot holds. -/
def sl (s : List Value) (i : Nat) : Value := s.getD i undef

def Has (s : List Value) : List (Nat × Value) → Prop
  | [] => True
  | p :: l => sl s p.1 = p.2 ∧ Has s l

def lk (l : List (Nat × Value)) (i : Nat) (d : Value) : Value :=
  match l with
  | [] => d
  | p :: l => bif Nat.beq p.1 i then p.2 else lk l i d

/-- Slots of which some are known. -/
def mkF (a : Nat → Value) (l : List (Nat × Value)) : Nat → Nat → List Value
  | _, 0 => []
  | i, m + 1 => lk l i (a i) :: mkF a l (i + 1) m

abbrev mkS (n : Nat) (a : Nat → Value) (l : List (Nat × Value)) : List Value := mkF a l 0 n

/-- So many slots, of which these are known. -/
structure Is (s : List Value) (n : Nat) (l : List (Nat × Value)) : Prop where
  len : s.length = n
  has : Has s l

theorem Is.mk1 {s : List Value} {n : Nat} {l : List (Nat × Value)} (h : Is s n l) : ∃ a, s = mkS n a l := by
  refine ⟨sl s, ?_⟩
  have hlk : ∀ i, lk l i (sl s i) = sl s i := by
    intro i
    obtain ⟨_, hh⟩ := h
    induction l with
    | nil => rfl
    | cons p l ih =>
      unfold lk
      cases e : Nat.beq p.1 i with
      | true =>
        have := Nat.eq_of_beq_eq_true e
        subst this
        exact hh.1.symm
      | false => exact ih hh.2
  have key : ∀ (m i : Nat) (t : List Value), t.length = m → (∀ j, t.getD j undef = sl s (i + j)) → t = mkF (sl s) l i m := by
    intro m
    induction m with
    | zero => intro i t ht _; exact List.length_eq_zero_iff.1 ht
    | succ m ih =>
      intro i t ht hj
      cases t with
      | nil => simp at ht
      | cons v t =>
        unfold mkF
        rw [hlk i, ← ih (i + 1) t (by simpa using ht) (fun j => by have := hj (j + 1); simp only [List.getD_cons_succ] at this; rw [this]; congr 1; omega)]
        have := hj 0
        simp only [List.getD_cons_zero, Nat.add_zero] at this
        rw [this]
  exact key n 0 s h.len (fun j => by simp [sl])

theorem mkF_len (a : Nat → Value) (l : List (Nat × Value)) : ∀ (m i : Nat), (mkF a l i m).length = m
  | 0, _ => rfl
  | m + 1, i => by simp [mkF, mkF_len a l m (i + 1)]

theorem mkF_get (a : Nat → Value) (l : List (Nat × Value)) : ∀ (m i j : Nat), j < m → (mkF a l i m).getD j undef = lk l (i + j) (a (i + j))
  | 0, _, _, h => by omega
  | m + 1, i, 0, _ => rfl
  | m + 1, i, j + 1, h => by
    unfold mkF
    rw [List.getD_cons_succ, mkF_get a l m (i + 1) j (by omega), show i + 1 + j = i + (j + 1) by omega]

theorem mkF_set (a : Nat → Value) (l : List (Nat × Value)) (v : Value) (d : Nat) : ∀ (m i : Nat), i ≤ d → (mkF a l i m).set (d - i) v = mkF a ((d, v) :: l) i m
  | 0, _, _ => rfl
  | m + 1, i, h => by
    unfold mkF
    rcases Nat.lt_or_ge i d with q | q
    · rw [show d - i = (d - (i + 1)) + 1 by omega, List.set_cons_succ, mkF_set a l v d m (i + 1) (by omega)]
      congr 1
      have : Nat.beq d i = false := by
        cases e : Nat.beq d i with
        | true => have := Nat.eq_of_beq_eq_true e; omega
        | false => rfl
      simp [lk, this]
    · have : d = i := by omega
      subst this
      rw [Nat.sub_self, List.set_cons_zero]
      have h2 : ∀ m j, d < j → mkF a l j m = mkF a ((d, v) :: l) j m := by
        intro m
        induction m with
        | zero => intro j _; rfl
        | succ m ih =>
          intro j hj
          unfold mkF
          rw [ih (j + 1) (by omega)]
          have : Nat.beq d j = false := by
            cases e : Nat.beq d j with
            | true => have := Nat.eq_of_beq_eq_true e; omega
            | false => rfl
          simp [lk, this]
      rw [h2 m (d + 1) (by omega)]
      simp [lk]

theorem put_mkS (n : Nat) (a : Nat → Value) (l : List (Nat × Value)) (d : Nat) (v : Value) : put (mkS n a l) (some d) v = mkS n a ((d, v) :: l) := by
  exact mkF_set a l v d n 0 (Nat.zero_le _)

theorem sl_mkS {n : Nat} {a : Nat → Value} {l : List (Nat × Value)} {j : Nat} (h : j < n) : sl (mkS n a l) j = lk l j (a j) := by
  have := mkF_get a l n 0 j h
  simpa [sl] using this

/-- What is known, by the list of what has been put. -/
def Kn (n : Nat) (a : Nat → Value) (l : List (Nat × Value)) : List (Nat × Value) → Prop
  | [] => True
  | p :: r => Nat.blt p.1 n = true ∧ lk l p.1 (a p.1) = p.2 ∧ Kn n a l r

theorem Is.of {n : Nat} {a : Nat → Value} {l r : List (Nat × Value)} (h : Kn n a l r) : Is (mkS n a l) n r := by
  refine ⟨mkF_len a l n 0, ?_⟩
  induction r with
  | nil => trivial
  | cons p r ih =>
    obtain ⟨h1, h2, h3⟩ := h
    exact ⟨by rw [sl_mkS (by simpa [Nat.blt_eq] using h1)]; exact h2, ih h3⟩

/-- The slots at a function's start. -/
theorem startC_mkS (fn : Func) (args : List Value) : ∃ a, startC fn args = mkS (args.length + (fn.ntmps - args.length)) a ((List.range args.length).map fun i => (i, args.getD i undef)) := by
  have : Is (startC fn args) (args.length + (fn.ntmps - args.length)) ((List.range args.length).map fun i => (i, args.getD i undef)) := by
    refine ⟨by simp [startC], ?_⟩
    have key : ∀ l : List Nat, (∀ i ∈ l, i < args.length) → Has (startC fn args) (l.map fun i => (i, args.getD i undef)) := by
      intro l
      induction l with
      | nil => intro _; trivial
      | cons i l ih =>
        intro h
        have hi := h i List.mem_cons_self
        refine ⟨?_, ih fun j hj => h j (List.mem_cons_of_mem _ hj)⟩
        simp [sl, startC, List.getD_eq_getElem?_getD, List.getElem?_append_left hi]
    exact key _ (fun i hi => by simpa using hi)
  exact this.mk1

section
variable {s : List Value} {H : Heap} {N : St} {X : Nat → St} {R : St} {cal : CallF} {d : Bool} {ops : Array Oper} {i n : Nat} {is : List Nat} {Q : St} {a : Nat → Value} {l : List (Nat × Value)}

theorem Rg.opp {o : Oper} {v : Value} {H1 : Heap} {t : Nat} (ho : ops[i]? = some o) (hg : o.guard = none) (ht : o.dst = some t) (he : opEval T (mkS n a l) H o.op = some (v, H1)) (hd : (d && inPlace (mkS n a l) o.op) = false) (k : Rg T cal d ops is (mkS n a ((t, v) :: l)) H1 Q) : Rg T cal d ops (i :: is) (mkS n a l) H Q :=
  Rg.op ho hg he hd (by rw [ht, put_mkS]; exact k)

theorem Rg.opn {o : Oper} {v : Value} {H1 : Heap} (ho : ops[i]? = some o) (hg : o.guard = none) (ht : o.dst = none) (he : opEval T (mkS n a l) H o.op = some (v, H1)) (hd : (d && inPlace (mkS n a l) o.op) = false) (k : Rg T cal d ops is (mkS n a l) H1 Q) : Rg T cal d ops (i :: is) (mkS n a l) H Q :=
  Rg.op ho hg he hd (by rw [ht]; exact k)

theorem Rg.calls {o : Oper} {v : Value} {H1 : Heap} {t : Nat} {f : FuncId} {args : List Value} (ho : ops[i]? = some o) (hg : o.guard = none) (ht : o.dst = some t) (hn : opEval T (mkS n a l) H o.op = none) (hc : calleeOf T (mkS n a l) H o.op = some (f, args)) (hd : (d && inPlace (mkS n a l) o.op) = false)
    (hr : cal f args H = some (v, H1)) (k : Rg T cal d ops is (mkS n a ((t, v) :: l)) H1 Q) : Rg T cal d ops (i :: is) (mkS n a l) H Q :=
  Rg.call ho hg hn hc hd hr (by rw [ht, put_mkS]; exact k)

theorem Rg.calln {o : Oper} {v : Value} {H1 : Heap} {f : FuncId} {args : List Value} (ho : ops[i]? = some o) (hg : o.guard = none) (ht : o.dst = none) (hn : opEval T (mkS n a l) H o.op = none) (hc : calleeOf T (mkS n a l) H o.op = some (f, args)) (hd : (d && inPlace (mkS n a l) o.op) = false)
    (hr : cal f args H = some (v, H1)) (k : Rg T cal d ops is (mkS n a l) H1 Q) : Rg T cal d ops (i :: is) (mkS n a l) H Q :=
  Rg.call ho hg hn hc hd hr (by rw [ht]; exact k)

theorem Rg.guards {o : Oper} {t : Nat} (b : Bool) (ho : ops[i]? = some o) (ht : o.dst = some t) (hg : guardC ops o (mkS n a l) = some b)
    (hy : b = true → ∃ v H1, evalOp T cal (mkS n a l) H o.op = some (v, H1) ∧ (d && inPlace (mkS n a l) o.op) = false ∧ Rg T cal d ops is (mkS n a ((t, v) :: l)) H1 Q) (hf : b = false → Rg T cal d ops is (mkS n a ((t, .chan none) :: l)) H Q) : Rg T cal d ops (i :: is) (mkS n a l) H Q :=
  Rg.guard b ho hg (fun h => by obtain ⟨v, H1, h1, h2, h3⟩ := hy h; exact ⟨v, H1, h1, h2, by rw [ht, put_mkS]; exact h3⟩) (fun h => by rw [ht, put_mkS]; exact hf h)

end

/-- Only what is still wanted of the slots. -/
theorem Runs.cut {s : List Value} {H : Heap} {N : St} {X : Nat → St} {R : St} {c : Code} {n : Nat} {l : List (Nat × Value)} (h : Is s n l) (k : ∀ a, Runs T c (mkS n a l) H N X R) : Runs T c s H N X R := by
  obtain ⟨a, rfl⟩ := h.mk1; exact k a
theorem Rg.cut {s : List Value} {H : Heap} {cal : CallF} {d : Bool} {ops : Array Oper} {is : List Nat} {Q : St} {n : Nat} {l : List (Nat × Value)} (h : Is s n l) (k : ∀ a, Rg T cal d ops is (mkS n a l) H Q) : Rg T cal d ops is s H Q := by
  obtain ⟨a, rfl⟩ := h.mk1; exact k a

/-! ### Operations -/

section
variable {s : List Value} {H : Heap}

theorem ev_at {t e : TypeId} {ei : TI} {x i : Operand} {b o n c k : Nat} {ik : IntKind} (hx : ev s x = .slice (some ⟨b, o, none⟩) n c) (hi : ev s i = .int ik (k : Nat)) (hd : T.d t = some (.slice e)) (he : T.T e = some ei) (hp : 0 < ei.size) (h : k < n) :
    opEval T s H (.indexAddr t x i) = some (.pointer (some ⟨b, o + k * ei.size, none⟩), H) := by
  have : (0 : Int) ≤ (k : Int) ∧ (k : Int) < (n : Int) ∧ 0 < ei.size := ⟨by omega, by omega, hp⟩
  simp only [opEval, indexAddr, hx, hi, hd, he, if_pos this, Option.map_some, Int.toNat_natCast]

theorem ev_load1 {t : TypeId} {i : TI} {a : Operand} {b o : Nat} {v : Value} (ha : ev s a = .pointer (some ⟨b, o, none⟩)) (hT : T.T t = some i) (hr : readCells H b o i.size = some [v]) (hg : i.agg = false) : opEval T s H (.load t a) = some (v, H) := by
  simp only [opEval, vLoad, hT, ha, hr, hg, Option.bind_eq_bind, Option.bind_some, Option.map_some, Bool.false_eq_true, if_false]

theorem ev_loadA {t : TypeId} {i : TI} {a : Operand} {b o : Nat} {cs : List Value} (ha : ev s a = .pointer (some ⟨b, o, none⟩)) (hT : T.T t = some i) (hr : readCells H b o i.size = some cs) (hg : i.agg = true) : opEval T s H (.load t a) = some (.agg cs.toArray, H) := by
  simp only [opEval, vLoad, hT, ha, hr, hg, Option.bind_eq_bind, Option.bind_some, Option.map_some, if_true]

theorem ev_append {x y : Operand} {t : TypeId} {v1 v2 r : Value} {H1 : Heap} (hx : ev s x = v1) (hy : ev s y = v2) (h : vAppend T H t v1 v2 = some (r, H1)) : opEval T s H (.call { callee := .builtin .append, args := #[x, y], argTypes := #[t, t] }) = some (r, H1) := by
  simp only [opEval, vBuiltin, List.map_cons, List.map_nil, hx, hy, if_true, h]

end

theorem wrap_nat {k : Nat} (h : k < 2 ^ 62) : IntKind.i64.wrap (k : Int) = (k : Int) := i64_in _ (by omega)
theorem wrap_succ {k : Nat} (h : k < 2 ^ 62) : IntKind.i64.wrap ((k : Int) + 1) = ((k + 1 : Nat) : Int) := by rw [i64_in _ (by omega)]; omega

/-- A function of plain values, as it is in an empty memory. -/
noncomputable def pureB (T : Tab) (f : FuncId) : List Value → Heap → Option (Value × Heap) := fun args H =>
  if flats args then
    match big T f args [] with
    | some (v, _) => if flat v then some (v, H) else none
    | none => none
  else none

theorem pureB_ok {P : Program} {T : Tab} (hF : Fits P T) (f : FuncId) : ExtOk P f (pureB T f) := by
  intro args H v H1 he
  have : ∃ n, pureX T n f args H = some (v, H1) := by
    unfold pureB at he
    split at he
    · rename_i hfl
      split at he
      · rename_i v2 E e2
        obtain ⟨n, hn⟩ := big_some.1 e2
        exact ⟨n, by unfold pureX; rw [if_pos hfl, hn]; exact he⟩
      · simp at he
    · simp at he
  obtain ⟨n, hn⟩ := this
  exact pureX_ok hF n f args H v H1 hn

theorem pureB_is {T : Tab} {f : FuncId} {args : List Value} {v : Value} {E : Heap} (n : Nat) (hfl : flats args = true) (h : callC T n f args [] = some (v, E)) (hv : flat v = true) (H : Heap) : pureB T f args H = some (v, H) := by
  unfold pureB
  rw [if_pos hfl, big_some.2 ⟨n, h⟩]
  simp [hv]

/-- A function that is given by what it does. -/
theorem big_ext {T : Tab} {f : FuncId} {e : List Value → Heap → Option (Value × Heap)} {args : List Value} {H : Heap} {r : Value × Heap} (he : T.ext f = some e) (h : e args H = some r) : big T f args H = some r :=
  big_some.2 ⟨1, by simp only [callC, he]; exact h⟩

end Go.Proofs.Ytdhbclplondmjaa.C

/- The abstract machine, for runs: the slots in rows of eight. -/
set_option linter.unusedVariables false
set_option linter.unusedSimpArgs false
namespace Go.Proofs.Ytdhbclplondmjaa.C
open Go.RowKit

noncomputable def lget {α : Type} (d : α) (l : List α) (n : Nat) : α := List.rec (motive := fun _ => Nat → α) (fun _ => d) (fun a _ ih n => Nat.rec (motive := fun _ => α) a (fun m _ => ih m) n) l n
noncomputable def lset {α : Type} (v : α) (l : List α) (n : Nat) : List α := List.rec (motive := fun _ => Nat → List α) (fun _ => []) (fun a t ih n => Nat.rec (motive := fun _ => List α) (v :: t) (fun m _ => a :: ih m) n) l n

theorem lget_eq {α : Type} (d : α) (l : List α) (n : Nat) : lget d l n = l.getD n d := by
  induction l generalizing n with
  | nil => rfl
  | cons a l ih =>
    cases n with
    | zero => rfl
    | succ n =>
      show lget d l n = _
      rw [ih]; rfl
theorem lset_eq {α : Type} (v : α) (l : List α) (n : Nat) : lset v l n = l.set n v := by
  induction l generalizing n with
  | nil => rfl
  | cons a l ih =>
    cases n with
    | zero => rfl
    | succ n =>
      show a :: lset v l n = _
      rw [ih]; rfl

/-- Rows of k, the last one perhaps shorter. -/
def Rows8 {α : Type} (k : Nat) : List (List α) → Bool
  | [] => true
  | [r] => decide (r.length ≤ k)
  | r :: t => decide (r.length = k) && Rows8 k t

theorem rows_get {α : Type} (d : α) {k : Nat} (hk : 0 < k) : ∀ {st : List (List α)}, Rows8 k st = true → ∀ i, (st.getD (i / k) []).getD (i % k) d = st.flatten.getD i d
  | [], _, i => by simp
  | [r], h, i => by
    simp only [Rows8, decide_eq_true_eq] at h
    rcases Nat.lt_or_ge i k with q | q
    · simp [Nat.div_eq_of_lt q, Nat.mod_eq_of_lt q]
    · have : 0 < i / k := Nat.div_pos q hk
      obtain ⟨m, hm⟩ := Nat.exists_eq_succ_of_ne_zero (Nat.ne_of_gt this)
      rw [hm]
      have : r.length ≤ i := Nat.le_trans h q
      simp [List.getElem?_eq_none this]
  | r :: r2 :: t, h, i => by
    simp only [Rows8, Bool.and_eq_true, decide_eq_true_eq] at h
    rcases Nat.lt_or_ge i k with q | q
    · rw [Nat.div_eq_of_lt q, Nat.mod_eq_of_lt q]
      show r.getD i d = (r ++ (r2 :: t).flatten).getD i d
      simp only [List.getD_eq_getElem?_getD]
      rw [List.getElem?_append_left (by omega)]
    · have ih := rows_get d hk (st := r2 :: t) h.2 (i - k)
      have e1 : i / k = (i - k) / k + 1 := by rw [← Nat.add_div_right _ hk]; congr 1; omega
      have e2 : i % k = (i - k) % k := by rw [← Nat.add_mod_right (i - k) k]; congr 1; omega
      rw [e1, e2, List.getD_cons_succ, ih]
      show (r2 :: t).flatten.getD (i - k) d = (r ++ (r2 :: t).flatten).getD i d
      simp only [List.getD_eq_getElem?_getD]
      rw [List.getElem?_append_right (by omega), h.1]

theorem rows_set {α : Type} {k : Nat} (hk : 0 < k) (v : α) : ∀ {st : List (List α)}, Rows8 k st = true → ∀ i, (st.set (i / k) ((st.getD (i / k) []).set (i % k) v)).flatten = st.flatten.set i v ∧ Rows8 k (st.set (i / k) ((st.getD (i / k) []).set (i % k) v)) = true
  | [], h, i => by simp [Rows8]
  | [r], h, i => by
    have h0 := h
    simp only [Rows8, decide_eq_true_eq] at h
    rcases Nat.lt_or_ge i k with q | q
    · simp [Nat.div_eq_of_lt q, Nat.mod_eq_of_lt q, Rows8, h]
    · have : 0 < i / k := Nat.div_pos q hk
      obtain ⟨m, hm⟩ := Nat.exists_eq_succ_of_ne_zero (Nat.ne_of_gt this)
      rw [hm]
      have : r.length ≤ i := Nat.le_trans h q
      simp only [List.set_cons_succ, List.set_nil, List.flatten_cons, List.flatten_nil, List.append_nil]
      exact ⟨(List.set_eq_of_length_le this).symm, h0⟩
  | r :: r2 :: t, h, i => by
    simp only [Rows8, Bool.and_eq_true, decide_eq_true_eq] at h
    rcases Nat.lt_or_ge i k with q | q
    · rw [Nat.div_eq_of_lt q, Nat.mod_eq_of_lt q]
      simp only [List.getD_cons_zero, List.set_cons_zero, List.flatten_cons, Rows8, List.length_set, h.1, decide_true, Bool.true_and]
      exact ⟨by rw [List.set_append_left _ _ (by omega)], h.2⟩
    · have ih := rows_set hk v (st := r2 :: t) h.2 (i - k)
      have e1 : i / k = (i - k) / k + 1 := by rw [← Nat.add_div_right _ hk]; congr 1; omega
      have e2 : i % k = (i - k) % k := by rw [← Nat.add_mod_right (i - k) k]; congr 1; omega
      rw [e1, e2, List.getD_cons_succ, List.set_cons_succ]
      refine ⟨?_, ?_⟩
      · rw [List.flatten_cons, ih.1]
        show r ++ (r2 :: t).flatten.set (i - k) v = (r ++ (r2 :: t).flatten).set i v
        rw [List.set_append_right _ _ (by omega), h.1]
      have h2 := ih.2
      cases e : (r2 :: t).set ((i - k) / k) (((r2 :: t).getD ((i - k) / k) []).set ((i - k) % k) v) with
      | nil => have := congrArg List.length e; simp at this
      | cons a l =>
        rw [e] at h2
        simp only [Rows8, h.1, decide_true, Bool.true_and]
        exact h2

def chunk {α : Type} (k : Nat) : Nat → List α → List (List α)
  | 0, l => [l]
  | n + 1, l => if l.length ≤ k then [l] else l.take k :: chunk k n (l.drop k)
theorem chunk_flat {α : Type} (k : Nat) : ∀ (n : Nat) (l : List α), (chunk k n l).flatten = l
  | 0, l => by simp [chunk]
  | n + 1, l => by
    unfold chunk
    split
    · simp
    · rw [List.flatten_cons, chunk_flat k n, List.take_append_drop]

abbrev Slots := List (List Value)

noncomputable def getR (st : Slots) (i : Nat) : Value := lget undef (lget [] st (i / 8)) (i % 8)
noncomputable def setR (st : Slots) (i : Nat) (v : Value) : Slots := lset (lset v (lget [] st (i / 8)) (i % 8)) st (i / 8)

theorem getR_eq {st : Slots} (h : Rows8 8 st = true) (i : Nat) : getR st i = st.flatten.getD i undef := by
  unfold getR
  rw [lget_eq, lget_eq]
  exact rows_get undef (by decide) h i
theorem setR_eq {st : Slots} (h : Rows8 8 st = true) (i : Nat) (v : Value) : (setR st i v).flatten = st.flatten.set i v ∧ Rows8 8 (setR st i v) = true := by
  unfold setR
  rw [lset_eq, lset_eq, lget_eq]
  exact rows_set (by decide) v h i

noncomputable def evF (st : Slots) : Operand → Value
  | .tmp t => getR st t
  | .const v => if plain v then v else undef
  | .func f => .func (.func f) #[] #[]
  | .global _ => undef
theorem evF_eq {st : Slots} (h : Rows8 8 st = true) : evF st = ev st.flatten := by
  funext x
  cases x with
  | tmp t => exact getR_eq h t
  | const v => rfl
  | func f => rfl
  | global g => rfl

def inPlaceF (ρ : Operand → Value) (o : Op) : Bool :=
  match o with
  | .call { callee := .builtin .append, args, .. } =>
    match args.toList.map ρ with
    | [.slice _ n c, .slice _ m _] => decide (c ≠ unk ∧ 0 < m ∧ n + m ≤ c)
    | _ => false
  | _ => false
theorem inPlaceF_eq (s : List Value) (o : Op) : inPlaceF (ev s) o = inPlace s o := rfl

/-- The operations, over whatever gives the operands. -/
def opEvalF (T : Tab) (ρ : Operand → Value) (H : Heap) (o : Op) : Option (Value × Heap) :=
  match o with
  | .move x | .assign x => some (ρ x, H)
  | .pick c a b => match ρ c with | .bool t => some (if t then ρ a else ρ b, H) | _ => none
  | .alloc e => (T.T e).bind fun i => vBox T H e i.zero
  | .box e x => vBox T H e (ρ x)
  | .build t parts => (vBuild T t (parts.toList.map fun p => (p.1, ρ p.2))).map fun v => (v, H)
  | .buildSlice t n parts => vBuildSlice T H t n (parts.toList.map fun p => (p.1, ρ p.2))
  | .load t a => (vLoad T H t (ρ a)).map fun v => (v, H)
  | .store t a v => (vStore T H t (ρ a) (ρ v)).map fun H' => (undef, H')
  | .nilCheck x => (vNilCheck (ρ x)).map fun v => (v, H)
  | .binOp op t x y _ => (binOp T op t (ρ x) (ρ y)).map fun v => (v, H)
  | .unOp op _ x => (unOp op (ρ x)).map fun v => (v, H)
  | .convert src dst x => match vConvert T src dst (ρ x) with | some v => some (v, H) | none => vBytes T H src dst (ρ x)
  | .makeMap _ none => some (.map (some H.length), H ++ [.map []])
  | .lookup t x k ok => (vLookup T H t (ρ x) (ρ k) ok).map fun v => (v, H)
  | .mapUpdate t m k v => (vMapUpdate T H t (ρ m) (ρ k) (ρ v)).map fun H' => (undef, H')
  | .makeInterface t x => (vMakeIface T t (ρ x)).map fun v => (v, H)
  | .makeFunc fn first captured => some (.func fn ((first.toList.map ρ).toArray) ((captured.toList.map ρ).toArray), H)
  | .makeSlice t n c => vMakeSlice T H t (ρ n) (ρ c)
  | .slice t x lo hi mx => (sliceVal T H t (ρ x) (lo.map ρ) (hi.map ρ) (mx.map ρ)).map fun v => (v, H)
  | .fieldAddr t x f => (vFieldAddr T t (ρ x) f).map fun v => (v, H)
  | .field t x f => (vField T t (ρ x) f).map fun v => (v, H)
  | .indexAddr t x i => (indexAddr T t (ρ x) (ρ i)).map fun v => (v, H)
  | .index t x i => (vIndex T t (ρ x) (ρ i)).map fun v => (v, H)
  | .extract x i => (vExtract (ρ x) i).map fun v => (v, H)
  | .typeAssert x _ t false => (vAssert T (ρ x) t).map fun v => (v, H)
  | .call { callee := .builtin b, args, argTypes } => vBuiltin T H b (args.toList.map ρ) argTypes.toList
  | _ => none
theorem opEvalF_eq (T : Tab) (s : List Value) (H : Heap) (o : Op) : opEvalF T (ev s) H o = opEval T s H o := rfl

def calleeF (T : Tab) (ρ : Operand → Value) (H : Heap) (o : Op) : Option (FuncId × List Value) :=
  match o with
  | .call { callee := .value f, args, .. } =>
    match ρ f with
    | .func (.func g) first cap => some (g, first.toList ++ args.toList.map ρ ++ cap.toList)
    | _ => none
  | .call { callee := .invoke r name, args, .. } =>
    match ρ r with
    | .iface t v =>
      match T.meth t name with
      | some (g, none) => some (g, v :: args.toList.map ρ)
      | some (g, some e) => (vLoad T H e v).map fun u => (g, u :: args.toList.map ρ)
      | none => none
    | _ => none
  | _ => none
theorem calleeF_eq (T : Tab) (s : List Value) (H : Heap) (o : Op) : calleeF T (ev s) H o = calleeOf T s H o := rfl

noncomputable def evalOneF (T : Tab) (call : CallF) (d : Bool) (ops : Array Oper) (o : Oper) (st : Slots) (H : Heap) : Option (Slots × Heap) :=
  let go : Option (Slots × Heap) :=
    if d && inPlaceF (evF st) o.op then none else
    match (match opEvalF T (evF st) H o.op with
      | some r => some r
      | none => match calleeF T (evF st) H o.op with
        | some (f, args) => call f args H
        | none => none) with
    | some (v, H1) => some (match o.dst with | some t => setR st t v | none => st, H1)
    | none => none
  match o.guard with
  | none => go
  | some (j, want) =>
    match (ops[j]?).bind (·.dst) with
    | some t => match getR st t with
      | .bool b => bif b == want then go else some (match o.dst with | some t => setR st t (.chan none) | none => st, H)
      | .chan none => some (match o.dst with | some t => setR st t (.chan none) | none => st, H)
      | _ => none
    | none => none

theorem evalOneF_ok {T : Tab} {call : CallF} {d : Bool} {ops : Array Oper} {o : Oper} {st st1 : Slots} {H H1 : Heap} (hu : Rows8 8 st = true) (h : evalOneF T call d ops o st H = some (st1, H1)) :
    evalOne T call d ops o st.flatten H = some (st1.flatten, H1) ∧ Rows8 8 st1 = true := by
  have hput : ∀ v, (match o.dst with | some t => setR st t v | none => st).flatten = put st.flatten o.dst v ∧ Rows8 8 (match o.dst with | some t => setR st t v | none => st) = true := by
    intro v
    cases o.dst with
    | none => exact ⟨rfl, hu⟩
    | some t => exact setR_eq hu t v
  unfold evalOneF at h
  rw [evF_eq hu] at h
  unfold evalOne guardC
  have run : ∀ {r : Option (Slots × Heap)}, r = some (st1, H1) → r = (if d && inPlaceF (ev st.flatten) o.op then none else
      match (match opEvalF T (ev st.flatten) H o.op with
        | some r => some r
        | none => match calleeF T (ev st.flatten) H o.op with
          | some (f, args) => call f args H
          | none => none) with
      | some (v, H1) => some (match o.dst with | some t => setR st t v | none => st, H1)
      | none => none) → (if d && inPlace st.flatten o.op then none else (evalOp T call st.flatten H o.op).map fun r => (put st.flatten o.dst r.1, r.2)) = some (st1.flatten, H1) ∧ Rows8 8 st1 = true := by
    intro r hr e
    subst hr
    rw [inPlaceF_eq] at e
    by_cases hd : (d && inPlace st.flatten o.op) = true
    · rw [if_pos hd] at e; simp at e
    · rw [if_neg hd] at e ⊢
      have e2 : (match opEvalF T (ev st.flatten) H o.op with
        | some r => some r
        | none => match calleeF T (ev st.flatten) H o.op with
          | some (f, args) => call f args H
          | none => none) = evalOp T call st.flatten H o.op := rfl
      rw [e2] at e
      cases e3 : evalOp T call st.flatten H o.op with
      | none => rw [e3] at e; simp at e
      | some r =>
        obtain ⟨v, H2⟩ := r
        rw [e3] at e
        simp only [Option.some.injEq, Prod.mk.injEq] at e
        obtain ⟨rfl, rfl⟩ := e
        obtain ⟨h1, h2⟩ := hput v
        exact ⟨by simp [h1], h2⟩
  cases hg : o.guard with
  | none =>
    rw [hg] at h
    exact run h rfl
  | some g =>
    obtain ⟨j, want⟩ := g
    rw [hg] at h
    simp only at h ⊢
    cases hj : (ops[j]?).bind (·.dst) with
    | none => rw [hj] at h; simp at h
    | some t =>
      rw [hj] at h
      simp only at h ⊢
      rw [getR_eq hu] at h
      generalize st.flatten.getD t undef = gv at h ⊢
      cases gv with
      | bool b =>
        simp only at h ⊢
        cases hb : (b == want) with
        | true =>
          rw [hb] at h
          simp only [cond_true] at h
          exact run h rfl
        | false =>
          rw [hb] at h
          simp only [cond_false, Option.some.injEq, Prod.mk.injEq] at h
          obtain ⟨rfl, rfl⟩ := h
          obtain ⟨h1, h2⟩ := hput (.chan none)
          exact ⟨by simp [h1], h2⟩
      | chan r =>
        cases r with
        | none =>
          simp only [Option.some.injEq, Prod.mk.injEq] at h ⊢
          obtain ⟨rfl, rfl⟩ := h
          obtain ⟨h1, h2⟩ := hput (.chan none)
          exact ⟨⟨h1.symm, rfl⟩, h2⟩
        | some r => simp at h
      | _ => simp at h

noncomputable def evalIdxF (T : Tab) (call : CallF) (d : Bool) (ops : Array Oper) : List Nat → Slots → Heap → Option (Slots × Heap)
  | [], s, H => some (s, H)
  | i :: is, s, H =>
    match ops[i]? with
    | none => none
    | some o => match evalOneF T call d ops o s H with
      | some (s1, H1) => evalIdxF T call d ops is s1 H1
      | none => none

theorem evalIdxF_ok {T : Tab} {call : CallF} {d : Bool} {ops : Array Oper} : ∀ {is : List Nat} {st st1 : Slots} {H H1 : Heap}, Rows8 8 st = true → evalIdxF T call d ops is st H = some (st1, H1) →
    evalIdx T call d ops is st.flatten H = some (st1.flatten, H1) ∧ Rows8 8 st1 = true
  | [], st, st1, H, H1, hu, h => by
    simp only [evalIdxF, Option.some.injEq, Prod.mk.injEq] at h
    obtain ⟨rfl, rfl⟩ := h
    exact ⟨rfl, hu⟩
  | i :: is, st, st1, H, H1, hu, h => by
    unfold evalIdxF at h
    unfold evalIdx
    cases ho : ops[i]? with
    | none => rw [ho] at h; simp at h
    | some o =>
      rw [ho] at h
      simp only at h ⊢
      cases e : evalOneF T call d ops o st H with
      | none => rw [e] at h; simp at h
      | some r =>
        obtain ⟨st2, H2⟩ := r
        rw [e] at h
        obtain ⟨h1, h2⟩ := evalOneF_ok hu e
        rw [h1]
        exact evalIdxF_ok h2 h

noncomputable def evalRegionF (T : Tab) (call : CallF) (ops : Array Oper) (draw : Bool) (s : Slots) (H : Heap) : Option (Slots × Heap) :=
  if draw then evalIdxF T (quiet call) true ops (orderOf ops) s H else evalIdxF T call false ops (List.range ops.size) s H

noncomputable def evalCF (T : Tab) (call : CallF) : Nat → Code → Slots → Heap → Option (Ex × Slots × Heap)
  | 0, _, _, _ => none
  | n + 1, c, s, H =>
    match c with
    | .skip | .label _ => some (.normal, s, H)
    | .region _ ops draw => (evalRegionF T call ops draw s H).map fun r => (.normal, r.1, r.2)
    | .seq a b =>
      match evalCF T call n a s H with
      | some (.normal, s1, H1) => evalCF T call n b s1 H1
      | r => r
    | .cond c a b =>
      match evF s c with
      | .bool true => evalCF T call n a s H
      | .bool false => evalCF T call n b s H
      | _ => none
    | .block id a =>
      match evalCF T call n a s H with
      | some (.exit j, s1, H1) => if j = id then some (.normal, s1, H1) else some (.exit j, s1, H1)
      | r => r
    | .loop a =>
      match evalCF T call n a s H with
      | some (.normal, s1, H1) => evalCF T call n (.loop a) s1 H1
      | r => r
    | .exit id => some (.exit id, s, H)
    | .ret => some (.ret, s, H)
    | _ => none

theorem evalCF_ok {T : Tab} {callF call : CallF} (hc : CallLe callF call) : ∀ {n : Nat} {c : Code} {st st1 : Slots} {H H1 : Heap} {e : Ex}, Rows8 8 st = true → evalCF T callF n c st H = some (e, st1, H1) →
    evalC T call n c st.flatten H = some (e, st1.flatten, H1) ∧ Rows8 8 st1 = true
  | 0, _, _, _, _, _, _, _, h => by simp [evalCF] at h
  | n + 1, c, st, st1, H, H1, e, hu, h => by
    unfold evalCF at h
    unfold evalC
    cases c <;> simp only [Option.some.injEq, Prod.mk.injEq, reduceCtorEq] at h ⊢
    · obtain ⟨rfl, rfl, rfl⟩ := h
      exact ⟨⟨rfl, rfl, rfl⟩, hu⟩
    · rename_i id ops draw
      rw [Option.map_eq_some_iff] at h
      obtain ⟨⟨s2, H2⟩, hx, h⟩ := h
      simp only [Prod.mk.injEq] at h
      obtain ⟨rfl, rfl, rfl⟩ := h
      unfold evalRegionF at hx
      unfold evalRegion
      cases draw with
      | true =>
        simp only [if_true] at hx ⊢
        obtain ⟨h1, h2⟩ := evalIdxF_ok hu hx
        rw [evalIdx_mono (quiet_mono hc) h1]
        exact ⟨rfl, h2⟩
      | false =>
        simp only [Bool.false_eq_true, if_false] at hx ⊢
        obtain ⟨h1, h2⟩ := evalIdxF_ok hu hx
        rw [evalIdx_mono hc h1]
        exact ⟨rfl, h2⟩
    · cases e1 : evalCF T callF n _ st H with
      | none => rw [e1] at h; simp at h
      | some r =>
        obtain ⟨x, s2, H2⟩ := r
        rw [e1] at h
        obtain ⟨h1, h2⟩ := evalCF_ok hc hu e1
        rw [h1]
        cases x with
        | normal => exact evalCF_ok hc h2 h
        | exit j =>
          simp only [Option.some.injEq, Prod.mk.injEq] at h ⊢
          obtain ⟨rfl, rfl, rfl⟩ := h
          exact ⟨⟨rfl, rfl, rfl⟩, h2⟩
        | ret =>
          simp only [Option.some.injEq, Prod.mk.injEq] at h ⊢
          obtain ⟨rfl, rfl, rfl⟩ := h
          exact ⟨⟨rfl, rfl, rfl⟩, h2⟩
    · rename_i c a b
      rw [evF_eq hu] at h
      generalize ev st.flatten c = cv at h ⊢
      cases cv with
      | bool t =>
        cases t with
        | true => exact evalCF_ok hc hu h
        | false => exact evalCF_ok hc hu h
      | _ => simp at h
    · rename_i id a
      cases e1 : evalCF T callF n a st H with
      | none => rw [e1] at h; simp at h
      | some r =>
        obtain ⟨x, s2, H2⟩ := r
        rw [e1] at h
        obtain ⟨h1, h2⟩ := evalCF_ok hc hu e1
        rw [h1]
        cases x with
        | normal =>
          simp only [Option.some.injEq, Prod.mk.injEq] at h ⊢
          obtain ⟨rfl, rfl, rfl⟩ := h
          exact ⟨⟨rfl, rfl, rfl⟩, h2⟩
        | exit j =>
          simp only at h ⊢
          by_cases hj : j = id
          · rw [if_pos hj] at h ⊢
            simp only [Option.some.injEq, Prod.mk.injEq] at h ⊢
            obtain ⟨rfl, rfl, rfl⟩ := h
            exact ⟨⟨rfl, rfl, rfl⟩, h2⟩
          · rw [if_neg hj] at h ⊢
            simp only [Option.some.injEq, Prod.mk.injEq] at h ⊢
            obtain ⟨rfl, rfl, rfl⟩ := h
            exact ⟨⟨rfl, rfl, rfl⟩, h2⟩
        | ret =>
          simp only [Option.some.injEq, Prod.mk.injEq] at h ⊢
          obtain ⟨rfl, rfl, rfl⟩ := h
          exact ⟨⟨rfl, rfl, rfl⟩, h2⟩
    · cases e1 : evalCF T callF n _ st H with
      | none => rw [e1] at h; simp at h
      | some r =>
        obtain ⟨x, s2, H2⟩ := r
        rw [e1] at h
        obtain ⟨h1, h2⟩ := evalCF_ok hc hu e1
        rw [h1]
        cases x with
        | normal => exact evalCF_ok hc h2 h
        | exit j =>
          simp only [Option.some.injEq, Prod.mk.injEq] at h ⊢
          obtain ⟨rfl, rfl, rfl⟩ := h
          exact ⟨⟨rfl, rfl, rfl⟩, h2⟩
        | ret =>
          simp only [Option.some.injEq, Prod.mk.injEq] at h ⊢
          obtain ⟨rfl, rfl, rfl⟩ := h
          exact ⟨⟨rfl, rfl, rfl⟩, h2⟩
    · obtain ⟨rfl, rfl, rfl⟩ := h
      exact ⟨⟨rfl, rfl, rfl⟩, hu⟩
    · obtain ⟨rfl, rfl, rfl⟩ := h
      exact ⟨⟨rfl, rfl, rfl⟩, hu⟩
    · obtain ⟨rfl, rfl, rfl⟩ := h
      exact ⟨⟨rfl, rfl, rfl⟩, hu⟩

/-- Calls; functions that are given go by their own. -/
noncomputable def callCF (T : Tab) : Nat → CallF
  | 0, _, _, _ => none
  | n + 1, f, args, H =>
    match T.ext f with
    | some e => e args H
    | none =>
      match T.fn f with
      | some fn =>
        match fn.body with
        | some c =>
          let st := chunk 8 20 (startC fn args)
          if Rows8 8 st then
            match evalCF T (callCF T n) n c st H with
            | some (.normal, s1, H1) => (resultsC T fn s1.flatten H1).map fun v => (v, H1)
            | some (.ret, s1, H1) => (resultsC T fn s1.flatten H1).map fun v => (v, H1)
            | _ => none
          else none
        | none => none
      | none => none

theorem callCF_ok {T : Tab} : ∀ n, CallLe (callCF T n) (callC T n)
  | 0, _, _, _, _, h => by simp [callCF] at h
  | n + 1, f, args, H, r, h => by
    unfold callCF at h
    unfold callC
    cases he : T.ext f with
    | some e => rw [he] at h; exact h
    | none =>
      rw [he] at h
      simp only at h ⊢
      cases hf : T.fn f with
      | none => rw [hf] at h; simp at h
      | some fn =>
        rw [hf] at h
        simp only at h ⊢
        cases hb : fn.body with
        | none => rw [hb] at h; simp at h
        | some c =>
          rw [hb] at h
          simp only at h ⊢
          split at h
          · rename_i hu
            cases e1 : evalCF T (callCF T n) n c (chunk 8 20 (startC fn args)) H with
            | none => rw [e1] at h; simp at h
            | some q =>
              obtain ⟨x, s2, H2⟩ := q
              rw [e1] at h
              obtain ⟨h1, h2⟩ := evalCF_ok (callCF_ok n) hu e1
              rw [chunk_flat] at h1
              rw [h1]
              cases x with
              | normal => exact h
              | ret => exact h
              | exit j => simp at h
          · simp at h

theorem SoundCall.le {P : Program} {a b : CallF} (h : SoundCall P b) (hab : CallLe a b) : SoundCall P a :=
  ⟨fun f args H r e => h.enter f args H r (hab _ _ _ _ e), fun f args H v H' e => h.calls f args H v H' (hab _ _ _ _ e), fun f args H v H' e => h.len f args H v H' (hab _ _ _ _ e)⟩

end Go.Proofs.Ytdhbclplondmjaa.C

/- A call that is run in a small memory of its own: what it reads is copied in, what it makes is taken over. -/
set_option linter.unusedVariables false
set_option linter.unusedSimpArgs false
namespace Go.Proofs.Ytdhbclplondmjaa.C
open Go.RowKit

variable {P : Program} {T : Tab}

def takeArgs (H : Heap) : Nat → List Value → Option (List Value × Heap)
  | _, [] => some ([], [])
  | j, .slice (some ⟨b, o, none⟩) n c :: l =>
    match H[b]? with
    | some (.row sz _ _ true) =>
      if n = 0 then none else
      match readCells H b o (n * sz) with
      | some cs => if plains cs then (takeArgs H (j + 1) l).map fun r => (.slice (some ⟨j, 0, none⟩) n unk :: r.1, .row sz cs false true :: r.2) else none
      | none => none
    | _ => none
  | j, v :: l => if flat v then (takeArgs H j l).map fun r => (v :: r.1, r.2) else none

def rn (k h : Nat) : Value → Option Value
  | .slice (some ⟨b, o, none⟩) n c => if k ≤ b then some (.slice (some ⟨b - k + h, o, none⟩) n c) else none
  | v => if plain v then some v else none

def rns (k h : Nat) : List Value → Option (List Value)
  | [] => some []
  | v :: l => match rn k h v, rns k h l with
    | some u, some r => some (u :: r)
    | _, _ => none

def rnV (k h : Nat) : Value → Option Value
  | .tuple cs => (rns k h cs.toList).map fun l => .tuple l.toArray
  | v => rn k h v

def rnB (k h : Nat) : Blk → Blk
  | .row sz cs true true => match rns k h cs with
    | some l => .row sz l true true
    | none => .row 0 [] false false
  | _ => .row 0 [] false false

def subX (call : CallF) (f : FuncId) : List Value → Heap → Option (Value × Heap) := fun args H =>
  match takeArgs H 0 args with
  | some (as, S) =>
    match call f as S with
    | some (v, S2) => (rnV S.length H.length v).map fun u => (u, H ++ (S2.drop S.length).map (rnB S.length H.length))
    | none => none
  | none => none

theorem takeArgs_ok {base : Nat} {F : Nat → Prop} {μ : Mu} {H : Heap} {w : World} (h : HR base F μ H w) : ∀ {args args' as : List Value} {S0 S : Heap} {μ0 : Mu}, VRs μ args args' → takeArgs H S0.length args = some (as, S) →
    HR w.heap.size (fun _ => False) μ0 S0 w → (∀ b, S0.length ≤ b → μ0 b = none) →
    ∃ μ1, MuLe μ0 μ1 ∧ HR w.heap.size (fun _ => False) μ1 (S0 ++ S) w ∧ VRs μ1 as args' ∧ (∀ b, (S0 ++ S).length ≤ b → μ1 b = none)
  | [], _, as, S0, S, μ0, .nil, he, h0, hf => by
    simp only [takeArgs, Option.some.injEq, Prod.mk.injEq] at he
    obtain ⟨rfl, rfl⟩ := he
    exact ⟨μ0, MuLe.refl _, by simpa using h0, .nil, by simpa using hf⟩
  | v :: l, _, as, S0, S, μ0, .cons (v' := v') (l' := l') hv ht, he, h0, hf => by
    unfold takeArgs at he
    split at he
    · simp at *
    · rename_i heq
      simp only [List.cons.injEq] at heq
      obtain ⟨rfl, rfl⟩ := heq
      split at he
      · rename_i b o n c _ sz all own hb
        split at he
        · simp at he
        · rename_i hn0
          split at he
          · rename_i cs hcs
            split at he
            · rename_i hpl
              rw [Option.map_eq_some_iff] at he
              obtain ⟨⟨r1, r2⟩, hr, he⟩ := he
              simp only [Prod.mk.injEq] at he
              obtain ⟨rfl, rfl⟩ := he
              cases hv with
              | sliceZ p p' => exact absurd rfl hn0
              | sliceE p p' => exact absurd rfl hn0
              | slice hl hnc hc htop =>
                rename_i c' L
                obtain ⟨hlen, cs', hrr, hcell⟩ := readCells_ok h hcs hl
                have hcs' := plains_eq hpl hrr
                subst hcs'
                have hlt : L.blk < w.heap.size ∧ L.sz = sz := by
                  cases own with
                  | true => exact ⟨(h.mine_lt hb rfl hl).1, (h.own _ _ _ _ hb hl).1⟩
                  | false =>
                    obtain ⟨a, b', _⟩ := h.ro _ _ _ _ hb hl
                    exact ⟨Nat.lt_of_lt_of_le b' h.base_le, a⟩
                let L0 : Loc := ⟨L.blk, L.sh + o, L.top, sz⟩
                have h1 : HR w.heap.size (fun _ => False) (μ0.set S0.length L0) (S0 ++ [.row sz cs' false true]) w := by
                  have hm : MuLe μ0 (μ0.set S0.length L0) := Mu.le_set (hf _ (Nat.le_refl _))
                  have key : ∀ {b : Nat} {x : Blk} {l : Loc}, (S0 ++ [Blk.row sz cs' false true])[b]? = some x → (μ0.set S0.length L0) b = some l → (x = .row sz cs' false true ∧ l = L0) ∨ (S0[b]? = some x ∧ μ0 b = some l) := by
                    intro b x l hb hl
                    rw [getElem?_snoc] at hb
                    by_cases e : b = S0.length
                    · subst e; rw [if_pos rfl] at hb; rw [Mu.set_same] at hl; simp at hb hl; exact .inl ⟨hb.symm, hl.symm⟩
                    · rw [if_neg e] at hb; rw [Mu.set_ne _ _ e] at hl; exact .inr ⟨hb, hl⟩
                  refine ⟨?_, ?_, ?_, ?_, fun _ z => z.elim, Nat.le_refl _⟩
                  · intro b sz2 cs2 l hb hl
                    rcases key hb hl with ⟨hx, _⟩ | ⟨hb, hl⟩
                    · simp at hx
                    · obtain ⟨a, c, d, e⟩ := h0.own b sz2 cs2 l hb hl
                      exact ⟨a, c, d, e.mono hm rfl⟩
                  · intro b sz2 cs2 l hb hl
                    rcases key hb hl with ⟨hx, rfl⟩ | ⟨hb, hl⟩
                    · simp only [Blk.row.injEq, and_true] at hx
                      obtain ⟨rfl, rfl⟩ := hx
                      refine ⟨rfl, hlt.1, fun i v hv => ⟨v, ?_, plain_vr _ ?_⟩⟩
                      · simpa [L0] using hcell i v hv
                      · have : ∀ {cs : List Value}, plains cs = true → ∀ v ∈ cs, plain v = true := by
                          intro cs
                          induction cs with
                          | nil => intro _ v hv; simp at hv
                          | cons a l ih =>
                            intro hp v hv
                            simp only [plains, Bool.and_eq_true] at hp
                            rcases List.mem_cons.1 hv with rfl | hv
                            · exact hp.1
                            · exact ih hp.2 v hv
                        exact this hpl v (List.mem_of_getElem? hv)
                    · obtain ⟨a, c, d⟩ := h0.ro b sz2 cs2 l hb hl
                      exact ⟨a, c, fun i v hv => let ⟨v', x, y⟩ := d i v hv; ⟨v', x, y.mono hm⟩⟩
                  · intro b es l hb hl
                    rcases key hb hl with ⟨hx, _⟩ | ⟨hb, hl⟩
                    · simp at hx
                    · obtain ⟨a, c, d⟩ := h0.maps b es l hb hl
                      exact ⟨a, c, d.mono hm rfl⟩
                  · intro b b' k k' l l' hb hb' hk hk' hne hl hl'
                    rcases key hb hl with ⟨hx, _⟩ | ⟨hb, hl⟩
                    · subst hx; simp [Blk.mine] at hk
                    · rcases key hb' hl' with ⟨hx, _⟩ | ⟨hb', hl'⟩
                      · subst hx; simp [Blk.mine] at hk'
                      · exact h0.inj b b' k k' l l' hb hb' hk hk' hne hl hl'
                have hr' : takeArgs H (S0 ++ [Blk.row sz cs' false true]).length l = some (r1, r2) := by simpa using hr
                obtain ⟨μ1, k1, k2, k3, k4⟩ := takeArgs_ok h ht hr' h1 (fun b hb => by
                  simp at hb
                  rw [Mu.set_ne _ _ (by omega)]
                  exact hf b (by omega))
                refine ⟨μ1, (Mu.le_set (hf _ (Nat.le_refl _))).trans k1, by simpa using k2, .cons ?_ k3, by simpa using k4⟩
                have hμ : μ1 S0.length = some L0 := k1 _ _ (Mu.set_same _ _ _)
                have := VR.slice (μ := μ1) (b := S0.length) (o := 0) (n := n) (c := unk) (c' := c') hμ hnc (.inl rfl) (by simp [L0, ← hlt.2]; omega)
                simpa [L0] using this
            · simp at he
          · simp at he
      · simp at he
    · rename_i heq
      simp only [List.cons.injEq] at heq
      obtain ⟨rfl, rfl⟩ := heq
      split at he
      · rename_i hfl
        rw [Option.map_eq_some_iff] at he
        obtain ⟨⟨r1, r2⟩, hr, he⟩ := he
        simp only [Prod.mk.injEq] at he
        obtain ⟨rfl, rfl⟩ := he
        obtain ⟨μ1, k1, k2, k3, k4⟩ := takeArgs_ok h ht hr h0 hf
        refine ⟨μ1, k1, k2, .cons ?_ k3, k4⟩
        rw [flat_eq hfl hv]
        exact flat_refl hfl
      · simp at he

theorem rn_ok {k h : Nat} {μ2 μ3 : Mu} (hμ : ∀ b l, k ≤ b → μ2 b = some l → μ3 (b - k + h) = some l) {v u v' : Value} (hr : rn k h v = some u) (hv : VR μ2 v v') : VR μ3 u v' := by
  unfold rn at hr
  split at hr
  · split at hr
    · rename_i hk
      simp only [Option.some.injEq] at hr
      subst hr
      cases hv with
      | slice hl hn hc ht => exact .slice (hμ _ _ hk hl) hn hc ht
      | sliceZ a a' => exact .sliceZ _ _
      | sliceE a a' => exact .sliceE _ _
    · simp at hr
  · split at hr
    · rename_i hp
      simp only [Option.some.injEq] at hr
      subst hr
      rw [plain_eq hp hv]
      exact plain_vr _ hp
    · simp at hr

theorem rns_ok {k h : Nat} {μ2 μ3 : Mu} (hμ : ∀ b l, k ≤ b → μ2 b = some l → μ3 (b - k + h) = some l) : ∀ {vs us vs' : List Value}, rns k h vs = some us → VRs μ2 vs vs' → VRs μ3 us vs'
  | [], _, _, hr, .nil => by simp [rns] at hr; subst hr; exact .nil
  | v :: l, _, _, hr, .cons hv ht => by
    unfold rns at hr
    split at hr
    · rename_i u r h1 h2
      simp only [Option.some.injEq] at hr
      subst hr
      exact .cons (rn_ok hμ h1 hv) (rns_ok hμ h2 ht)
    · simp at hr

theorem rns_get {k h : Nat} : ∀ {vs us : List Value}, rns k h vs = some us → ∀ (i : Nat) (u : Value), us[i]? = some u → ∃ v, vs[i]? = some v ∧ rn k h v = some u
  | [], _, hr, i, u, hu => by simp [rns] at hr; subst hr; simp at hu
  | v :: l, _, hr, i, u, hu => by
    unfold rns at hr
    split at hr
    · rename_i u1 r h1 h2
      simp only [Option.some.injEq] at hr
      subst hr
      cases i with
      | zero => simp at hu; subst hu; exact ⟨v, rfl, h1⟩
      | succ i => exact rns_get h2 i u (by simpa using hu)
    · simp at hr

theorem rnV_ok {k h : Nat} {μ2 μ3 : Mu} (hμ : ∀ b l, k ≤ b → μ2 b = some l → μ3 (b - k + h) = some l) {v u v' : Value} (hr : rnV k h v = some u) (hv : VR μ2 v v') : VR μ3 u v' := by
  unfold rnV at hr
  split at hr
  · rw [Option.map_eq_some_iff] at hr
    obtain ⟨l, hl, rfl⟩ := hr
    cases hv with
    | undef v =>
      simp [rns] at hl
      subst hl
      exact .undef _
    | tuple hc => exact .tuple (rns_ok hμ (by simpa using hl) hc)
  · exact rn_ok hμ hr hv

theorem subX_ok {call : CallF} (hc : SoundCall P call) (f : FuncId) : ExtOk P f (subX call f) := by
  intro args H v H1 he
  unfold subX at he
  split at he
  · rename_i as S hta
    split at he
    · rename_i v2 S2 hcall
      rw [Option.map_eq_some_iff] at he
      obtain ⟨u, hu, he⟩ := he
      simp only [Prod.mk.injEq] at he
      obtain ⟨rfl, rfl⟩ := he
      refine ⟨by simp, fun base F μ w args' hh hfree ha => ?_⟩
      have h0 : HR w.heap.size (fun _ => False) (fun _ => none) [] w := ⟨fun b _ _ _ hb => by simp at hb, fun b _ _ _ hb => by simp at hb, fun b _ _ hb => by simp at hb, fun b _ _ _ _ _ hb => by simp at hb, fun _ h => h.elim, Nat.le_refl _⟩
      obtain ⟨μ1, k1, k2, k3, k4⟩ := takeArgs_ok hh (S0 := []) ha hta h0 (fun _ _ => rfl)
      simp only [List.nil_append] at k2 k4
      refine Calls.mono (hc.calls f as S _ _ hcall w.heap.size (fun _ => False) μ1 w args' k2 (fun b hb _ => k4 b hb) k3) ?_
      rintro e w' ⟨v', μ2, rfl, g, hv'⟩
      have hl2 := g.len
      have hblk : ∀ k, k < w.heap.size → w'.heap[k]? = w.heap[k]? := fun k hk => g.fr.block k (.inl hk)
      have hlen : (H ++ (S2.drop S.length).map (rnB S.length H.length)).length = H.length + (S2.length - S.length) := by simp
      rw [hlen] at hfree
      let μ3 : Mu := fun b => if H.length ≤ b ∧ b < H.length + (S2.length - S.length) then μ2 (b - H.length + S.length) else μ b
      have hle : MuLe μ μ3 := by
        intro b l hb
        simp only [μ3]
        rw [if_neg]
        · exact hb
        · rintro ⟨h1, h2⟩
          rw [hfree b h1 h2] at hb
          simp at hb
      have hμ3 : ∀ b l, S.length ≤ b → μ2 b = some l → μ3 (b - S.length + H.length) = some l := by
        intro b l hb hl
        have hb2 : b < S2.length := by
          rcases Nat.lt_or_ge b S2.length with q | q
          · exact q
          · rw [g.same b (.inr q), k4 b hb] at hl
            simp at hl
        simp only [μ3]
        rw [if_pos ⟨by omega, by omega⟩, show b - S.length + H.length - H.length + S.length = b by omega]
        exact hl
      have h' := hh.world hblk g.fr.size
      have key : ∀ {b : Nat} {x : Blk} {l : Loc}, (H ++ (S2.drop S.length).map (rnB S.length H.length))[b]? = some x → μ3 b = some l →
          (b < H.length ∧ H[b]? = some x ∧ μ b = some l) ∨ (H.length ≤ b ∧ ∃ y, S2[b - H.length + S.length]? = some y ∧ rnB S.length H.length y = x ∧ μ2 (b - H.length + S.length) = some l) := by
        intro b x l hb hl
        rcases Nat.lt_or_ge b H.length with hlt | hge
        · rw [List.getElem?_append_left hlt] at hb
          simp only [μ3] at hl
          rw [if_neg (by omega)] at hl
          exact .inl ⟨hlt, hb, hl⟩
        · rw [List.getElem?_append_right hge, List.getElem?_map, Option.map_eq_some_iff] at hb
          obtain ⟨y, hy, e⟩ := hb
          rw [List.getElem?_drop] at hy
          have hlt2 := (List.getElem?_eq_some_iff.1 hy).1
          simp only [μ3] at hl
          rw [if_pos ⟨hge, by omega⟩] at hl
          exact .inr ⟨hge, y, by rw [← hy]; congr 1; omega, e, hl⟩
      have rowOf : ∀ {y : Blk} {sz : Nat} {cs : List Value} {own : Bool}, rnB S.length H.length y = .row sz cs own true → ∃ cs0, y = .row sz cs0 true true ∧ rns S.length H.length cs0 = some cs ∧ own = true := by
        intro y sz cs own hy
        unfold rnB at hy
        split at hy
        · split at hy
          · rename_i hr
            simp only [Blk.row.injEq, and_true] at hy
            obtain ⟨rfl, rfl, rfl⟩ := hy
            exact ⟨_, rfl, hr, rfl⟩
          · simp at hy
        · simp at hy
      have noMap : ∀ {y : Blk} {es : List (Value × Value)}, rnB S.length H.length y ≠ .map es := by
        intro y es hy
        unfold rnB at hy
        split at hy
        · split at hy <;> simp at hy
        · simp at hy
      have mineOf : ∀ {y x : Blk}, rnB S.length H.length y = x → x.mine = true → y.mine = true := by
        intro y x hy hx
        cases x with
        | map es => exact absurd hy noMap
        | row sz cs own live =>
          simp [Blk.mine] at hx
          obtain ⟨rfl, rfl⟩ := hx
          obtain ⟨cs0, rfl, _, _⟩ := rowOf hy
          rfl
      have hr3 : HR base F μ3 (H ++ (S2.drop S.length).map (rnB S.length H.length)) w' := by
        refine ⟨?_, ?_, ?_, ?_, h'.far, h'.base_le⟩
        · intro b sz cs l hb hl
          rcases key hb hl with ⟨_, hb, hl⟩ | ⟨_, y, hy, hyx, hl⟩
          · obtain ⟨a, c, d, e⟩ := h'.own b sz cs l hb hl
            exact ⟨a, c, d, e.mono hle rfl⟩
          · obtain ⟨cs0, rfl, hrs, _⟩ := rowOf hyx
            obtain ⟨a, c, d, arr, e, fr, g1, g2, g3, g4⟩ := g.hr.own _ _ _ _ hy hl
            refine ⟨a, Nat.le_trans hh.base_le c, fun q => by have := hh.far _ q; omega, arr, e, fr, g1, g2, g3, fun i u hu => ?_⟩
            obtain ⟨v0, hv0, hrn⟩ := rns_get hrs i u hu
            obtain ⟨v1, e1, e2⟩ := g4 i v0 hv0
            exact ⟨v1, e1, rn_ok hμ3 hrn e2⟩
        · intro b sz cs l hb hl
          rcases key hb hl with ⟨_, hb, hl⟩ | ⟨_, y, hy, hyx, hl⟩
          · obtain ⟨a, c, d⟩ := h'.ro b sz cs l hb hl
            exact ⟨a, c, fun i v hv => let ⟨v', x, y⟩ := d i v hv; ⟨v', x, y.mono hle⟩⟩
          · obtain ⟨cs0, rfl, hrs, q⟩ := rowOf hyx
            simp at q
        · intro b es l hb hl
          rcases key hb hl with ⟨_, hb, hl⟩ | ⟨_, y, hy, hyx, hl⟩
          · obtain ⟨a, c, d⟩ := h'.maps b es l hb hl
            exact ⟨a, c, d.mono hle rfl⟩
          · exact absurd hyx noMap
        · intro b b' x x' l l' hb hb' hx hx' hne hl hl'
          rcases key hb hl with ⟨_, hb, hl2⟩ | ⟨hg, y, hy, hyx, hl2⟩ <;> rcases key hb' hl' with ⟨_, hb', hl2'⟩ | ⟨hg', y', hy', hyx', hl2'⟩
          · exact hh.inj b b' x x' l l' hb hb' hx hx' hne hl2 hl2'
          · have := (hh.mine_lt hb hx hl2).1
            have := (g.hr.mine_lt hy' (mineOf hyx' hx') hl2').2.1
            omega
          · have := (hh.mine_lt hb' hx' hl2').1
            have := (g.hr.mine_lt hy (mineOf hyx hx) hl2).2.1
            omega
          · exact g.hr.inj _ _ y y' l l' hy hy' (mineOf hyx hx) (mineOf hyx' hx') (by omega) hl2 hl2'
      refine ⟨v', μ3, rfl, ⟨hle, fun b hb => ?_, hr3, ?_, by simp⟩, rnV_ok hμ3 hu hv'⟩
      · simp only [μ3]
        rw [hlen] at hb
        rw [if_neg (by omega)]
      · exact ⟨g.fr.os, g.fr.tape, g.fr.output, g.fr.size, fun k hk => hblk k (hk.elim (fun q => Nat.lt_of_lt_of_le q hh.base_le) (hh.far k))⟩
    · simp at he
  · simp at he

end Go.Proofs.Ytdhbclplondmjaa.C

/- The table of the seat's program for the abstract machine. -/
set_option maxRecDepth 100000
namespace Go.Proofs.Ytdhbclplondmjaa.C
open Go.RowKit

abbrev ExtF := List Value → List Blk → Option (Value × List Blk)

noncomputable def tabE (ext : FuncId → Option ExtF) : Tab where
  T t := (types[t]?).getD none
  fn := lookF fns
  meth := lookM meths
  ext := ext

theorem fitsE {ext : FuncId → Option ExtF} (h : ∀ f e, ext f = some e → ExtOk Try.prog f e ∧ (lookF fns f).isSome = true) : Fits Try.prog (tabE ext) := by
  refine fitsOf (fns := fns) rfl ?_ rfl fns_ok ?_ ?_
  · intro t i hi
    have hi : (types[t]?).getD none = some i := hi
    cases e : types[t]? with
    | none => rw [e] at hi; simp at hi
    | some x =>
      rw [e] at hi
      simp only [Option.getD_some] at hi
      subst hi
      have := types_ok.get (j := t) e
      simpa using this
  · intro t n f e he
    exact meths_ok.get he
  · intro f e he
    obtain ⟨h1, h2⟩ := h f e he
    refine ⟨h1, ?_⟩
    obtain ⟨fn, hf⟩ := Option.isSome_iff_exists.1 h2
    exact (fns_ok.get hf).2.1

/-- The table of the program's own code. -/
noncomputable def tab0 : Tab := tabE fun _ => none
theorem fits0 : Fits Try.prog tab0 := fitsE fun f e h => by simp at h

/-- The same table, faster to look up. -/
noncomputable def typesR : List (List (Option TI)) := chunk 16 20 types
noncomputable def tabR (ext : FuncId → Option ExtF) : Tab := { tabE ext with T := fun t => lget none (lget [] typesR (t / 16)) (t % 16) }
theorem tabR_eq (ext : FuncId → Option ExtF) : tabR ext = tabE ext := by
  have : (fun t => lget none (lget [] typesR (t / 16)) (t % 16)) = fun t => (types[t]?).getD none := by
    funext t
    have hr : Rows8 16 typesR = true := by decide +kernel
    rw [lget_eq, lget_eq, rows_get none (by decide) hr t, List.getD_eq_getElem?_getD]
    rw [show typesR.flatten = types from chunk_flat 16 20 types]
  unfold tabR
  rw [this]
  rfl
theorem fitsR {ext : FuncId → Option ExtF} (h : ∀ f e, ext f = some e → ExtOk Try.prog f e ∧ (lookF fns f).isSome = true) : Fits Try.prog (tabR ext) := by rw [tabR_eq]; exact fitsE h

noncomputable def tabF : Tab := tabR fun _ => none
theorem fitsF : Fits Try.prog tabF := fitsR fun f e h => by simp at h
/-- A run of the program's own code. -/
noncomputable def runF (n : Nat) : CallF := callCF tabF n
theorem runF_sound (n : Nat) : SoundCall Try.prog (runF n) := SoundCall.le (callC_sound fitsF n) (callCF_ok n)

/-- .. with the range over a function in Ranks. -/
noncomputable def tabG : Tab := tabR fun f => bif Nat.beq f 12 then some (callX tabF (runF 300) 300 Try.f12) else none
theorem fitsG : Fits Try.prog tabG := fitsR fun f e h => by
  cases z : Nat.beq f 12 with
  | true =>
    rw [z] at h
    have hf := Nat.eq_of_beq_eq_true z
    subst hf
    have h := Option.some.inj h
    subst h
    exact ⟨callX_ok fitsF (runF_sound 300) rfl 300 Try.func12, rfl⟩
  | false => rw [z] at h; simp at h
noncomputable def runG (n : Nat) : CallF := callCF tabG n
theorem runG_sound (n : Nat) : SoundCall Try.prog (runG n) := SoundCall.le (callC_sound fitsG n) (callCF_ok n)

end Go.Proofs.Ytdhbclplondmjaa.C

/-
  DERIVED: THE SHELF's CONTRACTS AT THIS DUMP, IN PLAIN WORDS (tools/lay-plain.mjs out of 'TryShelf.lean', which tools/lay-shelf.mjs wrote): THE SAME DECLARATIONS UNDER THE SAME NAMES: 'import', 'namespace', 'open', 'def', 'theorem' AND NOTHING ELSE: no command of the shelf's: FOR A HAND-IN. Each laying: the table of numbers ('.._ren') and one theorem, a field a fact of the dump's own or the kernel's comparison; each contract: ONE APPLICATION.
-/
namespace Go.Proofs
open Go.Shelf
def Try.lays128_ren : Go.Shelf.Ren := ⟨fun | 128 => 71 | n => n, fun | 51 => 129 | 3 => 3 | 4 => 4 | 46 => 116 | 5 => 5 | 9 => 9 | n => n, fun | n => n⟩
theorem Try.lays128 : Go.Proofs.Lays.n128 Try.prog Try.lays128_ren := {
  mixed := by kernel_rfl
  f128 := Try.func71.trans (congrArg some (by kernel_rfl))
  t3 := Try.underlying3
  a3 := Try.isAgg3
  z3 := Try.sizeOf3
  v3 := Try.zeroValue3
  t4 := Try.underlying4
  a4 := Try.isAgg4
  z4 := Try.sizeOf4
  v4 := Try.zeroValue4
  t5 := Try.underlying5
  a5 := Try.isAgg5
  z5 := Try.sizeOf5
  v5 := Try.zeroValue5
  t9 := Try.underlying9
  a9 := Try.isAgg9
  z9 := Try.sizeOf9
  v9 := Try.zeroValue9
  t46 := Try.underlying116
  a46 := Try.isAgg116
  z46 := Try.sizeOf116
  v46 := Try.zeroValue116
  t51 := Try.underlying129
  a51 := Try.isAgg129
  z51 := Try.sizeOf129
  v51 := Try.zeroValue129 }
/-- bits.Len32: "Len32 returns the minimum number of bits required to represent x; the result is 0 for x == 0.": IT RETURNS 'Lib.bitLen x'; the world is as it was. ('h0', 'h1': x is a uint32.) (LAID: no walk: one application.) -/
theorem Try.bits_Len32 (x : Int) (w : World) (h0 : 0 ≤ x) (h1 : x ≤ 4294967295) :
    Calls Try.prog 71 #[.int .u32 x] w fun e w' => e = .returned (.int .i64 (Lib.bitLen x.toNat)) ∧ w' = w := Any.bits_Len32 Try.lays128 x w h0 h1
def Try.lays125_ren : Go.Shelf.Ren := ⟨fun | 125 => 59 | 128 => 71 | 129 => 72 | n => n, fun | 46 => 116 | 3 => 3 | 51 => 129 | 53 => 131 | 4 => 4 | 5 => 5 | 9 => 9 | n => n, fun | n => n⟩
theorem Try.lays125 : Go.Proofs.Lays.n125 Try.prog Try.lays125_ren := {
  mixed := by kernel_rfl
  f125 := Try.func59.trans (congrArg some (by kernel_rfl))
  f128 := Try.func71.trans (congrArg some (by kernel_rfl))
  f129 := Try.func72.trans (congrArg some (by kernel_rfl))
  t3 := Try.underlying3
  a3 := Try.isAgg3
  z3 := Try.sizeOf3
  v3 := Try.zeroValue3
  t4 := Try.underlying4
  a4 := Try.isAgg4
  z4 := Try.sizeOf4
  v4 := Try.zeroValue4
  t5 := Try.underlying5
  a5 := Try.isAgg5
  z5 := Try.sizeOf5
  v5 := Try.zeroValue5
  t9 := Try.underlying9
  a9 := Try.isAgg9
  z9 := Try.sizeOf9
  v9 := Try.zeroValue9
  t46 := Try.underlying116
  a46 := Try.isAgg116
  z46 := Try.sizeOf116
  v46 := Try.zeroValue116
  t51 := Try.underlying129
  a51 := Try.isAgg129
  z51 := Try.sizeOf129
  v51 := Try.zeroValue129
  t53 := Try.underlying131
  a53 := Try.isAgg131
  z53 := Try.sizeOf131
  v53 := Try.zeroValue131 }
/-- bits.Len: "Len returns the minimum number of bits required to represent x; the result is 0 for x == 0.": IT RETURNS 'Lib.bitLen x'; the world is as it was. (A uint has 64 bits in the model.) ITS CALLEE bits.Len64 IS MET BY ITS OWN CONTRACT OFF THE SHELF (lay that first). (LAID: no walk: one application.) -/
theorem Try.bits_Len (x : Int) (w : World) (h0 : 0 ≤ x) (h1 : x ≤ 18446744073709551615) :
    Calls Try.prog 59 #[.int .u64 x] w fun e w' => e = .returned (.int .i64 (Lib.bitLen x.toNat)) ∧ w' = w := Any.bits_Len Try.lays125 x w h0 h1
def Try.lays129_ren : Go.Shelf.Ren := ⟨fun | 129 => 72 | n => n, fun | 53 => 131 | 3 => 3 | 4 => 4 | 46 => 116 | 5 => 5 | 9 => 9 | n => n, fun | n => n⟩
theorem Try.lays129 : Go.Proofs.Lays.n129 Try.prog Try.lays129_ren := {
  mixed := by kernel_rfl
  f129 := Try.func72.trans (congrArg some (by kernel_rfl))
  t3 := Try.underlying3
  a3 := Try.isAgg3
  z3 := Try.sizeOf3
  v3 := Try.zeroValue3
  t4 := Try.underlying4
  a4 := Try.isAgg4
  z4 := Try.sizeOf4
  v4 := Try.zeroValue4
  t5 := Try.underlying5
  a5 := Try.isAgg5
  z5 := Try.sizeOf5
  v5 := Try.zeroValue5
  t9 := Try.underlying9
  a9 := Try.isAgg9
  z9 := Try.sizeOf9
  v9 := Try.zeroValue9
  t46 := Try.underlying116
  a46 := Try.isAgg116
  z46 := Try.sizeOf116
  v46 := Try.zeroValue116
  t53 := Try.underlying131
  a53 := Try.isAgg131
  z53 := Try.sizeOf131
  v53 := Try.zeroValue131 }
/-- bits.Len64: "Len64 returns the minimum number of bits required to represent x; the result is 0 for x == 0.": IT RETURNS 'Lib.bitLen x'; the world is as it was. ('h0', 'h1': x is a uint64.) (LAID: no walk: one application.) -/
theorem Try.bits_Len64 (x : Int) (w : World) (h0 : 0 ≤ x) (h1 : x ≤ 18446744073709551615) :
    Calls Try.prog 72 #[.int .u64 x] w fun e w' => e = .returned (.int .i64 (Lib.bitLen x.toNat)) ∧ w' = w := Any.bits_Len64 Try.lays129 x w h0 h1
def Try.lays190_ren : Go.Shelf.Ren := ⟨fun | 190 => 51 | 125 => 59 | 258 => 58 | 128 => 71 | 129 => 72 | 302 => 62 | 303 => 63 | 304 => 64 | 305 => 65 | 306 => 66 | 307 => 67 | 308 => 68 | 309 => 69 | 310 => 70 | 333 => 75 | 329 => 76 | 330 => 77 | 334 => 78 | 335 => 79 | 336 => 80 | 344 => 81 | n => n, fun | 31 => 37 | 9 => 9 | 3 => 3 | 46 => 116 | 0 => 0 | 51 => 129 | 53 => 131 | 4 => 4 | 183 => 122 | 182 => 121 | 131 => 86 | 5 => 5 | 218 => 136 | 222 => 140 | 228 => 142 | 229 => 143 | n => n, fun | n => n⟩
theorem Try.lays190 : Go.Proofs.Lays.n190 Try.prog Try.lays190_ren := {
  mixed := by kernel_rfl
  f125 := Try.func59.trans (congrArg some (by kernel_rfl))
  f128 := Try.func71.trans (congrArg some (by kernel_rfl))
  f129 := Try.func72.trans (congrArg some (by kernel_rfl))
  f190 := Try.func51.trans (congrArg some (by kernel_rfl))
  f258 := Try.func58.trans (congrArg some (by kernel_rfl))
  f302 := Try.func62.trans (congrArg some (by kernel_rfl))
  f303 := Try.func63.trans (congrArg some (by kernel_rfl))
  f304 := Try.func64.trans (congrArg some (by kernel_rfl))
  f305 := Try.func65.trans (congrArg some (by kernel_rfl))
  f306 := Try.func66.trans (congrArg some (by kernel_rfl))
  f307 := Try.func67.trans (congrArg some (by kernel_rfl))
  f308 := Try.func68.trans (congrArg some (by kernel_rfl))
  f309 := Try.func69.trans (congrArg some (by kernel_rfl))
  f310 := Try.func70.trans (congrArg some (by kernel_rfl))
  f329 := Try.func76.trans (congrArg some (by kernel_rfl))
  f330 := Try.func77.trans (congrArg some (by kernel_rfl))
  f333 := Try.func75.trans (congrArg some (by kernel_rfl))
  f334 := Try.func78.trans (congrArg some (by kernel_rfl))
  f335 := Try.func79.trans (congrArg some (by kernel_rfl))
  f336 := Try.func80.trans (congrArg some (by kernel_rfl))
  f344 := Try.func81.trans (congrArg some (by kernel_rfl))
  t0 := Try.underlying0
  a0 := Try.isAgg0
  z0 := Try.sizeOf0
  v0 := Try.zeroValue0
  t3 := Try.underlying3
  a3 := Try.isAgg3
  z3 := Try.sizeOf3
  v3 := Try.zeroValue3
  t4 := Try.underlying4
  a4 := Try.isAgg4
  z4 := Try.sizeOf4
  v4 := Try.zeroValue4
  t5 := Try.underlying5
  a5 := Try.isAgg5
  z5 := Try.sizeOf5
  v5 := Try.zeroValue5
  t9 := Try.underlying9
  a9 := Try.isAgg9
  z9 := Try.sizeOf9
  v9 := Try.zeroValue9
  t31 := Try.underlying37
  a31 := Try.isAgg37
  z31 := Try.sizeOf37
  v31 := Try.zeroValue37
  t46 := Try.underlying116
  a46 := Try.isAgg116
  z46 := Try.sizeOf116
  v46 := Try.zeroValue116
  t51 := Try.underlying129
  a51 := Try.isAgg129
  z51 := Try.sizeOf129
  v51 := Try.zeroValue129
  t53 := Try.underlying131
  a53 := Try.isAgg131
  z53 := Try.sizeOf131
  v53 := Try.zeroValue131
  t131 := Try.underlying86
  a131 := Try.isAgg86
  z131 := Try.sizeOf86
  v131 := Try.zeroValue86
  t182 := Try.underlying121
  a182 := Try.isAgg121
  z182 := Try.sizeOf121
  v182 := Try.zeroValue121
  t183 := Try.underlying122
  a183 := Try.isAgg122
  z183 := Try.sizeOf122
  v183 := Try.zeroValue122
  t218 := Try.underlying136
  a218 := Try.isAgg136
  z218 := Try.sizeOf136
  v218 := Try.zeroValue136
  t222 := Try.underlying140
  a222 := Try.isAgg140
  z222 := Try.sizeOf140
  v222 := Try.zeroValue140
  t228 := Try.underlying142
  a228 := Try.isAgg142
  z228 := Try.sizeOf142
  v228 := Try.zeroValue142
  t229 := Try.underlying143
  a229 := Try.isAgg143
  z229 := Try.sizeOf143
  v229 := Try.zeroValue143 }
open Go.Sort Go.RowKit in
theorem Try.slices_Sort_string (blk off cap : Nat) (ss : List (List UInt8)) (w : World) (hH : Holds encStr w blk off ss.toArray) (hblk : blk < w.heap.size) (hsz : ss.length < 4611686018427387904) :
    Calls Try.prog 51 #[.slice (some ⟨blk, off, none⟩) ss.length cap] w fun e w' =>
      e = .returned (.tuple #[]) ∧ ∃ n os, w' = grow (putRow encStr (Sort.ahead w n) blk off (ss.mergeSort fun x y => decide (x ≤ y)).toArray) os := Any.slices_Sort_string Try.lays190 blk off cap ss w hH hblk hsz
def Try.lays264_ren : Go.Shelf.Ren := ⟨fun | 264 => 74 | n => n, fun | 53 => 131 | 46 => 116 | n => n, fun | n => n⟩
theorem Try.lays264 : Go.Proofs.Lays.n264 Try.prog Try.lays264_ren := {
  mixed := by kernel_rfl
  f264 := Try.func74.trans (congrArg some (by kernel_rfl))
  t46 := Try.underlying116
  a46 := Try.isAgg116
  z46 := Try.sizeOf116
  v46 := Try.zeroValue116
  t53 := Try.underlying131
  a53 := Try.isAgg131
  z53 := Try.sizeOf131
  v53 := Try.zeroValue131 }
open Go.RowKit Go.Lib in
theorem Try.bits_Mul64 (x y : Nat) (hx : x < 18446744073709551616) (hy : y < 18446744073709551616) (w : World) :
    Calls Try.prog 74 #[.int .u64 x, .int .u64 y] w fun e w' => e = .returned (.tuple #[.int .u64 ((x * y / 18446744073709551616 : Nat) : Int), .int .u64 ((x * y % 18446744073709551616 : Nat) : Int)]) ∧ w' = w := Any.bits_Mul64 Try.lays264 x y hx hy w
def Try.lays212_ren : Go.Shelf.Ren := ⟨fun | 212 => 61 | 263 => 73 | 264 => 74 | n => n, fun | 46 => 116 | 51 => 129 | 146 => 132 | 53 => 131 | 148 => 134 | n => n, fun | n => n⟩
theorem Try.lays212 : Go.Proofs.Lays.n212 Try.prog Try.lays212_ren := {
  mixed := by kernel_rfl
  f212 := Try.func61.trans (congrArg some (by kernel_rfl))
  f263 := Try.func73.trans (congrArg some (by kernel_rfl))
  f264 := Try.func74.trans (congrArg some (by kernel_rfl))
  t46 := Try.underlying116
  a46 := Try.isAgg116
  z46 := Try.sizeOf116
  v46 := Try.zeroValue116
  t51 := Try.underlying129
  a51 := Try.isAgg129
  z51 := Try.sizeOf129
  v51 := Try.zeroValue129
  t53 := Try.underlying131
  a53 := Try.isAgg131
  z53 := Try.sizeOf131
  v53 := Try.zeroValue131
  t146 := Try.underlying132
  a146 := Try.isAgg132
  z146 := Try.sizeOf132
  v146 := Try.zeroValue132
  t148 := Try.underlying134
  a148 := Try.isAgg134
  z148 := Try.sizeOf134
  v148 := Try.zeroValue134 }
open Go.RowKit Go.Lib in
/-- math/bits.Mul: "Mul returns the full-width product of x and y": on a machine of 64 bits: Mul64's. (LAID: no walk: one application.) -/
theorem Try.bits_Mul (x y : Nat) (hx : x < 18446744073709551616) (hy : y < 18446744073709551616) (w : World) :
    Calls Try.prog 61 #[.int .u64 x, .int .u64 y] w fun e w' => e = .returned (.tuple #[.int .u64 ((x * y / 18446744073709551616 : Nat) : Int), .int .u64 ((x * y % 18446744073709551616 : Nat) : Int)]) ∧ w' = w := Any.bits_Mul Try.lays212 x y hx hy w
def Try.lays108_ren : Go.Shelf.Ren := ⟨fun | 108 => 60 | n => n, fun | 28 => 27 | 3 => 3 | 0 => 0 | 4 => 4 | n => n, fun | n => n⟩
theorem Try.lays108 : Go.Proofs.Lays.n108 Try.prog Try.lays108_ren := {
  mixed := by kernel_rfl
  f108 := Try.func60.trans (congrArg some (by kernel_rfl))
  t0 := Try.underlying0
  a0 := Try.isAgg0
  z0 := Try.sizeOf0
  v0 := Try.zeroValue0
  t3 := Try.underlying3
  a3 := Try.isAgg3
  z3 := Try.sizeOf3
  v3 := Try.zeroValue3
  t4 := Try.underlying4
  a4 := Try.isAgg4
  z4 := Try.sizeOf4
  v4 := Try.zeroValue4
  t28 := Try.underlying27
  a28 := Try.isAgg27
  z28 := Try.sizeOf27
  v28 := Try.zeroValue27 }
open Go.Lib in
/-- slices.Index at []int: "Index returns the index of the first occurrence of v in s, or -1 if not present.": IT RETURNS 'Lib.idxOf (the elements) v'; the world is as it was. 'zs': what the cells behind the slice's address hold (its spare capacity too, if you have it); 'zs.take n': its elements. (LAID: no walk: one application.) -/
theorem Try.slices_Index_int (b off n c : Nat) (zs : List Int) (x : Int) (w : World) (hz : n ≤ zs.length) (hbig : n ≤ 9223372036854775807) (hc : ∀ j, j < zs.length → w.cell? ⟨b, off + j, none⟩ = some (.int .i64 (zs.getD j 0))) :
    Calls Try.prog 60 #[.slice (some ⟨b, off, none⟩) n c, .int .i64 x] w fun e w' => e = .returned (.int .i64 (Lib.idxOf (zs.take n) x)) ∧ w' = w := Any.slices_Index_int Try.lays108 b off n c zs x w hz hbig hc
open Go.Lib in
/-- The same at a slice of length 0, a nil one too: no cell is known, none is asked for. (LAID: no walk: one application.) -/
theorem Try.slices_Index_int_empty (a : Option Addr) (c : Nat) (x : Int) (w : World) :
    Calls Try.prog 60 #[.slice a 0 c, .int .i64 x] w fun e w' => e = .returned (.int .i64 (Lib.idxOf [] x)) ∧ w' = w := Any.slices_Index_int_empty Try.lays108 a c x w
def Try.lays107_ren : Go.Shelf.Ren := ⟨fun | 107 => 53 | 108 => 60 | n => n, fun | 28 => 27 | 3 => 3 | 4 => 4 | 0 => 0 | n => n, fun | n => n⟩
theorem Try.lays107 : Go.Proofs.Lays.n107 Try.prog Try.lays107_ren := {
  mixed := by kernel_rfl
  f107 := Try.func53.trans (congrArg some (by kernel_rfl))
  f108 := Try.func60.trans (congrArg some (by kernel_rfl))
  t0 := Try.underlying0
  a0 := Try.isAgg0
  z0 := Try.sizeOf0
  v0 := Try.zeroValue0
  t3 := Try.underlying3
  a3 := Try.isAgg3
  z3 := Try.sizeOf3
  v3 := Try.zeroValue3
  t4 := Try.underlying4
  a4 := Try.isAgg4
  z4 := Try.sizeOf4
  v4 := Try.zeroValue4
  t28 := Try.underlying27
  a28 := Try.isAgg27
  z28 := Try.sizeOf27
  v28 := Try.zeroValue27 }
open Go.Lib in
/-- slices.Contains at []int: "Contains reports whether v is present in s.": IT RETURNS 'elements.contains v'; the world is as it was. ITS CALLEE slices.Index IS MET BY ITS OWN CONTRACT OFF THE SHELF (lay that first): no loop is walked here. (LAID: no walk: one application.) -/
theorem Try.slices_Contains_int (b off n c : Nat) (zs : List Int) (x : Int) (w : World) (hz : n ≤ zs.length) (hbig : n ≤ 9223372036854775807) (hc : ∀ j, j < zs.length → w.cell? ⟨b, off + j, none⟩ = some (.int .i64 (zs.getD j 0))) :
    Calls Try.prog 53 #[.slice (some ⟨b, off, none⟩) n c, .int .i64 x] w fun e w' => e = .returned (.bool ((zs.take n).contains x)) ∧ w' = w := Any.slices_Contains_int Try.lays107 b off n c zs x w hz hbig hc
open Go.Lib in
/-- The same at a slice of length 0, a nil one too. (LAID: no walk: one application.) -/
theorem Try.slices_Contains_int_empty (a : Option Addr) (c : Nat) (x : Int) (w : World) :
    Calls Try.prog 53 #[.slice a 0 c, .int .i64 x] w fun e w' => e = .returned (.bool false) ∧ w' = w := Any.slices_Contains_int_empty Try.lays107 a c x w
def Try.lays194_ren : Go.Shelf.Ren := ⟨fun | 194 => 52 | n => n, fun | 31 => 37 | 9 => 9 | 3 => 3 | 4 => 4 | 0 => 0 | n => n, fun | n => n⟩
theorem Try.lays194 : Go.Proofs.Lays.n194 Try.prog Try.lays194_ren := {
  mixed := by kernel_rfl
  f194 := Try.func52.trans (congrArg some (by kernel_rfl))
  t0 := Try.underlying0
  a0 := Try.isAgg0
  z0 := Try.sizeOf0
  v0 := Try.zeroValue0
  t3 := Try.underlying3
  a3 := Try.isAgg3
  z3 := Try.sizeOf3
  v3 := Try.zeroValue3
  t4 := Try.underlying4
  a4 := Try.isAgg4
  z4 := Try.sizeOf4
  v4 := Try.zeroValue4
  t9 := Try.underlying9
  a9 := Try.isAgg9
  z9 := Try.sizeOf9
  v9 := Try.zeroValue9
  t31 := Try.underlying37
  a31 := Try.isAgg37
  z31 := Try.sizeOf37
  v31 := Try.zeroValue37 }
open Go.RowKit Go.Lib Go.Sort in
/-- slices.Compact at []string, over an array: the library's two loops are walked. (LAID: no walk: one application.) -/
theorem Try.slices_Compact_string_arr (blk off cap : Nat) (d : Array (List UInt8)) (w : World) (hH : Holds encStr w blk off d) (hsz : d.size ≤ 9223372036854775807) (hcap : d.size ≤ cap) :
    Calls Try.prog 52 #[.slice (some ⟨blk, off, none⟩) d.size cap] w fun e w' => e = .returned (.slice (some ⟨blk, off, none⟩) (compactUpTo d d.size).length cap) ∧ ∃ q, w' = putRow encStr (Sort.ahead w q) blk off (compactUpTo d d.size ++ List.replicate (d.size - (compactUpTo d d.size).length) []).toArray := Any.slices_Compact_string_arr Try.lays194 blk off cap d w hH hsz hcap
open Go.RowKit Go.Lib Go.Sort in
/-- slices.Compact at []string: "Compact replaces consecutive runs of equal elements with a single copy. This is like the uniq command found on Unix. Compact modifies the contents of the slice s and returns the modified slice, which may have a smaller length. Compact zeroes the elements between the new length and the original length. The result preserves the nilness of s.": IT RETURNS THE SLICE CUT TO 'Lib.compact zs'; ITS CELLS HOLD 'Lib.compact zs', THEN ZERO VALUES up to the old length; all else is as it was, but for the count of draws. IN THE WORDS OF slices.Sort's CONTRACT ('Holds', 'putRow'): so the everyday 'slices.Sort(xs); xs = slices.Compact(xs)' goes from the one contract to the other. It asks 'zs.length ≤ cap' (every slice's: the reslicing 's[:k]' looks at it). Length 0, nil: '.._empty'. (LAID: no walk: one application.) -/
theorem Try.slices_Compact_string (blk off cap : Nat) (zs : List (List UInt8)) (w : World) (hH : Holds encStr w blk off zs.toArray) (hsz : zs.length ≤ 9223372036854775807) (hcap : zs.length ≤ cap) :
    Calls Try.prog 52 #[.slice (some ⟨blk, off, none⟩) zs.length cap] w fun e w' => e = .returned (.slice (some ⟨blk, off, none⟩) (Lib.compact zs).length cap) ∧ ∃ q, w' = putRow encStr (Sort.ahead w q) blk off (Lib.compact zs ++ List.replicate (zs.length - (Lib.compact zs).length) []).toArray := Any.slices_Compact_string Try.lays194 blk off cap zs w hH hsz hcap
open Go.RowKit Go.Lib Go.Sort in
/-- The same at a slice of length 0, a nil one too: it comes back as it is. (LAID: no walk: one application.) -/
theorem Try.slices_Compact_string_empty (a : Option Addr) (cap : Nat) (w : World) :
    Calls Try.prog 52 #[.slice a 0 cap] w fun e w' => e = .returned (.slice a 0 cap) ∧ w' = w := Any.slices_Compact_string_empty Try.lays194 a cap w
open Go.RowKit Go.Lib Go.Sort in
/-- slices.Compact at []string, of an argument. (LAID: no walk: one application.) -/
theorem Try.slices_Compact_string_cells (b off n c : Nat) (Sx : Nat → ByteArray) (w : World) (hbig : n ≤ 9223372036854775807) (hcap : n ≤ c) (hc : ∀ i, i < n → w.cell? ⟨b, off + i, none⟩ = some (.string (Sx i))) (hf : ∀ j, j < n → w.frozen? ⟨b, off + j, none⟩ = false) :
    Calls Try.prog 52 #[.slice (some ⟨b, off, none⟩) n c] w fun e w' => e = .returned (.slice (some ⟨b, off, none⟩) (Lib.compact (Lib.strsOf Sx n)).length c) ∧ ∃ q, w' = (w.drewN q).setCells b off ((Lib.compact (Lib.strsOf Sx n) ++ List.replicate (n - (Lib.compact (Lib.strsOf Sx n)).length) []).map encStr) := Any.slices_Compact_string_cells Try.lays194 b off n c Sx w hbig hcap hc hf
open Go.RowKit Go.Sort in
/-- .. and plain. (LAID: no walk: one application.) -/
theorem Try.slices_Sort_string_none (p : Option Addr) (cap : Nat) (w : World) :
    Calls Try.prog 51 #[.slice p 0 cap] w fun e w' => e = .returned (.tuple #[]) ∧ w' = w := Any.slices_Sort_string_none Try.lays190 p cap w
end Go.Proofs

/- slices.Sort and slices.Compact at strings, by their contracts, for the abstract machine. -/
set_option linter.unusedVariables false
set_option linter.unusedSimpArgs false
namespace Go.Proofs.Ytdhbclplondmjaa.C
open Go.RowKit Go.Sort

variable {P : Program}

def strsC : List Value → Option (List (List UInt8))
  | [] => some []
  | .string b :: l => (strsC l).map fun r => b.data.toList :: r
  | _ :: _ => none

theorem strsC_ok {μ : Mu} : ∀ {cs cs' : List Value} {ss : List (List UInt8)}, strsC cs = some ss → VRs μ cs cs' → cs' = ss.map encStr
  | [], _, _, h, .nil => by simp [strsC] at h; subst h; rfl
  | v :: cs, _, ss, h, .cons hv ht => by
    unfold strsC at h
    split at h
    · simp_all
    · rename_i b l heq
      simp only [List.cons.injEq] at heq
      obtain ⟨rfl, rfl⟩ := heq
      rw [Option.map_eq_some_iff] at h
      obtain ⟨r, hr, rfl⟩ := h
      cases hv
      rw [strsC_ok hr ht]
      rfl
    · simp at h

theorem encStr_refl {μ : Mu} : ∀ (ss : List (List UInt8)), VRs μ (ss.map encStr) (ss.map encStr)
  | [] => .nil
  | s :: ss => .cons (.string _) (encStr_refl ss)

/-- Strings in a row of one's own are sorted, or made shorter. -/
def onStrs (g : List (List UInt8) → List (List UInt8)) (H : Heap) (b o n : Nat) : Option (List (List UInt8) × Heap) :=
  match H[b]? with
  | some (.row _ _ true true) => (readCells H b o n).bind fun cs => (strsC cs).bind fun ss => (writeCells H b o ((g ss).map encStr)).map fun H1 => (ss, H1)
  | _ => none

def sortX : List Value → Heap → Option (Value × Heap) := fun args H =>
  match args with
  | [.slice a n _] =>
    if n = 0 then some (.tuple #[], H) else
    if 2 ^ 40 ≤ n then none else
    match a with
    | some ⟨b, o, none⟩ => (onStrs (fun ss => ss.mergeSort fun x y => decide (x ≤ y)) H b o n).map fun r => (.tuple #[], r.2)
    | _ => none
  | _ => none

def compactX : List Value → Heap → Option (Value × Heap) := fun args H =>
  match args with
  | [.slice a n c] =>
    if n = 0 then some (.slice a n c, H) else
    if 2 ^ 40 ≤ n then none else
    match a with
    | some ⟨b, o, none⟩ => (onStrs (fun ss => Lib.compact ss ++ List.replicate (ss.length - (Lib.compact ss).length) []) H b o n).map fun r => (.slice a (Lib.compact r.1).length c, r.2)
    | _ => none
  | _ => none

theorem onStrs_ok {μ : Mu} {base : Nat} {F : Nat → Prop} {H H1 : Heap} {w : World} {g : List (List UInt8) → List (List UInt8)} {b o n : Nat} {ss : List (List UInt8)} {l : Loc} (h : HR base F μ H w) (hl : μ b = some l) (he : onStrs g H b o n = some (ss, H1)) :
    ss.length = n ∧ Holds encStr w l.blk (l.sh + o) ss.toArray ∧ l.blk < w.heap.size ∧ H1.length = H.length ∧ ∀ q, HR base F μ H1 ((w.drewN q).setCells l.blk (l.sh + o) ((g ss).map encStr)) ∧ Fr base F w ((w.drewN q).setCells l.blk (l.sh + o) ((g ss).map encStr)) := by
  unfold onStrs at he
  split at he
  · rename_i sz all hb
    simp only [Option.bind_eq_some_iff, Option.map_eq_some_iff] at he
    obtain ⟨cs, hcs, ss1, hss, H2, hw, he⟩ := he
    simp only [Prod.mk.injEq] at he
    obtain ⟨rfl, rfl⟩ := he
    obtain ⟨hlen, cs', hr, hcell⟩ := readCells_ok h hcs hl
    have hcs' := strsC_ok hss hr
    have hn : ss1.length = n := by
      have := hr.length
      rw [hcs', List.length_map] at this
      omega
    obtain ⟨a1, a2, a3, arr, e, fr, b1, b2, b3, b4⟩ := h.own b _ _ l hb hl
    refine ⟨hn, ?_, h.mine_lt hb rfl hl |>.1, ?_, fun q => ?_⟩
    · intro j hj
      have hj' : j < ss1.length := by simpa using hj
      have hc := hcell j (encStr ss1[j]) (by rw [hcs']; simp [hj'])
      refine ⟨by rw [hc]; simp [hj'], ?_⟩
      have hlt : l.sh + o + j < arr.size := by
        have : (World.cell? w ⟨l.blk, l.sh + o + j, none⟩) = arr[l.sh + o + j]? := by simp [World.cell?, b1]
        rw [this] at hc
        exact (Array.getElem?_eq_some_iff.1 hc).1
      have := b3 _ hlt
      simp only [World.frozen?, b1]
      simp only [Bool.and_eq_false_iff, decide_eq_false_iff_not]
      omega
    · have hx := writeCells_ok (P := default) h hl (encStr_refl (g ss1)) hw
      obtain ⟨_, _, _, e1, _⟩ := hx
      exact e1
    · have hd : HR base F μ H (w.drewN q) := h.world (fun _ _ => rfl) (Nat.le_refl _)
      obtain ⟨_, _, _, e1, _, e2, e3⟩ := writeCells_ok (P := default) hd hl (encStr_refl (g ss1)) hw
      exact ⟨e2, (⟨rfl, rfl, rfl, Nat.le_refl _, fun _ _ => rfl⟩ : Fr base F w (w.drewN q)).trans e3⟩
  · simp at he

theorem grow_old (w : World) (os : Array Obj) : ∀ k, k < w.heap.size → (grow w os).heap[k]? = w.heap[k]? := by
  intro k hk
  simp only [grow]
  rw [Array.getElem?_append_left hk]

theorem onStrs_len {g : List (List UInt8) → List (List UInt8)} {H H1 : Heap} {b o n : Nat} {ss : List (List UInt8)} (hon : onStrs g H b o n = some (ss, H1)) : H1.length = H.length := by
  unfold onStrs at hon
  split at hon
  · simp only [Option.bind_eq_some_iff, Option.map_eq_some_iff] at hon
    obtain ⟨cs, hcs, ss1, hss, H3, hw, hon⟩ := hon
    simp only [Prod.mk.injEq] at hon
    obtain ⟨rfl, rfl⟩ := hon
    unfold writeCells at hw
    split at hw
    · split at hw
      · split at hw <;> simp at hw
        rw [← hw]; simp
      · simp at hw
    · simp at hw
  · simp at hon

theorem sortX_ok {f : FuncId} (hs : ∀ (blk off cap : Nat) (ss : List (List UInt8)) (w : World), Holds encStr w blk off ss.toArray → blk < w.heap.size → ss.length < 4611686018427387904 →
      Calls P f #[.slice (some ⟨blk, off, none⟩) ss.length cap] w fun e w' => e = .returned (.tuple #[]) ∧ ∃ n os, w' = grow (putRow encStr (Sort.ahead w n) blk off (ss.mergeSort fun x y => decide (x ≤ y)).toArray) os)
    (hz : ∀ (p : Option Addr) (cap : Nat) (w : World), Calls P f #[.slice p 0 cap] w fun e w' => e = .returned (.tuple #[]) ∧ w' = w) : ExtOk P f sortX := by
  intro args H v H1 he
  unfold sortX at he
  split at he
  · rename_i a n c
    split at he
    · rename_i h0
      subst h0
      simp only [Option.some.injEq, Prod.mk.injEq] at he
      obtain ⟨rfl, rfl⟩ := he
      refine ⟨Nat.le_refl _, fun base F μ w args' hh hfree ha => ?_⟩
      cases ha with
      | cons hx hn =>
        cases hn
        rename_i x'
        have : ∃ p c', x' = .slice p 0 c' := by cases hx <;> exact ⟨_, _, rfl⟩
        obtain ⟨p, c', rfl⟩ := this
        refine Calls.mono (hz p c' w) ?_
        rintro e w' ⟨rfl, rfl⟩
        exact ⟨_, μ, rfl, Goes.refl hh, .undef _⟩
    · rename_i h0
      split at he
      · simp at he
      · rename_i hbig
        split at he
        · rename_i b o
          rw [Option.map_eq_some_iff] at he
          obtain ⟨⟨ss, H2⟩, hon, he⟩ := he
          simp only [Prod.mk.injEq] at he
          obtain ⟨rfl, rfl⟩ := he
          have hlen := onStrs_len hon
          refine ⟨by omega, fun base F μ w args' hh hfree ha => ?_⟩
          cases ha with
          | cons hx hn =>
            cases hn
            cases hx with
            | sliceZ p p' => exact absurd rfl h0
            | sliceE p p' => exact absurd rfl h0
            | slice hl hnc hc ht =>
              rename_i c' l
              obtain ⟨e1, e2, e3, e4, e5⟩ := onStrs_ok hh hl hon
              have := hs l.blk (l.sh + o) c' ss w e2 e3 (by omega)
              rw [e1] at this
              refine Calls.mono this ?_
              rintro e w' ⟨rfl, q, os, rfl⟩
              rw [Lib.sorted_world encStr w l.blk (l.sh + o) q ss.toArray _ os e2 (by simp)]
              obtain ⟨f1, f2⟩ := e5 q
              have hold := grow_old ((w.drewN q).setCells l.blk (l.sh + o) ((ss.mergeSort fun x y => decide (x ≤ y)).map encStr)) os
              refine ⟨_, μ, rfl, ⟨MuLe.refl _, fun _ _ => rfl, f1.world hold (by simp [grow]), ?_, by omega⟩, .undef _⟩
              refine f2.trans ⟨rfl, rfl, rfl, by simp [grow], fun k hk => hold k (hk.elim (fun z => Nat.lt_of_lt_of_le z f1.base_le) (f1.far k))⟩
        · simp at he
  · simp at he

theorem compactX_ok {f : FuncId} (hs : ∀ (blk off cap : Nat) (zs : List (List UInt8)) (w : World), Holds encStr w blk off zs.toArray → zs.length ≤ 9223372036854775807 → zs.length ≤ cap →
      Calls P f #[.slice (some ⟨blk, off, none⟩) zs.length cap] w fun e w' => e = .returned (.slice (some ⟨blk, off, none⟩) (Lib.compact zs).length cap) ∧ ∃ q, w' = putRow encStr (Sort.ahead w q) blk off (Lib.compact zs ++ List.replicate (zs.length - (Lib.compact zs).length) []).toArray)
    (hz : ∀ (a : Option Addr) (cap : Nat) (w : World), Calls P f #[.slice a 0 cap] w fun e w' => e = .returned (.slice a 0 cap) ∧ w' = w) : ExtOk P f compactX := by
  intro args H v H1 he
  unfold compactX at he
  split at he
  · rename_i a n c
    split at he
    · rename_i h0
      subst h0
      simp only [Option.some.injEq, Prod.mk.injEq] at he
      obtain ⟨rfl, rfl⟩ := he
      refine ⟨Nat.le_refl _, fun base F μ w args' hh hfree ha => ?_⟩
      cases ha with
      | cons hx hn =>
        cases hn
        rename_i x'
        have : ∃ p c', x' = .slice p 0 c' := by cases hx <;> exact ⟨_, _, rfl⟩
        obtain ⟨p, c', rfl⟩ := this
        refine Calls.mono (hz p c' w) ?_
        rintro e w' ⟨rfl, rfl⟩
        exact ⟨_, μ, rfl, Goes.refl hh, hx⟩
    · rename_i h0
      split at he
      · simp at he
      · rename_i hbig
        split at he
        · rename_i b o
          rw [Option.map_eq_some_iff] at he
          obtain ⟨⟨ss, H2⟩, hon, he⟩ := he
          simp only [Prod.mk.injEq] at he
          obtain ⟨rfl, rfl⟩ := he
          have hlen := onStrs_len hon
          refine ⟨by omega, fun base F μ w args' hh hfree ha => ?_⟩
          cases ha with
          | cons hx hn =>
            cases hn
            cases hx with
            | sliceZ p p' => exact absurd rfl h0
            | sliceE p p' => exact absurd rfl h0
            | slice hl hnc hc ht =>
              rename_i c' l
              obtain ⟨e1, e2, e3, e4, e5⟩ := onStrs_ok hh hl hon
              have hle := Lib.compact_length_le ss
              have := hs l.blk (l.sh + o) c' ss w e2 (by omega) (by omega)
              rw [e1] at this
              refine Calls.mono this ?_
              rintro e w' ⟨rfl, q, rfl⟩
              rw [← e1, Lib.putRow_eq_setCells encStr w l.blk (l.sh + o) ss.toArray _ q e2 (by simp; omega)]
              obtain ⟨f1, f2⟩ := e5 q
              exact ⟨_, μ, rfl, ⟨MuLe.refl _, fun _ _ => rfl, f1, f2, by omega⟩, .slice hl (by omega) hc ht⟩
        · simp at he
  · simp at he

end Go.Proofs.Ytdhbclplondmjaa.C

/- The table in which the proofs are led: known, the checks of one relation, sorting are given by what they do. -/
namespace Go.Proofs.Ytdhbclplondmjaa.C
open Go.RowKit

/-- For the examples: the five functions by their runs. -/
noncomputable def extK : FuncId → Option ExtF := fun f =>
  bif Nat.beq f 17 then some (subX (runF 300) 17) else
  bif Nat.beq f 24 then some (subX (runF 300) 24) else
  bif Nat.beq f 16 then some (subX (runF 300) 16) else
  bif Nat.beq f 28 then some (subX (runF 300) 28) else
  bif Nat.beq f 12 then some (subX (runG 301) 12) else
  bif Nat.beq f 27 then some (pureB tab0 27) else none

theorem bif_key {k f : Nat} {a b : Option ExtF} {e : ExtF} (h : (bif Nat.beq f k then a else b) = some e) : (f = k ∧ a = some e) ∨ b = some e := by
  cases z : Nat.beq f k with
  | true => rw [z] at h; exact .inl ⟨Nat.eq_of_beq_eq_true z, h⟩
  | false => rw [z] at h; exact .inr h

theorem extK_ok : ∀ f e, extK f = some e → ExtOk Try.prog f e ∧ (lookF fns f).isSome = true := by
  intro f e h
  unfold extK at h
  rcases bif_key h with ⟨rfl, h⟩ | h
  · have h := Option.some.inj h; subst h; exact ⟨subX_ok (runF_sound _) _, rfl⟩
  rcases bif_key h with ⟨rfl, h⟩ | h
  · have h := Option.some.inj h; subst h; exact ⟨subX_ok (runF_sound _) _, rfl⟩
  rcases bif_key h with ⟨rfl, h⟩ | h
  · have h := Option.some.inj h; subst h; exact ⟨subX_ok (runF_sound _) _, rfl⟩
  rcases bif_key h with ⟨rfl, h⟩ | h
  · have h := Option.some.inj h; subst h; exact ⟨subX_ok (runF_sound _) _, rfl⟩
  rcases bif_key h with ⟨rfl, h⟩ | h
  · have h := Option.some.inj h; subst h; exact ⟨subX_ok (runG_sound _) _, rfl⟩
  rcases bif_key h with ⟨rfl, h⟩ | h
  · have h := Option.some.inj h; subst h; exact ⟨pureB_ok fits0 _, rfl⟩
  · simp at h

noncomputable def tabK : Tab := tabE extK
theorem fitsK : Fits Try.prog tabK := fitsE extK_ok

noncomputable def extB : FuncId → Option ExtF := fun f =>
  bif Nat.beq f 9 then some (pureB tabK 9) else
  bif Nat.beq f 43 then some (pureB tab0 43) else
  bif Nat.beq f 30 then some (pureB tab0 30) else
  bif Nat.beq f 25 then some (pureB tab0 25) else
  bif Nat.beq f 27 then some (pureB tab0 27) else
  bif Nat.beq f 51 then some sortX else
  bif Nat.beq f 52 then some compactX else none

theorem extB_ok : ∀ f e, extB f = some e → ExtOk Try.prog f e ∧ (lookF fns f).isSome = true := by
  intro f e h
  unfold extB at h
  rcases bif_key h with ⟨rfl, h⟩ | h
  · have h := Option.some.inj h; subst h; exact ⟨pureB_ok fitsK _, rfl⟩
  rcases bif_key h with ⟨rfl, h⟩ | h
  · have h := Option.some.inj h; subst h; exact ⟨pureB_ok fits0 _, rfl⟩
  rcases bif_key h with ⟨rfl, h⟩ | h
  · have h := Option.some.inj h; subst h; exact ⟨pureB_ok fits0 _, rfl⟩
  rcases bif_key h with ⟨rfl, h⟩ | h
  · have h := Option.some.inj h; subst h; exact ⟨pureB_ok fits0 _, rfl⟩
  rcases bif_key h with ⟨rfl, h⟩ | h
  · have h := Option.some.inj h; subst h; exact ⟨pureB_ok fits0 _, rfl⟩
  rcases bif_key h with ⟨rfl, h⟩ | h
  · have h := Option.some.inj h; subst h
    exact ⟨sortX_ok (fun blk off cap ss w h1 h2 h3 => Try.slices_Sort_string blk off cap ss w h1 h2 h3) (fun p cap w => Try.slices_Sort_string_none p cap w), rfl⟩
  rcases bif_key h with ⟨rfl, h⟩ | h
  · have h := Option.some.inj h; subst h
    exact ⟨compactX_ok (fun blk off cap zs w h1 h2 h3 => Try.slices_Compact_string blk off cap zs w h1 h2 h3) (fun a cap w => Try.slices_Compact_string_empty a cap w), rfl⟩
  · simp at h

noncomputable def tab : Tab := tabE extB
theorem fitsB : Fits Try.prog tab := fitsE extB_ok

end Go.Proofs.Ytdhbclplondmjaa.C

/- Names and relations in the memory; the law's own functions on them. -/
set_option linter.unusedVariables false
set_option maxRecDepth 100000
namespace Go.Proofs.Ytdhbclplondmjaa.C
open Go.RowKit

abbrev Nm := List UInt8
abbrev str (x : Nm) : Value := .string ⟨x.toArray⟩
abbrev nat (k : Nat) : Value := .int .i64 (k : Int)

def strs (xs : List Nm) : List (List Value) := xs.map fun x => [str x]
theorem strs_len (xs : List Nm) : (strs xs).length = xs.length := by simp [strs]
theorem strs_get {xs : List Nm} {k : Nat} (h : k < xs.length) : (strs xs)[k]? = some [str xs[k]] := by simp [strs, h]
theorem strs_sz (xs : List Nm) : ∀ e ∈ strs xs, e.length = 1 := by simp [strs]

/-- A relation. -/
structure Rel where
  kind : Nat
  up : Nm
  lo : Nm

abbrev relC (r : Rel) : List Value := [nat r.kind, str r.up, str r.lo]
def rels (l : List Rel) : List (List Value) := l.map relC
theorem rels_len (l : List Rel) : (rels l).length = l.length := by simp [rels]
theorem rels_get {l : List Rel} {k : Nat} (h : k < l.length) : (rels l)[k]? = some (relC l[k]) := by simp [rels, h]
theorem rels_sz (l : List Rel) : ∀ e ∈ rels l, e.length = 3 := by simp [rels]

theorem str_eq {x y : Nm} : ((ByteArray.mk x.toArray).toList == (ByteArray.mk y.toArray).toList) = decide (x = y) := by
  rw [ByteArray.toList_mk, ByteArray.toList_mk]; by_cases h : x = y <;> simp [h]

/-- The index of a name, or -1. -/
def indexOf (xs : List Nm) (x : Nm) : Int := match xs.idxOf? x with | some k => k | none => -1

theorem indexOf_at {xs : List Nm} {x : Nm} {k : Nat} (h : k < xs.length) (hx : xs[k] = x) (hne : ∀ i (hi : i < k) (hk : i < xs.length), xs[i] ≠ x) : indexOf xs x = k := by
  have : xs.idxOf? x = some k := by
    rw [List.idxOf?, List.findIdx?_eq_some_iff_getElem]
    exact ⟨h, by simpa using hx, fun i hi => by simpa using hne i hi (by omega)⟩
  simp [indexOf, this]

theorem indexOf_none {xs : List Nm} {x : Nm} (hne : ∀ i (hk : i < xs.length), xs[i] ≠ x) : indexOf xs x = -1 := by
  have : xs.idxOf? x = none := by
    rw [List.idxOf?_eq_none_iff]
    intro h
    obtain ⟨i, hi, e⟩ := List.mem_iff_getElem.1 h
    exact hne i hi e
  simp [indexOf, this]

theorem index_runs {H : Heap} {v : Value} {xs : List Nm} (x : Nm) (h : Sl H 1 v (strs xs)) (hx : xs.length < 2 ^ 40) :
    big tab 22 [v, str x] H = some (.int .i64 (indexOf xs x), H) := by
  obtain ⟨a, c, rfl, hc, hcs⟩ := h
  rw [strs_len] at *
  have goal : ∃ r H1, big tab 22 [.slice a xs.length c, str x] H = some (r, H1) ∧ H1 = H ∧ r = .int .i64 (indexOf xs x) := by
    refine big_of_runs rfl rfl rfl ?_
    obtain ⟨z, hz⟩ := startC_mkS Try.f22 [.slice a xs.length c, str x]
    rw [show startC (22, Try.f22).snd [Value.slice a xs.length c, str x] = _ from hz]
    refine Runs.seq (Runs.region ?_)
    repeat refine Rg.opp rfl rfl rfl rfl rfl ?_
    refine Rg.nil ?_
    refine Runs.seq (Runs.seq (Runs.region ?_))
    repeat refine Rg.opp rfl rfl rfl rfl rfl ?_
    refine Rg.nil ?_
    refine Runs.block ?_
    refine Runs.loop (fun m s H1 => H1 = H ∧ ∃ k, k ≤ xs.length ∧ m = xs.length - k ∧ (∀ i (hi : i < k) (hk : i < xs.length), xs[i] ≠ x) ∧ Is s 19 [(0, .slice a xs.length c), (1, str x), (5, nat k)]) _ ⟨rfl, 0, Nat.zero_le _, rfl, by intro i hi; omega, Is.of ⟨rfl, rfl, rfl, rfl, rfl, rfl, trivial⟩⟩ ?_
    rintro m s _ ⟨rfl, k, hk, rfl, hne, hs⟩
    obtain ⟨a0, rfl⟩ := hs.mk1
    refine Runs.seq (Runs.seq (Runs.region ?_))
    repeat refine Rg.opp rfl rfl rfl rfl rfl ?_
    refine Rg.nil ?_
    refine Runs.cond _ rfl (fun hlt => ?_) (fun hlt => ?_)
    · refine Runs.skip ?_
      have hlt : k < xs.length := by have := of_decide_eq_true hlt; omega
      obtain ⟨b, o, rfl, hsz, hr⟩ := hcs.lt (i := k) (by rw [strs_len]; exact hlt)
      refine Runs.seq (Runs.block ?_)
      refine Runs.seq (Runs.region ?_)
      repeat refine Rg.opp rfl rfl rfl rfl rfl ?_
      refine Rg.opp rfl rfl rfl (ev_at rfl rfl rfl rfl (by decide) hlt) rfl ?_
      refine Rg.opp rfl rfl rfl (ev_load1 rfl rfl (hr k _ (strs_get hlt)) rfl) rfl ?_
      repeat refine Rg.opp rfl rfl rfl rfl rfl ?_
      refine Rg.nil ?_
      refine Runs.cond _ rfl (fun heq => ?_) (fun heq => ?_)
      · refine Runs.seq (Runs.region ?_)
        repeat refine Rg.opp rfl rfl rfl rfl rfl ?_
        refine Rg.nil ?_
        refine Runs.ret ⟨_, rfl, rfl, ?_⟩
        rw [indexOf_at hlt (by simpa using heq) hne]; rfl
      · refine Runs.skip ?_
        refine Runs.region ?_
        repeat refine Rg.opp rfl rfl rfl rfl rfl ?_
        refine Rg.nil ?_
        refine ⟨xs.length - (k + 1), by omega, rfl, k + 1, hlt, rfl, ?_, Is.of ⟨rfl, rfl, rfl, rfl, rfl, congrArg (Value.int .i64) (wrap_succ (by omega)), trivial⟩⟩
        intro i hi hk2
        rcases Nat.lt_or_ge i k with q | q
        · exact hne i q hk2
        · have : i = k := by omega
          subst this; simpa using heq
    · refine Runs.exit ?_
      refine Runs.seq (Runs.region ?_)
      repeat refine Rg.opp rfl rfl rfl rfl rfl ?_
      refine Rg.nil ?_
      refine Runs.ret ⟨_, rfl, rfl, ?_⟩
      have : k = xs.length := by have := of_decide_eq_false hlt; omega
      rw [indexOf_none fun i hi => hne i (by omega) hi]; rfl
  obtain ⟨r, H1, h1, rfl, rfl⟩ := goal
  exact h1

/-! ### Functions of plain values -/

theorem arc_runs (k : Nat) (u l : Nm) (H : Heap) : big tab 25 [.agg #[nat k, str u, str l]] H = some (.bool (decide (k ≠ 4)), H) := by
  refine big_ext (T := tab) (f := 25) rfl ?_
  have h : callC tab0 20 25 [.agg #[nat k, str u, str l]] [] = some (.bool ((k : Int) != 4), [.row 3 [nat k, str u, str l] true true]) := rfl
  have e : ((k : Int) != 4) = decide (k ≠ 4) := by
    by_cases q : k = 4
    · subst q; rfl
    · have : (k : Int) ≠ 4 := by omega
      simp [q, this]
  rw [e] at h
  exact pureB_is 20 rfl h rfl H

/-- The names of the units. -/
def nm (i : Nat) : Nm := [65 + UInt8.ofNat i]

theorem name_runs (i : Nat) (hi : i < 6) (H : Heap) : big tab 30 [nat i] H = some (str (nm i), H) := by
  refine big_ext (T := tab) (f := 30) rfl ?_
  have : ∃ E, callC tab0 20 30 [nat i] [] = some (str (nm i), E) := by
    match i, hi with
    | 0, _ => exact ⟨_, rfl⟩
    | 1, _ => exact ⟨_, rfl⟩
    | 2, _ => exact ⟨_, rfl⟩
    | 3, _ => exact ⟨_, rfl⟩
    | 4, _ => exact ⟨_, rfl⟩
    | 5, _ => exact ⟨_, rfl⟩
  obtain ⟨E, h⟩ := this
  exact pureB_is 20 rfl h rfl H

end Go.Proofs.Ytdhbclplondmjaa.C

/- The law's Make. -/
set_option linter.unusedVariables false
set_option maxRecDepth 100000
namespace Go.Proofs.Ytdhbclplondmjaa.C
open Go.RowKit

/-- What describes a relation. -/
structure Seen where
  k : Nat
  u : Nat
  l : Nat

abbrev u8 (x : Nat) : Value := .int .u8 (x : Int)
def seens (xs : List Seen) : List (List Value) := xs.map fun s => [u8 s.k, u8 s.u, u8 s.l]
theorem seens_len (xs : List Seen) : (seens xs).length = xs.length := by simp [seens]
theorem seens_get {xs : List Seen} {i : Nat} (h : i < xs.length) : (seens xs)[i]? = some [u8 xs[i].k, u8 xs[i].u, u8 xs[i].l] := by simp [seens, h]

def mkA (s : Seen) : Nat := s.u % 6
def mkB (s : Seen) : Nat := if s.u % 6 = s.l % 6 then (s.u % 6 + 1) % 6 else s.l % 6
def mk (s : Seen) : Rel := ⟨1 + s.k % 4, nm (mkA s), nm (mkB s)⟩

section
variable {T : Tab} {s : List Value} {H : Heap}

theorem ev_bin {op : BinOp} {t t2 : TypeId} {x y : Operand} {k : IntKind} {a b : Int} {v : Value} (hx : ev s x = .int k a) (hy : ev s y = .int k b) (hop : op ≠ .shl ∧ op ≠ .shr) (h : binInt op k a b = some v) : opEval T s H (.binOp op t x y t2) = some (v, H) := by
  have : binOp T op t (.int k a) (.int k b) = some v := by
    unfold binOp
    cases op <;> simp_all
  simp only [opEval, hx, hy, this, Option.map_some]

theorem ev_lt {t t2 : TypeId} {x y : Operand} {k : IntKind} {a b : Int} (p : Bool) (hx : ev s x = .int k a) (hy : ev s y = .int k b) (h : decide (a < b) = p) : opEval T s H (.binOp .lss t x y t2) = some (.bool p, H) :=
  ev_bin hx hy (by decide) (by simp [binInt, h])
theorem ev_eq {t t2 : TypeId} {x y : Operand} {k : IntKind} {a b : Int} (p : Bool) (hx : ev s x = .int k a) (hy : ev s y = .int k b) (h : decide (a = b) = p) : opEval T s H (.binOp .eql t x y t2) = some (.bool p, H) :=
  ev_bin hx hy (by decide) (by subst h; simp [binInt]; by_cases q : a = b <;> simp [q])

theorem ev_rem {t t2 : TypeId} {x y : Operand} {k : IntKind} {a b : Nat} (hx : ev s x = .int k (a : Nat)) (hy : ev s y = .int k (b : Nat)) (hb : b ≠ 0) : opEval T s H (.binOp .rem t x y t2) = some (.int k ((a % b : Nat) : Int), H) := by
  refine ev_bin hx hy (by decide) ?_
  have : (b : Int) ≠ 0 := by omega
  simp only [binInt, if_neg this]
  rw [← Int.ofNat_tmod]

theorem ev_conv {src dst : TypeId} {x : Operand} {k : IntKind} {a : Nat} (hx : ev s x = .int k (a : Nat)) (h1 : T.d src = some (.int k)) (h2 : T.d dst = some (.int .i64)) (ha : a < 2 ^ 62) : opEval T s H (.convert src dst x) = some (nat a, H) := by
  simp only [opEval, hx, vConvert, h1, h2, wrap_nat ha]

theorem ev_addn {t t2 : TypeId} {x y : Operand} {a b : Nat} (hx : ev s x = .int .i64 (a : Nat)) (hy : ev s y = .int .i64 (b : Nat)) (hb : a + b < 2 ^ 62) : opEval T s H (.binOp .add t x y t2) = some (nat (a + b), H) := by
  refine ev_bin hx hy (by decide) ?_
  simp only [binInt]
  rw [show ((a : Int) + (b : Int)) = ((a + b : Nat) : Int) by omega, wrap_nat hb]

/-- A field of an element. -/
theorem ev_fld {t : TypeId} {x : Operand} {f : Nat} {i k : TI} {fs : List (TypeId × Nat)} {p : TypeId × Nat} {b o : Nat} (hx : ev s x = .pointer (some ⟨b, o, none⟩)) (ht : T.T t = some i) (hd : i.desc = .struct fs) (hf : fs[f]? = some p) (hk : T.T p.1 = some k) (hp : 0 < k.size) :
    opEval T s H (.fieldAddr t x f) = some (.pointer (some ⟨b, o + p.2, none⟩), H) := by
  simp only [opEval, hx, vFieldAddr, ht, hd, hf, hk, Option.bind_eq_bind, Option.bind_some, if_pos hp, Option.map_some]

end

/-- A cell among cells. -/
theorem read_one {H : Heap} {b o n j : Nat} {cs : List Value} {v : Value} (h : readCells H b o n = some cs) (hj : cs[j]? = some v) : readCells H b (o + j) 1 = some [v] := by
  unfold readCells at *
  split at h
  · rename_i sz all own hb
    split at h
    · rename_i hle
      simp only [Option.some.injEq] at h
      subst h
      have hlt := (List.getElem?_eq_some_iff.1 hj).1
      simp at hlt
      rw [if_pos (by omega)]
      rw [List.getElem?_take_of_lt (by omega), List.getElem?_drop] at hj
      rw [show (all.drop (o + j)).take 1 = [v] from ?_]
      have h1 := (List.getElem?_eq_some_iff.1 hj)
      obtain ⟨h1, h2⟩ := h1
      rw [List.drop_eq_getElem_cons h1, h2]
      rfl
    · simp at h
  · simp at h

theorem mk_le (s : Seen) : mkA s < 6 ∧ mkB s < 6 := by
  unfold mkA mkB
  constructor
  · omega
  · split <;> omega

theorem evW_op {T : Tab} {call : CallF} {s : List Value} {H : Heap} {o : Op} {r : Value × Heap} (h : opEval T s H o = some r) : evalOp T call s H o = some r := by unfold evalOp; rw [h]

theorem quiet_pure {T : Tab} {f : FuncId} {args : List Value} {v : Value} (h : ∀ K, big T f args K = some (v, K)) (H : Heap) : quiet (big T) f args H = some (v, H) := by
  unfold quiet
  rw [h]
  simp

theorem acc_inPlace {s : List Value} {H : Heap} {x y : Operand} {ats : Array TypeId} {lo sz p m c2 : Nat} {w : Value} {a2 : Option Addr} {es : List (List Value)} (h : Acc H lo sz w es p) (hx : ev s x = w) (hy : ev s y = .slice a2 m c2) : inPlace s (.call { callee := .builtin .append, args := #[x, y], argTypes := ats }) = false := by
  unfold inPlace
  simp only [List.map_cons, List.map_nil, hx, hy]
  obtain ⟨_, ⟨_, rfl⟩ | ⟨rfl, _, _⟩⟩ := h
  · simp; intro _ h; omega
  · simp

theorem make_runs {H : Heap} {v : Value} {xs : List Seen} (h : Sl H 3 v (seens xs)) (hsm : ∀ s ∈ xs, s.k < 256 ∧ s.u < 256 ∧ s.l < 256) (hxl : xs.length < 2 ^ 60) :
    ∃ r H1, big tab 11 [v] H = some (r, H1) ∧ Ext H H1 ∧ ∃ p, Acc H1 H.length 3 r (rels ((xs.take 8).map mk)) p := by
  obtain ⟨a, c, rfl, hc, hcs⟩ := h
  simp only [seens_len] at *
  refine big_of_runs rfl rfl rfl ?_
  obtain ⟨z, hz⟩ := startC_mkS Try.f11 [.slice a xs.length c]
  rw [show startC (11, Try.f11).snd [Value.slice a xs.length c] = _ from hz]
  refine Runs.seq (Runs.region ?_)
  repeat refine Rg.opp rfl rfl rfl rfl rfl ?_
  refine Rg.nil ?_
  refine Runs.seq (Runs.region ?_)
  repeat refine Rg.opp rfl rfl rfl rfl rfl ?_
  refine Rg.nil ?_
  refine Runs.seq (Runs.seq (Runs.region ?_))
  repeat refine Rg.opp rfl rfl rfl rfl rfl ?_
  refine Rg.nil ?_
  refine Runs.block ?_
  refine Runs.loop (fun m s H1 => ∃ k w p, k ≤ xs.length ∧ k ≤ 8 ∧ m = 8 - k ∧ Ext H H1 ∧ Acc H1 H.length 3 w (rels ((xs.take k).map mk)) p ∧ Is s 54 [(0, .slice a xs.length c), (3, w), (4, nat k)]) _
    ⟨0, .slice none 0 0, 0, Nat.zero_le _, Nat.zero_le _, rfl, Ext.refl H, Acc.nil _ _ _ _, Is.of ⟨rfl, rfl, rfl, rfl, rfl, rfl, trivial⟩⟩ ?_
  rintro m s H1 ⟨k, w, p, hk, hk8, rfl, he, hacc, hs⟩
  obtain ⟨a0, rfl⟩ := hs.mk1
  have hend : k = xs.length ∨ k = 8 → ∃ v1, resultsC tab Try.f11 (mkS 54 a0 [(2, w), (53, w), (0, .slice a xs.length c), (3, w), (4, nat k)]) H1 = some v1 ∧ Ext H H1 ∧ ∃ p, Acc H1 H.length 3 v1 (rels ((xs.take 8).map mk)) p := by
    intro hor
    refine ⟨w, rfl, he, p, ?_⟩
    rcases hor with rfl | rfl
    · rw [List.take_of_length_le (Nat.le_refl _)] at hacc
      rw [List.take_of_length_le hk8]; exact hacc
    · exact hacc
  by_cases hlt : k < xs.length
  · by_cases hlt8 : k < 8
    · refine Runs.seq (Runs.seq (Runs.region ?_))
      refine Rg.opp rfl rfl rfl rfl rfl ?_
      refine Rg.opp rfl rfl rfl rfl rfl ?_
      refine Rg.opp rfl rfl rfl rfl rfl ?_
      refine Rg.opp rfl rfl rfl (ev_lt true rfl rfl (by simp; omega)) rfl ?_
      refine Rg.opp rfl rfl rfl rfl rfl ?_
      refine Rg.guards true rfl rfl rfl (fun _ => ⟨_, _, evW_op rfl, rfl, ?_⟩) (fun h => by cases h)
      refine Rg.guards true rfl rfl rfl (fun _ => ⟨_, _, evW_op (ev_lt true rfl rfl (by simp; omega)), rfl, ?_⟩) (fun h => by cases h)
      refine Rg.opp rfl rfl rfl rfl rfl ?_
      refine Rg.nil ?_
      refine Runs.cond true rfl (fun _ => ?_) (fun h => by cases h)
      refine Runs.skip ?_
      have hcs1 := hcs.sees he.sees
      obtain ⟨b, o, rfl, hsz, hr⟩ := hcs1.lt (i := k) (by rw [seens_len]; exact hlt)
      have hrk := hr k _ (seens_get hlt)
      obtain ⟨q1, q2, q3⟩ := hsm xs[k] (List.getElem_mem hlt)
      refine Runs.cut (n := 54) (l := [(0, .slice (some ⟨b, o, none⟩) xs.length c), (3, w), (4, nat k)]) (Is.of ⟨rfl, rfl, rfl, rfl, rfl, rfl, trivial⟩) (fun a1 => ?_)
      refine Runs.seq (Runs.block ?_)
      refine Runs.seq (Runs.drawn (is := List.range 16) (by decide +kernel) ?_)
      refine Rg.opp rfl rfl rfl rfl rfl ?_
      refine Rg.opp rfl rfl rfl rfl rfl ?_
      refine Rg.opp rfl rfl rfl (ev_at rfl rfl rfl rfl (by decide) hlt) rfl ?_
      refine Rg.opp rfl rfl rfl (ev_fld rfl rfl rfl rfl rfl (by decide)) rfl ?_
      refine Rg.opp rfl rfl rfl (ev_load1 rfl rfl (read_one hrk (j := 1) rfl) rfl) rfl ?_
      refine Rg.opp rfl rfl rfl (ev_rem (b := 6) rfl rfl (by decide)) rfl ?_
      refine Rg.opp rfl rfl rfl (ev_conv rfl rfl rfl (by omega)) rfl ?_
      refine Rg.opp rfl rfl rfl rfl rfl ?_
      refine Rg.opp rfl rfl rfl rfl rfl ?_
      refine Rg.opp rfl rfl rfl (ev_at rfl rfl rfl rfl (by decide) hlt) rfl ?_
      refine Rg.opp rfl rfl rfl (ev_fld rfl rfl rfl rfl rfl (by decide)) rfl ?_
      refine Rg.opp rfl rfl rfl (ev_load1 rfl rfl (read_one hrk (j := 2) rfl) rfl) rfl ?_
      refine Rg.opp rfl rfl rfl (ev_rem (b := 6) rfl rfl (by decide)) rfl ?_
      refine Rg.opp rfl rfl rfl (ev_conv rfl rfl rfl (by omega)) rfl ?_
      refine Rg.opp rfl rfl rfl rfl rfl ?_
      refine Rg.opp rfl rfl rfl rfl rfl ?_
      refine Rg.nil ?_
      refine Runs.cut (n := 54) (l := [(0, .slice (some ⟨b, o, none⟩) xs.length c), (3, w), (4, nat k), (5, nat (mkA xs[k])), (6, nat (xs[k].l % 6))]) (Is.of ⟨rfl, rfl, rfl, rfl, rfl, rfl, rfl, rfl, rfl, rfl, trivial⟩) (fun a2 => ?_)
      refine Runs.seq (Runs.mono (N := fun s H2 => H1 = H2 ∧ Is s 54 [(0, .slice (some ⟨b, o, none⟩) xs.length c), (3, w), (4, nat k), (5, nat (mkA xs[k])), (6, nat (mkB xs[k]))]) (X := fun _ _ _ => False) (R := fun _ _ => False) ?_ ?_ (fun _ _ _ h => h.elim) (fun _ _ h => h.elim))
      · refine Runs.seq (Runs.region ?_)
        refine Rg.opp rfl rfl rfl rfl rfl ?_
        refine Rg.opp rfl rfl rfl rfl rfl ?_
        by_cases hab : xs[k].u % 6 = xs[k].l % 6
        · refine Rg.opp rfl rfl rfl (ev_eq true rfl rfl (decide_eq_true (by unfold mkA; omega))) rfl ?_
          refine Rg.nil ?_
          refine Runs.cond true rfl (fun _ => ?_) (fun h => by cases h)
          refine Runs.region ?_
          refine Rg.opp rfl rfl rfl rfl rfl ?_
          refine Rg.opp rfl rfl rfl (ev_addn (b := 1) rfl rfl (by have := (mk_le xs[k]).1; omega)) rfl ?_
          refine Rg.opp rfl rfl rfl (ev_rem (b := 6) rfl rfl (by decide)) rfl ?_
          refine Rg.opp rfl rfl rfl rfl rfl ?_
          refine Rg.nil ⟨rfl, Is.of ⟨rfl, rfl, rfl, rfl, rfl, rfl, rfl, rfl, rfl, ?_, trivial⟩⟩
          show nat ((mkA xs[k] + 1) % 6) = nat (mkB xs[k])
          rw [mkB, if_pos hab]; rfl
        · refine Rg.opp rfl rfl rfl (ev_eq false rfl rfl (decide_eq_false (by unfold mkA; omega))) rfl ?_
          refine Rg.nil ?_
          refine Runs.cond false rfl (fun h => by cases h) (fun _ => ?_)
          refine Runs.skip ⟨rfl, Is.of ⟨rfl, rfl, rfl, rfl, rfl, rfl, rfl, rfl, rfl, ?_, trivial⟩⟩
          show nat (xs[k].l % 6) = nat (mkB xs[k])
          rw [mkB, if_neg hab]
      · rintro s _ ⟨rfl, hs⟩
        obtain ⟨a3, rfl⟩ := hs.mk1
        obtain ⟨hA, hB⟩ := mk_le xs[k]
        refine Runs.drawn (is := List.range 17) (by decide +kernel) ?_
        refine Rg.opp rfl rfl rfl rfl rfl ?_
        refine Rg.opp rfl rfl rfl rfl rfl ?_
        refine Rg.opp rfl rfl rfl rfl rfl ?_
        refine Rg.opp rfl rfl rfl (ev_at rfl rfl rfl rfl (by decide) hlt) rfl ?_
        refine Rg.opp rfl rfl rfl (ev_fld rfl rfl rfl rfl rfl (by decide)) rfl ?_
        refine Rg.opp rfl rfl rfl (ev_load1 rfl rfl (read_one hrk (j := 0) rfl) rfl) rfl ?_
        refine Rg.opp rfl rfl rfl (ev_rem (b := 4) rfl rfl (by decide)) rfl ?_
        refine Rg.opp rfl rfl rfl (ev_conv rfl rfl rfl (by omega)) rfl ?_
        refine Rg.opp rfl rfl rfl (ev_addn (a := 1) rfl rfl (by omega)) rfl ?_
        refine Rg.opp rfl rfl rfl rfl rfl ?_
        refine Rg.calls rfl rfl rfl rfl rfl rfl (quiet_pure (fun K => name_runs _ hA K) _) ?_
        refine Rg.opp rfl rfl rfl rfl rfl ?_
        refine Rg.calls rfl rfl rfl rfl rfl rfl (quiet_pure (fun K => name_runs _ hB K) _) ?_
        refine Rg.opp rfl rfl rfl rfl rfl ?_
        refine Rg.opp rfl rfl rfl rfl rfl ?_
        have hkeep : Acc (H1 ++ [Blk.row 3 (relC (mk xs[k])) true true]) H.length 3 w (rels ((xs.take k).map mk)) p := hacc.keep fun b X hb _ => by rw [List.getElem?_append_left (List.getElem?_eq_some_iff.1 hb).1]; exact hb
        have hsrc : srcCells (H1 ++ [Blk.row 3 (relC (mk xs[k])) true true]) (some ⟨H1.length, 0, none⟩) [relC (mk xs[k])].length 3 = some [relC (mk xs[k])].flatten := by
          have : (H1 ++ [Blk.row 3 (relC (mk xs[k])) true true])[H1.length]? = some (Blk.row 3 (relC (mk xs[k])) true true) := List.getElem?_concat_length
          simp only [srcCells, readCells, this]
          rfl
        have hlen : (rels ((xs.take k).map mk)).length = k := by simp [rels]; omega
        have hel := he.len
        obtain ⟨w2, H2, p2, happ, hacc2, hgrow⟩ := push_app (T := tab) (t := 25) (e := 41) (i := _) (ei := _) ⟨rfl, rfl, rfl, by decide⟩ hkeep (c2 := 1) hsrc (by simp [oneCell]) (by rw [hlen]; show (k + 1) * 40 ≤ 2 ^ 40; omega) (by rw [hlen]; show k + 1 ≤ 2 ^ 40; omega) (by simp; omega)
        refine Rg.opp rfl rfl rfl (ev_append rfl rfl happ) (by simp only [Bool.true_and]; exact acc_inPlace hacc rfl rfl) ?_
        refine Rg.opp rfl rfl rfl rfl rfl ?_
        refine Rg.nil ?_
        refine Runs.region ?_
        refine Rg.opp rfl rfl rfl rfl rfl ?_
        refine Rg.opp rfl rfl rfl (ev_addn (b := 1) rfl rfl (by omega)) rfl ?_
        refine Rg.opp rfl rfl rfl rfl rfl ?_
        refine Rg.nil ?_
        refine ⟨8 - (k + 1), by omega, k + 1, w2, p2, hlt, hlt8, rfl, hgrow.ext H rfl (he.row _ _), ?_, Is.of ⟨rfl, rfl, rfl, rfl, rfl, rfl, trivial⟩⟩
        rw [← List.take_append_getElem hlt, List.map_append]
        simpa [rels] using hacc2
    · have h8 : k = 8 := by omega
      refine Runs.seq (Runs.seq (Runs.region ?_))
      refine Rg.opp rfl rfl rfl rfl rfl ?_
      refine Rg.opp rfl rfl rfl rfl rfl ?_
      refine Rg.opp rfl rfl rfl rfl rfl ?_
      refine Rg.opp rfl rfl rfl (ev_lt true rfl rfl (by simp; omega)) rfl ?_
      refine Rg.opp rfl rfl rfl rfl rfl ?_
      refine Rg.guards true rfl rfl rfl (fun _ => ⟨_, _, evW_op rfl, rfl, ?_⟩) (fun h => by cases h)
      refine Rg.guards true rfl rfl rfl (fun _ => ⟨_, _, evW_op (ev_lt false rfl rfl (by simp; omega)), rfl, ?_⟩) (fun h => by cases h)
      refine Rg.opp rfl rfl rfl rfl rfl ?_
      refine Rg.nil ?_
      refine Runs.cond false rfl (fun h => by cases h) (fun _ => ?_)
      refine Runs.exit ?_
      refine Runs.seq (Runs.region ?_)
      repeat refine Rg.opp rfl rfl rfl rfl rfl ?_
      refine Rg.nil ?_
      exact Runs.ret (hend (.inr h8))
  · have h8 : k = xs.length := by omega
    refine Runs.seq (Runs.seq (Runs.region ?_))
    refine Rg.opp rfl rfl rfl rfl rfl ?_
    refine Rg.opp rfl rfl rfl rfl rfl ?_
    refine Rg.opp rfl rfl rfl rfl rfl ?_
    refine Rg.opp rfl rfl rfl (ev_lt false rfl rfl (by simp; omega)) rfl ?_
    refine Rg.opp rfl rfl rfl rfl rfl ?_
    refine Rg.guards false rfl rfl rfl (fun h => by cases h) (fun _ => ?_)
    refine Rg.guards false rfl rfl rfl (fun h => by cases h) (fun _ => ?_)
    refine Rg.opp rfl rfl rfl rfl rfl ?_
    refine Rg.nil ?_
    refine Runs.cond false rfl (fun h => by cases h) (fun _ => ?_)
    refine Runs.exit ?_
    refine Runs.seq (Runs.region ?_)
    repeat refine Rg.opp rfl rfl rfl rfl rfl ?_
    refine Rg.nil ?_
    exact Runs.ret (hend (.inl h8))

end Go.Proofs.Ytdhbclplondmjaa.C

/- The program's units. -/
set_option linter.unusedVariables false
set_option maxRecDepth 100000
namespace Go.Proofs.Ytdhbclplondmjaa.C
open Go.RowKit Go.Sort

theorem setCells_all : ∀ (zs vs pre : List Value), zs.length = vs.length → setCells (pre ++ zs) pre.length vs = pre ++ vs
  | zs, [], pre, h => by
    have : zs = [] := List.length_eq_zero_iff.1 (by simpa using h)
    subst this; simp [setCells]
  | [], v :: vs, pre, h => by simp at h
  | z :: zs, v :: vs, pre, h => by
    unfold setCells
    have := setCells_all zs vs (pre ++ [v]) (by simpa using h)
    simp only [List.append_assoc, List.singleton_append, List.length_append, List.length_singleton] at this
    rw [show (pre ++ z :: zs).set pre.length v = pre ++ v :: zs by simp]
    exact this
theorem setCells_whole {zs vs : List Value} (h : zs.length = vs.length) : setCells zs 0 vs = vs := by
  simpa using setCells_all zs vs [] h

theorem setCells_pre : ∀ (vs zs : List Value) (k : Nat), vs.length = k → k ≤ zs.length → setCells zs 0 vs = vs ++ zs.drop k
  | vs, zs, k, h, hk => by
    have := setCells_all (zs.take k) vs [] (by simp; omega)
    have key : ∀ (vs a b : List Value) (o : Nat), o + vs.length ≤ a.length → setCells (a ++ b) o vs = setCells a o vs ++ b := by
      intro vs
      induction vs with
      | nil => intro a b o _; rfl
      | cons v vs ih =>
        intro a b o ho
        simp only [List.length_cons] at ho
        unfold setCells
        rw [List.set_append_left _ _ (by omega)]
        exact ih _ _ _ (by simp; omega)
    have h2 := key vs (zs.take k) (zs.drop k) 0 (by simp; omega)
    rw [List.take_append_drop] at h2
    rw [h2, setCells_whole (by simp; omega)]

theorem write_whole {H : Heap} {b sz : Nat} {zs vs : List Value} (h : H[b]? = some (.row sz zs true true)) (hl : zs.length = vs.length) (ho : vs.all oneCell = true) : writeCells H b 0 vs = some (H.set b (.row sz vs true true)) := by
  have : 0 + vs.length ≤ zs.length := by omega
  simp only [writeCells, ho, if_true, h, if_pos this, setCells_whole hl]

/-- A variable that has just been laid is set. -/
theorem ev_set {T : Tab} {s : List Value} {K : Heap} {t : TypeId} {a v : Operand} {i : TI} {sz : Nat} {zs cs : List Value} (ha : ev s a = .pointer (some ⟨K.length, 0, none⟩)) (hv : ev s v = .agg cs.toArray) (hT : T.T t = some i) (hl : zs.length = cs.length) (hi : cs.length = i.size) (ho : cs.all oneCell = true) :
    opEval T s (K ++ [.row sz zs true true]) (.store t a v) = some (undef, K ++ [.row sz cs true true]) := by
  have hb : (K ++ [Blk.row sz zs true true])[K.length]? = some (.row sz zs true true) := List.getElem?_concat_length
  have hw := write_whole hb hl ho
  have hs : (K ++ [Blk.row sz zs true true]).set K.length (Blk.row sz cs true true) = K ++ [Blk.row sz cs true true] := by simp
  rw [hs] at hw
  have h3 : (cellsOf (Value.agg cs.toArray)).length = i.size := by simpa [cellsOf] using hi
  simp only [opEval, vStore, hT, ha, hv, Option.bind_eq_bind, Option.bind_some, if_pos h3]
  simp only [cellsOf, List.toList_toArray, hw, Option.map_some]

theorem read_last {K : Heap} {sz j : Nat} {cs : List Value} {v : Value} (h : cs[j]? = some v) : readCells (K ++ [.row sz cs true true]) K.length (0 + j) 1 = some [v] := by
  have hb : (K ++ [Blk.row sz cs true true])[K.length]? = some (.row sz cs true true) := List.getElem?_concat_length
  have hr : readCells (K ++ [.row sz cs true true]) K.length 0 cs.length = some cs := by
    simp only [readCells, hb]
    rw [if_pos (by omega)]
    simp
  exact read_one hr h

theorem strs_flat (xs : List Nm) : (strs xs).flatten = xs.map encStr := by
  induction xs with
  | nil => rfl
  | cons x xs ih =>
    show [str x] ++ (strs xs).flatten = _
    rw [ih]; rfl

theorem strsC_strs : ∀ xs : List Nm, strsC (xs.map encStr) = some xs
  | [] => rfl
  | x :: xs => by
    show (strsC (xs.map encStr)).map (fun r => (ByteArray.mk x.toArray).data.toList :: r) = _
    rw [strsC_strs xs]
    simp

theorem enc_one (xs : List Nm) : (xs.map encStr).all oneCell = true := by
  simp only [List.all_map, List.all_eq_true]
  intro x _
  rfl

theorem onStrs_is {H : Heap} {p sz : Nat} {xs ys : List Nm} {g : List Nm → List Nm} (h : H[p]? = some (.row sz (strs xs).flatten true true)) (hg : (g xs).length = xs.length) : onStrs g H p 0 xs.length = some (xs, H.set p (.row sz (strs (g xs)).flatten true true)) := by
  have hl : (strs xs).flatten.length = xs.length := by rw [strs_flat]; simp
  have hr : readCells H p 0 xs.length = some (strs xs).flatten := by
    simp only [readCells, h]
    rw [if_pos (by omega), ← hl, List.drop_zero, List.take_length]
  have hw := write_whole (vs := (g xs).map encStr) h (by rw [hl]; simp [hg]) (enc_one _)
  unfold onStrs
  simp only [h, hr, Option.bind_some]
  rw [strs_flat, strsC_strs]
  simp only [Option.bind_some, hw, Option.map_some, strs_flat]

abbrev sortNm (xs : List Nm) : List Nm := xs.mergeSort fun x y => decide (x ≤ y)

theorem sort_acc {H : Heap} {lo p : Nat} {w : Value} {xs : List Nm} (h : Acc H lo 1 w (strs xs) p) (hn : xs.length < 2 ^ 40) :
    ∃ H1, sortX [w] H = some (.tuple #[], H1) ∧ Acc H1 lo 1 w (strs (sortNm xs)) p ∧ (∀ H0 : Heap, H0.length = lo → Ext H0 H → Ext H0 H1) := by
  obtain ⟨hs, ⟨hnil, rfl⟩ | ⟨rfl, h1, h2⟩⟩ := h
  · have : xs = [] := by simpa [strs] using hnil
    subst this
    have e : sortNm [] = [] := by simp [sortNm]
    rw [e]
    exact ⟨H, rfl, ⟨by simp [strs], .inl ⟨rfl, rfl⟩⟩, fun _ _ h => h⟩
  · by_cases h0 : xs = []
    · subst h0
      have e : sortNm [] = [] := by simp [sortNm]
      rw [e]
      exact ⟨H, rfl, ⟨by simp [strs], .inr ⟨rfl, h1, h2⟩⟩, fun _ _ h => h⟩
    · have hl : (sortNm xs).length = xs.length := List.length_mergeSort _
      have hne : xs.length ≠ 0 := by simpa using h0
      have hon := onStrs_is (ys := xs) (g := sortNm) h2 hl
      have hlt := (List.getElem?_eq_some_iff.1 h2).1
      refine ⟨H.set p (.row 1 (strs (sortNm xs)).flatten true true), ?_, ⟨by simp [strs], .inr ⟨by simp only [strs_len, hl], h1, by simp [hlt]⟩⟩, fun H0 hl0 he => he.set rfl (by omega)⟩
      unfold sortX
      simp only [strs_len, hne, if_false]
      rw [if_neg (by omega), hon]
      rfl

theorem compact_acc {H : Heap} {lo p : Nat} {w : Value} {xs : List Nm} (h : Acc H lo 1 w (strs xs) p) (hn : xs.length < 2 ^ 40) :
    ∃ r H1, compactX [w] H = some (r, H1) ∧ Sl H1 1 r (strs (Lib.compact xs)) ∧ (∀ H0 : Heap, H0.length = lo → Ext H0 H → Ext H0 H1) := by
  obtain ⟨hs, ⟨hnil, rfl⟩ | ⟨rfl, h1, h2⟩⟩ := h
  · have : xs = [] := by simpa [strs] using hnil
    subst this
    exact ⟨_, H, rfl, Sl.nil _ _, fun _ _ h => h⟩
  · by_cases h0 : xs = []
    · subst h0
      exact ⟨_, H, rfl, ⟨_, _, rfl, Nat.zero_le _, .inl rfl⟩, fun _ _ h => h⟩
    · have hne : xs.length ≠ 0 := by simpa using h0
      have hle := Lib.compact_length_le xs
      have hl : (Lib.compact xs ++ List.replicate (xs.length - (Lib.compact xs).length) ([] : Nm)).length = xs.length := by simp; omega
      have hon := onStrs_is (ys := xs) (g := fun ss => Lib.compact ss ++ List.replicate (ss.length - (Lib.compact ss).length) []) h2 hl
      have hlt := (List.getElem?_eq_some_iff.1 h2).1
      refine ⟨.slice (some ⟨p, 0, none⟩) (Lib.compact xs).length unk, H.set p (.row 1 (strs (Lib.compact xs ++ List.replicate (xs.length - (Lib.compact xs).length) ([] : Nm))).flatten true true), ?_, ⟨some ⟨p, 0, none⟩, unk, by simp [strs], by simp [strs, unk]; omega, ?_⟩, fun H0 hl0 he => he.set rfl (by omega)⟩
      · unfold compactX
        simp only [strs_len, hne, if_false]
        rw [if_neg (by omega), hon]
        rfl
      · have hb : (H.set p (.row 1 (strs (Lib.compact xs ++ List.replicate (xs.length - (Lib.compact xs).length) ([] : Nm))).flatten true true))[p]? = some (.row 1 (strs (Lib.compact xs ++ List.replicate (xs.length - (Lib.compact xs).length) ([] : Nm))).flatten true true) := by simp [hlt]
        have hc := Cells.row (sz := 1) (own := true) (strs_sz _) hb
        rcases hc with hc | ⟨b, o, e1, e2, e3⟩
        · have : (strs (Lib.compact xs ++ List.replicate (xs.length - (Lib.compact xs).length) ([] : Nm))).length = 0 := by rw [hc]; rfl
          rw [strs_len, hl] at this
          omega
        · refine .inr ⟨b, o, e1, e2, fun i e he => e3 i e ?_⟩
          have hi := (List.getElem?_eq_some_iff.1 he).1
          simp only [strs, List.map_append] at he ⊢
          rw [List.getElem?_append_left (by simpa [strs] using hi)]
          exact he

end Go.Proofs.Ytdhbclplondmjaa.C

/- The program's units, run. -/
set_option linter.unusedVariables false
set_option maxRecDepth 100000
namespace Go.Proofs.Ytdhbclplondmjaa.C
open Go.RowKit Go.Sort

def allNames (l : List Rel) : List Nm := l.flatMap fun r => [r.up, r.lo]
def unitsP (l : List Rel) : List Nm := Lib.compact (sortNm (allNames l))

theorem allNames_len (l : List Rel) : (allNames l).length = 2 * l.length := by
  induction l with
  | nil => rfl
  | cons r l ih => simp only [allNames, List.flatMap_cons, List.length_append, List.length_cons, List.length_nil] at *; omega

theorem unitsP_runs {H : Heap} {v : Value} {l : List Rel} (h : Sl H 3 v (rels l)) (hl : l.length < 2 ^ 30) :
    ∃ r H1, big tab 40 [v] H = some (r, H1) ∧ Ext H H1 ∧ Sl H1 1 r (strs (unitsP l)) := by
  obtain ⟨a, c, rfl, hc, hcs⟩ := h
  simp only [rels_len] at *
  refine big_of_runs rfl rfl rfl ?_
  obtain ⟨z, hz⟩ := startC_mkS Try.f40 [.slice a l.length c]
  rw [show startC (40, Try.f40).snd [Value.slice a l.length c] = _ from hz]
  refine Runs.seq (Runs.region ?_)
  repeat refine Rg.opp rfl rfl rfl rfl rfl ?_
  refine Rg.nil ?_
  refine Runs.seq (Runs.region ?_)
  repeat refine Rg.opp rfl rfl rfl rfl rfl ?_
  refine Rg.nil ?_
  refine Runs.seq (Runs.seq (Runs.region ?_))
  repeat refine Rg.opp rfl rfl rfl rfl rfl ?_
  refine Rg.nil ?_
  refine Runs.block ?_
  refine Runs.loop (fun m s H1 => ∃ k w p, k ≤ l.length ∧ m = l.length - k ∧ Ext H H1 ∧ Acc H1 H.length 1 w (strs (allNames (l.take k))) p ∧ Is s 24 [(3, w), (6, .slice a l.length c), (7, nat l.length), (8, nat k)]) _
    ⟨0, .slice none 0 0, 0, Nat.zero_le _, rfl, Ext.refl H, Acc.nil _ _ _ _, Is.of ⟨rfl, rfl, rfl, rfl, rfl, rfl, rfl, rfl, trivial⟩⟩ ?_
  rintro m s H1 ⟨k, w, p, hk, rfl, he, hacc, hs⟩
  obtain ⟨a0, rfl⟩ := hs.mk1
  by_cases hlt : k < l.length
  · refine Runs.seq (Runs.region ?_)
    refine Rg.opp rfl rfl rfl (ev_lt true rfl rfl (by simp; omega)) rfl ?_
    refine Rg.nil ?_
    refine Runs.seq (Runs.cond true rfl (fun _ => ?_) (fun h => by cases h))
    refine Runs.skip ?_
    have hcs1 := hcs.sees he.sees
    obtain ⟨b, o, rfl, hsz, hr⟩ := hcs1.lt (i := k) (by rw [rels_len]; exact hlt)
    have hrk := hr k _ (rels_get hlt)
    refine Runs.seq (Runs.block ?_)
    refine Runs.seq (Runs.region ?_)
    refine Rg.opp rfl rfl rfl (ev_at rfl rfl rfl rfl (by decide) hlt) rfl ?_
    refine Rg.opp rfl rfl rfl (ev_loadA rfl rfl hrk rfl) rfl ?_
    refine Rg.opp rfl rfl rfl rfl rfl ?_
    refine Rg.opn rfl rfl rfl (ev_set (cs := relC l[k]) rfl rfl rfl rfl rfl rfl) rfl ?_
    refine Rg.nil ?_
    have hlen1 := he.len
    have hacc1 : Acc (H1 ++ [Blk.row 3 (relC l[k]) true true]) H.length 1 w (strs (allNames (l.take k))) p := hacc.keep fun b X hb _ => by rw [List.getElem?_append_left (List.getElem?_eq_some_iff.1 hb).1]; exact hb
    have he1 : Ext H (H1 ++ [Blk.row 3 (relC l[k]) true true]) := he.row _ _
    refine Runs.region ?_
    refine Rg.opp rfl rfl rfl rfl rfl ?_
    refine Rg.opp rfl rfl rfl (ev_fld rfl rfl rfl rfl rfl (by decide)) rfl ?_
    refine Rg.opp rfl rfl rfl (ev_load1 rfl rfl (read_last (j := 1) rfl) rfl) rfl ?_
    refine Rg.opp rfl rfl rfl (ev_fld rfl rfl rfl rfl rfl (by decide)) rfl ?_
    refine Rg.opp rfl rfl rfl (ev_load1 rfl rfl (read_last (j := 2) rfl) rfl) rfl ?_
    refine Rg.opp rfl rfl rfl rfl rfl ?_
    generalize hK : H1 ++ [Blk.row 3 (relC l[k]) true true] = K at hacc1 he1
    have hkeep : Acc (K ++ [Blk.row 1 [str l[k].up, str l[k].lo] true true]) H.length 1 w (strs (allNames (l.take k))) p := hacc1.keep fun b X hb _ => by rw [List.getElem?_append_left (List.getElem?_eq_some_iff.1 hb).1]; exact hb
    have hsrc : srcCells (K ++ [Blk.row 1 [str l[k].up, str l[k].lo] true true]) (some ⟨K.length, 0, none⟩) (strs [l[k].up, l[k].lo]).length 1 = some (strs [l[k].up, l[k].lo]).flatten := by
      have : (K ++ [Blk.row 1 [str l[k].up, str l[k].lo] true true])[K.length]? = some (Blk.row 1 [str l[k].up, str l[k].lo] true true) := List.getElem?_concat_length
      simp only [srcCells, readCells, this]
      rfl
    have hlen : (strs (allNames (l.take k))).length = 2 * k := by rw [strs_len, allNames_len, List.length_take]; omega
    have hel := he1.len
    obtain ⟨w2, H2, p2, happ, hacc2, hgrow⟩ := push_app (T := tab) (t := 37) (e := 9) (i := _) (ei := _) ⟨rfl, rfl, rfl, by decide⟩ hkeep (c2 := 2) hsrc (by simp [strs, oneCell]) (by rw [hlen]; show (2 * k + 2) * 16 ≤ 2 ^ 40; omega) (by rw [hlen]; show 2 * k + 2 ≤ 2 ^ 40; omega) (by simp; omega)
    subst hK
    refine Rg.opp rfl rfl rfl (ev_append rfl rfl happ) rfl ?_
    refine Rg.opp rfl rfl rfl rfl rfl ?_
    refine Rg.nil ?_
    refine Runs.region ?_
    refine Rg.opp rfl rfl rfl (ev_addn (b := 1) rfl rfl (by omega)) rfl ?_
    refine Rg.opp rfl rfl rfl rfl rfl ?_
    refine Rg.nil ?_
    refine ⟨l.length - (k + 1), by omega, k + 1, w2, p2, hlt, rfl, hgrow.ext H rfl (he1.row _ _), ?_, Is.of ⟨rfl, rfl, rfl, rfl, rfl, rfl, rfl, rfl, trivial⟩⟩
    rw [← List.take_append_getElem hlt]
    have e : ∀ (p : List Rel) (r : Rel), strs (allNames (p ++ [r])) = strs (allNames p) ++ strs [r.up, r.lo] := by intro p r; simp [strs, allNames]
    rw [e]; exact hacc2
  · have hkl : k = l.length := by omega
    refine Runs.seq (Runs.region ?_)
    refine Rg.opp rfl rfl rfl (ev_lt false rfl rfl (by simp; omega)) rfl ?_
    refine Rg.nil ?_
    refine Runs.seq (Runs.cond false rfl (fun h => by cases h) (fun _ => ?_))
    refine Runs.exit ?_
    rw [hkl, List.take_of_length_le (Nat.le_refl _)] at hacc
    have hn : (allNames l).length < 2 ^ 40 := by rw [allNames_len]; omega
    obtain ⟨H2, hs2, hacc2, he2⟩ := sort_acc hacc hn
    have hn2 : (sortNm (allNames l)).length < 2 ^ 40 := by rw [List.length_mergeSort]; exact hn
    obtain ⟨r, H3, hs3, hsl, he3⟩ := compact_acc hacc2 hn2
    refine Runs.seq (Runs.region ?_)
    refine Rg.opp rfl rfl rfl rfl rfl ?_
    refine Rg.calls rfl rfl rfl rfl rfl rfl (big_ext (T := tab) (f := 51) rfl hs2) ?_
    refine Rg.nil ?_
    refine Runs.seq (Runs.region ?_)
    refine Rg.opp rfl rfl rfl rfl rfl ?_
    refine Rg.calls rfl rfl rfl rfl rfl rfl (big_ext (T := tab) (f := 52) rfl hs3) ?_
    refine Rg.opp rfl rfl rfl rfl rfl ?_
    refine Rg.nil ?_
    exact Runs.ret ⟨r, rfl, he3 H rfl (he2 H rfl he), hsl⟩

end Go.Proofs.Ytdhbclplondmjaa.C
