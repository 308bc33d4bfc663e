/- The abstract machine runs regions, code, functions. -/
import Derived.Test.YtdhbclplondmjaaCOp
set_option linter.unusedVariables false
set_option linter.unusedSimpArgs false
namespace Go.Proofs.Ytdhbclplondmjaa.C
open Go.RowKit

inductive Ex where
  | normal | exit (id : Nat) | ret

abbrev CallF := FuncId → List Value → Heap → Option (Value × Heap)

def put (s : List Value) (d : Option Tmp) (v : Value) : List Value :=
  match d with
  | some d => s.set d v
  | none => s

def guardC (ops : Array Oper) (o : Oper) (s : List Value) : Option Bool :=
  match o.guard with
  | none => some true
  | some (j, want) =>
    match (ops[j]?).bind (·.dst) with
    | some t => match s.getD t undef with | .bool b => some (b == want) | .chan none => some false | _ => none
    | none => none

def calleeOf (T : Tab) (s : List Value) (H : Heap) (o : Op) : Option (FuncId × List Value) :=
  match o with
  | .call { callee := .value f, args, .. } =>
    match ev s f with
    | .func (.func g) first cap => some (g, first.toList ++ args.toList.map (ev s) ++ cap.toList)
    | _ => none
  | .call { callee := .invoke r name, args, .. } =>
    match ev s r with
    | .iface t v =>
      match T.meth t name with
      | some (g, none) => some (g, v :: args.toList.map (ev s))
      | some (g, some e) => (vLoad T H e v).map fun u => (g, u :: args.toList.map (ev s))
      | none => none
    | _ => none
  | _ => none

def evalOp (T : Tab) (call : CallF) (s : List Value) (H : Heap) (o : Op) : Option (Value × Heap) :=
  match opEval T s H o with
  | some r => some r
  | none => match calleeOf T s H o with
    | some (f, args) => call f args H
    | none => none

/-- An append that is known to write where there is room. -/
def inPlace (s : List Value) (o : Op) : Bool :=
  match o with
  | .call { callee := .builtin .append, args, .. } =>
    match args.toList.map (ev s) with
    | [.slice _ n c, .slice _ m _] => decide (c ≠ unk ∧ 0 < m ∧ n + m ≤ c)
    | _ => false
  | _ => false

def evalOne (T : Tab) (call : CallF) (d : Bool) (ops : Array Oper) (o : Oper) (s : List Value) (H : Heap) : Option (List Value × Heap) :=
  match guardC ops o s with
  | some true => if d && inPlace s o.op then none else (evalOp T call s H o.op).map fun r => (put s o.dst r.1, r.2)
  | some false => some (put s o.dst (.chan none), H)
  | none => none

def evalIdx (T : Tab) (call : CallF) (d : Bool) (ops : Array Oper) : List Nat → List Value → Heap → Option (List Value × Heap)
  | [], s, H => some (s, H)
  | i :: is, s, H =>
    match ops[i]? with
    | none => none
    | some o => match evalOne T call d ops o s H with
      | some (s1, H1) => evalIdx T call d ops is s1 H1
      | none => none

/-- The heap as a call within a drawn region sees it: nothing of it may be written. -/
def Blk.freeze : Blk → Blk
  | .row sz cs _ live => .row sz cs false live
  | .map _ => .row 0 [] false false

/-- What such a call may leave behind. -/
def Blk.left : Blk → Blk
  | .row sz cs own live => .row sz cs own (own && live)
  | x => x

def quiet (call : CallF) : CallF := fun f args H =>
  (call f args (H.map Blk.freeze)).map fun r => (r.1, H ++ (r.2.drop H.length).map Blk.left)

/-- The order in which a drawn region is evaluated: what its first append waits for comes first. -/
def orderOf (ops : Array Oper) : List Nat :=
  match (List.range ops.size).find? (fun i => (ops[i]?).elim false fun o => isAppend o.op) with
  | none => List.range ops.size
  | some j =>
    let b := (Region.before ops).getD j 0
    (List.range ops.size).filter (fun i => b.testBit i) ++ j :: (List.range ops.size).filter (fun i => !(b.testBit i) && i != j)

def evalRegion (T : Tab) (call : CallF) (ops : Array Oper) (draw : Bool) (s : List Value) (H : Heap) : Option (List Value × Heap) :=
  if draw then evalIdx T (quiet call) true ops (orderOf ops) s H else evalIdx T call false ops (List.range ops.size) s H

def evalC (T : Tab) (call : CallF) : Nat → Code → List Value → Heap → Option (Ex × List Value × Heap)
  | 0, _, _, _ => none
  | n + 1, c, s, H =>
    match c with
    | .skip | .label _ => some (.normal, s, H)
    | .region _ ops draw => (evalRegion T call ops draw s H).map fun r => (.normal, r.1, r.2)
    | .seq a b =>
      match evalC T call n a s H with
      | some (.normal, s1, H1) => evalC T call n b s1 H1
      | r => r
    | .cond c a b =>
      match ev s c with
      | .bool true => evalC T call n a s H
      | .bool false => evalC T call n b s H
      | _ => none
    | .block id a =>
      match evalC T call n a s H with
      | some (.exit j, s1, H1) => if j = id then some (.normal, s1, H1) else some (.exit j, s1, H1)
      | r => r
    | .loop a =>
      match evalC T call n a s H with
      | some (.normal, s1, H1) => evalC T call n (.loop a) s1 H1
      | r => r
    | .exit id => some (.exit id, s, H)
    | .ret => some (.ret, s, H)
    | _ => none

def resOne (T : Tab) (s : List Value) (H : Heap) : ResultVar → Option Value
  | .tmp t => some (s.getD t undef)
  | .cell a t => vLoad T H t (s.getD a undef)

def resultsC (T : Tab) (fn : Func) (s : List Value) (H : Heap) : Option Value :=
  match fn.results.toList.mapM (resOne T s H) with
  | some [v] => some v
  | some vs => some (.tuple vs.toArray)
  | none => none

def startC (fn : Func) (args : List Value) : List Value := args ++ List.replicate (fn.ntmps - args.length) undef

def callC (T : Tab) : Nat → CallF
  | 0, _, _, _ => none
  | n + 1, f, args, H =>
    match T.ext f with
    | some e => e args H
    | none =>
      match T.fn f with
      | some fn =>
        match fn.body with
        | some c =>
          match evalC T (callC T n) n c (startC fn args) H with
          | some (.normal, s1, H1) => (resultsC T fn s1 H1).map fun v => (v, H1)
          | some (.ret, s1, H1) => (resultsC T fn s1 H1).map fun v => (v, H1)
          | _ => none
        | none => none
      | none => none

/-! ### More fuel -/

def CallLe (a b : CallF) : Prop := ∀ f args H r, a f args H = some r → b f args H = some r

variable {T : Tab}

theorem evalOp_mono {a b : CallF} (hab : CallLe a b) {s : List Value} {H : Heap} {o : Op} {r : Value × Heap} (h : evalOp T a s H o = some r) : evalOp T b s H o = some r := by
  unfold evalOp at *
  split at h
  · exact h
  · split at h
    · exact hab _ _ _ _ h
    · simp at h

theorem evalOne_mono {a b : CallF} (hab : CallLe a b) {d : Bool} {ops : Array Oper} {o : Oper} {s : List Value} {H : Heap} {r : List Value × Heap} (h : evalOne T a d ops o s H = some r) : evalOne T b d ops o s H = some r := by
  unfold evalOne at *
  split at h
  · split at h
    · simp at h
    · rename_i hd
      rw [if_neg hd]
      rw [Option.map_eq_some_iff] at h ⊢
      obtain ⟨x, hx, h⟩ := h
      exact ⟨x, evalOp_mono hab hx, h⟩
  · exact h
  · simp at h

theorem evalIdx_mono {a b : CallF} (hab : CallLe a b) {d : Bool} {ops : Array Oper} : ∀ {is : List Nat} {s : List Value} {H : Heap} {r : List Value × Heap}, evalIdx T a d ops is s H = some r → evalIdx T b d ops is s H = some r
  | [], _, _, _, h => h
  | i :: is, s, H, r, h => by
    unfold evalIdx at *
    split at h
    · simp at h
    · split at h
      · rename_i s1 H1 e1
        rw [evalOne_mono hab e1]
        exact evalIdx_mono hab h
      · simp at h

theorem quiet_mono {a b : CallF} (hab : CallLe a b) : CallLe (quiet a) (quiet b) := by
  intro f args H r h
  unfold quiet at *
  rw [Option.map_eq_some_iff] at h ⊢
  obtain ⟨x, hx, h⟩ := h
  exact ⟨x, hab _ _ _ _ hx, h⟩

theorem evalC_mono {a b : CallF} (hab : CallLe a b) : ∀ {n m : Nat} (hnm : n ≤ m) {c : Code} {s : List Value} {H : Heap} {r : Ex × List Value × Heap}, evalC T a n c s H = some r → evalC T b m c s H = some r
  | 0, _, _, _, _, _, _, h => by simp [evalC] at h
  | n + 1, 0, hnm, _, _, _, _, h => by omega
  | n + 1, m + 1, hnm, c, s, H, r, h => by
    have hle : n ≤ m := by omega
    unfold evalC at *
    cases c <;> simp only at h ⊢ <;> try exact h
    · rw [Option.map_eq_some_iff] at h ⊢
      obtain ⟨x, hx, h⟩ := h
      refine ⟨x, ?_, h⟩
      unfold evalRegion at *
      split at hx
      · rename_i e; rw [if_pos e]; exact evalIdx_mono (quiet_mono hab) hx
      · rename_i e; rw [if_neg e]; exact evalIdx_mono hab hx
    · split at h
      · rename_i s1 H1 e
        rw [evalC_mono hab hle e]
        exact evalC_mono hab hle h
      · rename_i x y
        cases hr : evalC T a n _ s H with
        | none => rw [hr] at h; simp at h
        | some q =>
          rw [hr] at h
          simp only [Option.some.injEq] at h
          subst h
          rw [evalC_mono hab hle hr]
          split
          · rename_i s1 H1 e
            simp only [Option.some.injEq] at e
            exact absurd (hr.trans (congrArg some e)) (by intro q; exact y _ _ q)
          · rfl
    · split at h
      · exact evalC_mono hab hle h
      · exact evalC_mono hab hle h
      · simp at h
    · split at h
      · rename_i j s1 H1 e
        rw [evalC_mono hab hle e]
        exact h
      · rename_i x y
        cases hr : evalC T a n _ s H with
        | none => rw [hr] at h; simp at h
        | some q =>
          rw [hr] at h
          simp only [Option.some.injEq] at h
          subst h
          rw [evalC_mono hab hle hr]
          split
          · rename_i j s1 H1 e
            simp only [Option.some.injEq] at e
            exact absurd (hr.trans (congrArg some e)) (by intro q; exact y _ _ _ q)
          · rfl
    · split at h
      · rename_i s1 H1 e
        rw [evalC_mono hab hle e]
        exact evalC_mono hab hle h
      · rename_i x y
        cases hr : evalC T a n _ s H with
        | none => rw [hr] at h; simp at h
        | some q =>
          rw [hr] at h
          simp only [Option.some.injEq] at h
          subst h
          rw [evalC_mono hab hle hr]
          split
          · rename_i s1 H1 e
            simp only [Option.some.injEq] at e
            exact absurd (hr.trans (congrArg some e)) (by intro q; exact y _ _ q)
          · rfl

theorem callC_mono : ∀ {n m : Nat}, n ≤ m → CallLe (callC T n) (callC T m)
  | 0, _, _, f, args, H, r, h => by simp [callC] at h
  | n + 1, 0, hnm, _, _, _, _, _ => by omega
  | n + 1, m + 1, hnm, f, args, H, r, h => by
    have hle : n ≤ m := by omega
    unfold callC at *
    split at h
    · exact h
    · split at h
      · rename_i fn hf
        split at h
        · rename_i c hc
          split at h
          · rename_i s1 H1 e; rw [evalC_mono (callC_mono hle) hle e]; exact h
          · rename_i s1 H1 e; rw [evalC_mono (callC_mono hle) hle e]; exact h
          · simp at h
        · simp at h
      · simp at h

end Go.Proofs.Ytdhbclplondmjaa.C
