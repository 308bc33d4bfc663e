/- The abstract machine, for runs: the slots in rows of eight. -/
import Derived.Test.YtdhbclplondmjaaCPx
set_option linter.unusedVariables false
set_option linter.unusedSimpArgs false
namespace Go.Proofs.Ytdhbclplondmjaa.C
open Go.RowKit

noncomputable def lget {α : Type} (d : α) (l : List α) (n : Nat) : α := List.rec (motive := fun _ => Nat → α) (fun _ => d) (fun a _ ih n => Nat.rec (motive := fun _ => α) a (fun m _ => ih m) n) l n
noncomputable def lset {α : Type} (v : α) (l : List α) (n : Nat) : List α := List.rec (motive := fun _ => Nat → List α) (fun _ => []) (fun a t ih n => Nat.rec (motive := fun _ => List α) (v :: t) (fun m _ => a :: ih m) n) l n

theorem lget_eq {α : Type} (d : α) (l : List α) (n : Nat) : lget d l n = l.getD n d := by
  induction l generalizing n with
  | nil => rfl
  | cons a l ih =>
    cases n with
    | zero => rfl
    | succ n =>
      show lget d l n = _
      rw [ih]; rfl
theorem lset_eq {α : Type} (v : α) (l : List α) (n : Nat) : lset v l n = l.set n v := by
  induction l generalizing n with
  | nil => rfl
  | cons a l ih =>
    cases n with
    | zero => rfl
    | succ n =>
      show a :: lset v l n = _
      rw [ih]; rfl

/-- Rows of k, the last one perhaps shorter. -/
def Rows8 {α : Type} (k : Nat) : List (List α) → Bool
  | [] => true
  | [r] => decide (r.length ≤ k)
  | r :: t => decide (r.length = k) && Rows8 k t

theorem rows_get {α : Type} (d : α) {k : Nat} (hk : 0 < k) : ∀ {st : List (List α)}, Rows8 k st = true → ∀ i, (st.getD (i / k) []).getD (i % k) d = st.flatten.getD i d
  | [], _, i => by simp
  | [r], h, i => by
    simp only [Rows8, decide_eq_true_eq] at h
    rcases Nat.lt_or_ge i k with q | q
    · simp [Nat.div_eq_of_lt q, Nat.mod_eq_of_lt q]
    · have : 0 < i / k := Nat.div_pos q hk
      obtain ⟨m, hm⟩ := Nat.exists_eq_succ_of_ne_zero (Nat.ne_of_gt this)
      rw [hm]
      have : r.length ≤ i := Nat.le_trans h q
      simp [List.getElem?_eq_none this]
  | r :: r2 :: t, h, i => by
    simp only [Rows8, Bool.and_eq_true, decide_eq_true_eq] at h
    rcases Nat.lt_or_ge i k with q | q
    · rw [Nat.div_eq_of_lt q, Nat.mod_eq_of_lt q]
      show r.getD i d = (r ++ (r2 :: t).flatten).getD i d
      simp only [List.getD_eq_getElem?_getD]
      rw [List.getElem?_append_left (by omega)]
    · have ih := rows_get d hk (st := r2 :: t) h.2 (i - k)
      have e1 : i / k = (i - k) / k + 1 := by rw [← Nat.add_div_right _ hk]; congr 1; omega
      have e2 : i % k = (i - k) % k := by rw [← Nat.add_mod_right (i - k) k]; congr 1; omega
      rw [e1, e2, List.getD_cons_succ, ih]
      show (r2 :: t).flatten.getD (i - k) d = (r ++ (r2 :: t).flatten).getD i d
      simp only [List.getD_eq_getElem?_getD]
      rw [List.getElem?_append_right (by omega), h.1]

theorem rows_set {α : Type} {k : Nat} (hk : 0 < k) (v : α) : ∀ {st : List (List α)}, Rows8 k st = true → ∀ i, (st.set (i / k) ((st.getD (i / k) []).set (i % k) v)).flatten = st.flatten.set i v ∧ Rows8 k (st.set (i / k) ((st.getD (i / k) []).set (i % k) v)) = true
  | [], h, i => by simp [Rows8]
  | [r], h, i => by
    have h0 := h
    simp only [Rows8, decide_eq_true_eq] at h
    rcases Nat.lt_or_ge i k with q | q
    · simp [Nat.div_eq_of_lt q, Nat.mod_eq_of_lt q, Rows8, h]
    · have : 0 < i / k := Nat.div_pos q hk
      obtain ⟨m, hm⟩ := Nat.exists_eq_succ_of_ne_zero (Nat.ne_of_gt this)
      rw [hm]
      have : r.length ≤ i := Nat.le_trans h q
      simp only [List.set_cons_succ, List.set_nil, List.flatten_cons, List.flatten_nil, List.append_nil]
      exact ⟨(List.set_eq_of_length_le this).symm, h0⟩
  | r :: r2 :: t, h, i => by
    simp only [Rows8, Bool.and_eq_true, decide_eq_true_eq] at h
    rcases Nat.lt_or_ge i k with q | q
    · rw [Nat.div_eq_of_lt q, Nat.mod_eq_of_lt q]
      simp only [List.getD_cons_zero, List.set_cons_zero, List.flatten_cons, Rows8, List.length_set, h.1, decide_true, Bool.true_and]
      exact ⟨by rw [List.set_append_left _ _ (by omega)], h.2⟩
    · have ih := rows_set hk v (st := r2 :: t) h.2 (i - k)
      have e1 : i / k = (i - k) / k + 1 := by rw [← Nat.add_div_right _ hk]; congr 1; omega
      have e2 : i % k = (i - k) % k := by rw [← Nat.add_mod_right (i - k) k]; congr 1; omega
      rw [e1, e2, List.getD_cons_succ, List.set_cons_succ]
      refine ⟨?_, ?_⟩
      · rw [List.flatten_cons, ih.1]
        show r ++ (r2 :: t).flatten.set (i - k) v = (r ++ (r2 :: t).flatten).set i v
        rw [List.set_append_right _ _ (by omega), h.1]
      have h2 := ih.2
      cases e : (r2 :: t).set ((i - k) / k) (((r2 :: t).getD ((i - k) / k) []).set ((i - k) % k) v) with
      | nil => have := congrArg List.length e; simp at this
      | cons a l =>
        rw [e] at h2
        simp only [Rows8, h.1, decide_true, Bool.true_and]
        exact h2

def chunk {α : Type} (k : Nat) : Nat → List α → List (List α)
  | 0, l => [l]
  | n + 1, l => if l.length ≤ k then [l] else l.take k :: chunk k n (l.drop k)
theorem chunk_flat {α : Type} (k : Nat) : ∀ (n : Nat) (l : List α), (chunk k n l).flatten = l
  | 0, l => by simp [chunk]
  | n + 1, l => by
    unfold chunk
    split
    · simp
    · rw [List.flatten_cons, chunk_flat k n, List.take_append_drop]

abbrev Slots := List (List Value)

noncomputable def getR (st : Slots) (i : Nat) : Value := lget undef (lget [] st (i / 8)) (i % 8)
noncomputable def setR (st : Slots) (i : Nat) (v : Value) : Slots := lset (lset v (lget [] st (i / 8)) (i % 8)) st (i / 8)

theorem getR_eq {st : Slots} (h : Rows8 8 st = true) (i : Nat) : getR st i = st.flatten.getD i undef := by
  unfold getR
  rw [lget_eq, lget_eq]
  exact rows_get undef (by decide) h i
theorem setR_eq {st : Slots} (h : Rows8 8 st = true) (i : Nat) (v : Value) : (setR st i v).flatten = st.flatten.set i v ∧ Rows8 8 (setR st i v) = true := by
  unfold setR
  rw [lset_eq, lset_eq, lget_eq]
  exact rows_set (by decide) v h i

noncomputable def evF (st : Slots) : Operand → Value
  | .tmp t => getR st t
  | .const v => if plain v then v else undef
  | .func f => .func (.func f) #[] #[]
  | .global _ => undef
theorem evF_eq {st : Slots} (h : Rows8 8 st = true) : evF st = ev st.flatten := by
  funext x
  cases x with
  | tmp t => exact getR_eq h t
  | const v => rfl
  | func f => rfl
  | global g => rfl

def inPlaceF (ρ : Operand → Value) (o : Op) : Bool :=
  match o with
  | .call { callee := .builtin .append, args, .. } =>
    match args.toList.map ρ with
    | [.slice _ n c, .slice _ m _] => decide (c ≠ unk ∧ 0 < m ∧ n + m ≤ c)
    | _ => false
  | _ => false
theorem inPlaceF_eq (s : List Value) (o : Op) : inPlaceF (ev s) o = inPlace s o := rfl

/-- The operations, over whatever gives the operands. -/
def opEvalF (T : Tab) (ρ : Operand → Value) (H : Heap) (o : Op) : Option (Value × Heap) :=
  match o with
  | .move x | .assign x => some (ρ x, H)
  | .pick c a b => match ρ c with | .bool t => some (if t then ρ a else ρ b, H) | _ => none
  | .alloc e => (T.T e).bind fun i => vBox T H e i.zero
  | .box e x => vBox T H e (ρ x)
  | .build t parts => (vBuild T t (parts.toList.map fun p => (p.1, ρ p.2))).map fun v => (v, H)
  | .buildSlice t n parts => vBuildSlice T H t n (parts.toList.map fun p => (p.1, ρ p.2))
  | .load t a => (vLoad T H t (ρ a)).map fun v => (v, H)
  | .store t a v => (vStore T H t (ρ a) (ρ v)).map fun H' => (undef, H')
  | .nilCheck x => (vNilCheck (ρ x)).map fun v => (v, H)
  | .binOp op t x y _ => (binOp T op t (ρ x) (ρ y)).map fun v => (v, H)
  | .unOp op _ x => (unOp op (ρ x)).map fun v => (v, H)
  | .convert src dst x => match vConvert T src dst (ρ x) with | some v => some (v, H) | none => vBytes T H src dst (ρ x)
  | .makeMap _ none => some (.map (some H.length), H ++ [.map []])
  | .lookup t x k ok => (vLookup T H t (ρ x) (ρ k) ok).map fun v => (v, H)
  | .mapUpdate t m k v => (vMapUpdate T H t (ρ m) (ρ k) (ρ v)).map fun H' => (undef, H')
  | .makeInterface t x => (vMakeIface T t (ρ x)).map fun v => (v, H)
  | .makeFunc fn first captured => some (.func fn ((first.toList.map ρ).toArray) ((captured.toList.map ρ).toArray), H)
  | .makeSlice t n c => vMakeSlice T H t (ρ n) (ρ c)
  | .slice t x lo hi mx => (sliceVal T H t (ρ x) (lo.map ρ) (hi.map ρ) (mx.map ρ)).map fun v => (v, H)
  | .fieldAddr t x f => (vFieldAddr T t (ρ x) f).map fun v => (v, H)
  | .field t x f => (vField T t (ρ x) f).map fun v => (v, H)
  | .indexAddr t x i => (indexAddr T t (ρ x) (ρ i)).map fun v => (v, H)
  | .index t x i => (vIndex T t (ρ x) (ρ i)).map fun v => (v, H)
  | .extract x i => (vExtract (ρ x) i).map fun v => (v, H)
  | .typeAssert x _ t false => (vAssert T (ρ x) t).map fun v => (v, H)
  | .call { callee := .builtin b, args, argTypes } => vBuiltin T H b (args.toList.map ρ) argTypes.toList
  | _ => none
theorem opEvalF_eq (T : Tab) (s : List Value) (H : Heap) (o : Op) : opEvalF T (ev s) H o = opEval T s H o := rfl

def calleeF (T : Tab) (ρ : Operand → Value) (H : Heap) (o : Op) : Option (FuncId × List Value) :=
  match o with
  | .call { callee := .value f, args, .. } =>
    match ρ f with
    | .func (.func g) first cap => some (g, first.toList ++ args.toList.map ρ ++ cap.toList)
    | _ => none
  | .call { callee := .invoke r name, args, .. } =>
    match ρ r with
    | .iface t v =>
      match T.meth t name with
      | some (g, none) => some (g, v :: args.toList.map ρ)
      | some (g, some e) => (vLoad T H e v).map fun u => (g, u :: args.toList.map ρ)
      | none => none
    | _ => none
  | _ => none
theorem calleeF_eq (T : Tab) (s : List Value) (H : Heap) (o : Op) : calleeF T (ev s) H o = calleeOf T s H o := rfl

noncomputable def evalOneF (T : Tab) (call : CallF) (d : Bool) (ops : Array Oper) (o : Oper) (st : Slots) (H : Heap) : Option (Slots × Heap) :=
  let go : Option (Slots × Heap) :=
    if d && inPlaceF (evF st) o.op then none else
    match (match opEvalF T (evF st) H o.op with
      | some r => some r
      | none => match calleeF T (evF st) H o.op with
        | some (f, args) => call f args H
        | none => none) with
    | some (v, H1) => some (match o.dst with | some t => setR st t v | none => st, H1)
    | none => none
  match o.guard with
  | none => go
  | some (j, want) =>
    match (ops[j]?).bind (·.dst) with
    | some t => match getR st t with
      | .bool b => bif b == want then go else some (match o.dst with | some t => setR st t (.chan none) | none => st, H)
      | .chan none => some (match o.dst with | some t => setR st t (.chan none) | none => st, H)
      | _ => none
    | none => none

theorem evalOneF_ok {T : Tab} {call : CallF} {d : Bool} {ops : Array Oper} {o : Oper} {st st1 : Slots} {H H1 : Heap} (hu : Rows8 8 st = true) (h : evalOneF T call d ops o st H = some (st1, H1)) :
    evalOne T call d ops o st.flatten H = some (st1.flatten, H1) ∧ Rows8 8 st1 = true := by
  have hput : ∀ v, (match o.dst with | some t => setR st t v | none => st).flatten = put st.flatten o.dst v ∧ Rows8 8 (match o.dst with | some t => setR st t v | none => st) = true := by
    intro v
    cases o.dst with
    | none => exact ⟨rfl, hu⟩
    | some t => exact setR_eq hu t v
  unfold evalOneF at h
  rw [evF_eq hu] at h
  unfold evalOne guardC
  have run : ∀ {r : Option (Slots × Heap)}, r = some (st1, H1) → r = (if d && inPlaceF (ev st.flatten) o.op then none else
      match (match opEvalF T (ev st.flatten) H o.op with
        | some r => some r
        | none => match calleeF T (ev st.flatten) H o.op with
          | some (f, args) => call f args H
          | none => none) with
      | some (v, H1) => some (match o.dst with | some t => setR st t v | none => st, H1)
      | none => none) → (if d && inPlace st.flatten o.op then none else (evalOp T call st.flatten H o.op).map fun r => (put st.flatten o.dst r.1, r.2)) = some (st1.flatten, H1) ∧ Rows8 8 st1 = true := by
    intro r hr e
    subst hr
    rw [inPlaceF_eq] at e
    by_cases hd : (d && inPlace st.flatten o.op) = true
    · rw [if_pos hd] at e; simp at e
    · rw [if_neg hd] at e ⊢
      have e2 : (match opEvalF T (ev st.flatten) H o.op with
        | some r => some r
        | none => match calleeF T (ev st.flatten) H o.op with
          | some (f, args) => call f args H
          | none => none) = evalOp T call st.flatten H o.op := rfl
      rw [e2] at e
      cases e3 : evalOp T call st.flatten H o.op with
      | none => rw [e3] at e; simp at e
      | some r =>
        obtain ⟨v, H2⟩ := r
        rw [e3] at e
        simp only [Option.some.injEq, Prod.mk.injEq] at e
        obtain ⟨rfl, rfl⟩ := e
        obtain ⟨h1, h2⟩ := hput v
        exact ⟨by simp [h1], h2⟩
  cases hg : o.guard with
  | none =>
    rw [hg] at h
    exact run h rfl
  | some g =>
    obtain ⟨j, want⟩ := g
    rw [hg] at h
    simp only at h ⊢
    cases hj : (ops[j]?).bind (·.dst) with
    | none => rw [hj] at h; simp at h
    | some t =>
      rw [hj] at h
      simp only at h ⊢
      rw [getR_eq hu] at h
      generalize st.flatten.getD t undef = gv at h ⊢
      cases gv with
      | bool b =>
        simp only at h ⊢
        cases hb : (b == want) with
        | true =>
          rw [hb] at h
          simp only [cond_true] at h
          exact run h rfl
        | false =>
          rw [hb] at h
          simp only [cond_false, Option.some.injEq, Prod.mk.injEq] at h
          obtain ⟨rfl, rfl⟩ := h
          obtain ⟨h1, h2⟩ := hput (.chan none)
          exact ⟨by simp [h1], h2⟩
      | chan r =>
        cases r with
        | none =>
          simp only [Option.some.injEq, Prod.mk.injEq] at h ⊢
          obtain ⟨rfl, rfl⟩ := h
          obtain ⟨h1, h2⟩ := hput (.chan none)
          exact ⟨⟨h1.symm, rfl⟩, h2⟩
        | some r => simp at h
      | _ => simp at h

noncomputable def evalIdxF (T : Tab) (call : CallF) (d : Bool) (ops : Array Oper) : List Nat → Slots → Heap → Option (Slots × Heap)
  | [], s, H => some (s, H)
  | i :: is, s, H =>
    match ops[i]? with
    | none => none
    | some o => match evalOneF T call d ops o s H with
      | some (s1, H1) => evalIdxF T call d ops is s1 H1
      | none => none

theorem evalIdxF_ok {T : Tab} {call : CallF} {d : Bool} {ops : Array Oper} : ∀ {is : List Nat} {st st1 : Slots} {H H1 : Heap}, Rows8 8 st = true → evalIdxF T call d ops is st H = some (st1, H1) →
    evalIdx T call d ops is st.flatten H = some (st1.flatten, H1) ∧ Rows8 8 st1 = true
  | [], st, st1, H, H1, hu, h => by
    simp only [evalIdxF, Option.some.injEq, Prod.mk.injEq] at h
    obtain ⟨rfl, rfl⟩ := h
    exact ⟨rfl, hu⟩
  | i :: is, st, st1, H, H1, hu, h => by
    unfold evalIdxF at h
    unfold evalIdx
    cases ho : ops[i]? with
    | none => rw [ho] at h; simp at h
    | some o =>
      rw [ho] at h
      simp only at h ⊢
      cases e : evalOneF T call d ops o st H with
      | none => rw [e] at h; simp at h
      | some r =>
        obtain ⟨st2, H2⟩ := r
        rw [e] at h
        obtain ⟨h1, h2⟩ := evalOneF_ok hu e
        rw [h1]
        exact evalIdxF_ok h2 h

noncomputable def evalRegionF (T : Tab) (call : CallF) (ops : Array Oper) (draw : Bool) (s : Slots) (H : Heap) : Option (Slots × Heap) :=
  if draw then evalIdxF T (quiet call) true ops (orderOf ops) s H else evalIdxF T call false ops (List.range ops.size) s H

noncomputable def evalCF (T : Tab) (call : CallF) : Nat → Code → Slots → Heap → Option (Ex × Slots × Heap)
  | 0, _, _, _ => none
  | n + 1, c, s, H =>
    match c with
    | .skip | .label _ => some (.normal, s, H)
    | .region _ ops draw => (evalRegionF T call ops draw s H).map fun r => (.normal, r.1, r.2)
    | .seq a b =>
      match evalCF T call n a s H with
      | some (.normal, s1, H1) => evalCF T call n b s1 H1
      | r => r
    | .cond c a b =>
      match evF s c with
      | .bool true => evalCF T call n a s H
      | .bool false => evalCF T call n b s H
      | _ => none
    | .block id a =>
      match evalCF T call n a s H with
      | some (.exit j, s1, H1) => if j = id then some (.normal, s1, H1) else some (.exit j, s1, H1)
      | r => r
    | .loop a =>
      match evalCF T call n a s H with
      | some (.normal, s1, H1) => evalCF T call n (.loop a) s1 H1
      | r => r
    | .exit id => some (.exit id, s, H)
    | .ret => some (.ret, s, H)
    | _ => none

theorem evalCF_ok {T : Tab} {callF call : CallF} (hc : CallLe callF call) : ∀ {n : Nat} {c : Code} {st st1 : Slots} {H H1 : Heap} {e : Ex}, Rows8 8 st = true → evalCF T callF n c st H = some (e, st1, H1) →
    evalC T call n c st.flatten H = some (e, st1.flatten, H1) ∧ Rows8 8 st1 = true
  | 0, _, _, _, _, _, _, _, h => by simp [evalCF] at h
  | n + 1, c, st, st1, H, H1, e, hu, h => by
    unfold evalCF at h
    unfold evalC
    cases c <;> simp only [Option.some.injEq, Prod.mk.injEq, reduceCtorEq] at h ⊢
    · obtain ⟨rfl, rfl, rfl⟩ := h
      exact ⟨⟨rfl, rfl, rfl⟩, hu⟩
    · rename_i id ops draw
      rw [Option.map_eq_some_iff] at h
      obtain ⟨⟨s2, H2⟩, hx, h⟩ := h
      simp only [Prod.mk.injEq] at h
      obtain ⟨rfl, rfl, rfl⟩ := h
      unfold evalRegionF at hx
      unfold evalRegion
      cases draw with
      | true =>
        simp only [if_true] at hx ⊢
        obtain ⟨h1, h2⟩ := evalIdxF_ok hu hx
        rw [evalIdx_mono (quiet_mono hc) h1]
        exact ⟨rfl, h2⟩
      | false =>
        simp only [Bool.false_eq_true, if_false] at hx ⊢
        obtain ⟨h1, h2⟩ := evalIdxF_ok hu hx
        rw [evalIdx_mono hc h1]
        exact ⟨rfl, h2⟩
    · cases e1 : evalCF T callF n _ st H with
      | none => rw [e1] at h; simp at h
      | some r =>
        obtain ⟨x, s2, H2⟩ := r
        rw [e1] at h
        obtain ⟨h1, h2⟩ := evalCF_ok hc hu e1
        rw [h1]
        cases x with
        | normal => exact evalCF_ok hc h2 h
        | exit j =>
          simp only [Option.some.injEq, Prod.mk.injEq] at h ⊢
          obtain ⟨rfl, rfl, rfl⟩ := h
          exact ⟨⟨rfl, rfl, rfl⟩, h2⟩
        | ret =>
          simp only [Option.some.injEq, Prod.mk.injEq] at h ⊢
          obtain ⟨rfl, rfl, rfl⟩ := h
          exact ⟨⟨rfl, rfl, rfl⟩, h2⟩
    · rename_i c a b
      rw [evF_eq hu] at h
      generalize ev st.flatten c = cv at h ⊢
      cases cv with
      | bool t =>
        cases t with
        | true => exact evalCF_ok hc hu h
        | false => exact evalCF_ok hc hu h
      | _ => simp at h
    · rename_i id a
      cases e1 : evalCF T callF n a st H with
      | none => rw [e1] at h; simp at h
      | some r =>
        obtain ⟨x, s2, H2⟩ := r
        rw [e1] at h
        obtain ⟨h1, h2⟩ := evalCF_ok hc hu e1
        rw [h1]
        cases x with
        | normal =>
          simp only [Option.some.injEq, Prod.mk.injEq] at h ⊢
          obtain ⟨rfl, rfl, rfl⟩ := h
          exact ⟨⟨rfl, rfl, rfl⟩, h2⟩
        | exit j =>
          simp only at h ⊢
          by_cases hj : j = id
          · rw [if_pos hj] at h ⊢
            simp only [Option.some.injEq, Prod.mk.injEq] at h ⊢
            obtain ⟨rfl, rfl, rfl⟩ := h
            exact ⟨⟨rfl, rfl, rfl⟩, h2⟩
          · rw [if_neg hj] at h ⊢
            simp only [Option.some.injEq, Prod.mk.injEq] at h ⊢
            obtain ⟨rfl, rfl, rfl⟩ := h
            exact ⟨⟨rfl, rfl, rfl⟩, h2⟩
        | ret =>
          simp only [Option.some.injEq, Prod.mk.injEq] at h ⊢
          obtain ⟨rfl, rfl, rfl⟩ := h
          exact ⟨⟨rfl, rfl, rfl⟩, h2⟩
    · cases e1 : evalCF T callF n _ st H with
      | none => rw [e1] at h; simp at h
      | some r =>
        obtain ⟨x, s2, H2⟩ := r
        rw [e1] at h
        obtain ⟨h1, h2⟩ := evalCF_ok hc hu e1
        rw [h1]
        cases x with
        | normal => exact evalCF_ok hc h2 h
        | exit j =>
          simp only [Option.some.injEq, Prod.mk.injEq] at h ⊢
          obtain ⟨rfl, rfl, rfl⟩ := h
          exact ⟨⟨rfl, rfl, rfl⟩, h2⟩
        | ret =>
          simp only [Option.some.injEq, Prod.mk.injEq] at h ⊢
          obtain ⟨rfl, rfl, rfl⟩ := h
          exact ⟨⟨rfl, rfl, rfl⟩, h2⟩
    · obtain ⟨rfl, rfl, rfl⟩ := h
      exact ⟨⟨rfl, rfl, rfl⟩, hu⟩
    · obtain ⟨rfl, rfl, rfl⟩ := h
      exact ⟨⟨rfl, rfl, rfl⟩, hu⟩
    · obtain ⟨rfl, rfl, rfl⟩ := h
      exact ⟨⟨rfl, rfl, rfl⟩, hu⟩

/-- Calls; functions that are given go by their own. -/
noncomputable def callCF (T : Tab) : Nat → CallF
  | 0, _, _, _ => none
  | n + 1, f, args, H =>
    match T.ext f with
    | some e => e args H
    | none =>
      match T.fn f with
      | some fn =>
        match fn.body with
        | some c =>
          let st := chunk 8 20 (startC fn args)
          if Rows8 8 st then
            match evalCF T (callCF T n) n c st H with
            | some (.normal, s1, H1) => (resultsC T fn s1.flatten H1).map fun v => (v, H1)
            | some (.ret, s1, H1) => (resultsC T fn s1.flatten H1).map fun v => (v, H1)
            | _ => none
          else none
        | none => none
      | none => none

theorem callCF_ok {T : Tab} : ∀ n, CallLe (callCF T n) (callC T n)
  | 0, _, _, _, _, h => by simp [callCF] at h
  | n + 1, f, args, H, r, h => by
    unfold callCF at h
    unfold callC
    cases he : T.ext f with
    | some e => rw [he] at h; exact h
    | none =>
      rw [he] at h
      simp only at h ⊢
      cases hf : T.fn f with
      | none => rw [hf] at h; simp at h
      | some fn =>
        rw [hf] at h
        simp only at h ⊢
        cases hb : fn.body with
        | none => rw [hb] at h; simp at h
        | some c =>
          rw [hb] at h
          simp only at h ⊢
          split at h
          · rename_i hu
            cases e1 : evalCF T (callCF T n) n c (chunk 8 20 (startC fn args)) H with
            | none => rw [e1] at h; simp at h
            | some q =>
              obtain ⟨x, s2, H2⟩ := q
              rw [e1] at h
              obtain ⟨h1, h2⟩ := evalCF_ok (callCF_ok n) hu e1
              rw [chunk_flat] at h1
              rw [h1]
              cases x with
              | normal => exact h
              | ret => exact h
              | exit j => simp at h
          · simp at h

theorem SoundCall.le {P : Program} {a b : CallF} (h : SoundCall P b) (hab : CallLe a b) : SoundCall P a :=
  ⟨fun f args H r e => h.enter f args H r (hab _ _ _ _ e), fun f args H v H' e => h.calls f args H v H' (hab _ _ _ _ e), fun f args H v H' e => h.len f args H v H' (hab _ _ _ _ e)⟩

end Go.Proofs.Ytdhbclplondmjaa.C
