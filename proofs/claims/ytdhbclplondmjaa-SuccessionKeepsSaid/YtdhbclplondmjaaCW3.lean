/- Symbolic runs: slots by what is known of them, operations by what they ask. -/
import Derived.Test.YtdhbclplondmjaaCW2
import Derived.Test.YtdhbclplondmjaaCPx
import Derived.IntWalk
set_option linter.unusedVariables false
set_option linter.unusedSimpArgs false
namespace Go.Proofs.Ytdhbclplondmjaa.C
open Go.RowKit Go.IntWalk

variable {T : Tab}

/-- What a slot holds. -/
def sl (s : List Value) (i : Nat) : Value := s.getD i undef

def Has (s : List Value) : List (Nat × Value) → Prop
  | [] => True
  | p :: l => sl s p.1 = p.2 ∧ Has s l

def lk (l : List (Nat × Value)) (i : Nat) (d : Value) : Value :=
  match l with
  | [] => d
  | p :: l => bif Nat.beq p.1 i then p.2 else lk l i d

/-- Slots of which some are known. -/
def mkF (a : Nat → Value) (l : List (Nat × Value)) : Nat → Nat → List Value
  | _, 0 => []
  | i, m + 1 => lk l i (a i) :: mkF a l (i + 1) m

abbrev mkS (n : Nat) (a : Nat → Value) (l : List (Nat × Value)) : List Value := mkF a l 0 n

/-- So many slots, of which these are known. -/
structure Is (s : List Value) (n : Nat) (l : List (Nat × Value)) : Prop where
  len : s.length = n
  has : Has s l

theorem Is.mk1 {s : List Value} {n : Nat} {l : List (Nat × Value)} (h : Is s n l) : ∃ a, s = mkS n a l := by
  refine ⟨sl s, ?_⟩
  have hlk : ∀ i, lk l i (sl s i) = sl s i := by
    intro i
    obtain ⟨_, hh⟩ := h
    induction l with
    | nil => rfl
    | cons p l ih =>
      unfold lk
      cases e : Nat.beq p.1 i with
      | true =>
        have := Nat.eq_of_beq_eq_true e
        subst this
        exact hh.1.symm
      | false => exact ih hh.2
  have key : ∀ (m i : Nat) (t : List Value), t.length = m → (∀ j, t.getD j undef = sl s (i + j)) → t = mkF (sl s) l i m := by
    intro m
    induction m with
    | zero => intro i t ht _; exact List.length_eq_zero_iff.1 ht
    | succ m ih =>
      intro i t ht hj
      cases t with
      | nil => simp at ht
      | cons v t =>
        unfold mkF
        rw [hlk i, ← ih (i + 1) t (by simpa using ht) (fun j => by have := hj (j + 1); simp only [List.getD_cons_succ] at this; rw [this]; congr 1; omega)]
        have := hj 0
        simp only [List.getD_cons_zero, Nat.add_zero] at this
        rw [this]
  exact key n 0 s h.len (fun j => by simp [sl])

theorem mkF_len (a : Nat → Value) (l : List (Nat × Value)) : ∀ (m i : Nat), (mkF a l i m).length = m
  | 0, _ => rfl
  | m + 1, i => by simp [mkF, mkF_len a l m (i + 1)]

theorem mkF_get (a : Nat → Value) (l : List (Nat × Value)) : ∀ (m i j : Nat), j < m → (mkF a l i m).getD j undef = lk l (i + j) (a (i + j))
  | 0, _, _, h => by omega
  | m + 1, i, 0, _ => rfl
  | m + 1, i, j + 1, h => by
    unfold mkF
    rw [List.getD_cons_succ, mkF_get a l m (i + 1) j (by omega), show i + 1 + j = i + (j + 1) by omega]

theorem mkF_set (a : Nat → Value) (l : List (Nat × Value)) (v : Value) (d : Nat) : ∀ (m i : Nat), i ≤ d → (mkF a l i m).set (d - i) v = mkF a ((d, v) :: l) i m
  | 0, _, _ => rfl
  | m + 1, i, h => by
    unfold mkF
    rcases Nat.lt_or_ge i d with q | q
    · rw [show d - i = (d - (i + 1)) + 1 by omega, List.set_cons_succ, mkF_set a l v d m (i + 1) (by omega)]
      congr 1
      have : Nat.beq d i = false := by
        cases e : Nat.beq d i with
        | true => have := Nat.eq_of_beq_eq_true e; omega
        | false => rfl
      simp [lk, this]
    · have : d = i := by omega
      subst this
      rw [Nat.sub_self, List.set_cons_zero]
      have h2 : ∀ m j, d < j → mkF a l j m = mkF a ((d, v) :: l) j m := by
        intro m
        induction m with
        | zero => intro j _; rfl
        | succ m ih =>
          intro j hj
          unfold mkF
          rw [ih (j + 1) (by omega)]
          have : Nat.beq d j = false := by
            cases e : Nat.beq d j with
            | true => have := Nat.eq_of_beq_eq_true e; omega
            | false => rfl
          simp [lk, this]
      rw [h2 m (d + 1) (by omega)]
      simp [lk]

theorem put_mkS (n : Nat) (a : Nat → Value) (l : List (Nat × Value)) (d : Nat) (v : Value) : put (mkS n a l) (some d) v = mkS n a ((d, v) :: l) := by
  exact mkF_set a l v d n 0 (Nat.zero_le _)

theorem sl_mkS {n : Nat} {a : Nat → Value} {l : List (Nat × Value)} {j : Nat} (h : j < n) : sl (mkS n a l) j = lk l j (a j) := by
  have := mkF_get a l n 0 j h
  simpa [sl] using this

/-- What is known, by the list of what has been put. -/
def Kn (n : Nat) (a : Nat → Value) (l : List (Nat × Value)) : List (Nat × Value) → Prop
  | [] => True
  | p :: r => Nat.blt p.1 n = true ∧ lk l p.1 (a p.1) = p.2 ∧ Kn n a l r

theorem Is.of {n : Nat} {a : Nat → Value} {l r : List (Nat × Value)} (h : Kn n a l r) : Is (mkS n a l) n r := by
  refine ⟨mkF_len a l n 0, ?_⟩
  induction r with
  | nil => trivial
  | cons p r ih =>
    obtain ⟨h1, h2, h3⟩ := h
    exact ⟨by rw [sl_mkS (by simpa [Nat.blt_eq] using h1)]; exact h2, ih h3⟩

/-- The slots at a function's start. -/
theorem startC_mkS (fn : Func) (args : List Value) : ∃ a, startC fn args = mkS (args.length + (fn.ntmps - args.length)) a ((List.range args.length).map fun i => (i, args.getD i undef)) := by
  have : Is (startC fn args) (args.length + (fn.ntmps - args.length)) ((List.range args.length).map fun i => (i, args.getD i undef)) := by
    refine ⟨by simp [startC], ?_⟩
    have key : ∀ l : List Nat, (∀ i ∈ l, i < args.length) → Has (startC fn args) (l.map fun i => (i, args.getD i undef)) := by
      intro l
      induction l with
      | nil => intro _; trivial
      | cons i l ih =>
        intro h
        have hi := h i List.mem_cons_self
        refine ⟨?_, ih fun j hj => h j (List.mem_cons_of_mem _ hj)⟩
        simp [sl, startC, List.getD_eq_getElem?_getD, List.getElem?_append_left hi]
    exact key _ (fun i hi => by simpa using hi)
  exact this.mk1

section
variable {s : List Value} {H : Heap} {N : St} {X : Nat → St} {R : St} {cal : CallF} {d : Bool} {ops : Array Oper} {i n : Nat} {is : List Nat} {Q : St} {a : Nat → Value} {l : List (Nat × Value)}

theorem Rg.opp {o : Oper} {v : Value} {H1 : Heap} {t : Nat} (ho : ops[i]? = some o) (hg : o.guard = none) (ht : o.dst = some t) (he : opEval T (mkS n a l) H o.op = some (v, H1)) (hd : (d && inPlace (mkS n a l) o.op) = false) (k : Rg T cal d ops is (mkS n a ((t, v) :: l)) H1 Q) : Rg T cal d ops (i :: is) (mkS n a l) H Q :=
  Rg.op ho hg he hd (by rw [ht, put_mkS]; exact k)

theorem Rg.opn {o : Oper} {v : Value} {H1 : Heap} (ho : ops[i]? = some o) (hg : o.guard = none) (ht : o.dst = none) (he : opEval T (mkS n a l) H o.op = some (v, H1)) (hd : (d && inPlace (mkS n a l) o.op) = false) (k : Rg T cal d ops is (mkS n a l) H1 Q) : Rg T cal d ops (i :: is) (mkS n a l) H Q :=
  Rg.op ho hg he hd (by rw [ht]; exact k)

theorem Rg.calls {o : Oper} {v : Value} {H1 : Heap} {t : Nat} {f : FuncId} {args : List Value} (ho : ops[i]? = some o) (hg : o.guard = none) (ht : o.dst = some t) (hn : opEval T (mkS n a l) H o.op = none) (hc : calleeOf T (mkS n a l) H o.op = some (f, args)) (hd : (d && inPlace (mkS n a l) o.op) = false)
    (hr : cal f args H = some (v, H1)) (k : Rg T cal d ops is (mkS n a ((t, v) :: l)) H1 Q) : Rg T cal d ops (i :: is) (mkS n a l) H Q :=
  Rg.call ho hg hn hc hd hr (by rw [ht, put_mkS]; exact k)

theorem Rg.calln {o : Oper} {v : Value} {H1 : Heap} {f : FuncId} {args : List Value} (ho : ops[i]? = some o) (hg : o.guard = none) (ht : o.dst = none) (hn : opEval T (mkS n a l) H o.op = none) (hc : calleeOf T (mkS n a l) H o.op = some (f, args)) (hd : (d && inPlace (mkS n a l) o.op) = false)
    (hr : cal f args H = some (v, H1)) (k : Rg T cal d ops is (mkS n a l) H1 Q) : Rg T cal d ops (i :: is) (mkS n a l) H Q :=
  Rg.call ho hg hn hc hd hr (by rw [ht]; exact k)

theorem Rg.guards {o : Oper} {t : Nat} (b : Bool) (ho : ops[i]? = some o) (ht : o.dst = some t) (hg : guardC ops o (mkS n a l) = some b)
    (hy : b = true → ∃ v H1, evalOp T cal (mkS n a l) H o.op = some (v, H1) ∧ (d && inPlace (mkS n a l) o.op) = false ∧ Rg T cal d ops is (mkS n a ((t, v) :: l)) H1 Q) (hf : b = false → Rg T cal d ops is (mkS n a ((t, .chan none) :: l)) H Q) : Rg T cal d ops (i :: is) (mkS n a l) H Q :=
  Rg.guard b ho hg (fun h => by obtain ⟨v, H1, h1, h2, h3⟩ := hy h; exact ⟨v, H1, h1, h2, by rw [ht, put_mkS]; exact h3⟩) (fun h => by rw [ht, put_mkS]; exact hf h)

end

/-- Only what is still wanted of the slots. -/
theorem Runs.cut {s : List Value} {H : Heap} {N : St} {X : Nat → St} {R : St} {c : Code} {n : Nat} {l : List (Nat × Value)} (h : Is s n l) (k : ∀ a, Runs T c (mkS n a l) H N X R) : Runs T c s H N X R := by
  obtain ⟨a, rfl⟩ := h.mk1; exact k a
theorem Rg.cut {s : List Value} {H : Heap} {cal : CallF} {d : Bool} {ops : Array Oper} {is : List Nat} {Q : St} {n : Nat} {l : List (Nat × Value)} (h : Is s n l) (k : ∀ a, Rg T cal d ops is (mkS n a l) H Q) : Rg T cal d ops is s H Q := by
  obtain ⟨a, rfl⟩ := h.mk1; exact k a

/-! ### Operations -/

section
variable {s : List Value} {H : Heap}

theorem ev_at {t e : TypeId} {ei : TI} {x i : Operand} {b o n c k : Nat} {ik : IntKind} (hx : ev s x = .slice (some ⟨b, o, none⟩) n c) (hi : ev s i = .int ik (k : Nat)) (hd : T.d t = some (.slice e)) (he : T.T e = some ei) (hp : 0 < ei.size) (h : k < n) :
    opEval T s H (.indexAddr t x i) = some (.pointer (some ⟨b, o + k * ei.size, none⟩), H) := by
  have : (0 : Int) ≤ (k : Int) ∧ (k : Int) < (n : Int) ∧ 0 < ei.size := ⟨by omega, by omega, hp⟩
  simp only [opEval, indexAddr, hx, hi, hd, he, if_pos this, Option.map_some, Int.toNat_natCast]

theorem ev_load1 {t : TypeId} {i : TI} {a : Operand} {b o : Nat} {v : Value} (ha : ev s a = .pointer (some ⟨b, o, none⟩)) (hT : T.T t = some i) (hr : readCells H b o i.size = some [v]) (hg : i.agg = false) : opEval T s H (.load t a) = some (v, H) := by
  simp only [opEval, vLoad, hT, ha, hr, hg, Option.bind_eq_bind, Option.bind_some, Option.map_some, Bool.false_eq_true, if_false]

theorem ev_loadA {t : TypeId} {i : TI} {a : Operand} {b o : Nat} {cs : List Value} (ha : ev s a = .pointer (some ⟨b, o, none⟩)) (hT : T.T t = some i) (hr : readCells H b o i.size = some cs) (hg : i.agg = true) : opEval T s H (.load t a) = some (.agg cs.toArray, H) := by
  simp only [opEval, vLoad, hT, ha, hr, hg, Option.bind_eq_bind, Option.bind_some, Option.map_some, if_true]

theorem ev_append {x y : Operand} {t : TypeId} {v1 v2 r : Value} {H1 : Heap} (hx : ev s x = v1) (hy : ev s y = v2) (h : vAppend T H t v1 v2 = some (r, H1)) : opEval T s H (.call { callee := .builtin .append, args := #[x, y], argTypes := #[t, t] }) = some (r, H1) := by
  simp only [opEval, vBuiltin, List.map_cons, List.map_nil, hx, hy, if_true, h]

end

theorem wrap_nat {k : Nat} (h : k < 2 ^ 62) : IntKind.i64.wrap (k : Int) = (k : Int) := i64_in _ (by omega)
theorem wrap_succ {k : Nat} (h : k < 2 ^ 62) : IntKind.i64.wrap ((k : Int) + 1) = ((k + 1 : Nat) : Int) := by rw [i64_in _ (by omega)]; omega

/-- A function of plain values, as it is in an empty memory. -/
noncomputable def pureB (T : Tab) (f : FuncId) : List Value → Heap → Option (Value × Heap) := fun args H =>
  if flats args then
    match big T f args [] with
    | some (v, _) => if flat v then some (v, H) else none
    | none => none
  else none

theorem pureB_ok {P : Program} {T : Tab} (hF : Fits P T) (f : FuncId) : ExtOk P f (pureB T f) := by
  intro args H v H1 he
  have : ∃ n, pureX T n f args H = some (v, H1) := by
    unfold pureB at he
    split at he
    · rename_i hfl
      split at he
      · rename_i v2 E e2
        obtain ⟨n, hn⟩ := big_some.1 e2
        exact ⟨n, by unfold pureX; rw [if_pos hfl, hn]; exact he⟩
      · simp at he
    · simp at he
  obtain ⟨n, hn⟩ := this
  exact pureX_ok hF n f args H v H1 hn

theorem pureB_is {T : Tab} {f : FuncId} {args : List Value} {v : Value} {E : Heap} (n : Nat) (hfl : flats args = true) (h : callC T n f args [] = some (v, E)) (hv : flat v = true) (H : Heap) : pureB T f args H = some (v, H) := by
  unfold pureB
  rw [if_pos hfl, big_some.2 ⟨n, h⟩]
  simp [hv]

/-- A function that is given by what it does. -/
theorem big_ext {T : Tab} {f : FuncId} {e : List Value → Heap → Option (Value × Heap)} {args : List Value} {H : Heap} {r : Value × Heap} (he : T.ext f = some e) (h : e args H = some r) : big T f args H = some r :=
  big_some.2 ⟨1, by simp only [callC, he]; exact h⟩

end Go.Proofs.Ytdhbclplondmjaa.C
