/- Texts of one's own, laid together: CRange, CRange2, CPx, CW3, CFast, CSub -/
import Derived.Test.YtdhbclplondmjaaQc13
import Derived.RangeFuncLeaves
import Derived.Test.YtdhbclplondmjaaQc09
import Derived.IntWalk
section
/- A range over a function: its iterator calls yield, each round runs the body. -/
set_option linter.unusedVariables false
set_option linter.unusedSimpArgs false
namespace Go.Proofs.Ytdhbclplondmjaa.C
open Go.RowKit

variable {P : Program} {T : Tab} {base : Nat} {F : Nat → Prop}

/-! ### What is computed -/

def yieldArgs (s : List Value) (b : Nat) (o : Op) : Option (List Value) :=
  match o with
  | .call { callee := .value f, args, .. } => match ev s f with | .chan (some c) => if c = b then some (args.toList.map (ev s)) else none | _ => none
  | _ => none

abbrev RoundF := List Value → Heap → Option Heap

def evalOneY (T : Tab) (call : CallF) (b : Nat) (rd : RoundF) (ops : Array Oper) (o : Oper) (s : List Value) (H : Heap) : Option (List Value × Heap) :=
  match guardC ops o s with
  | some true =>
    match yieldArgs s b o.op with
    | some args => (rd args H).map fun H1 => (put s o.dst (.bool true), H1)
    | none => (evalOp T call s H o.op).map fun r => (put s o.dst r.1, r.2)
  | some false => some (put s o.dst (.chan none), H)
  | none => none

def evalIdxY (T : Tab) (call : CallF) (b : Nat) (rd : RoundF) (ops : Array Oper) : List Nat → List Value → Heap → Option (List Value × Heap)
  | [], s, H => some (s, H)
  | i :: is, s, H =>
    match ops[i]? with
    | none => none
    | some o => match evalOneY T call b rd ops o s H with
      | some (s1, H1) => evalIdxY T call b rd ops is s1 H1
      | none => none

def evalCY (T : Tab) (call : CallF) (b : Nat) (rd : RoundF) : Nat → Code → List Value → Heap → Option (Ex × List Value × Heap)
  | 0, _, _, _ => none
  | n + 1, c, s, H =>
    match c with
    | .skip | .label _ => some (.normal, s, H)
    | .region _ ops draw => if draw then none else (evalIdxY T call b rd ops (List.range ops.size) s H).map fun r => (.normal, r.1, r.2)
    | .seq x y =>
      match evalCY T call b rd n x s H with
      | some (.normal, s1, H1) => evalCY T call b rd n y s1 H1
      | r => r
    | .cond c x y =>
      match ev s c with
      | .bool true => evalCY T call b rd n x s H
      | .bool false => evalCY T call b rd n y s H
      | _ => none
    | .block id x =>
      match evalCY T call b rd n x s H with
      | some (.exit j, s1, H1) => if j = id then some (.normal, s1, H1) else some (.exit j, s1, H1)
      | r => r
    | .loop x =>
      match evalCY T call b rd n x s H with
      | some (.normal, s1, H1) => evalCY T call b rd n (.loop x) s1 H1
      | r => r
    | .exit id => some (.exit id, s, H)
    | .ret => some (.ret, s, H)
    | _ => none

def putAll (s : List Value) : List Tmp → List Value → List Value
  | t :: ts, v :: vs => putAll (s.set t v) ts vs
  | _, _ => s

def rangeRound (T : Tab) (call : CallF) (n : Nat) (s : List Value) (ps : Array Tmp) (assign body : Code) : RoundF := fun args H =>
  if args.length = ps.size then
    match evalC T call n assign (putAll s ps.toList args) H with
    | some (.normal, s1, H1) =>
      match evalC T call n body s1 H1 with
      | some (.normal, _, H2) => some H2
      | _ => none
    | _ => none
  else none

def evalRange (T : Tab) (call : CallF) (n : Nat) (s : List Value) (H : Heap) (g : Operand) (ps : Array Tmp) (assign body : Code) : Option Heap :=
  match ev s g with
  | .func (.func f) first cap =>
    match T.fn f with
    | some fn =>
      match fn.body with
      | some c =>
        if calm c && codeChk assign && calm assign && codeChk body && calm body then
          match evalCY T call H.length (rangeRound T call n s ps assign body) n c (startC fn (first.toList ++ [.chan (some H.length)] ++ cap.toList)) (H ++ [.row 0 [] false false]) with
          | some (.normal, s1, H1) => (resultsC T fn s1 H1).map fun _ => H1
          | some (.ret, s1, H1) => (resultsC T fn s1 H1).map fun _ => H1
          | _ => none
        else none
      | none => none
    | none => none
  | _ => none

def hasRange : Code → Bool
  | .rangeFunc .. => true
  | .seq a b => hasRange a || hasRange b
  | .cond _ a b => hasRange a || hasRange b
  | .block _ a => hasRange a
  | .loop a => hasRange a
  | _ => false

def evalX (T : Tab) (call : CallF) (n : Nat) : Code → List Value → Heap → Option (Ex × List Value × Heap)
  | .seq a b, s, H =>
    if hasRange a then
      match evalX T call n a s H with
      | some (.normal, s1, H1) => if codeChk b then evalC T call n b s1 H1 else none
      | r => r
    else
      match (if codeChk a then evalC T call n a s H else none) with
      | some (.normal, s1, H1) => evalX T call n b s1 H1
      | r => r
  | .block id a, s, H =>
    match evalX T call n a s H with
    | some (.exit j, s1, H1) => if j = id then some (.normal, s1, H1) else some (.exit j, s1, H1)
    | r => r
  | .rangeFunc g ps assign body, s, H => (evalRange T call n s H g ps assign body).map fun H1 => (.normal, s, H1)
  | _, _, _ => none

/-- More fuel. -/
theorem evalCY_mono {T : Tab} {call : CallF} {b : Nat} {rd : RoundF} : ∀ {n m : Nat} (hnm : n ≤ m) {c : Code} {s : List Value} {H : Heap} {r : Ex × List Value × Heap}, evalCY T call b rd n c s H = some r → evalCY T call b rd m c s H = some r
  | 0, _, _, _, _, _, _, h => by simp [evalCY] at h
  | n + 1, 0, hnm, _, _, _, _, h => by omega
  | n + 1, m + 1, hnm, c, s, H, r, h => by
    have hle : n ≤ m := by omega
    unfold evalCY at *
    cases c <;> simp only at h ⊢ <;> try exact h
    · split at h
      · rename_i s1 H1 e
        rw [evalCY_mono hle e]
        exact evalCY_mono hle h
      · rename_i x y
        rw [evalCY_mono hle h]
        split
        · rename_i s1 H1 e
          simp only [Option.some.injEq] at e
          subst e
          exact absurd h (y _ _)
        · rfl
    · split at h
      · exact evalCY_mono hle h
      · exact evalCY_mono hle h
      · simp at h
    · split at h
      · rename_i j s1 H1 e
        rw [evalCY_mono hle e]
        exact h
      · rename_i x y
        rw [evalCY_mono hle h]
        split
        · rename_i j s1 H1 e
          simp only [Option.some.injEq] at e
          subst e
          exact absurd h (y _ _ _)
        · rfl
    · split at h
      · rename_i s1 H1 e
        rw [evalCY_mono hle e]
        exact evalCY_mono hle h
      · rename_i x y
        rw [evalCY_mono hle h]
        split
        · rename_i s1 H1 e
          simp only [Option.some.injEq] at e
          subst e
          exact absurd h (y _ _)
        · rfl

/-! ### That the machine computes it -/

/-- The fence of everything. -/
theorem opW_of {o : Oper} {a : Act} {w : World} {K K' : Act → World → Prop} {Q : Exit → Act → World → Prop} {n : Nat} (hnd : calmOp o = true) (h : o.wp P a w K Q) (hK : ∀ a w, K a w → K' a w) (hQ : ∀ a w, ¬ Q .outgrown a w) :
    o.wpIn Fence.wide n P a w K' Q := by
  refine ⟨fun _ _ => trivial, ?_⟩
  rw [Oper.semAt_eq _ _ _ (fun c e => by simp [calmOp, e] at hnd)]
  unfold Oper.wp at h
  cases e : (execOp a.eval o).run P w with
  | halt x w1 =>
    rw [e] at h
    cases x <;> simp only [Oper.upon] at h <;> exact h
  | ok x w1 =>
    rw [e] at h
    cases x with
    | value v => exact hK _ _ h
    | skip => exact hK _ _ h
    | defer d => exact hK _ _ h
    | enter f args =>
      refine ⟨fun q => by simp [Fence.wide] at q, callsIn_wide.2 ?_⟩
      refine Calls.mono h ?_
      intro e w2 q
      cases e with
      | returned v => exact hK _ _ q
      | panicked ch => exact q
      | outgrown => exact q
    | row row args =>
      refine ⟨fun q => by simp [Fence.wide] at q, ?_⟩
      intro c cs _
      obtain ⟨v, w2, hr, hs⟩ := h c cs
      exact ⟨v, w2, hK _ _ hr, stepsIn_wide.2 hs⟩
    | _ => exact h.elim

/-- The loop's record and the block for deferred calls are left alone but by the rounds. -/
structure GoY (base : Nat) (F : Nat → Prop) (lp D : Nat) (rec : Loop) (μ μ' : Mu) (H H' : Heap) (w w' : World) : Prop where
  le : MuLe μ μ'
  same : ∀ b, (b < H.length ∨ H'.length ≤ b) → μ' b = μ b
  hr : HR base (fun k => F k ∨ k = lp ∨ k = D) μ' H' w'
  fr : Fr base F w w'
  len : H.length ≤ H'.length
  rec_ : w'.heap[lp]? = some (.loop rec)
  df : w'.heap[D]? = some (.deferred (some []))

section
variable {lp D : Nat} {rec : Loop}

theorem GoY.trans {μ μ' μ'' : Mu} {H H' H'' : Heap} {w w' w'' : World} (h : GoY base F lp D rec μ μ' H H' w w') (k : GoY base F lp D rec μ' μ'' H' H'' w' w'') : GoY base F lp D rec μ μ'' H H'' w w'' where
  le := h.le.trans k.le
  same b hb := by
    have h1 := h.len
    have h2 := k.len
    rw [k.same b (by omega), h.same b (by omega)]
  hr := k.hr
  fr := h.fr.trans k.fr
  len := Nat.le_trans h.len k.len
  rec_ := k.rec_
  df := k.df

theorem GoY.of {μ μ' : Mu} {H H' : Heap} {w w' : World} (g : Goes base (fun k => F k ∨ k = lp ∨ k = D) μ μ' H H' w w') (h1 : w.heap[lp]? = some (.loop rec)) (h2 : w.heap[D]? = some (.deferred (some []))) : GoY base F lp D rec μ μ' H H' w w' :=
  ⟨g.le, g.same, g.hr, g.fr.weaken (fun k hk => .inl hk), g.len, (g.fr.block lp (.inr (.inr (.inl rfl)))).trans h1, (g.fr.block D (.inr (.inr (.inr rfl)))).trans h2⟩

theorem Free.afterY {μ μ' : Mu} {H H' : Heap} {w w' : World} {n : Nat} (hf : Free μ H.length n) (h : GoY base F lp D rec μ μ' H H' w w') : Free μ' H'.length n := by
  intro b h1 h2
  have := h.len
  rw [h.same b (.inr h1)]
  exact hf b (by omega) h2

/-- A call of yield. -/
def YieldsAt (F : Fence) (m : Nat) (P : Program) (l : Nat) (args : Array Value) (W : World) (R : Ending → World → Prop) : Prop :=
  ∃ fn tmps assign body, (Instr.yield l args).run P W = .ok (.round l fn tmps assign body) W ∧ RoundIn F m P l fn tmps assign body W R

/-- What a round of the loop does, at any time. -/
def RoundOk (P : Program) (base : Nat) (F : Nat → Prop) (lp D b n : Nat) (rec : Loop) (μ0 : Mu) (L : Loc) (rd : RoundF) : Prop :=
  ∀ args H H1, rd args H = some H1 → H.length ≤ H1.length ∧ ∀ μ w args', MuLe μ0 μ → HR base (fun k => F k ∨ k = lp ∨ k = D) μ H w → w.heap[lp]? = some (.loop rec) → w.heap[D]? = some (.deferred (some [])) → VRs μ args args' → Free μ H.length H1.length →
    YieldsAt Fence.wide n P lp args'.toArray w fun e w' => e = .returned (.bool true) ∧ ∃ μ', GoY base F lp D rec μ μ' H H1 w w'

variable {b n : Nat} {μ0 : Mu} {L : Loc} {rd : RoundF} {call : CallF}

theorem RoundOk.len (h : RoundOk P base F lp D b n rec μ0 L rd) : ∀ args H H1, rd args H = some H1 → H.length ≤ H1.length := fun a H H1 e => (h a H H1 e).1

theorem evalOneY_len (hc : SoundCall P call) (hrd : ∀ args H H1, rd args H = some H1 → H.length ≤ H1.length) {ops : Array Oper} {o : Oper} {s s1 : List Value} {H H1 : Heap} (h : evalOneY T call b rd ops o s H = some (s1, H1)) : H.length ≤ H1.length := by
  unfold evalOneY at h
  split at h
  · split at h
    · rw [Option.map_eq_some_iff] at h
      obtain ⟨H2, h2, h⟩ := h
      simp only [Prod.mk.injEq] at h
      rw [← h.2]
      exact hrd _ _ _ h2
    · rw [Option.map_eq_some_iff] at h
      obtain ⟨⟨v, H2⟩, h2, h⟩ := h
      simp only [Prod.mk.injEq] at h
      rw [← h.2]
      exact evalOp_len hc h2
  · simp only [Option.some.injEq, Prod.mk.injEq] at h
    rw [← h.2]
    exact Nat.le_refl _
  · simp at h

theorem evalIdxY_len (hc : SoundCall P call) (hrd : ∀ args H H1, rd args H = some H1 → H.length ≤ H1.length) {ops : Array Oper} : ∀ {is : List Nat} {s s1 : List Value} {H H1 : Heap}, evalIdxY T call b rd ops is s H = some (s1, H1) → H.length ≤ H1.length
  | [], s, s1, H, H1, h => by
    simp only [evalIdxY, Option.some.injEq, Prod.mk.injEq] at h
    rw [h.2]; exact Nat.le_refl _
  | i :: is, s, s1, H, H1, h => by
    unfold evalIdxY at h
    split at h
    · simp at h
    · split at h
      · rename_i s2 H2 e
        exact Nat.le_trans (evalOneY_len hc hrd e) (evalIdxY_len hc hrd h)
      · simp at h

theorem evalCY_len (hc : SoundCall P call) (hrd : ∀ args H H1, rd args H = some H1 → H.length ≤ H1.length) : ∀ {k : Nat} {c : Code} {s : List Value} {H : Heap} {r : Ex × List Value × Heap}, evalCY T call b rd k c s H = some r → H.length ≤ r.2.2.length
  | 0, c, s, H, r, h => by simp [evalCY] at h
  | k + 1, c, s, H, r, h => by
    unfold evalCY at h
    cases c <;> simp only [Option.some.injEq, reduceCtorEq] at h
    · subst h; exact Nat.le_refl _
    · split at h
      · simp at h
      · rw [Option.map_eq_some_iff] at h
        obtain ⟨x, hx, h⟩ := h
        subst h
        exact evalIdxY_len hc hrd hx
    · split at h
      · rename_i s1 H1 e
        exact Nat.le_trans (evalCY_len hc hrd e) (evalCY_len hc hrd h)
      · exact evalCY_len hc hrd h
    · split at h
      · exact evalCY_len hc hrd h
      · exact evalCY_len hc hrd h
      · simp at h
    · split at h
      · rename_i j s1 H1 e
        have := evalCY_len hc hrd e
        split at h <;> (simp only [Option.some.injEq] at h; subst h; exact this)
      · exact evalCY_len hc hrd h
    · split at h
      · rename_i s1 H1 e
        exact Nat.le_trans (evalCY_len hc hrd e) (evalCY_len hc hrd h)
      · exact evalCY_len hc hrd h
    · subst h; exact Nat.le_refl _
    · subst h; exact Nat.le_refl _
    · subst h; exact Nat.le_refl _

/-- A state of the iterator. -/
structure AtY (base : Nat) (F : Nat → Prop) (lp D b : Nat) (rec : Loop) (μ0 : Mu) (L : Loc) (μ : Mu) (s : List Value) (H : Heap) (a : Act) (w : World) : Prop where
  hr : HR base (fun k => F k ∨ k = lp ∨ k = D) μ H w
  rec_ : w.heap[lp]? = some (.loop rec)
  df : w.heap[D]? = some (.deferred (some []))
  le : MuLe μ0 μ
  at_ : μ0 b = some L
  blk : L.blk = lp
  sr : SR μ s a.tmps

def AfterY (base : Nat) (F : Nat → Prop) (lp D b : Nat) (rec : Loop) (μ0 : Mu) (L : Loc) (μ : Mu) (H : Heap) (s1 : List Value) (H1 : Heap) (a : Act) (w : World) (a' : Act) (w' : World) : Prop :=
  ∃ μ', GoY base F lp D rec μ μ' H H1 w w' ∧ AtY base F lp D b rec μ0 L μ' s1 H1 a' w' ∧ a'.defers = a.defers

theorem AtY.refl {μ : Mu} {s : List Value} {H : Heap} {a : Act} {w : World} (h : AtY base F lp D b rec μ0 L μ s H a w) : GoY base F lp D rec μ μ H H w w :=
  ⟨MuLe.refl _, fun _ _ => rfl, h.hr, Fr.refl _ _ _, Nat.le_refl _, h.rec_, h.df⟩

theorem evalOneY_wp (ag : Agree P T) (hm : ∀ t n f e, T.meth t n = some (f, e) → MethOk P t n f e) (hc : SoundCall P call) (hrd : RoundOk P base F lp D b n rec μ0 L rd) {μ : Mu} {ops : Array Oper} {o : Oper} {s s1 : List Value} {H H1 : Heap} {w : World} {a : Act} (hnd : calmOp o = true)
    (he : evalOneY T call b rd ops o s H = some (s1, H1)) (h : AtY base F lp D b rec μ0 L μ s H a w) (hf : Free μ H.length H1.length) {K : Act → World → Prop} {Q : Exit → Act → World → Prop} (hQ : ∀ a w, ¬ Q .outgrown a w)
    (hK : ∀ a' w', AfterY base F lp D b rec μ0 L μ H s1 H1 a w a' w' → K a' w') :
    if Region.wanted o (yielded ops a.tmps) then o.wpIn Fence.wide (n + 1) P a w K Q else (∀ f, o.about P w a.eval = some f → Fence.wide.fn f) ∧ K (a.put o.dst undef) w := by
  unfold evalOneY at he
  split at he
  · rename_i hg
    rw [guard_ok h.sr hg, if_pos rfl]
    split at he
    · rename_i args hy
      rw [Option.map_eq_some_iff] at he
      obtain ⟨H2, h2, he⟩ := he
      simp only [Prod.mk.injEq] at he
      obtain ⟨rfl, rfl⟩ := he
      unfold yieldArgs at hy
      split at hy
      · rename_i fo xs ats hop
        split at hy
        · rename_i c hfo
          split at hy
          · rename_i hcb
            subst hcb
            simp only [Option.some.injEq] at hy
            subst hy
            have hv := h.sr.evals fo
            rw [hfo] at hv
            generalize hρ : a.eval fo = fv at hv
            cases hv with
            | yield hl =>
              have hL := h.le _ _ h.at_
              rw [hL] at hl
              simp only [Option.some.injEq] at hl
              subst hl
              obtain ⟨_, hr2⟩ := hrd _ _ _ h2
              obtain ⟨fn, tmps, assign, body, hyr, hR⟩ := hr2 μ w _ h.le h.hr h.rec_ h.df (VRs.of_map h.sr.evals xs.toList) hf
              refine ⟨fun _ _ => trivial, ?_⟩
              rw [Oper.semAt_eq _ _ _ (fun c e => by simp [calmOp, e] at hnd)]
              have hrun : (execOp a.eval o).run P w = .ok (.round L.blk fn tmps assign body) w := by
                simp only [execOp, hop, resolve, hρ, Deferred.ofValue, pure_bind, invoke]
                rw [h.blk]
                simpa [map_arr] using hyr
              rw [hrun]
              refine ⟨fun q => by simp [Fence.wide] at q, ?_⟩
              rw [h.blk]
              refine RoundIn.mono hR ?_
              rintro e w' ⟨rfl, μ', g⟩
              refine hK _ _ ⟨μ', g, ⟨g.hr, g.rec_, g.df, h.le.trans g.le, h.at_, h.blk, (h.sr.mono g.le).puts o.dst (.bool true)⟩, put_defers _ _ _⟩
          · simp at hy
        · simp at hy
      · simp at hy
    · rw [Option.map_eq_some_iff] at he
      obtain ⟨⟨v, H2⟩, hx, he⟩ := he
      simp only [Prod.mk.injEq] at he
      obtain ⟨rfl, rfl⟩ := he
      refine opW_of hnd (K := K) (evalOp_wp ag hm hc hx h.hr hf h.sr.evals fun v' w' μ' g hv => ?_) (fun _ _ h => h) hQ
      have g' := GoY.of (lp := lp) (D := D) (rec := rec) g h.rec_ h.df
      exact hK _ _ ⟨μ', g', ⟨g'.hr, g'.rec_, g'.df, h.le.trans g.le, h.at_, h.blk, (h.sr.mono g.le).puts o.dst hv⟩, put_defers _ _ _⟩
  · rename_i hg
    rw [guard_ok h.sr hg]
    simp only [Option.some.injEq, Prod.mk.injEq] at he
    obtain ⟨rfl, rfl⟩ := he
    simp only [Bool.false_eq_true, if_false]
    exact ⟨fun _ _ => trivial, hK _ _ ⟨μ, h.refl, ⟨h.hr, h.rec_, h.df, h.le, h.at_, h.blk, h.sr.puts o.dst .skip⟩, put_defers _ _ _⟩⟩
  · simp at he

theorem AfterY.trans {μ μ' : Mu} {H H1 H2 : Heap} {s2 : List Value} {a a1 a2 : Act} {w w1 w2 : World} (g : GoY base F lp D rec μ μ' H H1 w w1) (hd : a1.defers = a.defers) (k : AfterY base F lp D b rec μ0 L μ' H1 s2 H2 a1 w1 a2 w2) : AfterY base F lp D b rec μ0 L μ H s2 H2 a w a2 w2 := by
  obtain ⟨μ2, g2, h2, hd2⟩ := k
  exact ⟨μ2, g.trans g2, h2, hd2.trans hd⟩

theorem evalIdxY_wp (ag : Agree P T) (hm : ∀ t n f e, T.meth t n = some (f, e) → MethOk P t n f e) (hc : SoundCall P call) (hrd : RoundOk P base F lp D b n rec μ0 L rd) {ops : Array Oper} (hca : ops.all calmOp = true) {Q : Exit → Act → World → Prop} (hQn : ∀ a w, ¬ Q .outgrown a w) :
    ∀ {is : List Nat} {μ : Mu} {s s1 : List Value} {H H1 : Heap} {w : World} {a : Act}, evalIdxY T call b rd ops is s H = some (s1, H1) → AtY base F lp D b rec μ0 L μ s H a w → Free μ H.length H1.length →
      (∀ a' w', AfterY base F lp D b rec μ0 L μ H s1 H1 a w a' w' → Q .normal a' w') → wpOpsIn Fence.wide (n + 1) P ops Q is a w
  | [], μ, s, s1, H, H1, w, a, he, h, hf, hQ => by
    simp only [evalIdxY, Option.some.injEq, Prod.mk.injEq] at he
    obtain ⟨rfl, rfl⟩ := he
    exact hQ a w ⟨μ, h.refl, h, rfl⟩
  | i :: is, μ, s, s1, H, H1, w, a, he, h, hf, hQ => by
    unfold evalIdxY at he
    split at he
    · simp at he
    · rename_i o ho
      split at he
      · rename_i s2 H2 e
        have hl1 := evalOneY_len hc hrd.len e
        have hl2 := evalIdxY_len hc hrd.len he
        rw [wpOpsIn]
        simp only [ho]
        have hnd : calmOp o = true := by
          rw [Array.all_eq_true'] at hca
          exact hca o (Array.mem_of_getElem? ho)
        refine evalOneY_wp ag hm hc hrd hnd e h (hf.le hl2) hQn fun a' w' k => ?_
        obtain ⟨μ', g, h', hd⟩ := k
        exact evalIdxY_wp ag hm hc hrd hca hQn he h' (hf.afterY g) fun a2 w2 k2 => hQ a2 w2 (AfterY.trans g hd k2)
      · simp at he

theorem evalCY_wp (ag : Agree P T) (hm : ∀ t n f e, T.meth t n = some (f, e) → MethOk P t n f e) (hc : SoundCall P call) (hrd : RoundOk P base F lp D b n rec μ0 L rd) :
    ∀ (k : Nat) {c : Code} {μ : Mu} {s s1 : List Value} {H H1 : Heap} {e : Ex} {w : World} {a : Act}, calm c = true → evalCY T call b rd k c s H = some (e, s1, H1) → AtY base F lp D b rec μ0 L μ s H a w → Free μ H.length H1.length →
      c.wpIn Fence.wide (n + 1) P (fun x a' w' => x = exOf e ∧ AfterY base F lp D b rec μ0 L μ H s1 H1 a w a' w') a w
  | 0, c, μ, s, s1, H, H1, e, w, a, hca, he, h, hf => by simp [evalCY] at he
  | k + 1, c, μ, s, s1, H, H1, e, w, a, hca, he, h, hf => by
    have same : s = s1 → H = H1 → AfterY base F lp D b rec μ0 L μ H s1 H1 a w a w := by
      rintro rfl rfl
      exact ⟨μ, h.refl, h, rfl⟩
    unfold evalCY at he
    cases c <;> simp only [Option.some.injEq, Prod.mk.injEq, reduceCtorEq] at he
    · obtain ⟨rfl, h1, h2⟩ := he
      exact wpIn_skip ⟨rfl, same h1 h2⟩
    · rename_i id ops draw
      split at he
      · simp at he
      · rename_i hd
        simp only [Bool.not_eq_true] at hd
        subst hd
        rw [Option.map_eq_some_iff] at he
        obtain ⟨⟨s2, H2⟩, hx, he⟩ := he
        simp only [Prod.mk.injEq] at he
        obtain ⟨rfl, rfl, rfl⟩ := he
        exact wpIn_region (evalIdxY_wp ag hm hc hrd hca (fun a w q => by exact absurd q.1 (by simp [exOf])) hx h hf fun a' w' k => ⟨rfl, k⟩)
    · rename_i x y
      simp only [calm, Bool.and_eq_true] at hca
      refine wpIn_seq ?_
      split at he
      · rename_i s2 H2 e2
        have hl := evalCY_len hc hrd.len e2
        have hl2 := evalCY_len hc hrd.len he
        refine wpIn_mono (evalCY_wp ag hm hc hrd k hca.1 e2 h (hf.le hl2)) ?_
        rintro e' a' w' ⟨rfl, μ', g, h', hd⟩
        refine wpIn_mono (evalCY_wp ag hm hc hrd k hca.2 he h' (hf.afterY g)) ?_
        rintro e2 a2 w2 ⟨rfl, k2⟩
        exact ⟨rfl, AfterY.trans g hd k2⟩
      · rename_i hne
        refine wpIn_mono (evalCY_wp ag hm hc hrd k hca.1 he h hf) ?_
        rintro e' a' w' ⟨rfl, k2⟩
        cases e with
        | normal => exact absurd he (by intro q; exact hne _ _ q)
        | exit id => exact ⟨rfl, k2⟩
        | ret => exact ⟨rfl, k2⟩
    · rename_i c x y
      have hv := h.sr.evals c
      simp only [calm, Bool.and_eq_true] at hca
      split at he
      · rename_i ht
        rw [ht] at hv
        generalize hρ : a.eval c = cv at hv
        cases hv
        exact wpIn_cond_true hρ (evalCY_wp ag hm hc hrd k hca.1 he h hf)
      · rename_i ht
        rw [ht] at hv
        generalize hρ : a.eval c = cv at hv
        cases hv
        exact wpIn_cond_false hρ (evalCY_wp ag hm hc hrd k hca.2 he h hf)
      · simp at he
    · rename_i id x
      simp only [calm] at hca
      refine wpIn_block ?_
      split at he
      · rename_i j s2 H2 e2
        have hH : H2 = H1 := by split at he <;> (simp only [Option.some.injEq, Prod.mk.injEq] at he; exact he.2.2)
        have hS : s2 = s1 := by split at he <;> (simp only [Option.some.injEq, Prod.mk.injEq] at he; exact he.2.1)
        subst hH hS
        refine wpIn_mono (evalCY_wp ag hm hc hrd k hca e2 h hf) ?_
        rintro e' a' w' ⟨rfl, k2⟩
        simp only [exOf, Exit.inBlock]
        split at he
        · rename_i hj
          simp only [Option.some.injEq, Prod.mk.injEq] at he
          rw [if_pos hj]
          exact ⟨by rw [← he.1], k2⟩
        · rename_i hj
          simp only [Option.some.injEq, Prod.mk.injEq] at he
          rw [if_neg hj]
          exact ⟨by rw [← he.1], k2⟩
      · rename_i hne
        refine wpIn_mono (evalCY_wp ag hm hc hrd k hca he h hf) ?_
        rintro e' a' w' ⟨rfl, k2⟩
        cases e with
        | exit id => exact absurd he (by intro q; exact hne _ _ _ q)
        | normal => exact ⟨rfl, k2⟩
        | ret => exact ⟨rfl, k2⟩
    · rename_i x
      simp only [calm] at hca
      have he0 : evalCY T call b rd (k + 1) (.loop x) s H = some (e, s1, H1) := by rw [evalCY]; exact he
      refine wpIn_loop_rel (fun m a' w' => ∃ μ' s' H', m ≤ k + 1 ∧ evalCY T call b rd m (.loop x) s' H' = some (e, s1, H1) ∧ GoY base F lp D rec μ μ' H H' w w' ∧ AtY base F lp D b rec μ0 L μ' s' H' a' w' ∧ a'.defers = a.defers ∧ Free μ' H'.length H1.length)
        (m0 := k + 1) ⟨μ, s, H, Nat.le_refl _, he0, h.refl, h, rfl, hf⟩ ?_
      rintro m a1 w1 ⟨μ1, s', H', hm1, he1, g1, hs1, hd1, hf1⟩
      cases m with
      | zero => simp [evalCY] at he1
      | succ j =>
        have hk : j ≤ k := by omega
        have mono : ∀ {r}, evalCY T call b rd j x s' H' = some r → evalCY T call b rd k x s' H' = some r := evalCY_mono hk
        rw [evalCY] at he1
        split at he1
        · rename_i s2 H2 e2
          have e2' := mono e2
          have hl := evalCY_len hc hrd.len e2
          have hl2 := evalCY_len hc hrd.len he1
          refine wpIn_mono (evalCY_wp ag hm hc hrd k hca e2' hs1 (hf1.le hl2)) ?_
          rintro e' a2 w2 ⟨rfl, μ2, g2, hs2, hd2⟩
          exact ⟨j, Nat.lt_succ_self j, μ2, s2, H2, by omega, he1, g1.trans g2, hs2, hd2.trans hd1, hf1.afterY g2⟩
        · rename_i hne
          have e2' := mono he1
          refine wpIn_mono (evalCY_wp ag hm hc hrd k hca e2' hs1 hf1) ?_
          rintro e' a2 w2 ⟨rfl, kk⟩
          have := AfterY.trans g1 hd1 kk
          cases e with
          | normal => exact absurd he1 (by intro q; exact hne _ _ q)
          | exit id => exact ⟨rfl, this⟩
          | ret => exact ⟨rfl, this⟩
    · obtain ⟨rfl, h1, h2⟩ := he
      exact wpIn_exit ⟨rfl, same h1 h2⟩
    · obtain ⟨rfl, h1, h2⟩ := he
      exact wpIn_label ⟨rfl, same h1 h2⟩
    · obtain ⟨rfl, h1, h2⟩ := he
      exact wpIn_ret ⟨rfl, same h1 h2⟩

end

end Go.Proofs.Ytdhbclplondmjaa.C

end

section
/- A range over a function, as a whole; functions that hold one. -/
set_option linter.unusedVariables false
set_option linter.unusedSimpArgs false
namespace Go.Proofs.Ytdhbclplondmjaa.C
open Go.RowKit

variable {P : Program} {T : Tab} {base : Nat} {F : Nat → Prop}

/-- A block that is no cells of ours turns. -/
theorem HR.putObj {μ : Mu} {H : Heap} {w : World} (h : HR base F μ H w) {lp : Nat} (o : Obj) (hb : base ≤ lp) (hf : F lp) : HR base F μ H (w.putObj lp o) where
  own b sz cs l hb1 hl := by
    obtain ⟨a, c, d, e⟩ := h.own b sz cs l hb1 hl
    exact ⟨a, c, d, e.mono (MuLe.refl _) (World.putObj_heap_other (fun q => d (q ▸ hf)))⟩
  ro b sz cs l hb1 hl := by
    obtain ⟨a, c, d⟩ := h.ro b sz cs l hb1 hl
    refine ⟨a, c, fun i v hv => ?_⟩
    obtain ⟨v', x, y⟩ := d i v hv
    exact ⟨v', (cell_of_heap (World.putObj_heap_other (by show l.blk ≠ lp; omega))).trans x, y⟩
  maps b es l hb1 hl := by
    obtain ⟨a, c, d⟩ := h.maps b es l hb1 hl
    exact ⟨a, c, d.mono (MuLe.refl _) (World.putObj_heap_other (fun q => c (q ▸ hf)))⟩
  inj := h.inj
  far k hk := by simpa using h.far k hk
  base_le := by simpa using h.base_le

theorem Fr.putObj {w : World} {lp : Nat} (o : Obj) (hb : base ≤ lp) (hf : ¬ F lp) : Fr base F w (w.putObj lp o) :=
  ⟨rfl, rfl, rfl, by simp, fun k hk => World.putObj_heap_other (fun q => hk.elim (fun h => by omega) (fun h => hf (q ▸ h)))⟩

/-- A dead block. -/
theorem HR.dead {μ : Mu} {H : Heap} {w : World} (h : HR base F μ H w) (hfree : μ H.length = none) (l0 : Loc) : HR base F (μ.set H.length l0) (H ++ [.row 0 [] false false]) w := by
  have hm : MuLe μ (μ.set H.length l0) := Mu.le_set hfree
  have key : ∀ {b : Nat} {x : Blk} {l : Loc}, (H ++ [Blk.row 0 [] false false])[b]? = some x → (μ.set H.length l0) b = some l → (b = H.length ∧ x = .row 0 [] false false) ∨ (H[b]? = some x ∧ μ b = some l) := by
    intro b x l hb hl
    rw [getElem?_snoc] at hb
    by_cases e : b = H.length
    · rw [if_pos e] at hb; simp at hb; exact .inl ⟨e, hb.symm⟩
    · rw [if_neg e] at hb; rw [Mu.set_ne _ _ e] at hl; exact .inr ⟨hb, hl⟩
  refine ⟨?_, ?_, ?_, ?_, h.far, h.base_le⟩
  · intro b sz cs l hb hl
    rcases key hb hl with ⟨_, hx⟩ | ⟨hb, hl⟩
    · simp at hx
    · obtain ⟨a, c, d, e⟩ := h.own b sz cs l hb hl
      exact ⟨a, c, d, e.mono hm rfl⟩
  · intro b sz cs l hb hl
    rcases key hb hl with ⟨_, hx⟩ | ⟨hb, hl⟩
    · simp at hx
    · obtain ⟨a, c, d⟩ := h.ro b sz cs l hb hl
      exact ⟨a, c, fun i v hv => let ⟨v', x, y⟩ := d i v hv; ⟨v', x, y.mono hm⟩⟩
  · intro b es l hb hl
    rcases key hb hl with ⟨_, hx⟩ | ⟨hb, hl⟩
    · simp at hx
    · obtain ⟨a, c, d⟩ := h.maps b es l hb hl
      exact ⟨a, c, d.mono hm rfl⟩
  · intro b b' k k' l l' hb hb' hk hk' hne hl hl'
    rcases key hb hl with ⟨_, hx⟩ | ⟨hb, hl⟩
    · subst hx; simp [Blk.mine] at hk
    · rcases key hb' hl' with ⟨_, hx⟩ | ⟨hb', hl'⟩
      · subst hx; simp [Blk.mine] at hk'
      · exact h.inj b b' k k' l l' hb hb' hk hk' hne hl hl'

/-- More that is left alone, of what lies behind. -/
theorem HR.wider {μ : Mu} {H : Heap} {w w' : World} (h : HR base F μ H w) (hw : ∀ k, k < w.heap.size → w'.heap[k]? = w.heap[k]?) (hs : w.heap.size ≤ w'.heap.size) (G : Nat → Prop) (hG : ∀ k, G k → w.heap.size ≤ k ∧ k < w'.heap.size) :
    HR base (fun k => F k ∨ G k) μ H w' := by
  have h' := h.world hw hs
  refine ⟨?_, h'.ro, ?_, h'.inj, ?_, h'.base_le⟩
  · intro b sz cs l hb hl
    obtain ⟨a, c, d, e⟩ := h.own b sz cs l hb hl
    refine ⟨a, c, fun q => q.elim d (fun q => ?_), e.mono (MuLe.refl _) (hw _ e.lt)⟩
    have := e.lt
    have := hG _ q
    omega
  · intro b es l hb hl
    obtain ⟨a, c, d⟩ := h.maps b es l hb hl
    refine ⟨a, fun q => q.elim c (fun q => ?_), d.mono (MuLe.refl _) (hw _ d.lt)⟩
    have := d.lt
    have := hG _ q
    omega
  · intro k hk
    exact hk.elim (fun q => h'.far k q) (fun q => (hG k q).2)

theorem SR.putAll {μ : Mu} : ∀ (ts : List Tmp) {vs vs' : List Value} {s : List Value} {t : Array Value}, SR μ s t → VRs μ vs vs' → SR μ (putAll s ts vs) ((ts.zip vs').foldl (fun tmps (x : Tmp × Value) => tmps.setIfInBounds x.1 x.2) t)
  | [], _, _, s, t, h, _ => by simpa [C.putAll] using h
  | x :: ts, _, _, s, t, h, .nil => by simpa [C.putAll] using h
  | x :: ts, _, _, s, t, h, .cons hv ht => by
    simp only [C.putAll, List.zip_cons_cons, List.foldl_cons]
    exact SR.putAll ts (h.put x hv) ht

def recOf (fn : FuncId) (tmps : Array Value) (ps : Array Tmp) (assign body : Code) (D : Nat) : Loop := { state := .ready, pending := none, fn, tmps, params := ps, assign, body, defers := D }

theorem rangeRound_ok {call : CallF} (ag : Agree P T) (hm : ∀ t n f e, T.meth t n = some (f, e) → MethOk P t n f e) (hc : SoundCall P call) (hmix : P.follows .mixedOrders = true) {k n b lp D : Nat} {fn : FuncId} {s : List Value} {tmps : Array Value} {ps : Array Tmp} {assign body : Code} {μ0 : Mu} {L : Loc}
    (h1 : codeChk assign = true) (h2 : calm assign = true) (h3 : codeChk body = true) (h4 : calm body = true) (hs : SR μ0 s tmps) (hlp : base ≤ lp) (hD : base ≤ D) (hne : lp ≠ D) (hFl : ¬ F lp) :
    RoundOk P base F lp D b n (recOf fn tmps ps assign body D) μ0 L (rangeRound T call k s ps assign body) := by
  intro args H H1 hr
  unfold rangeRound at hr
  split at hr
  · rename_i hlen
    split at hr
    · rename_i sA HA eA
      split at hr
      · rename_i sB HB eB
        simp only [Option.some.injEq] at hr
        subst hr
        have l1 := evalC_len hc eA
        have l2 := evalC_len hc eB
        simp only at l1 l2
        refine ⟨Nat.le_trans l1 l2, fun μ w args' hle hh hrec hdf hva hfree => ?_⟩
        have hsz : args'.toArray.size = (recOf fn tmps ps assign body D).params.size := by simp [hva.length, recOf, hlen]
        refine ⟨_, _, _, _, run_yield hrec hsz, ?_⟩
        refine roundIn_of_wpIn trivial ?_
        have hsr : SR μ (putAll s ps.toList args) (((recOf fn tmps ps assign body D).params.zip args'.toArray).foldl (fun tmps (x : Tmp × Value) => tmps.setIfInBounds x.1 x.2) (recOf fn tmps ps assign body D).tmps) := by
          have := SR.putAll ps.toList (hs.mono hle) hva
          rw [← Array.foldl_toList, Array.toList_zip]
          simpa [recOf] using this
        refine wpIn_mono (evalC_in (F := fun k => F k ∨ k = lp ∨ k = D) ag hm hc hmix lp n k h1 h2 eA hh (a := { tmps := _, defers := [] }) hsr (hfree.le l2)) ?_
        rintro x a1 w1 ⟨rfl, μ1, g1, hs1, hd1⟩
        have hrec1 : w1.heap[lp]? = some (.loop (recOf fn tmps ps assign body D)) := (g1.fr.block lp (.inr (.inr (.inl rfl)))).trans hrec
        have hdf1 : w1.heap[D]? = some (.deferred (some [])) := (g1.fr.block D (.inr (.inr (.inr rfl)))).trans hdf
        refine ⟨_, run_beginRound hrec1 rfl, ?_⟩
        have hh2 := g1.hr.putObj (lp := lp) (.loop { recOf fn tmps ps assign body D with state := .busy }) hlp (.inr (.inl rfl))
        refine wpIn_mono (evalC_in (F := fun k => F k ∨ k = lp ∨ k = D) ag hm hc hmix lp n k h3 h4 eB hh2 hs1 (hfree.after g1)) ?_
        rintro x a2 w2 ⟨rfl, μ2, g2, hs2, hd2⟩
        have hlt1 : lp < w1.heap.size := (Array.getElem?_eq_some_iff.1 hrec1).1
        have hrec2 : w2.heap[lp]? = some (.loop { recOf fn tmps ps assign body D with state := .busy }) := (g2.fr.block lp (.inr (.inr (.inl rfl)))).trans (World.putObj_heap_same hlt1)
        have hdf2 : w2.heap[D]? = some (.deferred (some [])) := (g2.fr.block D (.inr (.inr (.inr rfl)))).trans ((World.putObj_heap_other (Ne.symm hne)).trans hdf1)
        have hlt2 : lp < w2.heap.size := (Array.getElem?_eq_some_iff.1 hrec2).1
        refine ⟨_, _, run_endRound none hrec2, rfl, μ2, ?_⟩
        refine ⟨g1.le.trans g2.le, fun b hb => ?_, g2.hr.putObj _ hlp (.inr (.inl rfl)), ?_, Nat.le_trans g1.len g2.len, World.putObj_heap_same hlt2, (World.putObj_heap_other (Ne.symm hne)).trans hdf2⟩
        · have := g1.len
          have := g2.len
          rw [g2.same b (by omega), g1.same b (by omega)]
        · exact (((g1.fr.weaken (fun k hk => .inl hk)).trans (Fr.putObj _ hlp hFl)).trans (g2.fr.weaken (fun k hk => .inl hk))).trans (Fr.putObj _ hlp hFl)
      · simp at hr
    · simp at hr
  · simp at hr

/-- After code that may hold a range over a function: more is left alone; perhaps a mark lies among the deferred calls. -/
def AfterX (base : Nat) (F : Nat → Prop) (μ : Mu) (H : Heap) (s1 : List Value) (H1 : Heap) (a : Act) (w : World) (a' : Act) (w' : World) : Prop :=
  ∃ μ' F', (∀ k, F k → F' k) ∧ MuLe μ μ' ∧ (∀ b, (b < H.length ∨ H1.length ≤ b) → μ' b = μ b) ∧ HR base F' μ' H1 w' ∧ Fr base F w w' ∧ H.length ≤ H1.length ∧ SR μ' s1 a'.tmps ∧
    (a'.defers = a.defers ∨ ∃ D, a'.defers = [{ target := .collected D, args := #[] }] ++ a.defers ∧ F' D ∧ base ≤ D ∧ ¬ F D ∧ w'.heap[D]? = some (.deferred (some [])))

theorem AfterX.of {μ : Mu} {H H1 : Heap} {s1 : List Value} {a a' : Act} {w w' : World} (h : After base F μ H s1 H1 a w a' w') : AfterX base F μ H s1 H1 a w a' w' := by
  obtain ⟨μ', g, hs, hd⟩ := h
  exact ⟨μ', F, fun _ h => h, g.le, g.same, g.hr, g.fr, g.len, hs, .inl hd⟩

theorem rangeRound_len {call : CallF} (hc : SoundCall P call) {k : Nat} {s : List Value} {ps : Array Tmp} {assign body : Code} : ∀ args H H1, rangeRound T call k s ps assign body args H = some H1 → H.length ≤ H1.length := by
  intro args H H1 hr
  unfold rangeRound at hr
  split at hr
  · split at hr
    · rename_i sA HA eA
      split at hr
      · rename_i sB HB eB
        simp only [Option.some.injEq] at hr
        subst hr
        exact Nat.le_trans (evalC_len hc eA) (evalC_len hc eB)
      · simp at hr
    · simp at hr
  · simp at hr

theorem evalRange_len {call : CallF} (hc : SoundCall P call) {k : Nat} {g : Operand} {ps : Array Tmp} {assign body : Code} {s : List Value} {H H1 : Heap} (he : evalRange T call k s H g ps assign body = some H1) : H.length < H1.length := by
  unfold evalRange at he
  split at he
  · split at he
    · split at he
      · split at he
        · split at he
          · rename_i s1 H2 e2
            rw [Option.map_eq_some_iff] at he
            obtain ⟨v, hv, rfl⟩ := he
            have := evalCY_len hc (rangeRound_len hc) e2
            simp at this
            omega
          · rename_i s1 H2 e2
            rw [Option.map_eq_some_iff] at he
            obtain ⟨v, hv, rfl⟩ := he
            have := evalCY_len hc (rangeRound_len hc) e2
            simp at this
            omega
          · simp at he
        · simp at he
      · simp at he
    · simp at he
  · simp at he

theorem evalRange_in {call : CallF} (hF : Fits P T) (hc : SoundCall P call) (hmix : P.follows .mixedOrders = true) {k m : Nat} {g : Operand} {ps : Array Tmp} {assign body : Code} {μ : Mu} {s : List Value} {H H1 : Heap} {w : World} {a : Act}
    (he : evalRange T call k s H g ps assign body = some H1) (hltH : H.length < H1.length) (h : HR base F μ H w) (hs : SR μ s a.tmps) (hfree : Free μ H.length H1.length) :
    (Code.rangeFunc g ps assign body).wpIn Fence.wide (m + 2) P (fun x a' w' => x = .normal ∧ AfterX base F μ H s H1 a w a' w') a w := by
  unfold evalRange at he
  split at he
  · rename_i f first cap hg
    split at he
    · rename_i fn hfn
      split at he
      · rename_i c hb
        split at he
        · rename_i hchk
          simp only [Bool.and_eq_true] at hchk
          obtain ⟨⟨⟨⟨hc0, hc1⟩, hc2⟩, hc3⟩, hc4⟩ := hchk
          have hv := hs.evals g
          rw [hg] at hv
          generalize hρ : a.eval g = gv at hv
          cases hv with
          | func fn0 hfs hcs =>
            rename_i f1 first' c1 cap'
            simp only [List.toList_toArray] at he
            -- the two new blocks
            let D := w.heap.size
            let lp := w.heap.size + 1
            let L : Loc := ⟨lp, 0, 0, 0⟩
            have hcy : ∃ (e : Ex) (s1 : List Value) (v : Value), evalCY T call H.length (rangeRound T call k s ps assign body) k c (startC fn (f1 ++ [Value.chan (some H.length)] ++ c1)) (H ++ [.row 0 [] false false]) = some (e, s1, H1) ∧ (e = Ex.normal ∨ e = Ex.ret) ∧ resultsC T fn s1 H1 = some v := by
              split at he
              · rename_i s1 H2 e2
                rw [Option.map_eq_some_iff] at he
                obtain ⟨v, hv, rfl⟩ := he
                exact ⟨_, _, v, e2, .inl rfl, hv⟩
              · rename_i s1 H2 e2
                rw [Option.map_eq_some_iff] at he
                obtain ⟨v, hv, rfl⟩ := he
                exact ⟨_, _, v, e2, .inr rfl, hv⟩
              · simp at he
            obtain ⟨e, s1, v, he2, hee, hres⟩ := hcy
            have hbD : base ≤ D := h.base_le
            have hblp : base ≤ lp := Nat.le_succ_of_le h.base_le
            have hFD : ¬ F D := fun q => Nat.lt_irrefl _ (h.far _ q)
            have hFlp : ¬ F lp := fun q => by have := h.far _ q; simp [lp] at this; omega
            have hne : lp ≠ D := by simp [lp, D]
            have hlen0 : H.length ≤ H1.length := Nat.le_of_lt hltH
            have hμb : μ H.length = none := hfree _ (Nat.le_refl _) hltH
            have hmle : MuLe μ (μ.set H.length L) := Mu.le_set hμb
            refine wpIn_rangeFunc ?_
            intro fid _
            have hro := rangeRound_ok (base := base) (F := F) (lp := lp) (D := D) (b := H.length) (n := m) (fn := fid) (L := L) hF.ag hF.meth hc hmix (k := k) (s := s) (ps := ps) (assign := assign) (body := body) (μ0 := μ.set H.length L) hc1 hc2 hc3 hc4 (hs.mono hmle) hblp hbD hne hFlp
            have hent := hF.call f (.inl (by simp [hfn]))
            let w1 : World := (w.alloc (.deferred (some []))).alloc (.loop (recOf fid a.tmps ps assign body D))
            let d : Deferred := { target := .fn (.func f) cap'.toArray, args := first'.toArray ++ #[.func (.yield lp) #[] #[]] }
            have hold : ∀ k, k < w.heap.size → w1.heap[k]? = w.heap[k]? := by
              intro k hk
              rw [show w1.heap[k]? = (w.alloc (.deferred (some []))).heap[k]? from Below.heap_alloc _ _ k (by simp; omega)]
              exact Below.heap_alloc _ _ k hk
            have hsz1 : w1.heap.size = w.heap.size + 2 := by simp [w1]
            have hrec1 : w1.heap[lp]? = some (.loop (recOf fid a.tmps ps assign body D)) := by
              have := World.alloc_heap_new (w.alloc (.deferred (some []))) (.loop (recOf fid a.tmps ps assign body D))
              rw [World.size_alloc] at this
              exact this
            have hdf1 : w1.heap[D]? = some (.deferred (some [])) := by
              rw [show w1.heap[D]? = (w.alloc (.deferred (some []))).heap[D]? from Below.heap_alloc _ _ D (by simp [D])]
              exact World.alloc_heap_new w _
            have hh1 : HR base (fun k => F k ∨ k = lp ∨ k = D) (μ.set H.length L) (H ++ [.row 0 [] false false]) w1 := by
              have := h.wider hold (by omega) (fun k => k = lp ∨ k = D) (fun k hk => by rcases hk with rfl | rfl <;> simp [lp, D, hsz1])
              exact this.dead hμb L
            refine ⟨lp, [{ target := .collected w.heap.size, args := #[] }], w1, d, w1, f, first'.toArray ++ #[Value.func (.yield lp) #[] #[]] ++ cap'.toArray, w1, run_enterLoop_outer fid a.tmps ps assign body, ?_, fun _ _ => trivial, ?_, fun q => by simp [Fence.wide] at q, ?_⟩
            · simp [rangeCall, resolve, hρ, Deferred.ofValue, d, lp]
              rfl
            · simp only [d, invoke]
              exact hent _ _
            · show CallsIn Fence.wide (m + 1) P f _ w1 _
              have hargs : VRs (μ.set H.length L) (f1 ++ [Value.chan (some H.length)] ++ c1) (first' ++ [Value.func (.yield lp) #[] #[]] ++ cap') := by
                refine ((hfs.mono hmle).append (.cons ?_ .nil)).append (hcs.mono hmle)
                exact VR.yield (l := L) (Mu.set_same _ _ _)
              have hst := start_ok hargs fn
              have harr : (first'.toArray ++ #[Value.func (.yield lp) #[] #[]] ++ cap'.toArray) = (first' ++ [Value.func (.yield lp) #[] #[]] ++ cap').toArray := by simp
              rw [harr]
              refine callsIn_of_wp (hF.ag.fn f fn hfn) hb trivial ?_ rfl
              refine wpIn_mono (evalCY_wp hF.ag hF.meth hc hro k hc0 he2 (μ := μ.set H.length L) (a := { tmps := _, defers := [] }) ⟨hh1, hrec1, hdf1, MuLe.refl _, Mu.set_same _ _ _, rfl, hst⟩ ?_) ?_
              · intro b hb1 hb2
                simp at hb1
                rw [Mu.set_ne _ _ (by omega)]
                exact hfree b (by omega) hb2
              · rintro x a2 w2 ⟨rfl, μ2, g2, h2, hd2⟩
                obtain ⟨v', hrun, hvv⟩ := results_ok (P := P) hF.ag h2.hr h2.sr hres
                have hlt2 : lp < w2.heap.size := (Array.getElem?_eq_some_iff.1 h2.rec_).1
                have hpost : rangePost Fence.wide (m + 2) P lp (fun x a' w' => x = .normal ∧ AfterX base F μ H s H1 a w a' w') { a with defers := [{ target := .collected w.heap.size, args := #[] }] ++ a.defers } (.returned v') w2 := by
                  refine ⟨none, _, run_endLoop h2.rec_ (by simp [recOf]), rfl, ?_⟩
                  refine ⟨μ2, fun k => F k ∨ k = lp ∨ k = D, fun k hk => .inl hk, hmle.trans g2.le, fun b hb => ?_, h2.hr.putObj _ hblp (.inr (.inl rfl)), ?_, hlen0, hs.mono (hmle.trans g2.le), .inr ⟨D, rfl, .inr (.inr rfl), hbD, hFD, (World.putObj_heap_other (Ne.symm hne)).trans h2.df⟩⟩
                  · have e1 := g2.same b (by simp; omega)
                    rw [e1, Mu.set_ne _ _ (by omega)]
                  · refine (Fr.trans ?_ g2.fr).trans (Fr.putObj _ hblp hFlp)
                    exact ⟨rfl, rfl, rfl, by omega, fun k hk => hold k (hk.elim (fun q => Nat.lt_of_lt_of_le q h.base_le) (h.far k))⟩
                rcases hee with rfl | rfl
                · exact ⟨hd2, v', hrun, hpost⟩
                · exact ⟨hd2, v', hrun, hpost⟩
        · simp at he
      · simp at he
    · simp at he
  · simp at he

theorem hasRange_wide {n : Nat} {c : Code} {Q : Exit → Act → World → Prop} {a : Act} {w : World} (h : c.wp P Q a w) : c.wpIn Fence.wide n P Q a w := wpIn_wide.2 h

theorem evalX_in {call : CallF} (hF : Fits P T) (hc : SoundCall P call) (hmix : P.follows .mixedOrders = true) {k m : Nat} : ∀ {c : Code} {μ : Mu} {s s1 : List Value} {H H1 : Heap} {e : Ex} {w : World} {a : Act},
    evalX T call k c s H = some (e, s1, H1) → H.length ≤ H1.length ∧ (HR base F μ H w → SR μ s a.tmps → Free μ H.length H1.length →
      c.wpIn Fence.wide (m + 2) P (fun x a' w' => x = exOf e ∧ AfterX base F μ H s1 H1 a w a' w') a w)
  | .seq x y, μ, s, s1, H, H1, e, w, a, he => by
    unfold evalX at he
    split at he
    · have key : ∀ {e2 : Ex} {s2 : List Value} {H2 : Heap}, evalX T call k x s H = some (e2, s2, H2) → (e2 = .normal → codeChk y = true ∧ evalC T call k y s2 H2 = some (e, s1, H1)) → (e2 ≠ .normal → e2 = e ∧ s2 = s1 ∧ H2 = H1) →
          H.length ≤ H1.length ∧ (HR base F μ H w → SR μ s a.tmps → Free μ H.length H1.length → (Code.seq x y).wpIn Fence.wide (m + 2) P (fun x a' w' => x = exOf e ∧ AfterX base F μ H s1 H1 a w a' w') a w) := by
        intro e2 s2 H2 hx hn ho
        have ih := evalX_in (μ := μ) (w := w) (a := a) (m := m) hF hc hmix hx
        cases e2 with
        | normal =>
          obtain ⟨hcy, hy⟩ := hn rfl
          have l2 := evalC_len hc hy
          refine ⟨Nat.le_trans ih.1 l2, fun h hs hfree => ?_⟩
          refine wpIn_seq (wpIn_mono (ih.2 h hs (hfree.le l2)) ?_)
          rintro e' a' w' ⟨rfl, μ', F', hF', hle, hsame, hr, hfr, hlen, hsr, hd⟩
          have hfree' : Free μ' H2.length H1.length := by
            intro b h1 h2
            rw [hsame b (.inr h1)]
            exact hfree b (by omega) h2
          refine wpIn_mono (hasRange_wide (evalC_wp (F := F') hF.ag hF.meth hc k (codeOk hF.ag hF.meth hmix hcy) hy hr hsr hfree')) ?_
          rintro e3 a3 w3 ⟨rfl, μ3, g3, hs3, hd3⟩
          refine ⟨rfl, μ3, F', hF', hle.trans g3.le, fun b hb => ?_, g3.hr, hfr.trans (g3.fr.weaken hF'), Nat.le_trans hlen g3.len, hs3, ?_⟩
          · have := g3.len
            rw [g3.same b (by omega), hsame b (by omega)]
          · rcases hd with hd | ⟨D, hd, h1, h2, h3, h4⟩
            · exact .inl (hd3.trans hd)
            · exact .inr ⟨D, hd3.trans hd, h1, h2, h3, (g3.fr.block D (.inr h1)).trans h4⟩
        | exit j =>
          obtain ⟨rfl, rfl, rfl⟩ := ho (by simp)
          refine ⟨ih.1, fun h hs hfree => wpIn_seq (wpIn_mono (ih.2 h hs hfree) ?_)⟩
          rintro e' a' w' ⟨rfl, hh⟩
          exact ⟨rfl, hh⟩
        | ret =>
          obtain ⟨rfl, rfl, rfl⟩ := ho (by simp)
          refine ⟨ih.1, fun h hs hfree => wpIn_seq (wpIn_mono (ih.2 h hs hfree) ?_)⟩
          rintro e' a' w' ⟨rfl, hh⟩
          exact ⟨rfl, hh⟩
      split at he
      · rename_i s2 H2 e2
        split at he
        · rename_i hcy
          exact key e2 (fun _ => ⟨hcy, he⟩) (fun q => absurd rfl q)
        · simp at he
      · rename_i hne
        exact key he (fun q => by subst q; exact absurd he (hne _ _)) (fun _ => ⟨rfl, rfl, rfl⟩)
    · have key : ∀ {e2 : Ex} {s2 : List Value} {H2 : Heap}, codeChk x = true → evalC T call k x s H = some (e2, s2, H2) → (e2 = .normal → evalX T call k y s2 H2 = some (e, s1, H1)) → (e2 ≠ .normal → e2 = e ∧ s2 = s1 ∧ H2 = H1) →
          H.length ≤ H1.length ∧ (HR base F μ H w → SR μ s a.tmps → Free μ H.length H1.length → (Code.seq x y).wpIn Fence.wide (m + 2) P (fun x a' w' => x = exOf e ∧ AfterX base F μ H s1 H1 a w a' w') a w) := by
        intro e2 s2 H2 hcx hx hn ho
        have l1 := evalC_len hc hx
        have wx := fun (h : HR base F μ H w) (hs : SR μ s a.tmps) (hfree : Free μ H.length H2.length) => hasRange_wide (n := m + 2) (evalC_wp (F := F) hF.ag hF.meth hc k (codeOk hF.ag hF.meth hmix hcx) hx h hs hfree)
        cases e2 with
        | normal =>
          have ih0 := evalX_in (μ := μ) (w := w) (a := a) (m := m) hF hc hmix (hn rfl)
          refine ⟨Nat.le_trans l1 ih0.1, fun h hs hfree => ?_⟩
          refine wpIn_seq (wpIn_mono (wx h hs (hfree.le ih0.1)) ?_)
          rintro e' a' w' ⟨rfl, μ', g, hsr, hd⟩
          have ih := evalX_in (μ := μ') (w := w') (a := a') (m := m) hF hc hmix (hn rfl)
          refine wpIn_mono (ih.2 g.hr hsr (hfree.after g)) ?_
          rintro e3 a3 w3 ⟨rfl, μ3, F', hF', hle, hsame, hr, hfr, hlen, hs3, hd3⟩
          refine ⟨rfl, μ3, F', hF', g.le.trans hle, fun b hb => ?_, hr, g.fr.trans hfr, Nat.le_trans g.len hlen, hs3, ?_⟩
          · have := g.len
            rw [hsame b (by omega), g.same b (by omega)]
          · rw [← hd]; exact hd3
        | exit j =>
          obtain ⟨rfl, rfl, rfl⟩ := ho (by simp)
          refine ⟨l1, fun h hs hfree => wpIn_seq (wpIn_mono (wx h hs hfree) ?_)⟩
          rintro e' a' w' ⟨rfl, hh⟩
          exact ⟨rfl, AfterX.of hh⟩
        | ret =>
          obtain ⟨rfl, rfl, rfl⟩ := ho (by simp)
          refine ⟨l1, fun h hs hfree => wpIn_seq (wpIn_mono (wx h hs hfree) ?_)⟩
          rintro e' a' w' ⟨rfl, hh⟩
          exact ⟨rfl, AfterX.of hh⟩
      by_cases hcx : codeChk x = true
      · simp only [hcx, if_true] at he
        split at he
        · rename_i s2 H2 e2
          exact key hcx e2 (fun _ => he) (fun q => absurd rfl q)
        · rename_i hne
          exact key hcx he (fun q => by subst q; exact absurd he (hne _ _)) (fun _ => ⟨rfl, rfl, rfl⟩)
      · simp only [hcx, if_false, Bool.false_eq_true, reduceCtorEq] at he
  | .block id x, μ, s, s1, H, H1, e, w, a, he => by
    unfold evalX at he
    split at he
    · rename_i j s2 H2 e2
      have hH : H2 = H1 := by split at he <;> (simp only [Option.some.injEq, Prod.mk.injEq] at he; exact he.2.2)
      have hS : s2 = s1 := by split at he <;> (simp only [Option.some.injEq, Prod.mk.injEq] at he; exact he.2.1)
      subst hH hS
      have ih := evalX_in (μ := μ) (w := w) (a := a) (m := m) hF hc hmix e2
      refine ⟨ih.1, fun h hs hfree => wpIn_block (wpIn_mono (ih.2 h hs hfree) ?_)⟩
      rintro e' a' w' ⟨rfl, k2⟩
      simp only [exOf, Exit.inBlock]
      split at he
      · rename_i hj
        simp only [Option.some.injEq, Prod.mk.injEq] at he
        rw [if_pos hj]
        exact ⟨by rw [← he.1], k2⟩
      · rename_i hj
        simp only [Option.some.injEq, Prod.mk.injEq] at he
        rw [if_neg hj]
        exact ⟨by rw [← he.1], k2⟩
    · rename_i hne
      have ih := evalX_in (μ := μ) (w := w) (a := a) (m := m) hF hc hmix he
      refine ⟨ih.1, fun h hs hfree => wpIn_block (wpIn_mono (ih.2 h hs hfree) ?_)⟩
      rintro e' a' w' ⟨rfl, k2⟩
      cases e with
      | exit id => exact absurd he (hne _ _ _)
      | normal => exact ⟨rfl, k2⟩
      | ret => exact ⟨rfl, k2⟩
  | .rangeFunc g ps assign body, μ, s, s1, H, H1, e, w, a, he => by
    unfold evalX at he
    rw [Option.map_eq_some_iff] at he
    obtain ⟨H2, he, h2⟩ := he
    simp only [Prod.mk.injEq] at h2
    obtain ⟨rfl, rfl, rfl⟩ := h2
    have hlt := evalRange_len hc he
    exact ⟨Nat.le_of_lt hlt, fun h hs hfree => evalRange_in hF hc hmix he hlt h hs hfree⟩
  | .skip, _, _, _, _, _, _, _, _, he | .exit _, _, _, _, _, _, _, _, _, he | .label _, _, _, _, _, _, _, _, _, he | .ret, _, _, _, _, _, _, _, _, he | .goto _, _, _, _, _, _, _, _, _, he | .refuse _, _, _, _, _, _, _, _, _, he | .scope _, _, _, _, _, _, _, _, _, he
  | .region .., _, _, _, _, _, _, _, _, he | .cond .., _, _, _, _, _, _, _, _, he | .loop _, _, _, _, _, _, _, _, _, he => by simp [evalX] at he

/-- A function that holds a range over a function. -/
def callX (T : Tab) (call : CallF) (n : Nat) (fn : Func) : List Value → Heap → Option (Value × Heap) := fun args H =>
  match fn.body with
  | some c =>
    match evalX T call n c (startC fn args) H with
    | some (.normal, s1, H1) => (resultsC T fn s1 H1).map fun v => (v, H1)
    | some (.ret, s1, H1) => (resultsC T fn s1 H1).map fun v => (v, H1)
    | _ => none
  | none => none

theorem callX_ok {call : CallF} (hF : Fits P T) (hc : SoundCall P call) (hmix : P.follows .mixedOrders = true) (n : Nat) {f : FuncId} {fn : Func} (hf : P.funcs[f]? = some fn) : ExtOk P f (callX T call n fn) := by
  intro args H v H1 he
  unfold callX at he
  split at he
  · rename_i c hb
    have hx : ∃ (e : Ex) (s1 : List Value), evalX T call n c (startC fn args) H = some (e, s1, H1) ∧ (e = Ex.normal ∨ e = Ex.ret) ∧ resultsC T fn s1 H1 = some v := by
      split at he
      · rename_i s1 H2 e2
        rw [Option.map_eq_some_iff] at he
        obtain ⟨u, hu, he⟩ := he
        simp only [Prod.mk.injEq] at he
        obtain ⟨rfl, rfl⟩ := he
        exact ⟨_, _, e2, .inl rfl, hu⟩
      · rename_i s1 H2 e2
        rw [Option.map_eq_some_iff] at he
        obtain ⟨u, hu, he⟩ := he
        simp only [Prod.mk.injEq] at he
        obtain ⟨rfl, rfl⟩ := he
        exact ⟨_, _, e2, .inr rfl, hu⟩
      · simp at he
    obtain ⟨e, s1, hx, hee, hres⟩ := hx
    refine ⟨(evalX_in (base := 0) (F := fun _ => False) (μ := fun _ => none) (a := ⟨#[], []⟩) (w := default) (m := 0) hF hc hmix hx).1, ?_⟩
    intro base F μ w args' hh hfree ha
    refine callsIn_wide.1 (callsIn_of_wp_marks (n := 2) hf hb trivial ?_ rfl)
    refine wpIn_mono ((evalX_in (base := base) (F := F) (μ := μ) (a := { tmps := _, defers := [] }) (w := w) (m := 0) hF hc hmix hx).2 hh (start_ok ha fn) hfree) ?_
    rintro x a2 w2 ⟨rfl, μ2, F2, hF2, hle, hsame, hr2, hfr, hlen, hs2, hd⟩
    have fin : LeavesInM Fence.wide 2 P fn a2.tmps (CallPost base F μ H H1 w v) a2.defers .returning w2 := by
      rcases hd with hd | ⟨D, hd, h1, h2, h3, h4⟩
      · rw [hd]
        obtain ⟨v', hrun, hv⟩ := results_ok (P := P) hF.ag hr2 hs2 hres
        have hr3 : HR base F μ2 H1 w2 := ⟨fun b sz cs l a b' => let ⟨p, q, r, t⟩ := hr2.own b sz cs l a b'; ⟨p, q, fun z => r (hF2 _ z), t⟩, hr2.ro, fun b es l a b' => let ⟨p, q, t⟩ := hr2.maps b es l a b'; ⟨p, fun z => q (hF2 _ z), t⟩, hr2.inj, fun k hk => hr2.far k (hF2 _ hk), hr2.base_le⟩
        exact ⟨v', hrun, v', μ2, rfl, ⟨hle, hsame, hr3, hfr, hlen⟩, hv⟩
      · rw [hd]
        have hr4 := hr2.putObj (lp := D) (.deferred none) h2 h1
        obtain ⟨v', hrun, hv⟩ := results_ok (P := P) hF.ag hr4 hs2 hres
        have hr3 : HR base F μ2 H1 (w2.putObj D (.deferred none)) := ⟨fun b sz cs l a b' => let ⟨p, q, r, t⟩ := hr4.own b sz cs l a b'; ⟨p, q, fun z => r (hF2 _ z), t⟩, hr4.ro, fun b es l a b' => let ⟨p, q, t⟩ := hr4.maps b es l a b'; ⟨p, fun z => q (hF2 _ z), t⟩, hr4.inj, fun k hk => hr4.far k (hF2 _ hk), hr4.base_le⟩
        exact ⟨by simp, .inl ⟨D, _, rfl, run_takeDeferred h4, v', hrun, v', μ2, rfl, ⟨hle, hsame, hr3, hfr.trans (Fr.putObj _ h2 h3), hlen⟩, hv⟩⟩
    rcases hee with rfl | rfl
    · exact fin
    · exact fin
  · simp at he

end Go.Proofs.Ytdhbclplondmjaa.C

end

section
/- Functions of plain values, run once and for all; tables one upon another. -/
set_option linter.unusedVariables false
set_option linter.unusedSimpArgs false
namespace Go.Proofs.Ytdhbclplondmjaa.C
open Go.RowKit

variable {P : Program} {T : Tab}

def plains : List Value → Bool
  | [] => true
  | v :: l => plain v && plains l

def flat : Value → Bool
  | .agg cs => plains cs.toList
  | .tuple cs => plains cs.toList && decide (cs.size ≠ 0)
  | v => plain v

theorem plain_eq {μ : Mu} {v v' : Value} (hp : plain v = true) (h : VR μ v v') : v' = v := by
  cases h <;> simp [plain] at hp <;> rfl

theorem plains_eq {μ : Mu} : ∀ {l l' : List Value}, plains l = true → VRs μ l l' → l' = l
  | [], _, _, .nil => rfl
  | v :: l, _, hp, .cons h t => by
    simp only [plains, Bool.and_eq_true] at hp
    rw [plain_eq hp.1 h, plains_eq hp.2 t]

theorem plains_refl {μ : Mu} : ∀ {l : List Value}, plains l = true → VRs μ l l
  | [], _ => .nil
  | v :: l, hp => by
    simp only [plains, Bool.and_eq_true] at hp
    exact .cons (plain_vr μ hp.1) (plains_refl hp.2)

theorem flat_eq {μ : Mu} {v v' : Value} (hp : flat v = true) (h : VR μ v v') : v' = v := by
  cases h with
  | agg hc => simp only [flat, List.toList_toArray] at hp; rw [plains_eq hp hc]
  | tuple hc =>
    simp only [flat, List.toList_toArray, Bool.and_eq_true] at hp; rw [plains_eq hp.1 hc]
  | undef v => simp [flat] at hp
  | skip => simp [flat, plain] at hp
  | yield h => simp [flat, plain] at hp
  | _ => exact plain_eq (μ := μ) hp (by constructor <;> assumption)

theorem flat_refl {μ : Mu} {v : Value} (hp : flat v = true) : VR μ v v := by
  cases v with
  | agg cs =>
    have := VR.agg (plains_refl (μ := μ) (l := cs.toList) hp)
    simpa using this
  | tuple cs =>
    simp only [flat, Bool.and_eq_true] at hp
    have := VR.tuple (plains_refl (μ := μ) (l := cs.toList) hp.1)
    simpa using this
  | _ => exact plain_vr μ hp

def flats : List Value → Bool
  | [] => true
  | v :: l => flat v && flats l

theorem flats_eq {μ : Mu} : ∀ {l l' : List Value}, flats l = true → VRs μ l l' → l' = l
  | [], _, _, .nil => rfl
  | v :: l, _, hp, .cons h t => by
    simp only [flats, Bool.and_eq_true] at hp
    rw [flat_eq hp.1 h, flats_eq hp.2 t]

theorem flats_refl {μ : Mu} : ∀ {l : List Value}, flats l = true → VRs μ l l
  | [], _ => .nil
  | v :: l, hp => by
    simp only [flats, Bool.and_eq_true] at hp
    exact .cons (flat_refl hp.1) (flats_refl hp.2)

/-- A function that is run in an empty memory. -/
def pureX (T : Tab) (n : Nat) (f : FuncId) : List Value → Heap → Option (Value × Heap) := fun args H =>
  if flats args then
    match callC T n f args [] with
    | some (v, _) => if flat v then some (v, H) else none
    | none => none
  else none

theorem pureX_ok (hF : Fits P T) (n : Nat) (f : FuncId) : ExtOk P f (pureX T n f) := by
  intro args H v H1 he
  unfold pureX at he
  split at he
  · rename_i hfl
    split at he
    · rename_i v2 E e2
      split at he
      · rename_i hv
        simp only [Option.some.injEq, Prod.mk.injEq] at he
        obtain ⟨rfl, rfl⟩ := he
        refine ⟨Nat.le_refl _, fun base F μ w args' hh hfree ha => ?_⟩
        have := flats_eq hfl ha
        subst this
        have h0 : HR w.heap.size (fun _ => False) (fun _ => none) [] w := ⟨fun b _ _ _ hb => by simp at hb, fun b _ _ _ hb => by simp at hb, fun b _ _ hb => by simp at hb, fun b _ _ _ _ _ hb => by simp at hb, fun _ h => h.elim, Nat.le_refl _⟩
        refine Calls.mono ((callC_sound hF n).calls f args' [] _ _ e2 w.heap.size (fun _ => False) (fun _ => none) w args' h0 (fun _ _ _ => rfl) (flats_refl hfl)) ?_
        rintro e w' ⟨v', μ', rfl, g, hv'⟩
        have := flat_eq hv hv'
        subst this
        refine ⟨_, μ, rfl, ⟨MuLe.refl _, fun _ _ => rfl, hh.world (fun k hk => g.fr.block k (.inl hk)) g.fr.size, ?_, Nat.le_refl _⟩, flat_refl hv⟩
        exact ⟨g.fr.os, g.fr.tape, g.fr.output, g.fr.size, fun k hk => g.fr.block k (.inl (hk.elim (fun q => Nat.lt_of_lt_of_le q hh.base_le) (hh.far k)))⟩
      · simp at he
    · simp at he
  · simp at he

end Go.Proofs.Ytdhbclplondmjaa.C

end

section
/- Symbolic runs: slots by what is known of them, operations by what they ask. -/
set_option linter.unusedVariables false
set_option linter.unusedSimpArgs false
namespace Go.Proofs.Ytdhbclplondmjaa.C
open Go.RowKit Go.IntWalk

variable {T : Tab}

/-- What a slot holds. -/
def sl (s : List Value) (i : Nat) : Value := s.getD i undef

def Has (s : List Value) : List (Nat × Value) → Prop
  | [] => True
  | p :: l => sl s p.1 = p.2 ∧ Has s l

def lk (l : List (Nat × Value)) (i : Nat) (d : Value) : Value :=
  match l with
  | [] => d
  | p :: l => bif Nat.beq p.1 i then p.2 else lk l i d

/-- Slots of which some are known. -/
def mkF (a : Nat → Value) (l : List (Nat × Value)) : Nat → Nat → List Value
  | _, 0 => []
  | i, m + 1 => lk l i (a i) :: mkF a l (i + 1) m

abbrev mkS (n : Nat) (a : Nat → Value) (l : List (Nat × Value)) : List Value := mkF a l 0 n

/-- So many slots, of which these are known. -/
structure Is (s : List Value) (n : Nat) (l : List (Nat × Value)) : Prop where
  len : s.length = n
  has : Has s l

theorem Is.mk1 {s : List Value} {n : Nat} {l : List (Nat × Value)} (h : Is s n l) : ∃ a, s = mkS n a l := by
  refine ⟨sl s, ?_⟩
  have hlk : ∀ i, lk l i (sl s i) = sl s i := by
    intro i
    obtain ⟨_, hh⟩ := h
    induction l with
    | nil => rfl
    | cons p l ih =>
      unfold lk
      cases e : Nat.beq p.1 i with
      | true =>
        have := Nat.eq_of_beq_eq_true e
        subst this
        exact hh.1.symm
      | false => exact ih hh.2
  have key : ∀ (m i : Nat) (t : List Value), t.length = m → (∀ j, t.getD j undef = sl s (i + j)) → t = mkF (sl s) l i m := by
    intro m
    induction m with
    | zero => intro i t ht _; exact List.length_eq_zero_iff.1 ht
    | succ m ih =>
      intro i t ht hj
      cases t with
      | nil => simp at ht
      | cons v t =>
        unfold mkF
        rw [hlk i, ← ih (i + 1) t (by simpa using ht) (fun j => by have := hj (j + 1); simp only [List.getD_cons_succ] at this; rw [this]; congr 1; omega)]
        have := hj 0
        simp only [List.getD_cons_zero, Nat.add_zero] at this
        rw [this]
  exact key n 0 s h.len (fun j => by simp [sl])

theorem mkF_len (a : Nat → Value) (l : List (Nat × Value)) : ∀ (m i : Nat), (mkF a l i m).length = m
  | 0, _ => rfl
  | m + 1, i => by simp [mkF, mkF_len a l m (i + 1)]

theorem mkF_get (a : Nat → Value) (l : List (Nat × Value)) : ∀ (m i j : Nat), j < m → (mkF a l i m).getD j undef = lk l (i + j) (a (i + j))
  | 0, _, _, h => by omega
  | m + 1, i, 0, _ => rfl
  | m + 1, i, j + 1, h => by
    unfold mkF
    rw [List.getD_cons_succ, mkF_get a l m (i + 1) j (by omega), show i + 1 + j = i + (j + 1) by omega]

theorem mkF_set (a : Nat → Value) (l : List (Nat × Value)) (v : Value) (d : Nat) : ∀ (m i : Nat), i ≤ d → (mkF a l i m).set (d - i) v = mkF a ((d, v) :: l) i m
  | 0, _, _ => rfl
  | m + 1, i, h => by
    unfold mkF
    rcases Nat.lt_or_ge i d with q | q
    · rw [show d - i = (d - (i + 1)) + 1 by omega, List.set_cons_succ, mkF_set a l v d m (i + 1) (by omega)]
      congr 1
      have : Nat.beq d i = false := by
        cases e : Nat.beq d i with
        | true => have := Nat.eq_of_beq_eq_true e; omega
        | false => rfl
      simp [lk, this]
    · have : d = i := by omega
      subst this
      rw [Nat.sub_self, List.set_cons_zero]
      have h2 : ∀ m j, d < j → mkF a l j m = mkF a ((d, v) :: l) j m := by
        intro m
        induction m with
        | zero => intro j _; rfl
        | succ m ih =>
          intro j hj
          unfold mkF
          rw [ih (j + 1) (by omega)]
          have : Nat.beq d j = false := by
            cases e : Nat.beq d j with
            | true => have := Nat.eq_of_beq_eq_true e; omega
            | false => rfl
          simp [lk, this]
      rw [h2 m (d + 1) (by omega)]
      simp [lk]

theorem put_mkS (n : Nat) (a : Nat → Value) (l : List (Nat × Value)) (d : Nat) (v : Value) : put (mkS n a l) (some d) v = mkS n a ((d, v) :: l) := by
  exact mkF_set a l v d n 0 (Nat.zero_le _)

theorem sl_mkS {n : Nat} {a : Nat → Value} {l : List (Nat × Value)} {j : Nat} (h : j < n) : sl (mkS n a l) j = lk l j (a j) := by
  have := mkF_get a l n 0 j h
  simpa [sl] using this

/-- What is known, by the list of what has been put. -/
def Kn (n : Nat) (a : Nat → Value) (l : List (Nat × Value)) : List (Nat × Value) → Prop
  | [] => True
  | p :: r => Nat.blt p.1 n = true ∧ lk l p.1 (a p.1) = p.2 ∧ Kn n a l r

theorem Is.of {n : Nat} {a : Nat → Value} {l r : List (Nat × Value)} (h : Kn n a l r) : Is (mkS n a l) n r := by
  refine ⟨mkF_len a l n 0, ?_⟩
  induction r with
  | nil => trivial
  | cons p r ih =>
    obtain ⟨h1, h2, h3⟩ := h
    exact ⟨by rw [sl_mkS (by simpa [Nat.blt_eq] using h1)]; exact h2, ih h3⟩

/-- The slots at a function's start. -/
theorem startC_mkS (fn : Func) (args : List Value) : ∃ a, startC fn args = mkS (args.length + (fn.ntmps - args.length)) a ((List.range args.length).map fun i => (i, args.getD i undef)) := by
  have : Is (startC fn args) (args.length + (fn.ntmps - args.length)) ((List.range args.length).map fun i => (i, args.getD i undef)) := by
    refine ⟨by simp [startC], ?_⟩
    have key : ∀ l : List Nat, (∀ i ∈ l, i < args.length) → Has (startC fn args) (l.map fun i => (i, args.getD i undef)) := by
      intro l
      induction l with
      | nil => intro _; trivial
      | cons i l ih =>
        intro h
        have hi := h i List.mem_cons_self
        refine ⟨?_, ih fun j hj => h j (List.mem_cons_of_mem _ hj)⟩
        simp [sl, startC, List.getD_eq_getElem?_getD, List.getElem?_append_left hi]
    exact key _ (fun i hi => by simpa using hi)
  exact this.mk1

section
variable {s : List Value} {H : Heap} {N : St} {X : Nat → St} {R : St} {cal : CallF} {d : Bool} {ops : Array Oper} {i n : Nat} {is : List Nat} {Q : St} {a : Nat → Value} {l : List (Nat × Value)}

theorem Rg.opp {o : Oper} {v : Value} {H1 : Heap} {t : Nat} (ho : ops[i]? = some o) (hg : o.guard = none) (ht : o.dst = some t) (he : opEval T (mkS n a l) H o.op = some (v, H1)) (hd : (d && inPlace (mkS n a l) o.op) = false) (k : Rg T cal d ops is (mkS n a ((t, v) :: l)) H1 Q) : Rg T cal d ops (i :: is) (mkS n a l) H Q :=
  Rg.op ho hg he hd (by rw [ht, put_mkS]; exact k)

theorem Rg.opn {o : Oper} {v : Value} {H1 : Heap} (ho : ops[i]? = some o) (hg : o.guard = none) (ht : o.dst = none) (he : opEval T (mkS n a l) H o.op = some (v, H1)) (hd : (d && inPlace (mkS n a l) o.op) = false) (k : Rg T cal d ops is (mkS n a l) H1 Q) : Rg T cal d ops (i :: is) (mkS n a l) H Q :=
  Rg.op ho hg he hd (by rw [ht]; exact k)

theorem Rg.calls {o : Oper} {v : Value} {H1 : Heap} {t : Nat} {f : FuncId} {args : List Value} (ho : ops[i]? = some o) (hg : o.guard = none) (ht : o.dst = some t) (hn : opEval T (mkS n a l) H o.op = none) (hc : calleeOf T (mkS n a l) H o.op = some (f, args)) (hd : (d && inPlace (mkS n a l) o.op) = false)
    (hr : cal f args H = some (v, H1)) (k : Rg T cal d ops is (mkS n a ((t, v) :: l)) H1 Q) : Rg T cal d ops (i :: is) (mkS n a l) H Q :=
  Rg.call ho hg hn hc hd hr (by rw [ht, put_mkS]; exact k)

theorem Rg.calln {o : Oper} {v : Value} {H1 : Heap} {f : FuncId} {args : List Value} (ho : ops[i]? = some o) (hg : o.guard = none) (ht : o.dst = none) (hn : opEval T (mkS n a l) H o.op = none) (hc : calleeOf T (mkS n a l) H o.op = some (f, args)) (hd : (d && inPlace (mkS n a l) o.op) = false)
    (hr : cal f args H = some (v, H1)) (k : Rg T cal d ops is (mkS n a l) H1 Q) : Rg T cal d ops (i :: is) (mkS n a l) H Q :=
  Rg.call ho hg hn hc hd hr (by rw [ht]; exact k)

theorem Rg.guards {o : Oper} {t : Nat} (b : Bool) (ho : ops[i]? = some o) (ht : o.dst = some t) (hg : guardC ops o (mkS n a l) = some b)
    (hy : b = true → ∃ v H1, evalOp T cal (mkS n a l) H o.op = some (v, H1) ∧ (d && inPlace (mkS n a l) o.op) = false ∧ Rg T cal d ops is (mkS n a ((t, v) :: l)) H1 Q) (hf : b = false → Rg T cal d ops is (mkS n a ((t, .chan none) :: l)) H Q) : Rg T cal d ops (i :: is) (mkS n a l) H Q :=
  Rg.guard b ho hg (fun h => by obtain ⟨v, H1, h1, h2, h3⟩ := hy h; exact ⟨v, H1, h1, h2, by rw [ht, put_mkS]; exact h3⟩) (fun h => by rw [ht, put_mkS]; exact hf h)

end

/-- Only what is still wanted of the slots. -/
theorem Runs.cut {s : List Value} {H : Heap} {N : St} {X : Nat → St} {R : St} {c : Code} {n : Nat} {l : List (Nat × Value)} (h : Is s n l) (k : ∀ a, Runs T c (mkS n a l) H N X R) : Runs T c s H N X R := by
  obtain ⟨a, rfl⟩ := h.mk1; exact k a
theorem Rg.cut {s : List Value} {H : Heap} {cal : CallF} {d : Bool} {ops : Array Oper} {is : List Nat} {Q : St} {n : Nat} {l : List (Nat × Value)} (h : Is s n l) (k : ∀ a, Rg T cal d ops is (mkS n a l) H Q) : Rg T cal d ops is s H Q := by
  obtain ⟨a, rfl⟩ := h.mk1; exact k a

/-! ### Operations -/

section
variable {s : List Value} {H : Heap}

theorem ev_at {t e : TypeId} {ei : TI} {x i : Operand} {b o n c k : Nat} {ik : IntKind} (hx : ev s x = .slice (some ⟨b, o, none⟩) n c) (hi : ev s i = .int ik (k : Nat)) (hd : T.d t = some (.slice e)) (he : T.T e = some ei) (hp : 0 < ei.size) (h : k < n) :
    opEval T s H (.indexAddr t x i) = some (.pointer (some ⟨b, o + k * ei.size, none⟩), H) := by
  have : (0 : Int) ≤ (k : Int) ∧ (k : Int) < (n : Int) ∧ 0 < ei.size := ⟨by omega, by omega, hp⟩
  simp only [opEval, indexAddr, hx, hi, hd, he, if_pos this, Option.map_some, Int.toNat_natCast]

theorem ev_load1 {t : TypeId} {i : TI} {a : Operand} {b o : Nat} {v : Value} (ha : ev s a = .pointer (some ⟨b, o, none⟩)) (hT : T.T t = some i) (hr : readCells H b o i.size = some [v]) (hg : i.agg = false) : opEval T s H (.load t a) = some (v, H) := by
  simp only [opEval, vLoad, hT, ha, hr, hg, Option.bind_eq_bind, Option.bind_some, Option.map_some, Bool.false_eq_true, if_false]

theorem ev_loadA {t : TypeId} {i : TI} {a : Operand} {b o : Nat} {cs : List Value} (ha : ev s a = .pointer (some ⟨b, o, none⟩)) (hT : T.T t = some i) (hr : readCells H b o i.size = some cs) (hg : i.agg = true) : opEval T s H (.load t a) = some (.agg cs.toArray, H) := by
  simp only [opEval, vLoad, hT, ha, hr, hg, Option.bind_eq_bind, Option.bind_some, Option.map_some, if_true]

theorem ev_append {x y : Operand} {t : TypeId} {v1 v2 r : Value} {H1 : Heap} (hx : ev s x = v1) (hy : ev s y = v2) (h : vAppend T H t v1 v2 = some (r, H1)) : opEval T s H (.call { callee := .builtin .append, args := #[x, y], argTypes := #[t, t] }) = some (r, H1) := by
  simp only [opEval, vBuiltin, List.map_cons, List.map_nil, hx, hy, if_true, h]

end

theorem wrap_nat {k : Nat} (h : k < 2 ^ 62) : IntKind.i64.wrap (k : Int) = (k : Int) := i64_in _ (by omega)
theorem wrap_succ {k : Nat} (h : k < 2 ^ 62) : IntKind.i64.wrap ((k : Int) + 1) = ((k + 1 : Nat) : Int) := by rw [i64_in _ (by omega)]; omega

/-- A function of plain values, as it is in an empty memory. -/
noncomputable def pureB (T : Tab) (f : FuncId) : List Value → Heap → Option (Value × Heap) := fun args H =>
  if flats args then
    match big T f args [] with
    | some (v, _) => if flat v then some (v, H) else none
    | none => none
  else none

theorem pureB_ok {P : Program} {T : Tab} (hF : Fits P T) (f : FuncId) : ExtOk P f (pureB T f) := by
  intro args H v H1 he
  have : ∃ n, pureX T n f args H = some (v, H1) := by
    unfold pureB at he
    split at he
    · rename_i hfl
      split at he
      · rename_i v2 E e2
        obtain ⟨n, hn⟩ := big_some.1 e2
        exact ⟨n, by unfold pureX; rw [if_pos hfl, hn]; exact he⟩
      · simp at he
    · simp at he
  obtain ⟨n, hn⟩ := this
  exact pureX_ok hF n f args H v H1 hn

theorem pureB_is {T : Tab} {f : FuncId} {args : List Value} {v : Value} {E : Heap} (n : Nat) (hfl : flats args = true) (h : callC T n f args [] = some (v, E)) (hv : flat v = true) (H : Heap) : pureB T f args H = some (v, H) := by
  unfold pureB
  rw [if_pos hfl, big_some.2 ⟨n, h⟩]
  simp [hv]

/-- A function that is given by what it does. -/
theorem big_ext {T : Tab} {f : FuncId} {e : List Value → Heap → Option (Value × Heap)} {args : List Value} {H : Heap} {r : Value × Heap} (he : T.ext f = some e) (h : e args H = some r) : big T f args H = some r :=
  big_some.2 ⟨1, by simp only [callC, he]; exact h⟩

end Go.Proofs.Ytdhbclplondmjaa.C

end

section
/- The abstract machine, for runs: the slots in rows of eight. -/
set_option linter.unusedVariables false
set_option linter.unusedSimpArgs false
namespace Go.Proofs.Ytdhbclplondmjaa.C
open Go.RowKit

noncomputable def lget {α : Type} (d : α) (l : List α) (n : Nat) : α := List.rec (motive := fun _ => Nat → α) (fun _ => d) (fun a _ ih n => Nat.rec (motive := fun _ => α) a (fun m _ => ih m) n) l n
noncomputable def lset {α : Type} (v : α) (l : List α) (n : Nat) : List α := List.rec (motive := fun _ => Nat → List α) (fun _ => []) (fun a t ih n => Nat.rec (motive := fun _ => List α) (v :: t) (fun m _ => a :: ih m) n) l n

theorem lget_eq {α : Type} (d : α) (l : List α) (n : Nat) : lget d l n = l.getD n d := by
  induction l generalizing n with
  | nil => rfl
  | cons a l ih =>
    cases n with
    | zero => rfl
    | succ n =>
      show lget d l n = _
      rw [ih]; rfl
theorem lset_eq {α : Type} (v : α) (l : List α) (n : Nat) : lset v l n = l.set n v := by
  induction l generalizing n with
  | nil => rfl
  | cons a l ih =>
    cases n with
    | zero => rfl
    | succ n =>
      show a :: lset v l n = _
      rw [ih]; rfl

/-- Rows of k, the last one perhaps shorter. -/
def Rows8 {α : Type} (k : Nat) : List (List α) → Bool
  | [] => true
  | [r] => decide (r.length ≤ k)
  | r :: t => decide (r.length = k) && Rows8 k t

theorem rows_get {α : Type} (d : α) {k : Nat} (hk : 0 < k) : ∀ {st : List (List α)}, Rows8 k st = true → ∀ i, (st.getD (i / k) []).getD (i % k) d = st.flatten.getD i d
  | [], _, i => by simp
  | [r], h, i => by
    simp only [Rows8, decide_eq_true_eq] at h
    rcases Nat.lt_or_ge i k with q | q
    · simp [Nat.div_eq_of_lt q, Nat.mod_eq_of_lt q]
    · have : 0 < i / k := Nat.div_pos q hk
      obtain ⟨m, hm⟩ := Nat.exists_eq_succ_of_ne_zero (Nat.ne_of_gt this)
      rw [hm]
      have : r.length ≤ i := Nat.le_trans h q
      simp [List.getElem?_eq_none this]
  | r :: r2 :: t, h, i => by
    simp only [Rows8, Bool.and_eq_true, decide_eq_true_eq] at h
    rcases Nat.lt_or_ge i k with q | q
    · rw [Nat.div_eq_of_lt q, Nat.mod_eq_of_lt q]
      show r.getD i d = (r ++ (r2 :: t).flatten).getD i d
      simp only [List.getD_eq_getElem?_getD]
      rw [List.getElem?_append_left (by omega)]
    · have ih := rows_get d hk (st := r2 :: t) h.2 (i - k)
      have e1 : i / k = (i - k) / k + 1 := by rw [← Nat.add_div_right _ hk]; congr 1; omega
      have e2 : i % k = (i - k) % k := by rw [← Nat.add_mod_right (i - k) k]; congr 1; omega
      rw [e1, e2, List.getD_cons_succ, ih]
      show (r2 :: t).flatten.getD (i - k) d = (r ++ (r2 :: t).flatten).getD i d
      simp only [List.getD_eq_getElem?_getD]
      rw [List.getElem?_append_right (by omega), h.1]

theorem rows_set {α : Type} {k : Nat} (hk : 0 < k) (v : α) : ∀ {st : List (List α)}, Rows8 k st = true → ∀ i, (st.set (i / k) ((st.getD (i / k) []).set (i % k) v)).flatten = st.flatten.set i v ∧ Rows8 k (st.set (i / k) ((st.getD (i / k) []).set (i % k) v)) = true
  | [], h, i => by simp [Rows8]
  | [r], h, i => by
    have h0 := h
    simp only [Rows8, decide_eq_true_eq] at h
    rcases Nat.lt_or_ge i k with q | q
    · simp [Nat.div_eq_of_lt q, Nat.mod_eq_of_lt q, Rows8, h]
    · have : 0 < i / k := Nat.div_pos q hk
      obtain ⟨m, hm⟩ := Nat.exists_eq_succ_of_ne_zero (Nat.ne_of_gt this)
      rw [hm]
      have : r.length ≤ i := Nat.le_trans h q
      simp only [List.set_cons_succ, List.set_nil, List.flatten_cons, List.flatten_nil, List.append_nil]
      exact ⟨(List.set_eq_of_length_le this).symm, h0⟩
  | r :: r2 :: t, h, i => by
    simp only [Rows8, Bool.and_eq_true, decide_eq_true_eq] at h
    rcases Nat.lt_or_ge i k with q | q
    · rw [Nat.div_eq_of_lt q, Nat.mod_eq_of_lt q]
      simp only [List.getD_cons_zero, List.set_cons_zero, List.flatten_cons, Rows8, List.length_set, h.1, decide_true, Bool.true_and]
      exact ⟨by rw [List.set_append_left _ _ (by omega)], h.2⟩
    · have ih := rows_set hk v (st := r2 :: t) h.2 (i - k)
      have e1 : i / k = (i - k) / k + 1 := by rw [← Nat.add_div_right _ hk]; congr 1; omega
      have e2 : i % k = (i - k) % k := by rw [← Nat.add_mod_right (i - k) k]; congr 1; omega
      rw [e1, e2, List.getD_cons_succ, List.set_cons_succ]
      refine ⟨?_, ?_⟩
      · rw [List.flatten_cons, ih.1]
        show r ++ (r2 :: t).flatten.set (i - k) v = (r ++ (r2 :: t).flatten).set i v
        rw [List.set_append_right _ _ (by omega), h.1]
      have h2 := ih.2
      cases e : (r2 :: t).set ((i - k) / k) (((r2 :: t).getD ((i - k) / k) []).set ((i - k) % k) v) with
      | nil => have := congrArg List.length e; simp at this
      | cons a l =>
        rw [e] at h2
        simp only [Rows8, h.1, decide_true, Bool.true_and]
        exact h2

def chunk {α : Type} (k : Nat) : Nat → List α → List (List α)
  | 0, l => [l]
  | n + 1, l => if l.length ≤ k then [l] else l.take k :: chunk k n (l.drop k)
theorem chunk_flat {α : Type} (k : Nat) : ∀ (n : Nat) (l : List α), (chunk k n l).flatten = l
  | 0, l => by simp [chunk]
  | n + 1, l => by
    unfold chunk
    split
    · simp
    · rw [List.flatten_cons, chunk_flat k n, List.take_append_drop]

abbrev Slots := List (List Value)

noncomputable def getR (st : Slots) (i : Nat) : Value := lget undef (lget [] st (i / 8)) (i % 8)
noncomputable def setR (st : Slots) (i : Nat) (v : Value) : Slots := lset (lset v (lget [] st (i / 8)) (i % 8)) st (i / 8)

theorem getR_eq {st : Slots} (h : Rows8 8 st = true) (i : Nat) : getR st i = st.flatten.getD i undef := by
  unfold getR
  rw [lget_eq, lget_eq]
  exact rows_get undef (by decide) h i
theorem setR_eq {st : Slots} (h : Rows8 8 st = true) (i : Nat) (v : Value) : (setR st i v).flatten = st.flatten.set i v ∧ Rows8 8 (setR st i v) = true := by
  unfold setR
  rw [lset_eq, lset_eq, lget_eq]
  exact rows_set (by decide) v h i

noncomputable def evF (st : Slots) : Operand → Value
  | .tmp t => getR st t
  | .const v => if plain v then v else undef
  | .func f => .func (.func f) #[] #[]
  | .global _ => undef
theorem evF_eq {st : Slots} (h : Rows8 8 st = true) : evF st = ev st.flatten := by
  funext x
  cases x with
  | tmp t => exact getR_eq h t
  | const v => rfl
  | func f => rfl
  | global g => rfl

def inPlaceF (ρ : Operand → Value) (o : Op) : Bool :=
  match o with
  | .call { callee := .builtin .append, args, .. } =>
    match args.toList.map ρ with
    | [.slice _ n c, .slice _ m _] => decide (c ≠ unk ∧ 0 < m ∧ n + m ≤ c)
    | _ => false
  | _ => false
theorem inPlaceF_eq (s : List Value) (o : Op) : inPlaceF (ev s) o = inPlace s o := rfl

/-- The operations, over whatever gives the operands. -/
def opEvalF (T : Tab) (ρ : Operand → Value) (H : Heap) (o : Op) : Option (Value × Heap) :=
  match o with
  | .move x | .assign x => some (ρ x, H)
  | .pick c a b => match ρ c with | .bool t => some (if t then ρ a else ρ b, H) | _ => none
  | .alloc e => (T.T e).bind fun i => vBox T H e i.zero
  | .box e x => vBox T H e (ρ x)
  | .build t parts => (vBuild T t (parts.toList.map fun p => (p.1, ρ p.2))).map fun v => (v, H)
  | .buildSlice t n parts => vBuildSlice T H t n (parts.toList.map fun p => (p.1, ρ p.2))
  | .load t a => (vLoad T H t (ρ a)).map fun v => (v, H)
  | .store t a v => (vStore T H t (ρ a) (ρ v)).map fun H' => (undef, H')
  | .nilCheck x => (vNilCheck (ρ x)).map fun v => (v, H)
  | .binOp op t x y _ => (binOp T op t (ρ x) (ρ y)).map fun v => (v, H)
  | .unOp op _ x => (unOp op (ρ x)).map fun v => (v, H)
  | .convert src dst x => match vConvert T src dst (ρ x) with | some v => some (v, H) | none => vBytes T H src dst (ρ x)
  | .makeMap _ none => some (.map (some H.length), H ++ [.map []])
  | .lookup t x k ok => (vLookup T H t (ρ x) (ρ k) ok).map fun v => (v, H)
  | .mapUpdate t m k v => (vMapUpdate T H t (ρ m) (ρ k) (ρ v)).map fun H' => (undef, H')
  | .makeInterface t x => (vMakeIface T t (ρ x)).map fun v => (v, H)
  | .makeFunc fn first captured => some (.func fn ((first.toList.map ρ).toArray) ((captured.toList.map ρ).toArray), H)
  | .makeSlice t n c => vMakeSlice T H t (ρ n) (ρ c)
  | .slice t x lo hi mx => (sliceVal T H t (ρ x) (lo.map ρ) (hi.map ρ) (mx.map ρ)).map fun v => (v, H)
  | .fieldAddr t x f => (vFieldAddr T t (ρ x) f).map fun v => (v, H)
  | .field t x f => (vField T t (ρ x) f).map fun v => (v, H)
  | .indexAddr t x i => (indexAddr T t (ρ x) (ρ i)).map fun v => (v, H)
  | .index t x i => (vIndex T t (ρ x) (ρ i)).map fun v => (v, H)
  | .extract x i => (vExtract (ρ x) i).map fun v => (v, H)
  | .typeAssert x _ t false => (vAssert T (ρ x) t).map fun v => (v, H)
  | .call { callee := .builtin b, args, argTypes } => vBuiltin T H b (args.toList.map ρ) argTypes.toList
  | _ => none
theorem opEvalF_eq (T : Tab) (s : List Value) (H : Heap) (o : Op) : opEvalF T (ev s) H o = opEval T s H o := rfl

def calleeF (T : Tab) (ρ : Operand → Value) (H : Heap) (o : Op) : Option (FuncId × List Value) :=
  match o with
  | .call { callee := .value f, args, .. } =>
    match ρ f with
    | .func (.func g) first cap => some (g, first.toList ++ args.toList.map ρ ++ cap.toList)
    | _ => none
  | .call { callee := .invoke r name, args, .. } =>
    match ρ r with
    | .iface t v =>
      match T.meth t name with
      | some (g, none) => some (g, v :: args.toList.map ρ)
      | some (g, some e) => (vLoad T H e v).map fun u => (g, u :: args.toList.map ρ)
      | none => none
    | _ => none
  | _ => none
theorem calleeF_eq (T : Tab) (s : List Value) (H : Heap) (o : Op) : calleeF T (ev s) H o = calleeOf T s H o := rfl

noncomputable def evalOneF (T : Tab) (call : CallF) (d : Bool) (ops : Array Oper) (o : Oper) (st : Slots) (H : Heap) : Option (Slots × Heap) :=
  let go : Option (Slots × Heap) :=
    if d && inPlaceF (evF st) o.op then none else
    match (match opEvalF T (evF st) H o.op with
      | some r => some r
      | none => match calleeF T (evF st) H o.op with
        | some (f, args) => call f args H
        | none => none) with
    | some (v, H1) => some (match o.dst with | some t => setR st t v | none => st, H1)
    | none => none
  match o.guard with
  | none => go
  | some (j, want) =>
    match (ops[j]?).bind (·.dst) with
    | some t => match getR st t with
      | .bool b => bif b == want then go else some (match o.dst with | some t => setR st t (.chan none) | none => st, H)
      | .chan none => some (match o.dst with | some t => setR st t (.chan none) | none => st, H)
      | _ => none
    | none => none

theorem evalOneF_ok {T : Tab} {call : CallF} {d : Bool} {ops : Array Oper} {o : Oper} {st st1 : Slots} {H H1 : Heap} (hu : Rows8 8 st = true) (h : evalOneF T call d ops o st H = some (st1, H1)) :
    evalOne T call d ops o st.flatten H = some (st1.flatten, H1) ∧ Rows8 8 st1 = true := by
  have hput : ∀ v, (match o.dst with | some t => setR st t v | none => st).flatten = put st.flatten o.dst v ∧ Rows8 8 (match o.dst with | some t => setR st t v | none => st) = true := by
    intro v
    cases o.dst with
    | none => exact ⟨rfl, hu⟩
    | some t => exact setR_eq hu t v
  unfold evalOneF at h
  rw [evF_eq hu] at h
  unfold evalOne guardC
  have run : ∀ {r : Option (Slots × Heap)}, r = some (st1, H1) → r = (if d && inPlaceF (ev st.flatten) o.op then none else
      match (match opEvalF T (ev st.flatten) H o.op with
        | some r => some r
        | none => match calleeF T (ev st.flatten) H o.op with
          | some (f, args) => call f args H
          | none => none) with
      | some (v, H1) => some (match o.dst with | some t => setR st t v | none => st, H1)
      | none => none) → (if d && inPlace st.flatten o.op then none else (evalOp T call st.flatten H o.op).map fun r => (put st.flatten o.dst r.1, r.2)) = some (st1.flatten, H1) ∧ Rows8 8 st1 = true := by
    intro r hr e
    subst hr
    rw [inPlaceF_eq] at e
    by_cases hd : (d && inPlace st.flatten o.op) = true
    · rw [if_pos hd] at e; simp at e
    · rw [if_neg hd] at e ⊢
      have e2 : (match opEvalF T (ev st.flatten) H o.op with
        | some r => some r
        | none => match calleeF T (ev st.flatten) H o.op with
          | some (f, args) => call f args H
          | none => none) = evalOp T call st.flatten H o.op := rfl
      rw [e2] at e
      cases e3 : evalOp T call st.flatten H o.op with
      | none => rw [e3] at e; simp at e
      | some r =>
        obtain ⟨v, H2⟩ := r
        rw [e3] at e
        simp only [Option.some.injEq, Prod.mk.injEq] at e
        obtain ⟨rfl, rfl⟩ := e
        obtain ⟨h1, h2⟩ := hput v
        exact ⟨by simp [h1], h2⟩
  cases hg : o.guard with
  | none =>
    rw [hg] at h
    exact run h rfl
  | some g =>
    obtain ⟨j, want⟩ := g
    rw [hg] at h
    simp only at h ⊢
    cases hj : (ops[j]?).bind (·.dst) with
    | none => rw [hj] at h; simp at h
    | some t =>
      rw [hj] at h
      simp only at h ⊢
      rw [getR_eq hu] at h
      generalize st.flatten.getD t undef = gv at h ⊢
      cases gv with
      | bool b =>
        simp only at h ⊢
        cases hb : (b == want) with
        | true =>
          rw [hb] at h
          simp only [cond_true] at h
          exact run h rfl
        | false =>
          rw [hb] at h
          simp only [cond_false, Option.some.injEq, Prod.mk.injEq] at h
          obtain ⟨rfl, rfl⟩ := h
          obtain ⟨h1, h2⟩ := hput (.chan none)
          exact ⟨by simp [h1], h2⟩
      | chan r =>
        cases r with
        | none =>
          simp only [Option.some.injEq, Prod.mk.injEq] at h ⊢
          obtain ⟨rfl, rfl⟩ := h
          obtain ⟨h1, h2⟩ := hput (.chan none)
          exact ⟨⟨h1.symm, rfl⟩, h2⟩
        | some r => simp at h
      | _ => simp at h

noncomputable def evalIdxF (T : Tab) (call : CallF) (d : Bool) (ops : Array Oper) : List Nat → Slots → Heap → Option (Slots × Heap)
  | [], s, H => some (s, H)
  | i :: is, s, H =>
    match ops[i]? with
    | none => none
    | some o => match evalOneF T call d ops o s H with
      | some (s1, H1) => evalIdxF T call d ops is s1 H1
      | none => none

theorem evalIdxF_ok {T : Tab} {call : CallF} {d : Bool} {ops : Array Oper} : ∀ {is : List Nat} {st st1 : Slots} {H H1 : Heap}, Rows8 8 st = true → evalIdxF T call d ops is st H = some (st1, H1) →
    evalIdx T call d ops is st.flatten H = some (st1.flatten, H1) ∧ Rows8 8 st1 = true
  | [], st, st1, H, H1, hu, h => by
    simp only [evalIdxF, Option.some.injEq, Prod.mk.injEq] at h
    obtain ⟨rfl, rfl⟩ := h
    exact ⟨rfl, hu⟩
  | i :: is, st, st1, H, H1, hu, h => by
    unfold evalIdxF at h
    unfold evalIdx
    cases ho : ops[i]? with
    | none => rw [ho] at h; simp at h
    | some o =>
      rw [ho] at h
      simp only at h ⊢
      cases e : evalOneF T call d ops o st H with
      | none => rw [e] at h; simp at h
      | some r =>
        obtain ⟨st2, H2⟩ := r
        rw [e] at h
        obtain ⟨h1, h2⟩ := evalOneF_ok hu e
        rw [h1]
        exact evalIdxF_ok h2 h

noncomputable def evalRegionF (T : Tab) (call : CallF) (ops : Array Oper) (draw : Bool) (s : Slots) (H : Heap) : Option (Slots × Heap) :=
  if draw then evalIdxF T (quiet call) true ops (orderOf ops) s H else evalIdxF T call false ops (List.range ops.size) s H

noncomputable def evalCF (T : Tab) (call : CallF) : Nat → Code → Slots → Heap → Option (Ex × Slots × Heap)
  | 0, _, _, _ => none
  | n + 1, c, s, H =>
    match c with
    | .skip | .label _ => some (.normal, s, H)
    | .region _ ops draw => (evalRegionF T call ops draw s H).map fun r => (.normal, r.1, r.2)
    | .seq a b =>
      match evalCF T call n a s H with
      | some (.normal, s1, H1) => evalCF T call n b s1 H1
      | r => r
    | .cond c a b =>
      match evF s c with
      | .bool true => evalCF T call n a s H
      | .bool false => evalCF T call n b s H
      | _ => none
    | .block id a =>
      match evalCF T call n a s H with
      | some (.exit j, s1, H1) => if j = id then some (.normal, s1, H1) else some (.exit j, s1, H1)
      | r => r
    | .loop a =>
      match evalCF T call n a s H with
      | some (.normal, s1, H1) => evalCF T call n (.loop a) s1 H1
      | r => r
    | .exit id => some (.exit id, s, H)
    | .ret => some (.ret, s, H)
    | _ => none

theorem evalCF_ok {T : Tab} {callF call : CallF} (hc : CallLe callF call) : ∀ {n : Nat} {c : Code} {st st1 : Slots} {H H1 : Heap} {e : Ex}, Rows8 8 st = true → evalCF T callF n c st H = some (e, st1, H1) →
    evalC T call n c st.flatten H = some (e, st1.flatten, H1) ∧ Rows8 8 st1 = true
  | 0, _, _, _, _, _, _, _, h => by simp [evalCF] at h
  | n + 1, c, st, st1, H, H1, e, hu, h => by
    unfold evalCF at h
    unfold evalC
    cases c <;> simp only [Option.some.injEq, Prod.mk.injEq, reduceCtorEq] at h ⊢
    · obtain ⟨rfl, rfl, rfl⟩ := h
      exact ⟨⟨rfl, rfl, rfl⟩, hu⟩
    · rename_i id ops draw
      rw [Option.map_eq_some_iff] at h
      obtain ⟨⟨s2, H2⟩, hx, h⟩ := h
      simp only [Prod.mk.injEq] at h
      obtain ⟨rfl, rfl, rfl⟩ := h
      unfold evalRegionF at hx
      unfold evalRegion
      cases draw with
      | true =>
        simp only [if_true] at hx ⊢
        obtain ⟨h1, h2⟩ := evalIdxF_ok hu hx
        rw [evalIdx_mono (quiet_mono hc) h1]
        exact ⟨rfl, h2⟩
      | false =>
        simp only [Bool.false_eq_true, if_false] at hx ⊢
        obtain ⟨h1, h2⟩ := evalIdxF_ok hu hx
        rw [evalIdx_mono hc h1]
        exact ⟨rfl, h2⟩
    · cases e1 : evalCF T callF n _ st H with
      | none => rw [e1] at h; simp at h
      | some r =>
        obtain ⟨x, s2, H2⟩ := r
        rw [e1] at h
        obtain ⟨h1, h2⟩ := evalCF_ok hc hu e1
        rw [h1]
        cases x with
        | normal => exact evalCF_ok hc h2 h
        | exit j =>
          simp only [Option.some.injEq, Prod.mk.injEq] at h ⊢
          obtain ⟨rfl, rfl, rfl⟩ := h
          exact ⟨⟨rfl, rfl, rfl⟩, h2⟩
        | ret =>
          simp only [Option.some.injEq, Prod.mk.injEq] at h ⊢
          obtain ⟨rfl, rfl, rfl⟩ := h
          exact ⟨⟨rfl, rfl, rfl⟩, h2⟩
    · rename_i c a b
      rw [evF_eq hu] at h
      generalize ev st.flatten c = cv at h ⊢
      cases cv with
      | bool t =>
        cases t with
        | true => exact evalCF_ok hc hu h
        | false => exact evalCF_ok hc hu h
      | _ => simp at h
    · rename_i id a
      cases e1 : evalCF T callF n a st H with
      | none => rw [e1] at h; simp at h
      | some r =>
        obtain ⟨x, s2, H2⟩ := r
        rw [e1] at h
        obtain ⟨h1, h2⟩ := evalCF_ok hc hu e1
        rw [h1]
        cases x with
        | normal =>
          simp only [Option.some.injEq, Prod.mk.injEq] at h ⊢
          obtain ⟨rfl, rfl, rfl⟩ := h
          exact ⟨⟨rfl, rfl, rfl⟩, h2⟩
        | exit j =>
          simp only at h ⊢
          by_cases hj : j = id
          · rw [if_pos hj] at h ⊢
            simp only [Option.some.injEq, Prod.mk.injEq] at h ⊢
            obtain ⟨rfl, rfl, rfl⟩ := h
            exact ⟨⟨rfl, rfl, rfl⟩, h2⟩
          · rw [if_neg hj] at h ⊢
            simp only [Option.some.injEq, Prod.mk.injEq] at h ⊢
            obtain ⟨rfl, rfl, rfl⟩ := h
            exact ⟨⟨rfl, rfl, rfl⟩, h2⟩
        | ret =>
          simp only [Option.some.injEq, Prod.mk.injEq] at h ⊢
          obtain ⟨rfl, rfl, rfl⟩ := h
          exact ⟨⟨rfl, rfl, rfl⟩, h2⟩
    · cases e1 : evalCF T callF n _ st H with
      | none => rw [e1] at h; simp at h
      | some r =>
        obtain ⟨x, s2, H2⟩ := r
        rw [e1] at h
        obtain ⟨h1, h2⟩ := evalCF_ok hc hu e1
        rw [h1]
        cases x with
        | normal => exact evalCF_ok hc h2 h
        | exit j =>
          simp only [Option.some.injEq, Prod.mk.injEq] at h ⊢
          obtain ⟨rfl, rfl, rfl⟩ := h
          exact ⟨⟨rfl, rfl, rfl⟩, h2⟩
        | ret =>
          simp only [Option.some.injEq, Prod.mk.injEq] at h ⊢
          obtain ⟨rfl, rfl, rfl⟩ := h
          exact ⟨⟨rfl, rfl, rfl⟩, h2⟩
    · obtain ⟨rfl, rfl, rfl⟩ := h
      exact ⟨⟨rfl, rfl, rfl⟩, hu⟩
    · obtain ⟨rfl, rfl, rfl⟩ := h
      exact ⟨⟨rfl, rfl, rfl⟩, hu⟩
    · obtain ⟨rfl, rfl, rfl⟩ := h
      exact ⟨⟨rfl, rfl, rfl⟩, hu⟩

/-- Calls; functions that are given go by their own. -/
noncomputable def callCF (T : Tab) : Nat → CallF
  | 0, _, _, _ => none
  | n + 1, f, args, H =>
    match T.ext f with
    | some e => e args H
    | none =>
      match T.fn f with
      | some fn =>
        match fn.body with
        | some c =>
          let st := chunk 8 20 (startC fn args)
          if Rows8 8 st then
            match evalCF T (callCF T n) n c st H with
            | some (.normal, s1, H1) => (resultsC T fn s1.flatten H1).map fun v => (v, H1)
            | some (.ret, s1, H1) => (resultsC T fn s1.flatten H1).map fun v => (v, H1)
            | _ => none
          else none
        | none => none
      | none => none

theorem callCF_ok {T : Tab} : ∀ n, CallLe (callCF T n) (callC T n)
  | 0, _, _, _, _, h => by simp [callCF] at h
  | n + 1, f, args, H, r, h => by
    unfold callCF at h
    unfold callC
    cases he : T.ext f with
    | some e => rw [he] at h; exact h
    | none =>
      rw [he] at h
      simp only at h ⊢
      cases hf : T.fn f with
      | none => rw [hf] at h; simp at h
      | some fn =>
        rw [hf] at h
        simp only at h ⊢
        cases hb : fn.body with
        | none => rw [hb] at h; simp at h
        | some c =>
          rw [hb] at h
          simp only at h ⊢
          split at h
          · rename_i hu
            cases e1 : evalCF T (callCF T n) n c (chunk 8 20 (startC fn args)) H with
            | none => rw [e1] at h; simp at h
            | some q =>
              obtain ⟨x, s2, H2⟩ := q
              rw [e1] at h
              obtain ⟨h1, h2⟩ := evalCF_ok (callCF_ok n) hu e1
              rw [chunk_flat] at h1
              rw [h1]
              cases x with
              | normal => exact h
              | ret => exact h
              | exit j => simp at h
          · simp at h

theorem SoundCall.le {P : Program} {a b : CallF} (h : SoundCall P b) (hab : CallLe a b) : SoundCall P a :=
  ⟨fun f args H r e => h.enter f args H r (hab _ _ _ _ e), fun f args H v H' e => h.calls f args H v H' (hab _ _ _ _ e), fun f args H v H' e => h.len f args H v H' (hab _ _ _ _ e)⟩

end Go.Proofs.Ytdhbclplondmjaa.C

end

section
/- A call that is run in a small memory of its own: what it reads is copied in, what it makes is taken over. -/
set_option linter.unusedVariables false
set_option linter.unusedSimpArgs false
namespace Go.Proofs.Ytdhbclplondmjaa.C
open Go.RowKit

variable {P : Program} {T : Tab}

def takeArgs (H : Heap) : Nat → List Value → Option (List Value × Heap)
  | _, [] => some ([], [])
  | j, .slice (some ⟨b, o, none⟩) n c :: l =>
    match H[b]? with
    | some (.row sz _ _ true) =>
      if n = 0 then none else
      match readCells H b o (n * sz) with
      | some cs => if plains cs then (takeArgs H (j + 1) l).map fun r => (.slice (some ⟨j, 0, none⟩) n unk :: r.1, .row sz cs false true :: r.2) else none
      | none => none
    | _ => none
  | j, v :: l => if flat v then (takeArgs H j l).map fun r => (v :: r.1, r.2) else none

def rn (k h : Nat) : Value → Option Value
  | .slice (some ⟨b, o, none⟩) n c => if k ≤ b then some (.slice (some ⟨b - k + h, o, none⟩) n c) else none
  | v => if plain v then some v else none

def rns (k h : Nat) : List Value → Option (List Value)
  | [] => some []
  | v :: l => match rn k h v, rns k h l with
    | some u, some r => some (u :: r)
    | _, _ => none

def rnV (k h : Nat) : Value → Option Value
  | .tuple cs => (rns k h cs.toList).map fun l => .tuple l.toArray
  | v => rn k h v

def rnB (k h : Nat) : Blk → Blk
  | .row sz cs true true => match rns k h cs with
    | some l => .row sz l true true
    | none => .row 0 [] false false
  | _ => .row 0 [] false false

def subX (call : CallF) (f : FuncId) : List Value → Heap → Option (Value × Heap) := fun args H =>
  match takeArgs H 0 args with
  | some (asv, S) =>
    match call f asv S with
    | some (v, S2) => (rnV S.length H.length v).map fun u => (u, H ++ (S2.drop S.length).map (rnB S.length H.length))
    | none => none
  | none => none

theorem takeArgs_ok {base : Nat} {F : Nat → Prop} {μ : Mu} {H : Heap} {w : World} (h : HR base F μ H w) : ∀ {args args' asv : List Value} {S0 S : Heap} {μ0 : Mu}, VRs μ args args' → takeArgs H S0.length args = some (asv, S) →
    HR w.heap.size (fun _ => False) μ0 S0 w → (∀ b, S0.length ≤ b → μ0 b = none) →
    ∃ μ1, MuLe μ0 μ1 ∧ HR w.heap.size (fun _ => False) μ1 (S0 ++ S) w ∧ VRs μ1 asv args' ∧ (∀ b, (S0 ++ S).length ≤ b → μ1 b = none)
  | [], _, asv, S0, S, μ0, .nil, he, h0, hf => by
    simp only [takeArgs, Option.some.injEq, Prod.mk.injEq] at he
    obtain ⟨rfl, rfl⟩ := he
    exact ⟨μ0, MuLe.refl _, by simpa using h0, .nil, by simpa using hf⟩
  | v :: l, _, asv, S0, S, μ0, .cons (v' := v') (l' := l') hv ht, he, h0, hf => by
    unfold takeArgs at he
    split at he
    · simp at *
    · rename_i heq
      simp only [List.cons.injEq] at heq
      obtain ⟨rfl, rfl⟩ := heq
      split at he
      · rename_i b o n c _ sz all own hb
        split at he
        · simp at he
        · rename_i hn0
          split at he
          · rename_i cs hcs
            split at he
            · rename_i hpl
              rw [Option.map_eq_some_iff] at he
              obtain ⟨⟨r1, r2⟩, hr, he⟩ := he
              simp only [Prod.mk.injEq] at he
              obtain ⟨rfl, rfl⟩ := he
              cases hv with
              | sliceZ p p' => exact absurd rfl hn0
              | sliceE p p' => exact absurd rfl hn0
              | slice hl hnc hc htop =>
                rename_i c' L
                obtain ⟨hlen, cs', hrr, hcell⟩ := readCells_ok h hcs hl
                have hcs' := plains_eq hpl hrr
                subst hcs'
                have hlt : L.blk < w.heap.size ∧ L.sz = sz := by
                  cases own with
                  | true => exact ⟨(h.mine_lt hb rfl hl).1, (h.own _ _ _ _ hb hl).1⟩
                  | false =>
                    obtain ⟨a, b', _⟩ := h.ro _ _ _ _ hb hl
                    exact ⟨Nat.lt_of_lt_of_le b' h.base_le, a⟩
                let L0 : Loc := ⟨L.blk, L.sh + o, L.top, sz⟩
                have h1 : HR w.heap.size (fun _ => False) (μ0.set S0.length L0) (S0 ++ [.row sz cs' false true]) w := by
                  have hm : MuLe μ0 (μ0.set S0.length L0) := Mu.le_set (hf _ (Nat.le_refl _))
                  have key : ∀ {b : Nat} {x : Blk} {l : Loc}, (S0 ++ [Blk.row sz cs' false true])[b]? = some x → (μ0.set S0.length L0) b = some l → (x = .row sz cs' false true ∧ l = L0) ∨ (S0[b]? = some x ∧ μ0 b = some l) := by
                    intro b x l hb hl
                    rw [getElem?_snoc] at hb
                    by_cases e : b = S0.length
                    · subst e; rw [if_pos rfl] at hb; rw [Mu.set_same] at hl; simp at hb hl; exact .inl ⟨hb.symm, hl.symm⟩
                    · rw [if_neg e] at hb; rw [Mu.set_ne _ _ e] at hl; exact .inr ⟨hb, hl⟩
                  refine ⟨?_, ?_, ?_, ?_, fun _ z => z.elim, Nat.le_refl _⟩
                  · intro b sz2 cs2 l hb hl
                    rcases key hb hl with ⟨hx, _⟩ | ⟨hb, hl⟩
                    · simp at hx
                    · obtain ⟨a, c, d, e⟩ := h0.own b sz2 cs2 l hb hl
                      exact ⟨a, c, d, e.mono hm rfl⟩
                  · intro b sz2 cs2 l hb hl
                    rcases key hb hl with ⟨hx, rfl⟩ | ⟨hb, hl⟩
                    · simp only [Blk.row.injEq, and_true] at hx
                      obtain ⟨rfl, rfl⟩ := hx
                      refine ⟨rfl, hlt.1, fun i v hv => ⟨v, ?_, plain_vr _ ?_⟩⟩
                      · simpa [L0] using hcell i v hv
                      · have : ∀ {cs : List Value}, plains cs = true → ∀ v ∈ cs, plain v = true := by
                          intro cs
                          induction cs with
                          | nil => intro _ v hv; simp at hv
                          | cons a l ih =>
                            intro hp v hv
                            simp only [plains, Bool.and_eq_true] at hp
                            rcases List.mem_cons.1 hv with rfl | hv
                            · exact hp.1
                            · exact ih hp.2 v hv
                        exact this hpl v (List.mem_of_getElem? hv)
                    · obtain ⟨a, c, d⟩ := h0.ro b sz2 cs2 l hb hl
                      exact ⟨a, c, fun i v hv => let ⟨v', x, y⟩ := d i v hv; ⟨v', x, y.mono hm⟩⟩
                  · intro b es l hb hl
                    rcases key hb hl with ⟨hx, _⟩ | ⟨hb, hl⟩
                    · simp at hx
                    · obtain ⟨a, c, d⟩ := h0.maps b es l hb hl
                      exact ⟨a, c, d.mono hm rfl⟩
                  · intro b b' k k' l l' hb hb' hk hk' hne hl hl'
                    rcases key hb hl with ⟨hx, _⟩ | ⟨hb, hl⟩
                    · subst hx; simp [Blk.mine] at hk
                    · rcases key hb' hl' with ⟨hx, _⟩ | ⟨hb', hl'⟩
                      · subst hx; simp [Blk.mine] at hk'
                      · exact h0.inj b b' k k' l l' hb hb' hk hk' hne hl hl'
                have hr' : takeArgs H (S0 ++ [Blk.row sz cs' false true]).length l = some (r1, r2) := by simpa using hr
                obtain ⟨μ1, k1, k2, k3, k4⟩ := takeArgs_ok h ht hr' h1 (fun b hb => by
                  simp at hb
                  rw [Mu.set_ne _ _ (by omega)]
                  exact hf b (by omega))
                refine ⟨μ1, (Mu.le_set (hf _ (Nat.le_refl _))).trans k1, by simpa using k2, .cons ?_ k3, by simpa using k4⟩
                have hμ : μ1 S0.length = some L0 := k1 _ _ (Mu.set_same _ _ _)
                have := VR.slice (μ := μ1) (b := S0.length) (o := 0) (n := n) (c := unk) (c' := c') hμ hnc (.inl rfl) (by simp [L0, ← hlt.2]; omega)
                simpa [L0] using this
            · simp at he
          · simp at he
      · simp at he
    · rename_i heq
      simp only [List.cons.injEq] at heq
      obtain ⟨rfl, rfl⟩ := heq
      split at he
      · rename_i hfl
        rw [Option.map_eq_some_iff] at he
        obtain ⟨⟨r1, r2⟩, hr, he⟩ := he
        simp only [Prod.mk.injEq] at he
        obtain ⟨rfl, rfl⟩ := he
        obtain ⟨μ1, k1, k2, k3, k4⟩ := takeArgs_ok h ht hr h0 hf
        refine ⟨μ1, k1, k2, .cons ?_ k3, k4⟩
        rw [flat_eq hfl hv]
        exact flat_refl hfl
      · simp at he

theorem rn_ok {k h : Nat} {μ2 μ3 : Mu} (hμ : ∀ b l, k ≤ b → μ2 b = some l → μ3 (b - k + h) = some l) {v u v' : Value} (hr : rn k h v = some u) (hv : VR μ2 v v') : VR μ3 u v' := by
  unfold rn at hr
  split at hr
  · split at hr
    · rename_i hk
      simp only [Option.some.injEq] at hr
      subst hr
      cases hv with
      | slice hl hn hc ht => exact .slice (hμ _ _ hk hl) hn hc ht
      | sliceZ a a' => exact .sliceZ _ _
      | sliceE a a' => exact .sliceE _ _
    · simp at hr
  · split at hr
    · rename_i hp
      simp only [Option.some.injEq] at hr
      subst hr
      rw [plain_eq hp hv]
      exact plain_vr _ hp
    · simp at hr

theorem rns_ok {k h : Nat} {μ2 μ3 : Mu} (hμ : ∀ b l, k ≤ b → μ2 b = some l → μ3 (b - k + h) = some l) : ∀ {vs us vs' : List Value}, rns k h vs = some us → VRs μ2 vs vs' → VRs μ3 us vs'
  | [], _, _, hr, .nil => by simp [rns] at hr; subst hr; exact .nil
  | v :: l, _, _, hr, .cons hv ht => by
    unfold rns at hr
    split at hr
    · rename_i u r h1 h2
      simp only [Option.some.injEq] at hr
      subst hr
      exact .cons (rn_ok hμ h1 hv) (rns_ok hμ h2 ht)
    · simp at hr

theorem rns_get {k h : Nat} : ∀ {vs us : List Value}, rns k h vs = some us → ∀ (i : Nat) (u : Value), us[i]? = some u → ∃ v, vs[i]? = some v ∧ rn k h v = some u
  | [], _, hr, i, u, hu => by simp [rns] at hr; subst hr; simp at hu
  | v :: l, _, hr, i, u, hu => by
    unfold rns at hr
    split at hr
    · rename_i u1 r h1 h2
      simp only [Option.some.injEq] at hr
      subst hr
      cases i with
      | zero => simp at hu; subst hu; exact ⟨v, rfl, h1⟩
      | succ i => exact rns_get h2 i u (by simpa using hu)
    · simp at hr

theorem rnV_ok {k h : Nat} {μ2 μ3 : Mu} (hμ : ∀ b l, k ≤ b → μ2 b = some l → μ3 (b - k + h) = some l) {v u v' : Value} (hr : rnV k h v = some u) (hv : VR μ2 v v') : VR μ3 u v' := by
  unfold rnV at hr
  split at hr
  · rw [Option.map_eq_some_iff] at hr
    obtain ⟨l, hl, rfl⟩ := hr
    cases hv with
    | undef v =>
      simp [rns] at hl
      subst hl
      exact .undef _
    | tuple hc => exact .tuple (rns_ok hμ (by simpa using hl) hc)
  · exact rn_ok hμ hr hv

theorem subX_ok {call : CallF} (hc : SoundCall P call) (f : FuncId) : ExtOk P f (subX call f) := by
  intro args H v H1 he
  unfold subX at he
  split at he
  · rename_i asv S hta
    split at he
    · rename_i v2 S2 hcall
      rw [Option.map_eq_some_iff] at he
      obtain ⟨u, hu, he⟩ := he
      simp only [Prod.mk.injEq] at he
      obtain ⟨rfl, rfl⟩ := he
      refine ⟨by simp, fun base F μ w args' hh hfree ha => ?_⟩
      have h0 : HR w.heap.size (fun _ => False) (fun _ => none) [] w := ⟨fun b _ _ _ hb => by simp at hb, fun b _ _ _ hb => by simp at hb, fun b _ _ hb => by simp at hb, fun b _ _ _ _ _ hb => by simp at hb, fun _ h => h.elim, Nat.le_refl _⟩
      obtain ⟨μ1, k1, k2, k3, k4⟩ := takeArgs_ok hh (S0 := []) ha hta h0 (fun _ _ => rfl)
      simp only [List.nil_append] at k2 k4
      refine Calls.mono (hc.calls f asv S _ _ hcall w.heap.size (fun _ => False) μ1 w args' k2 (fun b hb _ => k4 b hb) k3) ?_
      rintro e w' ⟨v', μ2, rfl, g, hv'⟩
      have hl2 := g.len
      have hblk : ∀ k, k < w.heap.size → w'.heap[k]? = w.heap[k]? := fun k hk => g.fr.block k (.inl hk)
      have hlen : (H ++ (S2.drop S.length).map (rnB S.length H.length)).length = H.length + (S2.length - S.length) := by simp
      rw [hlen] at hfree
      let μ3 : Mu := fun b => if H.length ≤ b ∧ b < H.length + (S2.length - S.length) then μ2 (b - H.length + S.length) else μ b
      have hle : MuLe μ μ3 := by
        intro b l hb
        simp only [μ3]
        rw [if_neg]
        · exact hb
        · rintro ⟨h1, h2⟩
          rw [hfree b h1 h2] at hb
          simp at hb
      have hμ3 : ∀ b l, S.length ≤ b → μ2 b = some l → μ3 (b - S.length + H.length) = some l := by
        intro b l hb hl
        have hb2 : b < S2.length := by
          rcases Nat.lt_or_ge b S2.length with q | q
          · exact q
          · rw [g.same b (.inr q), k4 b hb] at hl
            simp at hl
        simp only [μ3]
        rw [if_pos ⟨by omega, by omega⟩, show b - S.length + H.length - H.length + S.length = b by omega]
        exact hl
      have h' := hh.world hblk g.fr.size
      have key : ∀ {b : Nat} {x : Blk} {l : Loc}, (H ++ (S2.drop S.length).map (rnB S.length H.length))[b]? = some x → μ3 b = some l →
          (b < H.length ∧ H[b]? = some x ∧ μ b = some l) ∨ (H.length ≤ b ∧ ∃ y, S2[b - H.length + S.length]? = some y ∧ rnB S.length H.length y = x ∧ μ2 (b - H.length + S.length) = some l) := by
        intro b x l hb hl
        rcases Nat.lt_or_ge b H.length with hlt | hge
        · rw [List.getElem?_append_left hlt] at hb
          simp only [μ3] at hl
          rw [if_neg (by omega)] at hl
          exact .inl ⟨hlt, hb, hl⟩
        · rw [List.getElem?_append_right hge, List.getElem?_map, Option.map_eq_some_iff] at hb
          obtain ⟨y, hy, e⟩ := hb
          rw [List.getElem?_drop] at hy
          have hlt2 := (List.getElem?_eq_some_iff.1 hy).1
          simp only [μ3] at hl
          rw [if_pos ⟨hge, by omega⟩] at hl
          exact .inr ⟨hge, y, by rw [← hy]; congr 1; omega, e, hl⟩
      have rowOf : ∀ {y : Blk} {sz : Nat} {cs : List Value} {own : Bool}, rnB S.length H.length y = .row sz cs own true → ∃ cs0, y = .row sz cs0 true true ∧ rns S.length H.length cs0 = some cs ∧ own = true := by
        intro y sz cs own hy
        unfold rnB at hy
        split at hy
        · split at hy
          · rename_i hr
            simp only [Blk.row.injEq, and_true] at hy
            obtain ⟨rfl, rfl, rfl⟩ := hy
            exact ⟨_, rfl, hr, rfl⟩
          · simp at hy
        · simp at hy
      have noMap : ∀ {y : Blk} {es : List (Value × Value)}, rnB S.length H.length y ≠ .map es := by
        intro y es hy
        unfold rnB at hy
        split at hy
        · split at hy <;> simp at hy
        · simp at hy
      have mineOf : ∀ {y x : Blk}, rnB S.length H.length y = x → x.mine = true → y.mine = true := by
        intro y x hy hx
        cases x with
        | map es => exact absurd hy noMap
        | row sz cs own live =>
          simp [Blk.mine] at hx
          obtain ⟨rfl, rfl⟩ := hx
          obtain ⟨cs0, rfl, _, _⟩ := rowOf hy
          rfl
      have hr3 : HR base F μ3 (H ++ (S2.drop S.length).map (rnB S.length H.length)) w' := by
        refine ⟨?_, ?_, ?_, ?_, h'.far, h'.base_le⟩
        · intro b sz cs l hb hl
          rcases key hb hl with ⟨_, hb, hl⟩ | ⟨_, y, hy, hyx, hl⟩
          · obtain ⟨a, c, d, e⟩ := h'.own b sz cs l hb hl
            exact ⟨a, c, d, e.mono hle rfl⟩
          · obtain ⟨cs0, rfl, hrs, _⟩ := rowOf hyx
            obtain ⟨a, c, d, arr, e, fr, g1, g2, g3, g4⟩ := g.hr.own _ _ _ _ hy hl
            refine ⟨a, Nat.le_trans hh.base_le c, fun q => by have := hh.far _ q; omega, arr, e, fr, g1, g2, g3, fun i u hu => ?_⟩
            obtain ⟨v0, hv0, hrn⟩ := rns_get hrs i u hu
            obtain ⟨v1, e1, e2⟩ := g4 i v0 hv0
            exact ⟨v1, e1, rn_ok hμ3 hrn e2⟩
        · intro b sz cs l hb hl
          rcases key hb hl with ⟨_, hb, hl⟩ | ⟨_, y, hy, hyx, hl⟩
          · obtain ⟨a, c, d⟩ := h'.ro b sz cs l hb hl
            exact ⟨a, c, fun i v hv => let ⟨v', x, y⟩ := d i v hv; ⟨v', x, y.mono hle⟩⟩
          · obtain ⟨cs0, rfl, hrs, q⟩ := rowOf hyx
            simp at q
        · intro b es l hb hl
          rcases key hb hl with ⟨_, hb, hl⟩ | ⟨_, y, hy, hyx, hl⟩
          · obtain ⟨a, c, d⟩ := h'.maps b es l hb hl
            exact ⟨a, c, d.mono hle rfl⟩
          · exact absurd hyx noMap
        · intro b b' x x' l l' hb hb' hx hx' hne hl hl'
          rcases key hb hl with ⟨_, hb, hl2⟩ | ⟨hg, y, hy, hyx, hl2⟩ <;> rcases key hb' hl' with ⟨_, hb', hl2'⟩ | ⟨hg', y', hy', hyx', hl2'⟩
          · exact hh.inj b b' x x' l l' hb hb' hx hx' hne hl2 hl2'
          · have := (hh.mine_lt hb hx hl2).1
            have := (g.hr.mine_lt hy' (mineOf hyx' hx') hl2').2.1
            omega
          · have := (hh.mine_lt hb' hx' hl2').1
            have := (g.hr.mine_lt hy (mineOf hyx hx) hl2).2.1
            omega
          · exact g.hr.inj _ _ y y' l l' hy hy' (mineOf hyx hx) (mineOf hyx' hx') (by omega) hl2 hl2'
      refine ⟨v', μ3, rfl, ⟨hle, fun b hb => ?_, hr3, ?_, by simp⟩, rnV_ok hμ3 hu hv'⟩
      · simp only [μ3]
        rw [hlen] at hb
        rw [if_neg (by omega)]
      · exact ⟨g.fr.os, g.fr.tape, g.fr.output, g.fr.size, fun k hk => hblk k (hk.elim (fun q => Nat.lt_of_lt_of_le q hh.base_le) (hh.far k))⟩
    · simp at he
  · simp at he

end Go.Proofs.Ytdhbclplondmjaa.C

end
