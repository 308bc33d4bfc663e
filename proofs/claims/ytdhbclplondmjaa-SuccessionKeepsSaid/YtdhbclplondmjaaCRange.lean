/- A range over a function: its iterator calls yield, each round runs the body. -/
import Derived.Test.YtdhbclplondmjaaCIn
import Derived.RangeFuncLeaves
set_option linter.unusedVariables false
set_option linter.unusedSimpArgs false
namespace Go.Proofs.Ytdhbclplondmjaa.C
open Go.RowKit

variable {P : Program} {T : Tab} {base : Nat} {F : Nat → Prop}

/-! ### What is computed -/

def yieldArgs (s : List Value) (b : Nat) (o : Op) : Option (List Value) :=
  match o with
  | .call { callee := .value f, args, .. } => match ev s f with | .chan (some c) => if c = b then some (args.toList.map (ev s)) else none | _ => none
  | _ => none

abbrev RoundF := List Value → Heap → Option Heap

def evalOneY (T : Tab) (call : CallF) (b : Nat) (rd : RoundF) (ops : Array Oper) (o : Oper) (s : List Value) (H : Heap) : Option (List Value × Heap) :=
  match guardC ops o s with
  | some true =>
    match yieldArgs s b o.op with
    | some args => (rd args H).map fun H1 => (put s o.dst (.bool true), H1)
    | none => (evalOp T call s H o.op).map fun r => (put s o.dst r.1, r.2)
  | some false => some (put s o.dst (.chan none), H)
  | none => none

def evalIdxY (T : Tab) (call : CallF) (b : Nat) (rd : RoundF) (ops : Array Oper) : List Nat → List Value → Heap → Option (List Value × Heap)
  | [], s, H => some (s, H)
  | i :: is, s, H =>
    match ops[i]? with
    | none => none
    | some o => match evalOneY T call b rd ops o s H with
      | some (s1, H1) => evalIdxY T call b rd ops is s1 H1
      | none => none

def evalCY (T : Tab) (call : CallF) (b : Nat) (rd : RoundF) : Nat → Code → List Value → Heap → Option (Ex × List Value × Heap)
  | 0, _, _, _ => none
  | n + 1, c, s, H =>
    match c with
    | .skip | .label _ => some (.normal, s, H)
    | .region _ ops draw => if draw then none else (evalIdxY T call b rd ops (List.range ops.size) s H).map fun r => (.normal, r.1, r.2)
    | .seq x y =>
      match evalCY T call b rd n x s H with
      | some (.normal, s1, H1) => evalCY T call b rd n y s1 H1
      | r => r
    | .cond c x y =>
      match ev s c with
      | .bool true => evalCY T call b rd n x s H
      | .bool false => evalCY T call b rd n y s H
      | _ => none
    | .block id x =>
      match evalCY T call b rd n x s H with
      | some (.exit j, s1, H1) => if j = id then some (.normal, s1, H1) else some (.exit j, s1, H1)
      | r => r
    | .loop x =>
      match evalCY T call b rd n x s H with
      | some (.normal, s1, H1) => evalCY T call b rd n (.loop x) s1 H1
      | r => r
    | .exit id => some (.exit id, s, H)
    | .ret => some (.ret, s, H)
    | _ => none

def putAll (s : List Value) : List Tmp → List Value → List Value
  | t :: ts, v :: vs => putAll (s.set t v) ts vs
  | _, _ => s

def rangeRound (T : Tab) (call : CallF) (n : Nat) (s : List Value) (ps : Array Tmp) (assign body : Code) : RoundF := fun args H =>
  if args.length = ps.size then
    match evalC T call n assign (putAll s ps.toList args) H with
    | some (.normal, s1, H1) =>
      match evalC T call n body s1 H1 with
      | some (.normal, _, H2) => some H2
      | _ => none
    | _ => none
  else none

def evalRange (T : Tab) (call : CallF) (n : Nat) (s : List Value) (H : Heap) (g : Operand) (ps : Array Tmp) (assign body : Code) : Option Heap :=
  match ev s g with
  | .func (.func f) first cap =>
    match T.fn f with
    | some fn =>
      match fn.body with
      | some c =>
        if calm c && codeChk assign && calm assign && codeChk body && calm body then
          match evalCY T call H.length (rangeRound T call n s ps assign body) n c (startC fn (first.toList ++ [.chan (some H.length)] ++ cap.toList)) (H ++ [.row 0 [] false false]) with
          | some (.normal, s1, H1) => (resultsC T fn s1 H1).map fun _ => H1
          | some (.ret, s1, H1) => (resultsC T fn s1 H1).map fun _ => H1
          | _ => none
        else none
      | none => none
    | none => none
  | _ => none

def hasRange : Code → Bool
  | .rangeFunc .. => true
  | .seq a b => hasRange a || hasRange b
  | .cond _ a b => hasRange a || hasRange b
  | .block _ a => hasRange a
  | .loop a => hasRange a
  | _ => false

def evalX (T : Tab) (call : CallF) (n : Nat) : Code → List Value → Heap → Option (Ex × List Value × Heap)
  | .seq a b, s, H =>
    if hasRange a then
      match evalX T call n a s H with
      | some (.normal, s1, H1) => if codeChk b then evalC T call n b s1 H1 else none
      | r => r
    else
      match (if codeChk a then evalC T call n a s H else none) with
      | some (.normal, s1, H1) => evalX T call n b s1 H1
      | r => r
  | .block id a, s, H =>
    match evalX T call n a s H with
    | some (.exit j, s1, H1) => if j = id then some (.normal, s1, H1) else some (.exit j, s1, H1)
    | r => r
  | .rangeFunc g ps assign body, s, H => (evalRange T call n s H g ps assign body).map fun H1 => (.normal, s, H1)
  | _, _, _ => none

/-- More fuel. -/
theorem evalCY_mono {T : Tab} {call : CallF} {b : Nat} {rd : RoundF} : ∀ {n m : Nat} (hnm : n ≤ m) {c : Code} {s : List Value} {H : Heap} {r : Ex × List Value × Heap}, evalCY T call b rd n c s H = some r → evalCY T call b rd m c s H = some r
  | 0, _, _, _, _, _, _, h => by simp [evalCY] at h
  | n + 1, 0, hnm, _, _, _, _, h => by omega
  | n + 1, m + 1, hnm, c, s, H, r, h => by
    have hle : n ≤ m := by omega
    unfold evalCY at *
    cases c <;> simp only at h ⊢ <;> try exact h
    · split at h
      · rename_i s1 H1 e
        rw [evalCY_mono hle e]
        exact evalCY_mono hle h
      · rename_i x y
        rw [evalCY_mono hle h]
        split
        · rename_i s1 H1 e
          simp only [Option.some.injEq] at e
          subst e
          exact absurd h (y _ _)
        · rfl
    · split at h
      · exact evalCY_mono hle h
      · exact evalCY_mono hle h
      · simp at h
    · split at h
      · rename_i j s1 H1 e
        rw [evalCY_mono hle e]
        exact h
      · rename_i x y
        rw [evalCY_mono hle h]
        split
        · rename_i j s1 H1 e
          simp only [Option.some.injEq] at e
          subst e
          exact absurd h (y _ _ _)
        · rfl
    · split at h
      · rename_i s1 H1 e
        rw [evalCY_mono hle e]
        exact evalCY_mono hle h
      · rename_i x y
        rw [evalCY_mono hle h]
        split
        · rename_i s1 H1 e
          simp only [Option.some.injEq] at e
          subst e
          exact absurd h (y _ _)
        · rfl

/-! ### That the machine computes it -/

/-- The fence of everything. -/
theorem opW_of {o : Oper} {a : Act} {w : World} {K K' : Act → World → Prop} {Q : Exit → Act → World → Prop} {n : Nat} (hnd : calmOp o = true) (h : o.wp P a w K Q) (hK : ∀ a w, K a w → K' a w) (hQ : ∀ a w, ¬ Q .outgrown a w) :
    o.wpIn Fence.wide n P a w K' Q := by
  refine ⟨fun _ _ => trivial, ?_⟩
  rw [Oper.semAt_eq _ _ _ (fun c e => by simp [calmOp, e] at hnd)]
  unfold Oper.wp at h
  cases e : (execOp a.eval o).run P w with
  | halt x w1 =>
    rw [e] at h
    cases x <;> simp only [Oper.upon] at h <;> exact h
  | ok x w1 =>
    rw [e] at h
    cases x with
    | value v => exact hK _ _ h
    | skip => exact hK _ _ h
    | defer d => exact hK _ _ h
    | enter f args =>
      refine ⟨fun q => by simp [Fence.wide] at q, callsIn_wide.2 ?_⟩
      refine Calls.mono h ?_
      intro e w2 q
      cases e with
      | returned v => exact hK _ _ q
      | panicked ch => exact q
      | outgrown => exact q
    | row row args =>
      refine ⟨fun q => by simp [Fence.wide] at q, ?_⟩
      intro c cs _
      obtain ⟨v, w2, hr, hs⟩ := h c cs
      exact ⟨v, w2, hK _ _ hr, stepsIn_wide.2 hs⟩
    | _ => exact h.elim

/-- The loop's record and the block for deferred calls are left alone but by the rounds. -/
structure GoY (base : Nat) (F : Nat → Prop) (lp D : Nat) (rec : Loop) (μ μ' : Mu) (H H' : Heap) (w w' : World) : Prop where
  le : MuLe μ μ'
  same : ∀ b, (b < H.length ∨ H'.length ≤ b) → μ' b = μ b
  hr : HR base (fun k => F k ∨ k = lp ∨ k = D) μ' H' w'
  fr : Fr base F w w'
  len : H.length ≤ H'.length
  rec_ : w'.heap[lp]? = some (.loop rec)
  df : w'.heap[D]? = some (.deferred (some []))

section
variable {lp D : Nat} {rec : Loop}

theorem GoY.trans {μ μ' μ'' : Mu} {H H' H'' : Heap} {w w' w'' : World} (h : GoY base F lp D rec μ μ' H H' w w') (k : GoY base F lp D rec μ' μ'' H' H'' w' w'') : GoY base F lp D rec μ μ'' H H'' w w'' where
  le := h.le.trans k.le
  same b hb := by
    have h1 := h.len
    have h2 := k.len
    rw [k.same b (by omega), h.same b (by omega)]
  hr := k.hr
  fr := h.fr.trans k.fr
  len := Nat.le_trans h.len k.len
  rec_ := k.rec_
  df := k.df

theorem GoY.of {μ μ' : Mu} {H H' : Heap} {w w' : World} (g : Goes base (fun k => F k ∨ k = lp ∨ k = D) μ μ' H H' w w') (h1 : w.heap[lp]? = some (.loop rec)) (h2 : w.heap[D]? = some (.deferred (some []))) : GoY base F lp D rec μ μ' H H' w w' :=
  ⟨g.le, g.same, g.hr, g.fr.weaken (fun k hk => .inl hk), g.len, (g.fr.block lp (.inr (.inr (.inl rfl)))).trans h1, (g.fr.block D (.inr (.inr (.inr rfl)))).trans h2⟩

theorem Free.afterY {μ μ' : Mu} {H H' : Heap} {w w' : World} {n : Nat} (hf : Free μ H.length n) (h : GoY base F lp D rec μ μ' H H' w w') : Free μ' H'.length n := by
  intro b h1 h2
  have := h.len
  rw [h.same b (.inr h1)]
  exact hf b (by omega) h2

/-- A call of yield. -/
def YieldsAt (F : Fence) (m : Nat) (P : Program) (l : Nat) (args : Array Value) (W : World) (R : Ending → World → Prop) : Prop :=
  ∃ fn tmps assign body, (Instr.yield l args).run P W = .ok (.round l fn tmps assign body) W ∧ RoundIn F m P l fn tmps assign body W R

/-- What a round of the loop does, at any time. -/
def RoundOk (P : Program) (base : Nat) (F : Nat → Prop) (lp D b n : Nat) (rec : Loop) (μ0 : Mu) (L : Loc) (rd : RoundF) : Prop :=
  ∀ args H H1, rd args H = some H1 → H.length ≤ H1.length ∧ ∀ μ w args', MuLe μ0 μ → HR base (fun k => F k ∨ k = lp ∨ k = D) μ H w → w.heap[lp]? = some (.loop rec) → w.heap[D]? = some (.deferred (some [])) → VRs μ args args' → Free μ H.length H1.length →
    YieldsAt Fence.wide n P lp args'.toArray w fun e w' => e = .returned (.bool true) ∧ ∃ μ', GoY base F lp D rec μ μ' H H1 w w'

variable {b n : Nat} {μ0 : Mu} {L : Loc} {rd : RoundF} {call : CallF}

theorem RoundOk.len (h : RoundOk P base F lp D b n rec μ0 L rd) : ∀ args H H1, rd args H = some H1 → H.length ≤ H1.length := fun a H H1 e => (h a H H1 e).1

theorem evalOneY_len (hc : SoundCall P call) (hrd : ∀ args H H1, rd args H = some H1 → H.length ≤ H1.length) {ops : Array Oper} {o : Oper} {s s1 : List Value} {H H1 : Heap} (h : evalOneY T call b rd ops o s H = some (s1, H1)) : H.length ≤ H1.length := by
  unfold evalOneY at h
  split at h
  · split at h
    · rw [Option.map_eq_some_iff] at h
      obtain ⟨H2, h2, h⟩ := h
      simp only [Prod.mk.injEq] at h
      rw [← h.2]
      exact hrd _ _ _ h2
    · rw [Option.map_eq_some_iff] at h
      obtain ⟨⟨v, H2⟩, h2, h⟩ := h
      simp only [Prod.mk.injEq] at h
      rw [← h.2]
      exact evalOp_len hc h2
  · simp only [Option.some.injEq, Prod.mk.injEq] at h
    rw [← h.2]
    exact Nat.le_refl _
  · simp at h

theorem evalIdxY_len (hc : SoundCall P call) (hrd : ∀ args H H1, rd args H = some H1 → H.length ≤ H1.length) {ops : Array Oper} : ∀ {is : List Nat} {s s1 : List Value} {H H1 : Heap}, evalIdxY T call b rd ops is s H = some (s1, H1) → H.length ≤ H1.length
  | [], s, s1, H, H1, h => by
    simp only [evalIdxY, Option.some.injEq, Prod.mk.injEq] at h
    rw [h.2]; exact Nat.le_refl _
  | i :: is, s, s1, H, H1, h => by
    unfold evalIdxY at h
    split at h
    · simp at h
    · split at h
      · rename_i s2 H2 e
        exact Nat.le_trans (evalOneY_len hc hrd e) (evalIdxY_len hc hrd h)
      · simp at h

theorem evalCY_len (hc : SoundCall P call) (hrd : ∀ args H H1, rd args H = some H1 → H.length ≤ H1.length) : ∀ {k : Nat} {c : Code} {s : List Value} {H : Heap} {r : Ex × List Value × Heap}, evalCY T call b rd k c s H = some r → H.length ≤ r.2.2.length
  | 0, c, s, H, r, h => by simp [evalCY] at h
  | k + 1, c, s, H, r, h => by
    unfold evalCY at h
    cases c <;> simp only [Option.some.injEq, reduceCtorEq] at h
    · subst h; exact Nat.le_refl _
    · split at h
      · simp at h
      · rw [Option.map_eq_some_iff] at h
        obtain ⟨x, hx, h⟩ := h
        subst h
        exact evalIdxY_len hc hrd hx
    · split at h
      · rename_i s1 H1 e
        exact Nat.le_trans (evalCY_len hc hrd e) (evalCY_len hc hrd h)
      · exact evalCY_len hc hrd h
    · split at h
      · exact evalCY_len hc hrd h
      · exact evalCY_len hc hrd h
      · simp at h
    · split at h
      · rename_i j s1 H1 e
        have := evalCY_len hc hrd e
        split at h <;> (simp only [Option.some.injEq] at h; subst h; exact this)
      · exact evalCY_len hc hrd h
    · split at h
      · rename_i s1 H1 e
        exact Nat.le_trans (evalCY_len hc hrd e) (evalCY_len hc hrd h)
      · exact evalCY_len hc hrd h
    · subst h; exact Nat.le_refl _
    · subst h; exact Nat.le_refl _
    · subst h; exact Nat.le_refl _

/-- A state of the iterator. -/
structure AtY (base : Nat) (F : Nat → Prop) (lp D b : Nat) (rec : Loop) (μ0 : Mu) (L : Loc) (μ : Mu) (s : List Value) (H : Heap) (a : Act) (w : World) : Prop where
  hr : HR base (fun k => F k ∨ k = lp ∨ k = D) μ H w
  rec_ : w.heap[lp]? = some (.loop rec)
  df : w.heap[D]? = some (.deferred (some []))
  le : MuLe μ0 μ
  at_ : μ0 b = some L
  blk : L.blk = lp
  sr : SR μ s a.tmps

def AfterY (base : Nat) (F : Nat → Prop) (lp D b : Nat) (rec : Loop) (μ0 : Mu) (L : Loc) (μ : Mu) (H : Heap) (s1 : List Value) (H1 : Heap) (a : Act) (w : World) (a' : Act) (w' : World) : Prop :=
  ∃ μ', GoY base F lp D rec μ μ' H H1 w w' ∧ AtY base F lp D b rec μ0 L μ' s1 H1 a' w' ∧ a'.defers = a.defers

theorem AtY.refl {μ : Mu} {s : List Value} {H : Heap} {a : Act} {w : World} (h : AtY base F lp D b rec μ0 L μ s H a w) : GoY base F lp D rec μ μ H H w w :=
  ⟨MuLe.refl _, fun _ _ => rfl, h.hr, Fr.refl _ _ _, Nat.le_refl _, h.rec_, h.df⟩

theorem evalOneY_wp (ag : Agree P T) (hm : ∀ t n f e, T.meth t n = some (f, e) → MethOk P t n f e) (hc : SoundCall P call) (hrd : RoundOk P base F lp D b n rec μ0 L rd) {μ : Mu} {ops : Array Oper} {o : Oper} {s s1 : List Value} {H H1 : Heap} {w : World} {a : Act} (hnd : calmOp o = true)
    (he : evalOneY T call b rd ops o s H = some (s1, H1)) (h : AtY base F lp D b rec μ0 L μ s H a w) (hf : Free μ H.length H1.length) {K : Act → World → Prop} {Q : Exit → Act → World → Prop} (hQ : ∀ a w, ¬ Q .outgrown a w)
    (hK : ∀ a' w', AfterY base F lp D b rec μ0 L μ H s1 H1 a w a' w' → K a' w') :
    if Region.wanted o (yielded ops a.tmps) then o.wpIn Fence.wide (n + 1) P a w K Q else (∀ f, o.about P w a.eval = some f → Fence.wide.fn f) ∧ K (a.put o.dst undef) w := by
  unfold evalOneY at he
  split at he
  · rename_i hg
    rw [guard_ok h.sr hg, if_pos rfl]
    split at he
    · rename_i args hy
      rw [Option.map_eq_some_iff] at he
      obtain ⟨H2, h2, he⟩ := he
      simp only [Prod.mk.injEq] at he
      obtain ⟨rfl, rfl⟩ := he
      unfold yieldArgs at hy
      split at hy
      · rename_i fo xs ats hop
        split at hy
        · rename_i c hfo
          split at hy
          · rename_i hcb
            subst hcb
            simp only [Option.some.injEq] at hy
            subst hy
            have hv := h.sr.evals fo
            rw [hfo] at hv
            generalize hρ : a.eval fo = fv at hv
            cases hv with
            | yield hl =>
              have hL := h.le _ _ h.at_
              rw [hL] at hl
              simp only [Option.some.injEq] at hl
              subst hl
              obtain ⟨_, hr2⟩ := hrd _ _ _ h2
              obtain ⟨fn, tmps, assign, body, hyr, hR⟩ := hr2 μ w _ h.le h.hr h.rec_ h.df (VRs.of_map h.sr.evals xs.toList) hf
              refine ⟨fun _ _ => trivial, ?_⟩
              rw [Oper.semAt_eq _ _ _ (fun c e => by simp [calmOp, e] at hnd)]
              have hrun : (execOp a.eval o).run P w = .ok (.round L.blk fn tmps assign body) w := by
                simp only [execOp, hop, resolve, hρ, Deferred.ofValue, pure_bind, invoke]
                rw [h.blk]
                simpa [map_arr] using hyr
              rw [hrun]
              refine ⟨fun q => by simp [Fence.wide] at q, ?_⟩
              rw [h.blk]
              refine RoundIn.mono hR ?_
              rintro e w' ⟨rfl, μ', g⟩
              refine hK _ _ ⟨μ', g, ⟨g.hr, g.rec_, g.df, h.le.trans g.le, h.at_, h.blk, (h.sr.mono g.le).puts o.dst (.bool true)⟩, put_defers _ _ _⟩
          · simp at hy
        · simp at hy
      · simp at hy
    · rw [Option.map_eq_some_iff] at he
      obtain ⟨⟨v, H2⟩, hx, he⟩ := he
      simp only [Prod.mk.injEq] at he
      obtain ⟨rfl, rfl⟩ := he
      refine opW_of hnd (K := K) (evalOp_wp ag hm hc hx h.hr hf h.sr.evals fun v' w' μ' g hv => ?_) (fun _ _ h => h) hQ
      have g' := GoY.of (lp := lp) (D := D) (rec := rec) g h.rec_ h.df
      exact hK _ _ ⟨μ', g', ⟨g'.hr, g'.rec_, g'.df, h.le.trans g.le, h.at_, h.blk, (h.sr.mono g.le).puts o.dst hv⟩, put_defers _ _ _⟩
  · rename_i hg
    rw [guard_ok h.sr hg]
    simp only [Option.some.injEq, Prod.mk.injEq] at he
    obtain ⟨rfl, rfl⟩ := he
    simp only [Bool.false_eq_true, if_false]
    exact ⟨fun _ _ => trivial, hK _ _ ⟨μ, h.refl, ⟨h.hr, h.rec_, h.df, h.le, h.at_, h.blk, h.sr.puts o.dst .skip⟩, put_defers _ _ _⟩⟩
  · simp at he

theorem AfterY.trans {μ μ' : Mu} {H H1 H2 : Heap} {s2 : List Value} {a a1 a2 : Act} {w w1 w2 : World} (g : GoY base F lp D rec μ μ' H H1 w w1) (hd : a1.defers = a.defers) (k : AfterY base F lp D b rec μ0 L μ' H1 s2 H2 a1 w1 a2 w2) : AfterY base F lp D b rec μ0 L μ H s2 H2 a w a2 w2 := by
  obtain ⟨μ2, g2, h2, hd2⟩ := k
  exact ⟨μ2, g.trans g2, h2, hd2.trans hd⟩

theorem evalIdxY_wp (ag : Agree P T) (hm : ∀ t n f e, T.meth t n = some (f, e) → MethOk P t n f e) (hc : SoundCall P call) (hrd : RoundOk P base F lp D b n rec μ0 L rd) {ops : Array Oper} (hca : ops.all calmOp = true) {Q : Exit → Act → World → Prop} (hQn : ∀ a w, ¬ Q .outgrown a w) :
    ∀ {is : List Nat} {μ : Mu} {s s1 : List Value} {H H1 : Heap} {w : World} {a : Act}, evalIdxY T call b rd ops is s H = some (s1, H1) → AtY base F lp D b rec μ0 L μ s H a w → Free μ H.length H1.length →
      (∀ a' w', AfterY base F lp D b rec μ0 L μ H s1 H1 a w a' w' → Q .normal a' w') → wpOpsIn Fence.wide (n + 1) P ops Q is a w
  | [], μ, s, s1, H, H1, w, a, he, h, hf, hQ => by
    simp only [evalIdxY, Option.some.injEq, Prod.mk.injEq] at he
    obtain ⟨rfl, rfl⟩ := he
    exact hQ a w ⟨μ, h.refl, h, rfl⟩
  | i :: is, μ, s, s1, H, H1, w, a, he, h, hf, hQ => by
    unfold evalIdxY at he
    split at he
    · simp at he
    · rename_i o ho
      split at he
      · rename_i s2 H2 e
        have hl1 := evalOneY_len hc hrd.len e
        have hl2 := evalIdxY_len hc hrd.len he
        rw [wpOpsIn]
        simp only [ho]
        have hnd : calmOp o = true := by
          rw [Array.all_eq_true'] at hca
          exact hca o (Array.mem_of_getElem? ho)
        refine evalOneY_wp ag hm hc hrd hnd e h (hf.le hl2) hQn fun a' w' k => ?_
        obtain ⟨μ', g, h', hd⟩ := k
        exact evalIdxY_wp ag hm hc hrd hca hQn he h' (hf.afterY g) fun a2 w2 k2 => hQ a2 w2 (AfterY.trans g hd k2)
      · simp at he

theorem evalCY_wp (ag : Agree P T) (hm : ∀ t n f e, T.meth t n = some (f, e) → MethOk P t n f e) (hc : SoundCall P call) (hrd : RoundOk P base F lp D b n rec μ0 L rd) :
    ∀ (k : Nat) {c : Code} {μ : Mu} {s s1 : List Value} {H H1 : Heap} {e : Ex} {w : World} {a : Act}, calm c = true → evalCY T call b rd k c s H = some (e, s1, H1) → AtY base F lp D b rec μ0 L μ s H a w → Free μ H.length H1.length →
      c.wpIn Fence.wide (n + 1) P (fun x a' w' => x = exOf e ∧ AfterY base F lp D b rec μ0 L μ H s1 H1 a w a' w') a w
  | 0, c, μ, s, s1, H, H1, e, w, a, hca, he, h, hf => by simp [evalCY] at he
  | k + 1, c, μ, s, s1, H, H1, e, w, a, hca, he, h, hf => by
    have same : s = s1 → H = H1 → AfterY base F lp D b rec μ0 L μ H s1 H1 a w a w := by
      rintro rfl rfl
      exact ⟨μ, h.refl, h, rfl⟩
    unfold evalCY at he
    cases c <;> simp only [Option.some.injEq, Prod.mk.injEq, reduceCtorEq] at he
    · obtain ⟨rfl, h1, h2⟩ := he
      exact wpIn_skip ⟨rfl, same h1 h2⟩
    · rename_i id ops draw
      split at he
      · simp at he
      · rename_i hd
        simp only [Bool.not_eq_true] at hd
        subst hd
        rw [Option.map_eq_some_iff] at he
        obtain ⟨⟨s2, H2⟩, hx, he⟩ := he
        simp only [Prod.mk.injEq] at he
        obtain ⟨rfl, rfl, rfl⟩ := he
        exact wpIn_region (evalIdxY_wp ag hm hc hrd hca (fun a w q => by exact absurd q.1 (by simp [exOf])) hx h hf fun a' w' k => ⟨rfl, k⟩)
    · rename_i x y
      simp only [calm, Bool.and_eq_true] at hca
      refine wpIn_seq ?_
      split at he
      · rename_i s2 H2 e2
        have hl := evalCY_len hc hrd.len e2
        have hl2 := evalCY_len hc hrd.len he
        refine wpIn_mono (evalCY_wp ag hm hc hrd k hca.1 e2 h (hf.le hl2)) ?_
        rintro e' a' w' ⟨rfl, μ', g, h', hd⟩
        refine wpIn_mono (evalCY_wp ag hm hc hrd k hca.2 he h' (hf.afterY g)) ?_
        rintro e2 a2 w2 ⟨rfl, k2⟩
        exact ⟨rfl, AfterY.trans g hd k2⟩
      · rename_i hne
        refine wpIn_mono (evalCY_wp ag hm hc hrd k hca.1 he h hf) ?_
        rintro e' a' w' ⟨rfl, k2⟩
        cases e with
        | normal => exact absurd he (by intro q; exact hne _ _ q)
        | exit id => exact ⟨rfl, k2⟩
        | ret => exact ⟨rfl, k2⟩
    · rename_i c x y
      have hv := h.sr.evals c
      simp only [calm, Bool.and_eq_true] at hca
      split at he
      · rename_i ht
        rw [ht] at hv
        generalize hρ : a.eval c = cv at hv
        cases hv
        exact wpIn_cond_true hρ (evalCY_wp ag hm hc hrd k hca.1 he h hf)
      · rename_i ht
        rw [ht] at hv
        generalize hρ : a.eval c = cv at hv
        cases hv
        exact wpIn_cond_false hρ (evalCY_wp ag hm hc hrd k hca.2 he h hf)
      · simp at he
    · rename_i id x
      simp only [calm] at hca
      refine wpIn_block ?_
      split at he
      · rename_i j s2 H2 e2
        have hH : H2 = H1 := by split at he <;> (simp only [Option.some.injEq, Prod.mk.injEq] at he; exact he.2.2)
        have hS : s2 = s1 := by split at he <;> (simp only [Option.some.injEq, Prod.mk.injEq] at he; exact he.2.1)
        subst hH hS
        refine wpIn_mono (evalCY_wp ag hm hc hrd k hca e2 h hf) ?_
        rintro e' a' w' ⟨rfl, k2⟩
        simp only [exOf, Exit.inBlock]
        split at he
        · rename_i hj
          simp only [Option.some.injEq, Prod.mk.injEq] at he
          rw [if_pos hj]
          exact ⟨by rw [← he.1], k2⟩
        · rename_i hj
          simp only [Option.some.injEq, Prod.mk.injEq] at he
          rw [if_neg hj]
          exact ⟨by rw [← he.1], k2⟩
      · rename_i hne
        refine wpIn_mono (evalCY_wp ag hm hc hrd k hca he h hf) ?_
        rintro e' a' w' ⟨rfl, k2⟩
        cases e with
        | exit id => exact absurd he (by intro q; exact hne _ _ _ q)
        | normal => exact ⟨rfl, k2⟩
        | ret => exact ⟨rfl, k2⟩
    · rename_i x
      simp only [calm] at hca
      have he0 : evalCY T call b rd (k + 1) (.loop x) s H = some (e, s1, H1) := by rw [evalCY]; exact he
      refine wpIn_loop_rel (fun m a' w' => ∃ μ' s' H', m ≤ k + 1 ∧ evalCY T call b rd m (.loop x) s' H' = some (e, s1, H1) ∧ GoY base F lp D rec μ μ' H H' w w' ∧ AtY base F lp D b rec μ0 L μ' s' H' a' w' ∧ a'.defers = a.defers ∧ Free μ' H'.length H1.length)
        (m0 := k + 1) ⟨μ, s, H, Nat.le_refl _, he0, h.refl, h, rfl, hf⟩ ?_
      rintro m a1 w1 ⟨μ1, s', H', hm1, he1, g1, hs1, hd1, hf1⟩
      cases m with
      | zero => simp [evalCY] at he1
      | succ j =>
        have hk : j ≤ k := by omega
        have mono : ∀ {r}, evalCY T call b rd j x s' H' = some r → evalCY T call b rd k x s' H' = some r := evalCY_mono hk
        rw [evalCY] at he1
        split at he1
        · rename_i s2 H2 e2
          have e2' := mono e2
          have hl := evalCY_len hc hrd.len e2
          have hl2 := evalCY_len hc hrd.len he1
          refine wpIn_mono (evalCY_wp ag hm hc hrd k hca e2' hs1 (hf1.le hl2)) ?_
          rintro e' a2 w2 ⟨rfl, μ2, g2, hs2, hd2⟩
          exact ⟨j, Nat.lt_succ_self j, μ2, s2, H2, by omega, he1, g1.trans g2, hs2, hd2.trans hd1, hf1.afterY g2⟩
        · rename_i hne
          have e2' := mono he1
          refine wpIn_mono (evalCY_wp ag hm hc hrd k hca e2' hs1 hf1) ?_
          rintro e' a2 w2 ⟨rfl, kk⟩
          have := AfterY.trans g1 hd1 kk
          cases e with
          | normal => exact absurd he1 (by intro q; exact hne _ _ q)
          | exit id => exact ⟨rfl, this⟩
          | ret => exact ⟨rfl, this⟩
    · obtain ⟨rfl, h1, h2⟩ := he
      exact wpIn_exit ⟨rfl, same h1 h2⟩
    · obtain ⟨rfl, h1, h2⟩ := he
      exact wpIn_label ⟨rfl, same h1 h2⟩
    · obtain ⟨rfl, h1, h2⟩ := he
      exact wpIn_ret ⟨rfl, same h1 h2⟩

end

end Go.Proofs.Ytdhbclplondmjaa.C
