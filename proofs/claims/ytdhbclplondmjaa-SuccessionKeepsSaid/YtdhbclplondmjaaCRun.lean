/- Regions in text order, code, functions. -/
import Derived.Test.YtdhbclplondmjaaCSound
set_option linter.unusedVariables false
set_option linter.unusedSimpArgs false
namespace Go.Proofs.Ytdhbclplondmjaa.C
open Go.RowKit

variable {P : Program} {T : Tab} {base : Nat} {F : Nat → Prop}

/-- The state behind. -/
def After (base : Nat) (F : Nat → Prop) (μ : Mu) (H : Heap) (s1 : List Value) (H1 : Heap) (a : Act) (w : World) (a' : Act) (w' : World) : Prop :=
  ∃ μ', Goes base F μ μ' H H1 w w' ∧ SR μ' s1 a'.tmps ∧ a'.defers = a.defers

theorem After.trans {μ μ' : Mu} {H H1 H2 : Heap} {s2 : List Value} {a a1 a2 : Act} {w w1 w2 : World} (g : Goes base F μ μ' H H1 w w1) (hd : a1.defers = a.defers) (k : After base F μ' H1 s2 H2 a1 w1 a2 w2) : After base F μ H s2 H2 a w a2 w2 :=
  let ⟨ν, h, hs, hd2⟩ := k
  ⟨ν, g.trans h, hs, hd2.trans hd⟩

theorem guard_ok {μ : Mu} {ops : Array Oper} {o : Oper} {s : List Value} {a : Act} {b : Bool} (hs : SR μ s a.tmps) (h : guardC ops o s = some b) : Region.wanted o (yielded ops a.tmps) = b := by
  unfold guardC at h
  unfold Region.wanted
  split at h
  · rename_i e
    simp only [Option.some.injEq] at h
    rw [e]; exact h
  · rename_i j want e
    rw [e]
    split at h
    · rename_i t ht
      split at h
      · rename_i c hc
        simp only [Option.some.injEq] at h
        have hv := hs.get t
        rw [hc] at hv
        have hget : a.tmps[t]? = some (.bool c) := by
          generalize hg : a.tmps.getD t undef = x at hv
          cases hv
          rw [Array.getD_eq_getD_getElem?] at hg
          cases hq : a.tmps[t]? with
          | none => rw [hq] at hg; simp [undef] at hg
          | some y => rw [hq] at hg; simp at hg; rw [hg]
        have hd : (ops[j]?).bind (·.dst) = some t := ht
        simp only [yielded, hd, Option.bind_some, hget]
        rw [← h]
        cases c <;> cases want <;> rfl
      · rename_i hc
        simp only [Option.some.injEq] at h
        have hv := hs.get t
        rw [hc] at hv
        have hd : (ops[j]?).bind (·.dst) = some t := ht
        have hy : yielded ops a.tmps j = none := by
          simp only [yielded, hd, Option.bind_some]
          generalize hg : a.tmps.getD t undef = x at hv
          cases hv
          rw [Array.getD_eq_getD_getElem?] at hg
          cases hq : a.tmps[t]? with
          | none => rfl
          | some y => rw [hq] at hg; simp at hg; rw [hg]
        simp only [hy]
        rw [← h]
        rfl
      · simp at h
    · simp at h

theorem evalOp_len {call : CallF} (hc : SoundCall P call) {s : List Value} {H H' : Heap} {o : Op} {v : Value} (h : evalOp T call s H o = some (v, H')) : H.length ≤ H'.length := by
  unfold evalOp at h
  split at h
  · rename_i r hr
    simp only [Option.some.injEq] at h
    subst h
    exact (opEval_len hr).1
  · split at h
    · exact hc.len _ _ _ _ _ h
    · simp at h

theorem evalOne_len {call : CallF} (hc : SoundCall P call) {d : Bool} {ops : Array Oper} {o : Oper} {s s1 : List Value} {H H1 : Heap} (h : evalOne T call d ops o s H = some (s1, H1)) : H.length ≤ H1.length := by
  unfold evalOne at h
  split at h
  · split at h
    · simp at h
    rw [Option.map_eq_some_iff] at h
    obtain ⟨x, hx, h⟩ := h
    simp only [Prod.mk.injEq] at h
    rw [← h.2]
    exact evalOp_len (v := x.1) hc hx
  · simp only [Option.some.injEq, Prod.mk.injEq] at h
    rw [h.2]; exact Nat.le_refl _
  · simp at h

theorem evalIdx_len {call : CallF} (hc : SoundCall P call) {d : Bool} {ops : Array Oper} : ∀ {is : List Nat} {s s1 : List Value} {H H1 : Heap}, evalIdx T call d ops is s H = some (s1, H1) → H.length ≤ H1.length
  | [], s, s1, H, H1, h => by simp [evalIdx] at h; rw [h.2]; exact Nat.le_refl _
  | i :: is, s, s1, H, H1, h => by
    unfold evalIdx at h
    split at h
    · simp at h
    · split at h
      · rename_i s2 H2 e
        exact Nat.le_trans (evalOne_len hc e) (evalIdx_len hc h)
      · simp at h

/-- One operation. -/
theorem evalOne_wp {call : CallF} (ag : Agree P T) (hm : ∀ t n f e, T.meth t n = some (f, e) → MethOk P t n f e) (hc : SoundCall P call) {d : Bool} {μ : Mu} {ops : Array Oper} {o : Oper} {s s1 : List Value} {H H1 : Heap} {w : World} {a : Act}
    (he : evalOne T call d ops o s H = some (s1, H1)) (h : HR base F μ H w) (hs : SR μ s a.tmps) (hf : Free μ H.length H1.length) {K : Act → World → Prop} {Q : Exit → Act → World → Prop}
    (hK : ∀ a' w' μ', Goes base F μ μ' H H1 w w' → SR μ' s1 a'.tmps → a'.defers = a.defers → K a' w') :
    if Region.wanted o (yielded ops a.tmps) then o.wp P a w K Q ∨ (o.asks P a w ∧ LetsOut Q) else K (a.put o.dst undef) w := by
  unfold evalOne at he
  split at he
  · rename_i hg
    rw [guard_ok hs hg, if_pos rfl]
    split at he
    · simp at he
    rw [Option.map_eq_some_iff] at he
    obtain ⟨⟨v, H2⟩, hx, he⟩ := he
    simp only [Prod.mk.injEq] at he
    obtain ⟨rfl, rfl⟩ := he
    exact .inl (evalOp_wp ag hm hc hx h hf hs.evals fun v' w' μ' g hv => hK _ _ μ' g ((hs.mono g.le).puts o.dst hv) (put_defers _ _ _))
  · rename_i hg
    rw [guard_ok hs hg]
    simp only [Option.some.injEq, Prod.mk.injEq] at he
    obtain ⟨rfl, rfl⟩ := he
    simp only [Bool.false_eq_true, if_false]
    exact hK _ _ μ (Goes.refl h) (hs.puts o.dst .skip) (put_defers _ _ _)
  · simp at he

theorem evalIdx_wp {call : CallF} (ag : Agree P T) (hm : ∀ t n f e, T.meth t n = some (f, e) → MethOk P t n f e) (hc : SoundCall P call) {d : Bool} {ops : Array Oper} {Q : Exit → Act → World → Prop} :
    ∀ {is : List Nat} {μ : Mu} {s s1 : List Value} {H H1 : Heap} {w : World} {a : Act}, evalIdx T call d ops is s H = some (s1, H1) → HR base F μ H w → SR μ s a.tmps → Free μ H.length H1.length →
      (∀ a' w', After base F μ H s1 H1 a w a' w' → Q .normal a' w') → wpOps P ops Q is a w
  | [], μ, s, s1, H, H1, w, a, he, h, hs, hf, hQ => by
    simp only [evalIdx, Option.some.injEq, Prod.mk.injEq] at he
    obtain ⟨rfl, rfl⟩ := he
    exact hQ a w ⟨μ, Goes.refl h, hs, rfl⟩
  | i :: is, μ, s, s1, H, H1, w, a, he, h, hs, hf, hQ => by
    unfold evalIdx at he
    split at he
    · simp at he
    · rename_i o ho
      split at he
      · rename_i s2 H2 e
        have hl1 := evalOne_len hc e
        have hl2 := evalIdx_len hc he
        rw [wpOps]
        simp only [ho]
        refine evalOne_wp ag hm hc e h hs (hf.le hl2) fun a' w' μ' g hs' hd => ?_
        exact evalIdx_wp ag hm hc he g.hr hs' (hf.after g) fun a2 w2 k => hQ a2 w2 (After.trans g hd k)
      · simp at he

/-- The law of the regions that are drawn. -/
def DrawOk (P : Program) (T : Tab) (ops : Array Oper) : Prop :=
  ∀ (id : Nat) (call : CallF), SoundCall P call → ∀ base F μ s s1 H H1 w a, evalIdx T (quiet call) true ops (orderOf ops) s H = some (s1, H1) → HR base F μ H w → SR μ s a.tmps → Free μ H.length H1.length →
    (Code.region id ops true).wp P (fun e a' w' => e = .normal ∧ After base F μ H s1 H1 a w a' w') a w

/-- All drawn regions of a code are taken. -/
def CodeOk (P : Program) (T : Tab) : Code → Prop
  | .region _ ops draw => draw = true → DrawOk P T ops
  | .seq a b => CodeOk P T a ∧ CodeOk P T b
  | .cond _ a b => CodeOk P T a ∧ CodeOk P T b
  | .block _ a => CodeOk P T a
  | .loop a => CodeOk P T a
  | _ => True

def exOf : Ex → Exit
  | .normal => .normal
  | .exit id => .exit id
  | .ret => .ret

theorem quiet_len {call : CallF} {f : FuncId} {args : List Value} {H H' : Heap} {v : Value} (h : quiet call f args H = some (v, H')) : H.length ≤ H'.length := by
  unfold quiet at h
  rw [Option.map_eq_some_iff] at h
  obtain ⟨x, hx, h⟩ := h
  simp only [Prod.mk.injEq] at h
  rw [← h.2]; simp

theorem evalIdx_qlen {call : CallF} {d : Bool} {ops : Array Oper} : ∀ {is : List Nat} {s s1 : List Value} {H H1 : Heap}, evalIdx T (quiet call) d ops is s H = some (s1, H1) → H.length ≤ H1.length
  | [], s, s1, H, H1, h => by simp [evalIdx] at h; rw [h.2]; exact Nat.le_refl _
  | i :: is, s, s1, H, H1, h => by
    unfold evalIdx at h
    split at h
    · simp at h
    · split at h
      · rename_i s2 H2 e
        refine Nat.le_trans ?_ (evalIdx_qlen h)
        unfold evalOne at e
        split at e
        · split at e
          · simp at e
          rw [Option.map_eq_some_iff] at e
          obtain ⟨x, hx, e⟩ := e
          simp only [Prod.mk.injEq] at e
          rw [← e.2]
          unfold evalOp at hx
          split at hx
          · rename_i r hr
            simp only [Option.some.injEq] at hx
            subst hx
            exact (opEval_len hr).1
          · split at hx
            · exact quiet_len (v := x.1) hx
            · simp at hx
        · simp only [Option.some.injEq, Prod.mk.injEq] at e
          rw [e.2]; exact Nat.le_refl _
        · simp at e
      · simp at h

theorem evalC_len {call : CallF} (hc : SoundCall P call) : ∀ {n : Nat} {c : Code} {s : List Value} {H : Heap} {r : Ex × List Value × Heap}, evalC T call n c s H = some r → H.length ≤ r.2.2.length
  | 0, _, _, _, _, h => by simp [evalC] at h
  | n + 1, c, s, H, r, h => by
    unfold evalC at h
    cases c <;> simp only [Option.some.injEq, reduceCtorEq] at h
    · subst h; exact Nat.le_refl _
    · rw [Option.map_eq_some_iff] at h
      obtain ⟨x, hx, h⟩ := h
      subst h
      unfold evalRegion at hx
      split at hx
      · exact evalIdx_qlen (s1 := x.1) hx
      · exact evalIdx_len (s1 := x.1) hc hx
    · split at h
      · rename_i s1 H1 e
        exact Nat.le_trans (evalC_len hc e) (evalC_len hc h)
      · exact evalC_len hc h
    · split at h
      · exact evalC_len hc h
      · exact evalC_len hc h
      · simp at h
    · split at h
      · rename_i j s1 H1 e
        have := evalC_len hc e
        split at h <;> (simp only [Option.some.injEq] at h; subst h; exact this)
      · exact evalC_len hc h
    · split at h
      · rename_i s1 H1 e
        exact Nat.le_trans (evalC_len hc e) (evalC_len hc h)
      · exact evalC_len hc h
    · subst h; exact Nat.le_refl _
    · subst h; exact Nat.le_refl _
    · subst h; exact Nat.le_refl _

theorem wp_loop_rel {c : Code} {Q : Exit → Act → World → Prop} (I : Nat → Act → World → Prop) {m0 : Nat} {a : Act} {w : World} (h0 : I m0 a w)
    (round : ∀ m a w, I m a w → c.wp P (Exit.then (fun a' w' => ∃ m', m' < m ∧ I m' a' w') Q) a w) : (Code.loop c).wp P Q a w := by
  intro b k cs
  have key : ∀ m a w, I m a w → ∃ e a' w', Q e a' w' ∧ Arrives P (lone (b.at a (.code c :: .inLoop c :: k)) cs w) b k cs e a' w' := by
    intro m
    induction m using Nat.strongRecOn with
    | _ m ih =>
      intro a w hI
      obtain ⟨e, a1, w1, hq, harr⟩ := round m a w hI b (.inLoop c :: k) cs
      cases e with
      | normal =>
        obtain ⟨m', hlt, hI'⟩ := hq
        obtain ⟨e2, a2, w2, hq2, harr2⟩ := ih m' hlt a1 w1 hI'
        exact ⟨e2, a2, w2, hq2, .of_steps (Steps.trans harr (.one step_inLoop)) harr2⟩
      | exit id => exact ⟨_, a1, w1, hq, .pass (x := .inLoop c) rfl (fun _ _ => .inl (by simp)) harr⟩
      | goto l => exact ⟨_, a1, w1, hq, .pass (x := .inLoop c) rfl (fun _ _ => .inl (by simp)) harr⟩
      | ret => exact ⟨_, a1, w1, hq, .pass (x := .inLoop c) rfl (fun _ _ => .inl (by simp)) harr⟩
      | panic ch => exact ⟨_, a1, w1, hq, .pass (x := .inLoop c) rfl (fun _ _ => .inl (by simp)) harr⟩
      | outgrown => exact ⟨_, a1, w1, hq, .pass (x := .inLoop c) rfl (fun _ _ => .inl (by simp)) harr⟩
  obtain ⟨e, a', w', hq, harr⟩ := key m0 a w h0
  exact ⟨e, a', w', hq, .of_steps (.one step_loop) harr⟩

theorem CallLe.refl (a : CallF) : CallLe a a := fun _ _ _ _ h => h

theorem evalC_wp {call : CallF} (ag : Agree P T) (hm : ∀ t n f e, T.meth t n = some (f, e) → MethOk P t n f e) (hc : SoundCall P call) :
    ∀ (n : Nat) {c : Code} {μ : Mu} {s s1 : List Value} {H H1 : Heap} {e : Ex} {w : World} {a : Act}, CodeOk P T c → evalC T call n c s H = some (e, s1, H1) → HR base F μ H w → SR μ s a.tmps → Free μ H.length H1.length →
      c.wp P (fun x a' w' => x = exOf e ∧ After base F μ H s1 H1 a w a' w') a w
  | 0, c, μ, s, s1, H, H1, e, w, a, hok, he, h, hs, hf => by simp [evalC] at he
  | n + 1, c, μ, s, s1, H, H1, e, w, a, hok, he, h, hs, hf => by
    have same : s = s1 → H = H1 → After base F μ H s1 H1 a w a w := by
      rintro rfl rfl
      exact ⟨μ, Goes.refl h, hs, rfl⟩
    unfold evalC at he
    cases c <;> simp only [Option.some.injEq, Prod.mk.injEq, reduceCtorEq] at he
    · obtain ⟨rfl, h1, h2⟩ := he
      exact wp_skip ⟨rfl, same h1 h2⟩
    · rename_i id ops draw
      rw [Option.map_eq_some_iff] at he
      obtain ⟨⟨s2, H2⟩, hx, he⟩ := he
      simp only [Prod.mk.injEq] at he
      obtain ⟨rfl, rfl, rfl⟩ := he
      unfold evalRegion at hx
      split at hx
      · rename_i hd
        subst hd
        exact hok rfl id call hc base F μ s s2 H H2 w a hx h hs hf
      · rename_i hd
        simp only [Bool.not_eq_true] at hd
        subst hd
        exact wp_region (evalIdx_wp ag hm hc hx h hs hf fun a' w' k => ⟨rfl, k⟩)
    · rename_i x y
      obtain ⟨hx, hy⟩ := hok
      refine wp_seq ?_
      split at he
      · rename_i s2 H2 e2
        have hl := evalC_len hc e2
        have hl2 := evalC_len hc he
        refine wp_mono (evalC_wp ag hm hc n hx e2 h hs (hf.le hl2)) ?_
        rintro e' a' w' ⟨rfl, μ', g, hs', hd⟩
        refine wp_mono (evalC_wp ag hm hc n hy he g.hr hs' (hf.after g)) ?_
        rintro e2 a2 w2 ⟨rfl, k⟩
        exact ⟨rfl, After.trans g hd k⟩
      · rename_i hne
        refine wp_mono (evalC_wp ag hm hc n hx he h hs hf) ?_
        rintro e' a' w' ⟨rfl, k⟩
        cases e with
        | normal => exact absurd he (by intro q; exact hne _ _ q)
        | exit id => exact ⟨rfl, k⟩
        | ret => exact ⟨rfl, k⟩
    · rename_i c x y
      have hv := hs.evals c
      split at he
      · rename_i ht
        rw [ht] at hv
        generalize hρ : a.eval c = cv at hv
        cases hv
        exact wp_cond_true hρ (evalC_wp ag hm hc n hok.1 he h hs hf)
      · rename_i ht
        rw [ht] at hv
        generalize hρ : a.eval c = cv at hv
        cases hv
        exact wp_cond_false hρ (evalC_wp ag hm hc n hok.2 he h hs hf)
      · simp at he
    · rename_i id x
      refine wp_block ?_
      split at he
      · rename_i j s2 H2 e2
        have hH : H2 = H1 := by split at he <;> (simp only [Option.some.injEq, Prod.mk.injEq] at he; exact he.2.2)
        have hS : s2 = s1 := by split at he <;> (simp only [Option.some.injEq, Prod.mk.injEq] at he; exact he.2.1)
        subst hH hS
        refine wp_mono (evalC_wp ag hm hc n hok e2 h hs hf) ?_
        rintro e' a' w' ⟨rfl, k⟩
        simp only [exOf, Exit.inBlock]
        split at he
        · rename_i hj
          simp only [Option.some.injEq, Prod.mk.injEq] at he
          rw [if_pos hj]
          exact ⟨by rw [← he.1], k⟩
        · rename_i hj
          simp only [Option.some.injEq, Prod.mk.injEq] at he
          rw [if_neg hj]
          exact ⟨by rw [← he.1], k⟩
      · rename_i hne
        refine wp_mono (evalC_wp ag hm hc n hok he h hs hf) ?_
        rintro e' a' w' ⟨rfl, k⟩
        cases e with
        | exit id => exact absurd he (by intro q; exact hne _ _ _ q)
        | normal => exact ⟨rfl, k⟩
        | ret => exact ⟨rfl, k⟩
    · rename_i x
      have he0 : evalC T call (n + 1) (.loop x) s H = some (e, s1, H1) := by rw [evalC]; exact he
      refine wp_loop_rel (fun m a' w' => ∃ μ' s' H', m ≤ n + 1 ∧ evalC T call m (.loop x) s' H' = some (e, s1, H1) ∧ Goes base F μ μ' H H' w w' ∧ SR μ' s' a'.tmps ∧ a'.defers = a.defers ∧ Free μ' H'.length H1.length)
        (m0 := n + 1) ⟨μ, s, H, Nat.le_refl _, he0, Goes.refl h, hs, rfl, hf⟩ ?_
      rintro m a1 w1 ⟨μ1, s', H', hm1, he1, g1, hs1, hd1, hf1⟩
      cases m with
      | zero => simp [evalC] at he1
      | succ k =>
        have hk : k ≤ n := by omega
        rw [evalC] at he1
        split at he1
        · rename_i s2 H2 e2
          have e2' := evalC_mono (CallLe.refl call) hk e2
          have hl := evalC_len hc e2
          have hl2 := evalC_len hc he1
          refine wp_mono (evalC_wp ag hm hc n hok e2' g1.hr hs1 (hf1.le hl2)) ?_
          rintro e' a2 w2 ⟨rfl, μ2, g2, hs2, hd2⟩
          exact ⟨k, Nat.lt_succ_self k, μ2, s2, H2, by omega, he1, g1.trans g2, hs2, hd2.trans hd1, hf1.after g2⟩
        · rename_i hne
          have e2' := evalC_mono (CallLe.refl call) hk he1
          refine wp_mono (evalC_wp ag hm hc n hok e2' g1.hr hs1 hf1) ?_
          rintro e' a2 w2 ⟨rfl, kk⟩
          have := After.trans g1 hd1 kk
          cases e with
          | normal => exact absurd he1 (by intro q; exact hne _ _ q)
          | exit id => exact ⟨rfl, this⟩
          | ret => exact ⟨rfl, this⟩
    · obtain ⟨rfl, h1, h2⟩ := he
      exact wp_exit ⟨rfl, same h1 h2⟩
    · obtain ⟨rfl, h1, h2⟩ := he
      exact wp_label ⟨rfl, same h1 h2⟩
    · obtain ⟨rfl, h1, h2⟩ := he
      exact wp_ret ⟨rfl, same h1 h2⟩

end Go.Proofs.Ytdhbclplondmjaa.C
