/- Texts of one's own, laid together: CIn -/
import Derived.Test.YtdhbclplondmjaaQc09
import Derived.RangeFuncIn
import Derived.RangeFuncRecord
import Derived.OrdersIn
section
/- Code in a round of a range over a function. -/
set_option linter.unusedVariables false
set_option linter.unusedSimpArgs false
namespace Go.Proofs.Ytdhbclplondmjaa.C
open Go.RowKit

variable {P : Program} {T : Tab} {base : Nat} {F : Nat → Prop}

def calmOp (o : Oper) : Bool := match o.op with | .defer _ => false | _ => true

def calm : Code → Bool
  | .region _ ops _ => ops.all calmOp
  | .seq a b => calm a && calm b
  | .cond _ a b => calm a && calm b
  | .block _ a => calm a
  | .loop a => calm a
  | _ => true

theorem calls_round {f : FuncId} {args : Array Value} {w : World} {R : Ending → World → Prop} {n l : Nat} (h : Calls P f args w R) : CallsIn (Fence.wide.inRound l) n P f args w R := (callsIn_wide (n := n)).2 h

theorem opIn_of {o : Oper} {a : Act} {w : World} {K K' : Act → World → Prop} {Q : Exit → Act → World → Prop} {l n : Nat} (hnd : calmOp o = true) (hL : ¬ LetsOut Q) (h : o.wp P a w K Q ∨ (o.asks P a w ∧ LetsOut Q)) (hK : ∀ a w, K a w → K' a w) :
    o.wpIn (Fence.wide.inRound l) n P a w K' Q := by
  replace h := h.resolve_right (fun q => hL q.2)
  refine ⟨fun _ _ => trivial, ?_⟩
  rw [Oper.semAt_eq _ _ _ (fun c e => by simp [calmOp, e] at hnd)]
  unfold Oper.wp at h
  cases e : (execOp a.eval o).run P w with
  | halt x w1 =>
    rw [e] at h
    cases x <;> simp only [Oper.upon] at h <;> exact h
  | ok x w1 =>
    rw [e] at h
    cases x with
    | value v => exact hK _ _ h
    | skip => exact hK _ _ h
    | defer d => exact hK _ _ h
    | enter f args =>
      refine ⟨fun q => by simp [Fence.wide] at q, calls_round ?_⟩
      refine Calls.mono h ?_
      intro e w2 q
      cases e with
      | returned v => exact hK _ _ q
      | panicked ch => exact q
      | outgrown => exact q
    | row row args =>
      refine ⟨fun q => by simp [Fence.wide] at q, ?_⟩
      intro c cs _
      obtain ⟨v, w2, hr, hs⟩ := h c cs
      exact ⟨v, w2, hK _ _ hr, stepsIn_wide.2 hs⟩
    | _ => exact h.elim

theorem opsIn_of {ops : Array Oper} {Q : Exit → Act → World → Prop} {l n : Nat} (hca : ops.all calmOp = true) (hL : ¬ LetsOut Q) : ∀ (is : List Nat) (a : Act) (w : World), wpOps P ops Q is a w → wpOpsIn (Fence.wide.inRound l) n P ops Q is a w
  | [], a, w, h => h
  | i :: is, a, w, h => by
    unfold wpOps at h
    unfold wpOpsIn
    split
    · rename_i ho
      simp only [ho] at h
      exact opsIn_of hca hL is a w h
    · rename_i o ho
      simp only [ho] at h
      have hnd : calmOp o = true := by
        rw [Array.all_eq_true'] at hca
        exact hca o (Array.mem_of_getElem? ho)
      split
      · rename_i hw
        rw [if_pos hw] at h
        exact opIn_of hnd hL h fun a w h => opsIn_of hca hL is a w h
      · rename_i hw
        rw [if_neg hw] at h
        exact ⟨fun _ _ => trivial, opsIn_of hca hL is _ w h⟩

theorem anyIn_of {ops : Array Oper} {Q : Exit → Act → World → Prop} {l n : Nat} (hca : ops.all calmOp = true) (hL : ¬ LetsOut Q) : ∀ (fuel : Nat) (listed : Array Bool) (a : Act) (w : World), wpAny P .any ops Q fuel listed a w → wpAnyIn (Fence.wide.inRound l) n P .any ops Q fuel listed a w
  | 0, listed, a, w, h => h
  | fuel + 1, listed, a, w, h => by
    refine ⟨h.1, fun i hi => ?_⟩
    have h2 := h.2 i hi
    unfold wpOp at h2
    unfold wpOpIn
    split
    · rename_i ho
      simp only [ho] at h2
      exact anyIn_of hca hL fuel _ a w h2
    · rename_i o ho
      simp only [ho] at h2
      have hnd : calmOp o = true := by
        rw [Array.all_eq_true'] at hca
        exact hca o (Array.mem_of_getElem? ho)
      split
      · rename_i hw
        rw [if_pos hw] at h2
        exact opIn_of hnd hL h2 fun a w h => anyIn_of hca hL fuel _ a w h
      · rename_i hw
        rw [if_neg hw] at h2
        exact ⟨fun _ _ => trivial, anyIn_of hca hL fuel _ _ w h2⟩

theorem wpIn_loop_rel {Fn : Fence} {nn : Nat} {c : Code} {Q : Exit → Act → World → Prop} (I : Nat → Act → World → Prop) {m0 : Nat} {a : Act} {w : World} (h0 : I m0 a w)
    (round : ∀ m a w, I m a w → c.wpIn Fn nn P (Exit.then (fun a' w' => ∃ m', m' < m ∧ I m' a' w') Q) a w) : (Code.loop c).wpIn Fn nn P Q a w := by
  intro b k cs hro hb hr
  have key : ∀ m a w, I m a w → ∃ e a' w', Q e a' w' ∧ ArrivesIn (Machine.fenced P Fn) P (lone (b.atR a (.code c :: .inLoop c :: k)) cs w) b k cs e a' w' := by
    intro m
    induction m using Nat.strongRecOn with
    | _ m ih =>
      intro a w hI
      obtain ⟨e, a1, w1, hq, harr⟩ := round m a w hI b (.inLoop c :: k) cs hro hb hr
      cases e with
      | normal =>
        obtain ⟨m', hlt, hI'⟩ := hq
        obtain ⟨e2, a2, w2, hq2, harr2⟩ := ih m' hlt a1 w1 hI'
        exact ⟨e2, a2, w2, hq2, .of_steps (StepsIn.trans harr (.one (fenced_calm hb hr rfl) stepR_inLoop)) harr2⟩
      | exit id => exact ⟨_, a1, w1, hq, .pass (x := .inLoop c) rfl (fun _ _ => .inl (by simp)) harr⟩
      | goto l => exact ⟨_, a1, w1, hq, .pass (x := .inLoop c) rfl (fun _ _ => .inl (by simp)) harr⟩
      | ret => exact ⟨_, a1, w1, hq, .pass (x := .inLoop c) rfl (fun _ _ => .inl (by simp)) harr⟩
      | panic ch => exact ⟨_, a1, w1, hq, .pass (x := .inLoop c) rfl (fun _ _ => .inl (by simp)) harr⟩
      | outgrown => exact ⟨_, a1, w1, hq, .pass (x := .inLoop c) rfl (fun _ _ => .inl (by simp)) harr⟩
  obtain ⟨e, a', w', hq, harr⟩ := key m0 a w h0
  exact ⟨e, a', w', hq, .of_steps (.one (fenced_calm hb hr rfl) stepR_loop) harr⟩

theorem evalC_in {call : CallF} (ag : Agree P T) (hm : ∀ t n f e, T.meth t n = some (f, e) → MethOk P t n f e) (hc : SoundCall P call) (hmix : P.follows .mixedOrders = true) (lp nn : Nat) :
    ∀ (n : Nat) {c : Code} {μ : Mu} {s s1 : List Value} {H H1 : Heap} {e : Ex} {w : World} {a : Act}, codeChk c = true → calm c = true → evalC T call n c s H = some (e, s1, H1) → HR base F μ H w → SR μ s a.tmps → Free μ H.length H1.length →
      c.wpIn (Fence.wide.inRound lp) nn P (fun x a' w' => x = exOf e ∧ After base F μ H s1 H1 a w a' w') a w
  | 0, c, μ, s, s1, H, H1, e, w, a, hok, hca, he, h, hs, hf => by simp [evalC] at he
  | n + 1, c, μ, s, s1, H, H1, e, w, a, hok, hca, he, h, hs, hf => by
    have same : s = s1 → H = H1 → After base F μ H s1 H1 a w a w := by
      rintro rfl rfl
      exact ⟨μ, Goes.refl h, hs, rfl⟩
    unfold evalC at he
    cases c <;> simp only [Option.some.injEq, Prod.mk.injEq, reduceCtorEq] at he
    · obtain ⟨rfl, h1, h2⟩ := he
      exact wpIn_skip ⟨rfl, same h1 h2⟩
    · rename_i id ops draw
      rw [Option.map_eq_some_iff] at he
      obtain ⟨⟨s2, H2⟩, hx, he⟩ := he
      simp only [Prod.mk.injEq] at he
      obtain ⟨rfl, rfl, rfl⟩ := he
      unfold evalRegion at hx
      split at hx
      · rename_i hd
        subst hd
        simp only [codeChk, Bool.not_true, Bool.false_or] at hok
        exact wpIn_region_any hmix (anyIn_of hca (fun q => by obtain ⟨_, _, q, _⟩ := q; exact absurd q (by simp [exOf])) _ _ _ _ (draw_any ag hm hok call hc hx h hs hf))
      · rename_i hd
        simp only [Bool.not_eq_true] at hd
        subst hd
        exact wpIn_region (opsIn_of hca (fun q => by obtain ⟨_, _, q, _⟩ := q; exact absurd q (by simp [exOf])) _ _ _ (evalIdx_wp ag hm hc hx h hs hf fun a' w' k => ⟨rfl, k⟩))
    · rename_i x y
      simp only [codeChk, calm, Bool.and_eq_true] at hok hca
      obtain ⟨hx, hy⟩ := hok
      obtain ⟨cx, cy⟩ := hca
      refine wpIn_seq ?_
      split at he
      · rename_i s2 H2 e2
        have hl := evalC_len hc e2
        have hl2 := evalC_len hc he
        refine wpIn_mono (evalC_in ag hm hc hmix lp nn n hx cx e2 h hs (hf.le hl2)) ?_
        rintro e' a' w' ⟨rfl, μ', g, hs', hd⟩
        refine wpIn_mono (evalC_in ag hm hc hmix lp nn n hy cy he g.hr hs' (hf.after g)) ?_
        rintro e2 a2 w2 ⟨rfl, k⟩
        exact ⟨rfl, After.trans g hd k⟩
      · rename_i hne
        refine wpIn_mono (evalC_in ag hm hc hmix lp nn n hx cx he h hs hf) ?_
        rintro e' a' w' ⟨rfl, k⟩
        cases e with
        | normal => exact absurd he (by intro q; exact hne _ _ q)
        | exit id => exact ⟨rfl, k⟩
        | ret => exact ⟨rfl, k⟩
    · rename_i c x y
      have hv := hs.evals c
      simp only [codeChk, calm, Bool.and_eq_true] at hok hca
      split at he
      · rename_i ht
        rw [ht] at hv
        generalize hρ : a.eval c = cv at hv
        cases hv
        exact wpIn_cond_true hρ (evalC_in ag hm hc hmix lp nn n hok.1 hca.1 he h hs hf)
      · rename_i ht
        rw [ht] at hv
        generalize hρ : a.eval c = cv at hv
        cases hv
        exact wpIn_cond_false hρ (evalC_in ag hm hc hmix lp nn n hok.2 hca.2 he h hs hf)
      · simp at he
    · rename_i id x
      simp only [codeChk, calm] at hok hca
      refine wpIn_block ?_
      split at he
      · rename_i j s2 H2 e2
        have hH : H2 = H1 := by split at he <;> (simp only [Option.some.injEq, Prod.mk.injEq] at he; exact he.2.2)
        have hS : s2 = s1 := by split at he <;> (simp only [Option.some.injEq, Prod.mk.injEq] at he; exact he.2.1)
        subst hH hS
        refine wpIn_mono (evalC_in ag hm hc hmix lp nn n hok hca e2 h hs hf) ?_
        rintro e' a' w' ⟨rfl, k⟩
        simp only [exOf, Exit.inBlock]
        split at he
        · rename_i hj
          simp only [Option.some.injEq, Prod.mk.injEq] at he
          rw [if_pos hj]
          exact ⟨by rw [← he.1], k⟩
        · rename_i hj
          simp only [Option.some.injEq, Prod.mk.injEq] at he
          rw [if_neg hj]
          exact ⟨by rw [← he.1], k⟩
      · rename_i hne
        refine wpIn_mono (evalC_in ag hm hc hmix lp nn n hok hca he h hs hf) ?_
        rintro e' a' w' ⟨rfl, k⟩
        cases e with
        | exit id => exact absurd he (by intro q; exact hne _ _ _ q)
        | normal => exact ⟨rfl, k⟩
        | ret => exact ⟨rfl, k⟩
    · rename_i x
      simp only [codeChk, calm] at hok hca
      have he0 : evalC T call (n + 1) (.loop x) s H = some (e, s1, H1) := by rw [evalC]; exact he
      refine wpIn_loop_rel (fun m a' w' => ∃ μ' s' H', m ≤ n + 1 ∧ evalC T call m (.loop x) s' H' = some (e, s1, H1) ∧ Goes base F μ μ' H H' w w' ∧ SR μ' s' a'.tmps ∧ a'.defers = a.defers ∧ Free μ' H'.length H1.length)
        (m0 := n + 1) ⟨μ, s, H, Nat.le_refl _, he0, Goes.refl h, hs, rfl, hf⟩ ?_
      rintro m a1 w1 ⟨μ1, s', H', hm1, he1, g1, hs1, hd1, hf1⟩
      cases m with
      | zero => simp [evalC] at he1
      | succ k =>
        have hk : k ≤ n := by omega
        rw [evalC] at he1
        split at he1
        · rename_i s2 H2 e2
          have e2' := evalC_mono (CallLe.refl call) hk e2
          have hl := evalC_len hc e2
          have hl2 := evalC_len hc he1
          refine wpIn_mono (evalC_in ag hm hc hmix lp nn n hok hca e2' g1.hr hs1 (hf1.le hl2)) ?_
          rintro e' a2 w2 ⟨rfl, μ2, g2, hs2, hd2⟩
          exact ⟨k, Nat.lt_succ_self k, μ2, s2, H2, by omega, he1, g1.trans g2, hs2, hd2.trans hd1, hf1.after g2⟩
        · rename_i hne
          have e2' := evalC_mono (CallLe.refl call) hk he1
          refine wpIn_mono (evalC_in ag hm hc hmix lp nn n hok hca e2' g1.hr hs1 hf1) ?_
          rintro e' a2 w2 ⟨rfl, kk⟩
          have := After.trans g1 hd1 kk
          cases e with
          | normal => exact absurd he1 (by intro q; exact hne _ _ q)
          | exit id => exact ⟨rfl, this⟩
          | ret => exact ⟨rfl, this⟩
    · obtain ⟨rfl, h1, h2⟩ := he
      exact wpIn_exit ⟨rfl, same h1 h2⟩
    · obtain ⟨rfl, h1, h2⟩ := he
      exact wpIn_label ⟨rfl, same h1 h2⟩
    · obtain ⟨rfl, h1, h2⟩ := he
      exact wpIn_ret ⟨rfl, same h1 h2⟩

end Go.Proofs.Ytdhbclplondmjaa.C

end
