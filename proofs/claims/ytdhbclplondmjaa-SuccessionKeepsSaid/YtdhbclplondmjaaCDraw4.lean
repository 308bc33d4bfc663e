/- Drawn regions, fourth part: one operation, and all of them. -/
import Derived.Test.YtdhbclplondmjaaCDraw3
set_option linter.unusedVariables false
set_option linter.unusedSimpArgs false
namespace Go.Proofs.Ytdhbclplondmjaa.C
open Go.RowKit

variable {P : Program} {T : Tab} {base : Nat} {F : Nat → Prop}

theorem evalOne_moves {call : CallF} {ops : Array Oper} {o : Oper} {s s1 : List Value} {H H1 : Heap} (h : evalOne T (quiet call) true ops o s H = some (s1, H1)) :
    Onward H H1 ∧ (strong o.op = false → Weak H H1) ∧ (writer o.op = false → ∃ L, H1 = H ++ L) ∧ (pureOp o.op = true → H1 = H) ∧ ∃ v, s1 = put s o.dst v := by
  unfold evalOne at h
  split at h
  · split at h
    · simp at h
    · rename_i hin
      simp only [Bool.true_and, Bool.not_eq_true] at hin
      rw [Option.map_eq_some_iff] at h
      obtain ⟨⟨v, H2⟩, hx, h⟩ := h
      simp only [Prod.mk.injEq] at h
      obtain ⟨rfl, rfl⟩ := h
      obtain ⟨m1, m2, m3, m4⟩ := evalOp_moves hx
      refine ⟨m1, fun q => m2 q hin, fun q => ?_, m4, v, rfl⟩
      simp only [writer, Bool.or_eq_false_iff] at q
      exact m3 q.1 q.2
  · simp only [Option.some.injEq, Prod.mk.injEq] at h
    obtain ⟨rfl, rfl⟩ := h
    exact ⟨(Weak.refl _).onward, fun _ => Weak.refl _, fun _ => ⟨[], by simp⟩, fun _ => rfl, .chan none, rfl⟩
  · simp at h

theorem pure_weak {o : Op} (h : pureOp o = true) : strong o = false ∧ writer o = false := by
  have : strong o = false ∧ isAppend o = false := by
    cases o <;> first | exact ⟨rfl, rfl⟩ | (simp [pureOp] at h; done) | skip
    rename_i c
    obtain ⟨callee, args, ats⟩ := c
    cases callee <;> first | exact ⟨rfl, rfl⟩ | (simp [pureOp] at h; done) | skip
    rename_i b
    cases b <;> first | exact ⟨rfl, rfl⟩ | (simp [pureOp] at h; done)
  exact ⟨this.1, by simp [writer, this.1, this.2]⟩

theorem evalOp_pure {call : CallF} {s : List Value} {H H' : Heap} {o : Op} {v : Value} (hp : pureOp o = true) (h : evalOp T call s H o = some (v, H')) (K : Heap) : evalOp T call s K o = some (v, K) := by
  unfold evalOp at h ⊢
  split at h
  · rename_i r hr
    simp only [Option.some.injEq] at h
    subst h
    rw [(opEval_pure hp hr).2 K]
  · split at h
    · rename_i f args hcal
      exfalso
      unfold calleeOf at hcal
      split at hcal <;> simp [pureOp] at hp hcal
    · simp at h

theorem SR.of_getD {μ : Mu} {s : List Value} {t : Array Value} (hl : t.size = s.length) (h : ∀ i, VR μ (s.getD i undef) (t.getD i undef)) : SR μ s t := by
  refine ⟨hl, VRs.of_get (by simpa using hl) fun i v hv => ?_⟩
  have hlt := (List.getElem?_eq_some_iff.1 hv).1
  have hlt2 : i < t.size := by omega
  have := h i
  rw [List.getD_eq_getElem?_getD, hv, Array.getD_eq_getD_getElem?, Array.getElem?_eq_getElem hlt2] at this
  exact ⟨t[i], by simp [hlt2], this⟩

section
variable {call : CallF} {ops : Array Oper} {ord : List Nat} {st : Nat → List Value × Heap} {μ0 μ : Mu} {a0 a : Act} {w0 w : World} {listed : Array Bool} {hc : Nat → Option Blk}

def Traced (T : Tab) (call : CallF) (ops : Array Oper) (ord : List Nat) (st : Nat → List Value × Heap) : Prop :=
  ∀ p i, ord[p]? = some i → ∃ o, ops[i]? = some o ∧ evalOne T (quiet call) true ops o (st p).1 (st p).2 = some (st (p + 1))

theorem Traced.at (ht : Traced T call ops ord st) (chk : Chk ops ord) {p : Nat} (hp : p < ops.size) : ∃ i o, ord[p]? = some i ∧ ops[i]? = some o ∧ evalOne T (quiet call) true ops o (st p).1 (st p).2 = some (st (p + 1)) := by
  have hlt : p < ord.length := by rw [chk.len]; exact hp
  obtain ⟨o, h1, h2⟩ := ht p ord[p] (List.getElem?_eq_getElem hlt)
  exact ⟨_, o, List.getElem?_eq_getElem hlt, h1, h2⟩

theorem Traced.mono (ht : Traced T call ops ord st) (chk : Chk ops ord) {p : Nat} : ∀ {q : Nat}, p ≤ q → q ≤ ops.size → (st p).2.length ≤ (st q).2.length
  | 0, h, _ => by have : p = 0 := by omega
                  subst this; exact Nat.le_refl _
  | q + 1, h, hq => by
    rcases Nat.lt_or_ge p (q + 1) with hlt | hge
    · obtain ⟨i, o, h1, h2, h3⟩ := ht.at chk (p := q) (by omega)
      exact Nat.le_trans (ht.mono chk (by omega) (by omega)) (evalOne_moves (s1 := (st (q + 1)).1) h3).1.1
    · have : p = q + 1 := by omega
      subst this; exact Nat.le_refl _

theorem Traced.slen (ht : Traced T call ops ord st) (chk : Chk ops ord) : ∀ {q : Nat}, q ≤ ops.size → (st q).1.length = (st 0).1.length
  | 0, _ => rfl
  | q + 1, hq => by
    obtain ⟨i, o, h1, h2, h3⟩ := ht.at chk (p := q) (by omega)
    obtain ⟨v, hv⟩ := (evalOne_moves (s1 := (st (q + 1)).1) h3).2.2.2.2
    rw [hv, put_length, ht.slen chk (by omega)]

theorem Traced.const (ht : Traced T call ops ord st) (chk : Chk ops ord) {p t : Nat} : ∀ {q : Nat}, p ≤ q → q ≤ ops.size → (∀ r i o, p ≤ r → r < q → ord[r]? = some i → ops[i]? = some o → o.dst ≠ some t) →
    (st q).1.getD t undef = (st p).1.getD t undef
  | 0, h, _, _ => by have : p = 0 := by omega
                     subst this; rfl
  | q + 1, h, hq, hno => by
    rcases Nat.lt_or_ge p (q + 1) with hlt | hge
    · obtain ⟨i, o, h1, h2, h3⟩ := ht.at chk (p := q) (by omega)
      obtain ⟨v, hv⟩ := (evalOne_moves (s1 := (st (q + 1)).1) h3).2.2.2.2
      rw [hv, put_getD, if_neg (hno q i o (by omega) (by omega) h1 h2)]
      exact ht.const chk (by omega) (by omega) fun r i o h1 h2 => hno r i o h1 (by omega)
    · have : p = q + 1 := by omega
      subst this; rfl

theorem Traced.weak (ht : Traced T call ops ord st) (chk : Chk ops ord) {p : Nat} : ∀ {q : Nat}, p ≤ q → q ≤ ops.size → (∀ r i o, p ≤ r → r < q → ord[r]? = some i → ops[i]? = some o → strong o.op = false) → Weak (st p).2 (st q).2
  | 0, h, _, _ => by have : p = 0 := by omega
                     subst this; exact Weak.refl _
  | q + 1, h, hq, hno => by
    rcases Nat.lt_or_ge p (q + 1) with hlt | hge
    · obtain ⟨i, o, h1, h2, h3⟩ := ht.at chk (p := q) (by omega)
      exact (ht.weak chk (by omega) (by omega) fun r i o h1 h2 => hno r i o h1 (by omega)).trans ((evalOne_moves (s1 := (st (q + 1)).1) h3).2.1 (hno q i o (by omega) (by omega) h1 h2))
    · have : p = q + 1 := by omega
      subst this; exact Weak.refl _

theorem listed_set {i j : Nat} (hi : i < listed.size) : (listed.setIfInBounds i true).getD j false = true ↔ listed.getD j false = true ∨ j = i := by
  simp only [Array.getD_eq_getD_getElem?, Array.getElem?_setIfInBounds]
  by_cases h : i = j
  · subst h; simp [hi]
  · simp only [if_neg h]
    constructor
    · exact fun q => .inl q
    · rintro (q | q)
      · exact q
      · exact absurd q.symm h

/-- One operation has run. -/
theorem Mid.next (ht : Traced T call ops ord st) (chk : Chk ops ord) (hfree : Free μ0 (st 0).2.length (st ops.size).2.length) (M : Mid base F ops ord st μ0 a0 w0 listed a w μ hc) {p0 i : Nat} {o : Oper} (hp0 : ord[p0]? = some i) (ho : ops[i]? = some o)
    (hnot : listed.getD i false = false) (hrdy : ∀ e ∈ o.after, Region.binds .any e = true → listed.getD e.on false = true) {v v' : Value} (hput : (st (p0 + 1)).1 = put (st p0).1 o.dst v)
    {Hb Ha : Heap} (hH : (pureOp o.op = true ∧ Hb = [] ∧ Ha = []) ∨ (pureOp o.op = false ∧ Hb = (st p0).2 ∧ Ha = (st (p0 + 1)).2)) (hsub : Sub μ Hb hc) (hf : Free μ Hb.length Ha.length) {μ' : Mu} {w' : World}
    (g : Goes base (Guarded F μ hc Hb) μ μ' Hb Ha w w') (hv : VR μ' v v') : Mid base F ops ord st μ0 a0 w0 (listed.setIfInBounds i true) (a.put o.dst v') w' μ' (behind hc Hb Ha) := by
  have hi : i < ops.size := chk.lt p0 i hp0
  have hp : p0 < ops.size := by rw [← chk.len]; exact (List.getElem?_eq_some_iff.1 hp0).1
  have hil : i < listed.size := by rw [M.size]; exact hi
  have D' : ∀ j, (listed.setIfInBounds i true).getD j false = true ↔ listed.getD j false = true ∨ j = i := fun j => listed_set hil
  have later : ∀ q j oj, p0 < q → ord[q]? = some j → ops[j]? = some oj → clash ops o oj = true → listed.getD j false = true → False := by
    intro q j oj hq hj hoj hcl hd
    have hr := chk.clash p0 q i j o oj hq hp0 hj ho hoj hcl
    have := reach_listed M.closed hr fun o2 e2 h1 h2 h3 => M.closed j o2 e2 hd h1 h2 h3
    rw [hnot] at this; simp at this
  have ne : ∀ {q j : Nat}, ord[q]? = some j → q ≠ p0 → j ≠ i := by
    rintro q j hq hne rfl
    exact hne (chk.inj q p0 j hq hp0)
  have hstep := (ht p0 i hp0)
  obtain ⟨o2, ho2, he⟩ := hstep
  rw [ho] at ho2
  simp only [Option.some.injEq] at ho2
  subst ho2
  obtain ⟨mOn, mWeak, mApp, mPure, _⟩ := evalOne_moves (s1 := (st (p0 + 1)).1) (H1 := (st (p0 + 1)).2) he
  obtain ⟨hmem, hfr⟩ := M.mem.step hsub g hf
  have hlen0 : (st 0).2.length ≤ (st p0).2.length := ht.mono chk (Nat.zero_le _) (by omega)
  have hlen1 : (st (p0 + 1)).2.length ≤ (st ops.size).2.length := ht.mono chk (by omega) (Nat.le_refl _)
  refine ⟨by simp [M.size], ?_, by rw [put_defers]; exact M.defers, by rw [aput_size]; exact M.tmps, ?_, hmem, ?_, ?_, M.le.trans g.le, ?_, M.fr.trans hfr⟩
  · intro j oj e hd hoj he hb
    rcases (D' j).1 hd with h | rfl
    · exact (D' _).2 (.inl (M.closed j oj e h hoj he hb))
    · rw [ho] at hoj
      simp only [Option.some.injEq] at hoj
      subst hoj
      exact (D' _).2 (.inl (hrdy e he hb))
  · intro t p hpn hag
    rw [aput_getD]
    by_cases hd : o.dst = some t
    · rw [if_pos hd]
      have hlt : p0 < p := (hag p0 i o hp0 ho hd).1 ((D' i).2 (.inr rfl))
      have hc2 := ht.const chk (p := p0 + 1) (t := t) (q := p) (by omega) hpn ?_
      · rw [hc2, hput, put_getD, if_pos hd]
        have h1 : (st p0).1.length = a.tmps.size := by rw [M.tmps, ht.slen chk (by omega)]
        rw [h1]
        by_cases hlt : t < a.tmps.size
        · simp only [hlt, if_true]; exact hv
        · simp only [hlt, if_false]; exact .undef _
      · intro r j oj h1 h2 hr hoj hdj
        have hne : j ≠ i := ne hr (by omega)
        have hDj := (D' j).1 ((hag r j oj hr hoj hdj).2 h2)
        refine later r j oj (by omega) hr hoj ?_ (hDj.resolve_right hne)
        unfold clash
        have : (o.dst.toList.any fun d => (namesOf ops oj).contains d) = true := by simp [hd, namesOf, hdj]
        rw [this]; simp
    · rw [if_neg hd]
      refine (M.slots t p hpn fun q j oj hq hoj hdj => ?_).mono g.le
      have hne : j ≠ i := by
        rintro rfl
        rw [ho] at hoj
        simp only [Option.some.injEq] at hoj
        subst hoj
        exact hd hdj
      rw [← hag q j oj hq hoj hdj, D' j]
      simp [hne]
  · intro p hpn V1 V2 b x hx hl hμ
    have v2 : ∀ q j oj, ord[q]? = some j → ops[j]? = some oj → p ≤ q → writer oj.op = true → listed.getD j false = false := by
      intro q j oj h1 h2 h3 h4
      have := V2 q j oj h1 h2 h3 h4
      cases hh : listed.getD j false with
      | false => rfl
      | true => rw [(D' j).2 (.inl hh)] at this; simp at this
    rcases hH with ⟨hpure, rfl, rfl⟩ | ⟨hheap, rfl, rfl⟩
    · have hb : behind hc [] [] b = hc b := by unfold behind; simp
      rw [hb]
      refine M.subs p hpn ?_ v2 b x hx hl ?_
      · intro q j oj h1 h2 h3 h4
        rcases (D' j).1 (V1 q j oj h1 h2 h3 h4) with h | rfl
        · exact h
        · rw [ho] at h2
          simp only [Option.some.injEq] at h2
          subst h2
          rw [(pure_weak hpure).1] at h4; simp at h4
      · rw [g.same b (.inr (Nat.zero_le _))] at hμ; exact hμ
    · rcases Nat.lt_or_ge p0 p with hlt | hge
      · have nostrong : ∀ r j oj, p0 + 1 ≤ r → r < p → ord[r]? = some j → ops[j]? = some oj → strong oj.op = false := by
          intro r j oj h1 h2 h3 h4
          cases hs : strong oj.op with
          | false => rfl
          | true =>
            exfalso
            have hne : j ≠ i := ne h3 (by omega)
            refine later r j oj (by omega) h3 h4 ?_ (((D' j).1 (V1 r j oj h3 h4 h2 hs)).resolve_right hne)
            simp [clash, hheap, writer, hs]
        have hw := ht.weak chk (p := p0 + 1) (q := p) (by omega) hpn nostrong
        have hlenp : (st p).2.length ≤ (st ops.size).2.length := ht.mono chk hpn (Nat.le_refl _)
        have hbp : b < (st p).2.length := (List.getElem?_eq_some_iff.1 hx).1
        rcases Nat.lt_or_ge b (st (p0 + 1)).2.length with hb | hb
        · have hax := hw.2 b x hb hx hl
          unfold behind
          split
          · exact hax
          · rename_i hno
            simp only [not_or] at hno
            exfalso
            have hlt2 : b < (st p0).2.length := by have := hno.2; omega
            obtain ⟨y, hy, hyl⟩ := mOn.2 b x hlt2 hax hl
            exact hno.1 ⟨y, hy, hyl⟩
        · have hbeh : behind hc (st p0).2 (st (p0 + 1)).2 b = hc b := by
            unfold behind
            rw [if_neg]
            rintro (⟨y, hy, _⟩ | ⟨_, h2⟩)
            · have := (List.getElem?_eq_some_iff.1 hy).1
              have := mOn.1
              omega
            · omega
          rw [hbeh]
          have hμ2 : μ b ≠ none := by rw [g.same b (.inr hb)] at hμ; exact hμ
          obtain ⟨q, j, hq, hDj, hq1, hq2⟩ := M.made b (by have := mOn.1; omega) (by omega) hμ2
          have hqn : q < ops.size := by rw [← chk.len]; exact (List.getElem?_eq_some_iff.1 hq).1
          have hqp : p0 < q := by
            rcases Nat.lt_or_ge p0 q with h | h
            · exact h
            · have := ht.mono chk (p := q + 1) (q := p0 + 1) (by omega) (by omega)
              omega
          obtain ⟨oj, hoj, hej⟩ := ht q j hq
          have hpj : pureOp oj.op = false := by
            cases h : pureOp oj.op with
            | false => rfl
            | true =>
              have := (evalOne_moves (s1 := (st (q + 1)).1) (H1 := (st (q + 1)).2) hej).2.2.2.1 h
              rw [this] at hq2
              omega
          have hso : strong o.op = false := by
            cases h : strong o.op with
            | false => rfl
            | true => exact (later q j oj hqp hq hoj (by simp [clash, h, hpj]) hDj).elim
          refine M.subs p hpn ?_ v2 b x hx hl hμ2
          intro q j oj h1 h2 h3 h4
          rcases (D' j).1 (V1 q j oj h1 h2 h3 h4) with h | rfl
          · exact h
          · rw [ho] at h2
            simp only [Option.some.injEq] at h2
            subst h2
            rw [hso] at h4; simp at h4
      · have hwr : writer o.op = false := by
          cases h : writer o.op with
          | false => rfl
          | true =>
            have := V2 p0 i o hp0 ho hge h
            rw [(D' i).2 (.inr rfl)] at this; simp at this
        obtain ⟨L, hL⟩ := mApp hwr
        have v1 : ∀ q j oj, ord[q]? = some j → ops[j]? = some oj → q < p → strong oj.op = true → listed.getD j false = true := by
          intro q j oj h1 h2 h3 h4
          exact ((D' j).1 (V1 q j oj h1 h2 h3 h4)).resolve_right (ne h1 (by omega))
        have hbp : b < (st p).2.length := (List.getElem?_eq_some_iff.1 hx).1
        have hpp : (st p).2.length ≤ (st p0).2.length := ht.mono chk hge (by omega)
        have hμ2 : μ b ≠ none := by rw [g.same b (.inl (by omega))] at hμ; exact hμ
        have hcb := M.subs p hpn v1 v2 b x hx hl hμ2
        unfold behind
        split
        · rename_i hcond
          rcases hcond with ⟨y, hy, hyl⟩ | ⟨h1, _⟩
          · have := hsub b y hy hyl hμ2
            rw [hcb] at this
            simp only [Option.some.injEq] at this
            subst this
            rw [hL, List.getElem?_append_left (by omega)]
            exact hy
          · omega
        · exact hcb
  · intro b h1 h2 h3
    by_cases hμ : μ b = none
    · have : Hb.length ≤ b ∧ b < Ha.length := by
        rcases Nat.lt_or_ge b Hb.length with h | h
        · rw [g.same b (.inl h)] at h3; exact absurd hμ h3
        · rcases Nat.lt_or_ge b Ha.length with h' | h'
          · exact ⟨h, h'⟩
          · rw [g.same b (.inr h')] at h3; exact absurd hμ h3
      rcases hH with ⟨_, rfl, rfl⟩ | ⟨_, rfl, rfl⟩
      · simp at this
      · exact ⟨p0, i, hp0, (D' i).2 (.inr rfl), this.1, this.2⟩
    · obtain ⟨p, j, h4, h5, h6, h7⟩ := M.made b h1 h2 hμ
      exact ⟨p, j, h4, (D' j).2 (.inl h5), h6, h7⟩
  · intro b hb
    rw [← M.same b hb]
    refine g.same b ?_
    rcases hH with ⟨_, rfl, rfl⟩ | ⟨_, rfl, rfl⟩
    · exact .inr (Nat.zero_le _)
    · rcases hb with hb | hb
      · exact .inl (by omega)
      · exact .inr (by omega)

end

end Go.Proofs.Ytdhbclplondmjaa.C
