/- Texts of one's own, laid together: CDraw4, CDraw5, CFits, CW, CW2 -/
import Derived.Test.YtdhbclplondmjaaQc08
section
/- Drawn regions, fourth part: one operation, and all of them. -/
set_option linter.unusedVariables false
set_option linter.unusedSimpArgs false
namespace Go.Proofs.Ytdhbclplondmjaa.C
open Go.RowKit

variable {P : Program} {T : Tab} {base : Nat} {F : Nat → Prop}

theorem evalOne_moves {call : CallF} {ops : Array Oper} {o : Oper} {s s1 : List Value} {H H1 : Heap} (h : evalOne T (quiet call) true ops o s H = some (s1, H1)) :
    Onward H H1 ∧ (strong o.op = false → Weak H H1) ∧ (writer o.op = false → ∃ L, H1 = H ++ L) ∧ (pureOp o.op = true → H1 = H) ∧ ∃ v, s1 = put s o.dst v := by
  unfold evalOne at h
  split at h
  · split at h
    · simp at h
    · rename_i hin
      simp only [Bool.true_and, Bool.not_eq_true] at hin
      rw [Option.map_eq_some_iff] at h
      obtain ⟨⟨v, H2⟩, hx, h⟩ := h
      simp only [Prod.mk.injEq] at h
      obtain ⟨rfl, rfl⟩ := h
      obtain ⟨m1, m2, m3, m4⟩ := evalOp_moves hx
      refine ⟨m1, fun q => m2 q hin, fun q => ?_, m4, v, rfl⟩
      simp only [writer, Bool.or_eq_false_iff] at q
      exact m3 q.1 q.2
  · simp only [Option.some.injEq, Prod.mk.injEq] at h
    obtain ⟨rfl, rfl⟩ := h
    exact ⟨(Weak.refl _).onward, fun _ => Weak.refl _, fun _ => ⟨[], by simp⟩, fun _ => rfl, .chan none, rfl⟩
  · simp at h

theorem pure_weak {o : Op} (h : pureOp o = true) : strong o = false ∧ writer o = false := by
  have : strong o = false ∧ isAppend o = false := by
    cases o <;> first | exact ⟨rfl, rfl⟩ | (simp [pureOp] at h; done) | skip
    rename_i c
    obtain ⟨callee, args, ats⟩ := c
    cases callee <;> first | exact ⟨rfl, rfl⟩ | (simp [pureOp] at h; done) | skip
    rename_i b
    cases b <;> first | exact ⟨rfl, rfl⟩ | (simp [pureOp] at h; done)
  exact ⟨this.1, by simp [writer, this.1, this.2]⟩

theorem evalOp_pure {call : CallF} {s : List Value} {H H' : Heap} {o : Op} {v : Value} (hp : pureOp o = true) (h : evalOp T call s H o = some (v, H')) (K : Heap) : evalOp T call s K o = some (v, K) := by
  unfold evalOp at h ⊢
  split at h
  · rename_i r hr
    simp only [Option.some.injEq] at h
    subst h
    rw [(opEval_pure hp hr).2 K]
  · split at h
    · rename_i f args hcal
      exfalso
      unfold calleeOf at hcal
      split at hcal <;> simp [pureOp] at hp hcal
    · simp at h

theorem SR.of_getD {μ : Mu} {s : List Value} {t : Array Value} (hl : t.size = s.length) (h : ∀ i, VR μ (s.getD i undef) (t.getD i undef)) : SR μ s t := by
  refine ⟨hl, VRs.of_get (by simpa using hl) fun i v hv => ?_⟩
  have hlt := (List.getElem?_eq_some_iff.1 hv).1
  have hlt2 : i < t.size := by omega
  have := h i
  rw [List.getD_eq_getElem?_getD, hv, Array.getD_eq_getD_getElem?, Array.getElem?_eq_getElem hlt2] at this
  exact ⟨t[i], by simp [hlt2], this⟩

section
variable {call : CallF} {ops : Array Oper} {ord : List Nat} {st : Nat → List Value × Heap} {μ0 μ : Mu} {a0 a : Act} {w0 w : World} {listed : Array Bool} {hc : Nat → Option Blk}

def Traced (T : Tab) (call : CallF) (ops : Array Oper) (ord : List Nat) (st : Nat → List Value × Heap) : Prop :=
  ∀ p i, ord[p]? = some i → ∃ o, ops[i]? = some o ∧ evalOne T (quiet call) true ops o (st p).1 (st p).2 = some (st (p + 1))

theorem Traced.at (ht : Traced T call ops ord st) (chk : Chk ops ord) {p : Nat} (hp : p < ops.size) : ∃ i o, ord[p]? = some i ∧ ops[i]? = some o ∧ evalOne T (quiet call) true ops o (st p).1 (st p).2 = some (st (p + 1)) := by
  have hlt : p < ord.length := by rw [chk.len]; exact hp
  obtain ⟨o, h1, h2⟩ := ht p ord[p] (List.getElem?_eq_getElem hlt)
  exact ⟨_, o, List.getElem?_eq_getElem hlt, h1, h2⟩

theorem Traced.mono (ht : Traced T call ops ord st) (chk : Chk ops ord) {p : Nat} : ∀ {q : Nat}, p ≤ q → q ≤ ops.size → (st p).2.length ≤ (st q).2.length
  | 0, h, _ => by have : p = 0 := by omega
                  subst this; exact Nat.le_refl _
  | q + 1, h, hq => by
    rcases Nat.lt_or_ge p (q + 1) with hlt | hge
    · obtain ⟨i, o, h1, h2, h3⟩ := ht.at chk (p := q) (by omega)
      exact Nat.le_trans (ht.mono chk (by omega) (by omega)) (evalOne_moves (s1 := (st (q + 1)).1) h3).1.1
    · have : p = q + 1 := by omega
      subst this; exact Nat.le_refl _

theorem Traced.slen (ht : Traced T call ops ord st) (chk : Chk ops ord) : ∀ {q : Nat}, q ≤ ops.size → (st q).1.length = (st 0).1.length
  | 0, _ => rfl
  | q + 1, hq => by
    obtain ⟨i, o, h1, h2, h3⟩ := ht.at chk (p := q) (by omega)
    obtain ⟨v, hv⟩ := (evalOne_moves (s1 := (st (q + 1)).1) h3).2.2.2.2
    rw [hv, put_length, ht.slen chk (by omega)]

theorem Traced.const (ht : Traced T call ops ord st) (chk : Chk ops ord) {p t : Nat} : ∀ {q : Nat}, p ≤ q → q ≤ ops.size → (∀ r i o, p ≤ r → r < q → ord[r]? = some i → ops[i]? = some o → o.dst ≠ some t) →
    (st q).1.getD t undef = (st p).1.getD t undef
  | 0, h, _, _ => by have : p = 0 := by omega
                     subst this; rfl
  | q + 1, h, hq, hno => by
    rcases Nat.lt_or_ge p (q + 1) with hlt | hge
    · obtain ⟨i, o, h1, h2, h3⟩ := ht.at chk (p := q) (by omega)
      obtain ⟨v, hv⟩ := (evalOne_moves (s1 := (st (q + 1)).1) h3).2.2.2.2
      rw [hv, put_getD, if_neg (hno q i o (by omega) (by omega) h1 h2)]
      exact ht.const chk (by omega) (by omega) fun r i o h1 h2 => hno r i o h1 (by omega)
    · have : p = q + 1 := by omega
      subst this; rfl

theorem Traced.weak (ht : Traced T call ops ord st) (chk : Chk ops ord) {p : Nat} : ∀ {q : Nat}, p ≤ q → q ≤ ops.size → (∀ r i o, p ≤ r → r < q → ord[r]? = some i → ops[i]? = some o → strong o.op = false) → Weak (st p).2 (st q).2
  | 0, h, _, _ => by have : p = 0 := by omega
                     subst this; exact Weak.refl _
  | q + 1, h, hq, hno => by
    rcases Nat.lt_or_ge p (q + 1) with hlt | hge
    · obtain ⟨i, o, h1, h2, h3⟩ := ht.at chk (p := q) (by omega)
      exact (ht.weak chk (by omega) (by omega) fun r i o h1 h2 => hno r i o h1 (by omega)).trans ((evalOne_moves (s1 := (st (q + 1)).1) h3).2.1 (hno q i o (by omega) (by omega) h1 h2))
    · have : p = q + 1 := by omega
      subst this; exact Weak.refl _

theorem listed_set {i j : Nat} (hi : i < listed.size) : (listed.setIfInBounds i true).getD j false = true ↔ listed.getD j false = true ∨ j = i := by
  simp only [Array.getD_eq_getD_getElem?, Array.getElem?_setIfInBounds]
  by_cases h : i = j
  · subst h; simp [hi]
  · simp only [if_neg h]
    constructor
    · exact fun q => .inl q
    · rintro (q | q)
      · exact q
      · exact absurd q.symm h

/-- One operation has run. -/
theorem Mid.next (ht : Traced T call ops ord st) (chk : Chk ops ord) (hfree : Free μ0 (st 0).2.length (st ops.size).2.length) (M : Mid base F ops ord st μ0 a0 w0 listed a w μ hc) {p0 i : Nat} {o : Oper} (hp0 : ord[p0]? = some i) (ho : ops[i]? = some o)
    (hnot : listed.getD i false = false) (hrdy : ∀ e ∈ o.after, Region.binds .any e = true → listed.getD e.on false = true) {v v' : Value} (hput : (st (p0 + 1)).1 = put (st p0).1 o.dst v)
    {Hb Ha : Heap} (hH : (pureOp o.op = true ∧ Hb = [] ∧ Ha = []) ∨ (pureOp o.op = false ∧ Hb = (st p0).2 ∧ Ha = (st (p0 + 1)).2)) (hsub : Sub μ Hb hc) (hf : Free μ Hb.length Ha.length) {μ' : Mu} {w' : World}
    (g : Goes base (Guarded F μ hc Hb) μ μ' Hb Ha w w') (hv : VR μ' v v') : Mid base F ops ord st μ0 a0 w0 (listed.setIfInBounds i true) (a.put o.dst v') w' μ' (behind hc Hb Ha) := by
  have hi : i < ops.size := chk.lt p0 i hp0
  have hp : p0 < ops.size := by rw [← chk.len]; exact (List.getElem?_eq_some_iff.1 hp0).1
  have hil : i < listed.size := by rw [M.size]; exact hi
  have D' : ∀ j, (listed.setIfInBounds i true).getD j false = true ↔ listed.getD j false = true ∨ j = i := fun j => listed_set hil
  have later : ∀ q j oj, p0 < q → ord[q]? = some j → ops[j]? = some oj → clash ops o oj = true → listed.getD j false = true → False := by
    intro q j oj hq hj hoj hcl hd
    have hr := chk.clash p0 q i j o oj hq hp0 hj ho hoj hcl
    have := reach_listed M.closed hr fun o2 e2 h1 h2 h3 => M.closed j o2 e2 hd h1 h2 h3
    rw [hnot] at this; simp at this
  have ne : ∀ {q j : Nat}, ord[q]? = some j → q ≠ p0 → j ≠ i := by
    rintro q j hq hne rfl
    exact hne (chk.inj q p0 j hq hp0)
  have hstep := (ht p0 i hp0)
  obtain ⟨o2, ho2, he⟩ := hstep
  rw [ho] at ho2
  simp only [Option.some.injEq] at ho2
  subst ho2
  obtain ⟨mOn, mWeak, mApp, mPure, _⟩ := evalOne_moves (s1 := (st (p0 + 1)).1) (H1 := (st (p0 + 1)).2) he
  obtain ⟨hmem, hfr⟩ := M.mem.step hsub g hf
  have hlen0 : (st 0).2.length ≤ (st p0).2.length := ht.mono chk (Nat.zero_le _) (by omega)
  have hlen1 : (st (p0 + 1)).2.length ≤ (st ops.size).2.length := ht.mono chk (by omega) (Nat.le_refl _)
  refine ⟨by simp [M.size], ?_, by rw [put_defers]; exact M.defers, by rw [aput_size]; exact M.tmps, ?_, hmem, ?_, ?_, M.le.trans g.le, ?_, M.fr.trans hfr⟩
  · intro j oj e hd hoj he hb
    rcases (D' j).1 hd with h | rfl
    · exact (D' _).2 (.inl (M.closed j oj e h hoj he hb))
    · rw [ho] at hoj
      simp only [Option.some.injEq] at hoj
      subst hoj
      exact (D' _).2 (.inl (hrdy e he hb))
  · intro t p hpn hag
    rw [aput_getD]
    by_cases hd : o.dst = some t
    · rw [if_pos hd]
      have hlt : p0 < p := (hag p0 i o hp0 ho hd).1 ((D' i).2 (.inr rfl))
      have hc2 := ht.const chk (p := p0 + 1) (t := t) (q := p) (by omega) hpn ?_
      · rw [hc2, hput, put_getD, if_pos hd]
        have h1 : (st p0).1.length = a.tmps.size := by rw [M.tmps, ht.slen chk (by omega)]
        rw [h1]
        by_cases hlt : t < a.tmps.size
        · simp only [hlt, if_true]; exact hv
        · simp only [hlt, if_false]; exact .undef _
      · intro r j oj h1 h2 hr hoj hdj
        have hne : j ≠ i := ne hr (by omega)
        have hDj := (D' j).1 ((hag r j oj hr hoj hdj).2 h2)
        refine later r j oj (by omega) hr hoj ?_ (hDj.resolve_right hne)
        unfold clash
        have : (o.dst.toList.any fun d => (namesOf ops oj).contains d) = true := by simp [hd, namesOf, hdj]
        rw [this]; simp
    · rw [if_neg hd]
      refine (M.slots t p hpn fun q j oj hq hoj hdj => ?_).mono g.le
      have hne : j ≠ i := by
        rintro rfl
        rw [ho] at hoj
        simp only [Option.some.injEq] at hoj
        subst hoj
        exact hd hdj
      rw [← hag q j oj hq hoj hdj, D' j]
      simp [hne]
  · intro p hpn V1 V2 b x hx hl hμ
    have v2 : ∀ q j oj, ord[q]? = some j → ops[j]? = some oj → p ≤ q → writer oj.op = true → listed.getD j false = false := by
      intro q j oj h1 h2 h3 h4
      have := V2 q j oj h1 h2 h3 h4
      cases hh : listed.getD j false with
      | false => rfl
      | true => rw [(D' j).2 (.inl hh)] at this; simp at this
    rcases hH with ⟨hpure, rfl, rfl⟩ | ⟨hheap, rfl, rfl⟩
    · have hb : behind hc [] [] b = hc b := by unfold behind; simp
      rw [hb]
      refine M.subs p hpn ?_ v2 b x hx hl ?_
      · intro q j oj h1 h2 h3 h4
        rcases (D' j).1 (V1 q j oj h1 h2 h3 h4) with h | rfl
        · exact h
        · rw [ho] at h2
          simp only [Option.some.injEq] at h2
          subst h2
          rw [(pure_weak hpure).1] at h4; simp at h4
      · rw [g.same b (.inr (Nat.zero_le _))] at hμ; exact hμ
    · rcases Nat.lt_or_ge p0 p with hlt | hge
      · have nostrong : ∀ r j oj, p0 + 1 ≤ r → r < p → ord[r]? = some j → ops[j]? = some oj → strong oj.op = false := by
          intro r j oj h1 h2 h3 h4
          cases hs : strong oj.op with
          | false => rfl
          | true =>
            exfalso
            have hne : j ≠ i := ne h3 (by omega)
            refine later r j oj (by omega) h3 h4 ?_ (((D' j).1 (V1 r j oj h3 h4 h2 hs)).resolve_right hne)
            simp [clash, hheap, writer, hs]
        have hw := ht.weak chk (p := p0 + 1) (q := p) (by omega) hpn nostrong
        have hlenp : (st p).2.length ≤ (st ops.size).2.length := ht.mono chk hpn (Nat.le_refl _)
        have hbp : b < (st p).2.length := (List.getElem?_eq_some_iff.1 hx).1
        rcases Nat.lt_or_ge b (st (p0 + 1)).2.length with hb | hb
        · have hax := hw.2 b x hb hx hl
          unfold behind
          split
          · exact hax
          · rename_i hno
            simp only [not_or] at hno
            exfalso
            have hlt2 : b < (st p0).2.length := by have := hno.2; omega
            obtain ⟨y, hy, hyl⟩ := mOn.2 b x hlt2 hax hl
            exact hno.1 ⟨y, hy, hyl⟩
        · have hbeh : behind hc (st p0).2 (st (p0 + 1)).2 b = hc b := by
            unfold behind
            rw [if_neg]
            rintro (⟨y, hy, _⟩ | ⟨_, h2⟩)
            · have := (List.getElem?_eq_some_iff.1 hy).1
              have := mOn.1
              omega
            · omega
          rw [hbeh]
          have hμ2 : μ b ≠ none := by rw [g.same b (.inr hb)] at hμ; exact hμ
          obtain ⟨q, j, hq, hDj, hq1, hq2⟩ := M.made b (by have := mOn.1; omega) (by omega) hμ2
          have hqn : q < ops.size := by rw [← chk.len]; exact (List.getElem?_eq_some_iff.1 hq).1
          have hqp : p0 < q := by
            rcases Nat.lt_or_ge p0 q with h | h
            · exact h
            · have := ht.mono chk (p := q + 1) (q := p0 + 1) (by omega) (by omega)
              omega
          obtain ⟨oj, hoj, hej⟩ := ht q j hq
          have hpj : pureOp oj.op = false := by
            cases h : pureOp oj.op with
            | false => rfl
            | true =>
              have := (evalOne_moves (s1 := (st (q + 1)).1) (H1 := (st (q + 1)).2) hej).2.2.2.1 h
              rw [this] at hq2
              omega
          have hso : strong o.op = false := by
            cases h : strong o.op with
            | false => rfl
            | true => exact (later q j oj hqp hq hoj (by simp [clash, h, hpj]) hDj).elim
          refine M.subs p hpn ?_ v2 b x hx hl hμ2
          intro q j oj h1 h2 h3 h4
          rcases (D' j).1 (V1 q j oj h1 h2 h3 h4) with h | rfl
          · exact h
          · rw [ho] at h2
            simp only [Option.some.injEq] at h2
            subst h2
            rw [hso] at h4; simp at h4
      · have hwr : writer o.op = false := by
          cases h : writer o.op with
          | false => rfl
          | true =>
            have := V2 p0 i o hp0 ho hge h
            rw [(D' i).2 (.inr rfl)] at this; simp at this
        obtain ⟨L, hL⟩ := mApp hwr
        have v1 : ∀ q j oj, ord[q]? = some j → ops[j]? = some oj → q < p → strong oj.op = true → listed.getD j false = true := by
          intro q j oj h1 h2 h3 h4
          exact ((D' j).1 (V1 q j oj h1 h2 h3 h4)).resolve_right (ne h1 (by omega))
        have hbp : b < (st p).2.length := (List.getElem?_eq_some_iff.1 hx).1
        have hpp : (st p).2.length ≤ (st p0).2.length := ht.mono chk hge (by omega)
        have hμ2 : μ b ≠ none := by rw [g.same b (.inl (by omega))] at hμ; exact hμ
        have hcb := M.subs p hpn v1 v2 b x hx hl hμ2
        unfold behind
        split
        · rename_i hcond
          rcases hcond with ⟨y, hy, hyl⟩ | ⟨h1, _⟩
          · have := hsub b y hy hyl hμ2
            rw [hcb] at this
            simp only [Option.some.injEq] at this
            subst this
            rw [hL, List.getElem?_append_left (by omega)]
            exact hy
          · omega
        · exact hcb
  · intro b h1 h2 h3
    by_cases hμ : μ b = none
    · have : Hb.length ≤ b ∧ b < Ha.length := by
        rcases Nat.lt_or_ge b Hb.length with h | h
        · rw [g.same b (.inl h)] at h3; exact absurd hμ h3
        · rcases Nat.lt_or_ge b Ha.length with h' | h'
          · exact ⟨h, h'⟩
          · rw [g.same b (.inr h')] at h3; exact absurd hμ h3
      rcases hH with ⟨_, rfl, rfl⟩ | ⟨_, rfl, rfl⟩
      · simp at this
      · exact ⟨p0, i, hp0, (D' i).2 (.inr rfl), this.1, this.2⟩
    · obtain ⟨p, j, h4, h5, h6, h7⟩ := M.made b h1 h2 hμ
      exact ⟨p, j, h4, (D' j).2 (.inl h5), h6, h7⟩
  · intro b hb
    rw [← M.same b hb]
    refine g.same b ?_
    rcases hH with ⟨_, rfl, rfl⟩ | ⟨_, rfl, rfl⟩
    · exact .inr (Nat.zero_le _)
    · rcases hb with hb | hb
      · exact .inl (by omega)
      · exact .inr (by omega)

end

end Go.Proofs.Ytdhbclplondmjaa.C

end

section
/- Drawn regions, fifth part: the region's law. -/
set_option linter.unusedVariables false
set_option linter.unusedSimpArgs false
namespace Go.Proofs.Ytdhbclplondmjaa.C
open Go.RowKit

variable {P : Program} {T : Tab} {base : Nat} {F : Nat → Prop}

section
variable {call : CallF} {ops : Array Oper} {ord : List Nat} {st : Nat → List Value × Heap} {μ0 μ : Mu} {a0 a : Act} {w0 w : World} {listed : Array Bool} {hc : Nat → Option Blk}

/-- Whatever is ready may run. -/
theorem Mid.run (ag : Agree P T) (hm : ∀ t n f e, T.meth t n = some (f, e) → MethOk P t n f e) (hcall : SoundCall P call) (ht : Traced T call ops ord st) (chk : Chk ops ord) (hfree : Free μ0 (st 0).2.length (st ops.size).2.length)
    (M : Mid base F ops ord st μ0 a0 w0 listed a w μ hc) {i : Nat} (hi : i ∈ Region.ready .any ops listed) {K : Act → World → Prop} {Q : Exit → Act → World → Prop}
    (hK : ∀ a' w' μ' hc', Mid base F ops ord st μ0 a0 w0 (listed.setIfInBounds i true) a' w' μ' hc' → K a' w') : wpOp P ops Q i K a w := by
  obtain ⟨hun, o, ho, hrdy⟩ := mem_ready.1 hi
  have hisz : i < ops.size := (Array.getElem?_eq_some_iff.1 ho).1
  have hil : i < listed.size := by rw [M.size]; exact hisz
  have hnot : listed.getD i false = false := by
    rw [Array.getD_eq_getD_getElem?, Array.getElem?_eq_getElem hil] at hun ⊢
    exact hun
  obtain ⟨p0, hpn, hp0⟩ := chk.cover i hisz
  obtain ⟨o2, ho2, he⟩ := ht p0 i hp0
  rw [ho] at ho2
  simp only [Option.some.injEq] at ho2
  subst ho2
  have before : ∀ q j oj, q < p0 → ord[q]? = some j → ops[j]? = some oj → clash ops oj o = true → listed.getD j false = true := fun q j oj hq hj hoj hcl =>
    reach_listed M.closed (chk.clash q p0 j i oj o hq hj hp0 hoj ho hcl) fun o2 e2 h1 h2 h3 => by
      rw [ho] at h1
      simp only [Option.some.injEq] at h1
      subst h1
      exact hrdy e2 h2 h3
  have later : ∀ q j oj, p0 < q → ord[q]? = some j → ops[j]? = some oj → clash ops o oj = true → listed.getD j false = false := by
    intro q j oj hq hj hoj hcl
    cases hd : listed.getD j false with
    | false => rfl
    | true =>
      have := reach_listed M.closed (chk.clash p0 q i j o oj hq hp0 hj ho hoj hcl) fun o2 e2 h1 h2 h3 => M.closed j o2 e2 hd h1 h2 h3
      rw [hnot] at this; simp at this
  -- what the operation looks at is there
  have slot : ∀ t, t ∈ readsOf ops o → VR μ ((st p0).1.getD t undef) (a.tmps.getD t undef) := by
    intro t htm
    refine M.slots t p0 (by omega) fun q j oj hq hoj hdj => ?_
    rcases Nat.lt_trichotomy q p0 with h | h | h
    · have := before q j oj h hq hoj (by
        have : (oj.dst.toList.any fun d => (namesOf ops o).contains d) = true := by simp [hdj, namesOf, htm]
        unfold clash
        rw [this]
        simp only [Bool.true_or, Bool.or_true])
      simp [this, h]
    · subst h
      rw [hp0] at hq
      simp only [Option.some.injEq] at hq
      subst hq
      simp [hnot]
    · have := later q j oj h hq hoj (by
        have : (oj.dst.toList.any fun d => (namesOf ops o).contains d) = true := by simp [hdj, namesOf, htm]
        unfold clash
        rw [this]
        simp only [Bool.true_or, Bool.or_true])
      rw [this]
      simp; omega
  have hsr : SR μ (only (readsOf ops o) (st p0).1) a.tmps := by
    refine SR.of_getD ?_ fun t => ?_
    · rw [only_length, M.tmps, ht.slen chk (q := p0) (by omega)]
    · rw [only_getD]
      split
      · rename_i h; exact slot t (by simpa using h)
      · exact .undef _
  -- the memory that it is evaluated in
  have hvalid : pureOp o.op = false → Sub μ (st p0).2 hc := by
    intro hh
    refine M.subs p0 (by omega) ?_ ?_
    · intro q j oj h1 h2 h3 h4
      exact before q j oj h3 h1 h2 (by simp [clash, h4, hh])
    · intro q j oj h1 h2 h3 h4
      rcases Nat.lt_or_ge p0 q with h | h
      · exact later q j oj h h1 h2 (by simp [clash, h4, hh])
      · have : q = p0 := by omega
        subst this
        rw [hp0] at h1
        simp only [Option.some.injEq] at h1
        subst h1
        exact hnot
  have hfr : pureOp o.op = false → Free μ (st p0).2.length (st (p0 + 1)).2.length := by
    intro hh b h1 h2
    have hl0 : (st 0).2.length ≤ (st p0).2.length := ht.mono chk (Nat.zero_le _) (by omega)
    have hl1 : (st (p0 + 1)).2.length ≤ (st ops.size).2.length := ht.mono chk (by omega) (Nat.le_refl _)
    cases hμ : μ b with
    | none => rfl
    | some l =>
      exfalso
      obtain ⟨q, j, hq, hd, h3, h4⟩ := M.made b (by omega) (by omega) (by rw [hμ]; simp)
      have hqn : q < ops.size := by rw [← chk.len]; exact (List.getElem?_eq_some_iff.1 hq).1
      rcases Nat.lt_trichotomy q p0 with h | h | h
      · have := ht.mono chk (p := q + 1) (q := p0) (by omega) (by omega)
        omega
      · subst h
        rw [hp0] at hq
        simp only [Option.some.injEq] at hq
        subst hq
        rw [hnot] at hd; simp at hd
      · have := ht.mono chk (p := p0 + 1) (q := q) (by omega) (by omega)
        omega
  have hmoves := evalOne_moves (s1 := (st (p0 + 1)).1) (H1 := (st (p0 + 1)).2) he
  unfold wpOp
  simp only [ho]
  unfold evalOne at he
  have hgd := only_guard (ops := ops) (o := o) (st p0).1
  split at he
  · rename_i hg
    rw [hg] at hgd
    rw [guard_ok hsr hgd, if_pos rfl]
    split at he
    · simp at he
    · rw [Option.map_eq_some_iff] at he
      obtain ⟨⟨v, H2⟩, hx, he⟩ := he
      have h1 : (st (p0 + 1)).1 = put (st p0).1 o.dst v := by rw [← he]
      have h2 : (st (p0 + 1)).2 = H2 := by rw [← he]
      have hx' : evalOp T (quiet call) (only (readsOf ops o) (st p0).1) (st p0).2 o.op = some (v, H2) := by
        rw [evalOp_congr (only_ev (ops := ops) (st p0).1)]; exact hx
      refine .inl ?_
      cases hh : pureOp o.op with
      | true =>
        have hs0 : Sub μ [] hc := fun b x hb => by simp at hb
        refine evalOp_wp ag hm (quiet_sound hcall) (evalOp_pure hh hx' []) (M.mem.guarded hs0) (fun b _ hb => by simp at hb) hsr.evals fun v' w' μ' g hv => ?_
        exact hK _ _ _ _ (Mid.next ht chk hfree M hp0 ho hnot hrdy h1 (.inl ⟨hh, rfl, rfl⟩) hs0 (fun b _ hb => by simp at hb) g hv)
      | false =>
        have hs0 := hvalid hh
        have hf0 := hfr hh
        subst h2
        refine evalOp_wp ag hm (quiet_sound hcall) hx' (M.mem.guarded hs0) hf0 hsr.evals fun v' w' μ' g hv => ?_
        exact hK _ _ _ _ (Mid.next ht chk hfree M hp0 ho hnot hrdy h1 (.inr ⟨hh, rfl, rfl⟩) hs0 hf0 g hv)
  · rename_i hg
    rw [hg] at hgd
    rw [guard_ok hsr hgd]
    simp only [Option.some.injEq] at he
    have h1 : (st (p0 + 1)).1 = put (st p0).1 o.dst (.chan none) := by rw [← he]
    have h2 : (st (p0 + 1)).2 = (st p0).2 := by rw [← he]
    simp only [Bool.false_eq_true, if_false]
    cases hh : pureOp o.op with
    | true =>
      have hs0 : Sub μ [] hc := fun b x hb => by simp at hb
      exact hK _ _ _ _ (Mid.next ht chk hfree M hp0 ho hnot hrdy h1 (.inl ⟨hh, rfl, rfl⟩) hs0 (fun b _ hb => by simp at hb) (Goes.refl (M.mem.guarded hs0)) .skip)
    | false =>
      have hs0 := hvalid hh
      have g0 : Goes base (Guarded F μ hc (st p0).2) μ μ (st p0).2 (st (p0 + 1)).2 w w := by
        rw [h2]
        exact Goes.refl (M.mem.guarded hs0)
      exact hK _ _ _ _ (Mid.next ht chk hfree M hp0 ho hnot hrdy h1 (.inr ⟨hh, rfl, rfl⟩) hs0 (hfr hh) g0 .skip)
  · simp at he

theorem countP_lt {α : Type} {p q : α → Bool} : ∀ {l : List α}, (∀ x ∈ l, q x = true → p x = true) → (∃ x ∈ l, p x = true ∧ q x = false) → l.countP q < l.countP p
  | [], _, h => by obtain ⟨x, hx, _⟩ := h; simp at hx
  | y :: l, h, hex => by
    have hle : l.countP q ≤ l.countP p := List.countP_mono_left fun x hx => h x (List.mem_cons_of_mem _ hx)
    have hy := h y List.mem_cons_self
    rw [List.countP_cons, List.countP_cons]
    by_cases hpy : p y = true
    · by_cases hqy : q y = true
      · simp only [hpy, hqy, if_true]
        have : ∃ x ∈ l, p x = true ∧ q x = false := by
          obtain ⟨x, hx, h1, h2⟩ := hex
          rcases List.mem_cons.1 hx with rfl | hx
          · rw [hqy] at h2; simp at h2
          · exact ⟨x, hx, h1, h2⟩
        have := countP_lt (fun x hx => h x (List.mem_cons_of_mem _ hx)) this
        omega
      · simp only [hpy, hqy, if_true]
        simp; omega
    · have hqy : ¬ q y = true := fun q => hpy (hy q)
      simp only [hpy, hqy]
      have : ∃ x ∈ l, p x = true ∧ q x = false := by
        obtain ⟨x, hx, h1, h2⟩ := hex
        rcases List.mem_cons.1 hx with rfl | hx
        · exact absurd h1 hpy
        · exact ⟨x, hx, h1, h2⟩
      have := countP_lt (fun x hx => h x (List.mem_cons_of_mem _ hx)) this
      simpa using this

def open_ (ops : Array Oper) (listed : Array Bool) : Nat := (List.range ops.size).countP fun i => !(listed.getD i false)

/-- If nothing is ready, all have come up. -/
theorem Mid.all (ht : Traced T call ops ord st) (chk : Chk ops ord) (M : Mid base F ops ord st μ0 a0 w0 listed a w μ hc) (hr : Region.ready .any ops listed = []) : ∀ p i : Nat, ord[p]? = some i → listed.getD i false = true := by
  intro p
  induction p using Nat.strongRecOn with
  | _ p ih =>
    intro i hp
    cases hd : listed.getD i false with
    | true => rfl
    | false =>
      exfalso
      obtain ⟨o, ho, _⟩ := ht p i hp
      have hisz := chk.lt p i hp
      have hil : i < listed.size := by rw [M.size]; exact hisz
      have : i ∈ Region.ready .any ops listed := by
        rw [mem_ready]
        refine ⟨?_, o, ho, fun e he hb => ?_⟩
        · rw [Array.getD_eq_getD_getElem?, Array.getElem?_eq_getElem hil] at hd ⊢
          exact hd
        · obtain ⟨q, hq, hqe⟩ := chk.edge p i o e hp ho he hb
          exact ih q hq e.on hqe
      rw [hr] at this; simp at this

theorem Mid.done (ht : Traced T call ops ord st) (chk : Chk ops ord) (M : Mid base F ops ord st μ0 a0 w0 listed a w μ hc) (hr : Region.ready .any ops listed = []) :
    Goes base F μ0 μ (st 0).2 (st ops.size).2 w0 w ∧ SR μ (st ops.size).1 a.tmps ∧ a.defers = a0.defers := by
  have hall := M.all ht chk hr
  have hlt : ∀ {q j : Nat}, ord[q]? = some j → q < ops.size := fun h => by rw [← chk.len]; exact (List.getElem?_eq_some_iff.1 h).1
  refine ⟨⟨M.le, M.same, M.mem.toHR (M.subs ops.size (Nat.le_refl _) (fun q j oj h1 _ _ _ => hall q j h1) (fun q j oj h1 _ h3 _ => absurd (hlt h1) (by omega))), M.fr, ht.mono chk (Nat.zero_le _) (Nat.le_refl _)⟩, ?_, M.defers⟩
  refine SR.of_getD (by rw [M.tmps, ht.slen chk (Nat.le_refl _)]) fun t => M.slots t ops.size (Nat.le_refl _) fun q j oj hq _ _ => ?_
  simp [hall q j hq, hlt hq]

theorem Mid.any (ag : Agree P T) (hm : ∀ t n f e, T.meth t n = some (f, e) → MethOk P t n f e) (hcall : SoundCall P call) (ht : Traced T call ops ord st) (chk : Chk ops ord) (hfree : Free μ0 (st 0).2.length (st ops.size).2.length) {Q : Exit → Act → World → Prop}
    (hQ : ∀ a' w' μ', Goes base F μ0 μ' (st 0).2 (st ops.size).2 w0 w' → SR μ' (st ops.size).1 a'.tmps → a'.defers = a0.defers → Q .normal a' w') :
    ∀ (fuel : Nat) (listed : Array Bool) (a : Act) (w : World) (μ : Mu) (hc : Nat → Option Blk), Mid base F ops ord st μ0 a0 w0 listed a w μ hc → open_ ops listed ≤ fuel → wpAny P .any ops Q fuel listed a w
  | 0, listed, a, w, μ, hc, M, hle => by
    have hr : Region.ready .any ops listed = [] := by
      apply List.eq_nil_iff_forall_not_mem.2
      intro i hi
      obtain ⟨hun, o, ho, _⟩ := mem_ready.1 hi
      have hisz : i < ops.size := (Array.getElem?_eq_some_iff.1 ho).1
      have hil : i < listed.size := by rw [M.size]; exact hisz
      have : listed.getD i false = false := by
        rw [Array.getD_eq_getD_getElem?, Array.getElem?_eq_getElem hil] at hun ⊢
        exact hun
      have h0 : open_ ops listed = 0 := by omega
      rw [open_, List.countP_eq_zero] at h0
      have := h0 i (List.mem_range.2 hisz)
      simp_all
    obtain ⟨h1, h2, h3⟩ := M.done ht chk hr
    exact ⟨hr, hQ a w μ h1 h2 h3⟩
  | fuel + 1, listed, a, w, μ, hc, M, hle => by
    refine ⟨fun hr => ?_, fun i hi => ?_⟩
    · obtain ⟨h1, h2, h3⟩ := M.done ht chk hr
      exact hQ a w μ h1 h2 h3
    · refine M.run ag hm hcall ht chk hfree hi fun a' w' μ' hc' M' => ?_
      refine Mid.any ag hm hcall ht chk hfree hQ fuel _ a' w' μ' hc' M' ?_
      obtain ⟨hun, o, ho, _⟩ := mem_ready.1 hi
      have hisz : i < ops.size := (Array.getElem?_eq_some_iff.1 ho).1
      have hil : i < listed.size := by rw [M.size]; exact hisz
      have hnot : listed.getD i false = false := by
        rw [Array.getD_eq_getD_getElem?, Array.getElem?_eq_getElem hil] at hun ⊢
        exact hun
      have : open_ ops (listed.setIfInBounds i true) < open_ ops listed := by
        refine countP_lt (fun x _ hx => ?_) ⟨i, List.mem_range.2 hisz, by simp [hnot], ?_⟩
        · cases h : listed.getD x false with
          | false => rfl
          | true => rw [(listed_set (j := x) hil).2 (.inl h)] at hx; simp at hx
        · rw [(listed_set (j := i) hil).2 (.inr rfl)]; rfl
      omega

end

/-- Whatever order is drawn. -/
theorem draw_any (ag : Agree P T) (hm : ∀ t n f e, T.meth t n = some (f, e) → MethOk P t n f e) {ops : Array Oper} (hchk : drawChk ops (orderOf ops) = true) (call : CallF) (hcall : SoundCall P call) {base : Nat} {F : Nat → Prop} {μ : Mu} {s s1 : List Value} {H H1 : Heap} {w : World} {a : Act}
    (he : evalIdx T (quiet call) true ops (orderOf ops) s H = some (s1, H1)) (h : HR base F μ H w) (hs : SR μ s a.tmps) (hfree : Free μ H.length H1.length) :
    wpAny P .any ops (fun e a' w' => e = .normal ∧ After base F μ H s1 H1 a w a' w') ops.size (Array.replicate ops.size false) a { w with drawn := w.drawn + 1 } := by
  have chk := drawChk_spec hchk
  obtain ⟨st, h0, hn, ht⟩ := trace he
  rw [chk.len] at hn
  have e0 : (st 0).2 = H := by rw [h0]
  have e0' : (st 0).1 = s := by rw [h0]
  have en : (st ops.size).2 = H1 := by rw [hn]
  have en' : (st ops.size).1 = s1 := by rw [hn]
  have htr : Traced T call ops (orderOf ops) st := ht
  have hf0 : Free μ (st 0).2.length (st ops.size).2.length := by rw [e0, en]; exact hfree
  have hd0 : ∀ i, (Array.replicate ops.size false).getD i false = false := by
    intro i
    rw [Array.getD_eq_getD_getElem?]
    cases hq : (Array.replicate ops.size false)[i]? with
    | none => rfl
    | some x =>
      have := Array.getElem?_eq_some_iff.1 hq
      obtain ⟨_, hx⟩ := this
      simp at hx
      simp [← hx]
  refine Mid.any (base := base) (F := F) (w0 := w) ag hm hcall htr chk hf0 (a0 := a) (μ0 := μ) ?_ ops.size _ a _ μ (fun b => (st 0).2[b]?) ?_ ?_
  · intro a' w' μ' g hs' hd'
    rw [e0, en] at g
    rw [en'] at hs'
    exact ⟨rfl, μ', g, hs', hd'⟩
  · refine ⟨by simp, fun i o e hd => by rw [hd0] at hd; simp at hd, rfl, by rw [e0']; exact hs.1, ?_, ?_, ?_, ?_, MuLe.refl _, fun _ _ => rfl, Fr.drew⟩
    · intro t p hp hag
      rw [htr.const chk (p := 0) (q := p) (Nat.zero_le _) hp, e0']
      · exact hs.get t
      · intro r i o _ hr hi ho hd
        have := (hag r i o hi ho hd).2 hr
        rw [hd0] at this; simp at this
    · rw [e0]; exact h.drew.toF
    · intro p hp V1 V2 b x hx hl hμ
      have hw := htr.weak chk (p := 0) (q := p) (Nat.zero_le _) hp (fun r i o _ hr hi ho => by
        cases hs : strong o.op with
        | false => rfl
        | true =>
          have := V1 r i o hi ho hr hs
          rw [hd0] at this; simp at this)
      rcases Nat.lt_or_ge b (st 0).2.length with hb | hb
      · exact hw.2 b x hb hx hl
      · have h1 := (List.getElem?_eq_some_iff.1 hx).1
        have h2 := htr.mono chk (p := p) hp (Nat.le_refl _)
        exact absurd (hf0 b hb (by omega)) hμ
    · intro b h1 h2 h3
      exact absurd (hf0 b h1 h2) h3
  · unfold open_
    refine Nat.le_trans List.countP_le_length ?_
    simp

/-- The law of a drawn region. -/
theorem draw_ok (ag : Agree P T) (hm : ∀ t n f e, T.meth t n = some (f, e) → MethOk P t n f e) (hmix : P.follows .mixedOrders = true) {ops : Array Oper} (hchk : drawChk ops (orderOf ops) = true) : DrawOk P T ops :=
  fun _ call hcall _ _ _ _ _ _ _ _ _ he h hs hfree => wp_region_any hmix (draw_any ag hm hchk call hcall he h hs hfree)

end Go.Proofs.Ytdhbclplondmjaa.C

end

section
/- What a table of functions needs. -/
set_option linter.unusedVariables false
set_option linter.unusedSimpArgs false
namespace Go.Proofs.Ytdhbclplondmjaa.C
open Go.RowKit

def codeChk : Code → Bool
  | .region _ ops draw => !draw || drawChk ops (orderOf ops)
  | .seq a b => codeChk a && codeChk b
  | .cond _ a b => codeChk a && codeChk b
  | .block _ a => codeChk a
  | .loop a => codeChk a
  | _ => true

def funcChk (fn : Func) : Bool := match fn.body with | some c => codeChk c | none => false

theorem codeOk {P : Program} {T : Tab} (ag : Agree P T) (hm : ∀ t n f e, T.meth t n = some (f, e) → MethOk P t n f e) (hmix : P.follows .mixedOrders = true) : ∀ {c : Code}, codeChk c = true → CodeOk P T c
  | .region _ ops draw, h => by
    intro hd
    subst hd
    simp only [codeChk, Bool.not_true, Bool.false_or] at h
    exact draw_ok ag hm hmix h
  | .seq a b, h => by
    simp only [codeChk, Bool.and_eq_true] at h
    exact ⟨codeOk ag hm hmix h.1, codeOk ag hm hmix h.2⟩
  | .cond _ a b, h => by
    simp only [codeChk, Bool.and_eq_true] at h
    exact ⟨codeOk ag hm hmix h.1, codeOk ag hm hmix h.2⟩
  | .block _ a, h => codeOk (c := a) ag hm hmix (by simpa [codeChk] using h)
  | .loop a, h => codeOk (c := a) ag hm hmix (by simpa [codeChk] using h)
  | .skip, _ | .exit _, _ | .label _, _ | .ret, _ | .goto _, _ | .refuse _, _ | .scope _, _ | .rangeFunc .., _ => trivial

def lookF (fns : List (FuncId × Func)) (f : FuncId) : Option Func :=
  match fns with
  | [] => none
  | p :: l => if p.1 = f then some p.2 else lookF l f

def AllFn (P : Program) : List (FuncId × Func) → Prop
  | [] => True
  | p :: l => (P.funcs[p.1]? = some p.2 ∧ (∀ xs w, (callFunc p.1 xs).run P w = .ok (.enter p.1 xs) w) ∧ funcChk p.2 = true) ∧ AllFn P l

theorem AllFn.get {P : Program} : ∀ {l : List (FuncId × Func)}, AllFn P l → ∀ {f : FuncId} {fn : Func}, lookF l f = some fn → P.funcs[f]? = some fn ∧ (∀ xs w, (callFunc f xs).run P w = .ok (.enter f xs) w) ∧ funcChk fn = true
  | [], _, f, fn, h => by simp [lookF] at h
  | p :: l, hh, f, fn, h => by
    unfold lookF at h
    split at h
    · rename_i e
      subst e
      simp only [Option.some.injEq] at h
      subst h
      exact hh.1
    · exact AllFn.get hh.2 h

def lookM (ms : List (TypeId × String × FuncId × Option TypeId)) (t : TypeId) (n : String) : Option (FuncId × Option TypeId) :=
  match ms with
  | [] => none
  | p :: l => if p.1 = t ∧ p.2.1 = n then some p.2.2 else lookM l t n

def AllM (P : Program) : List (TypeId × String × FuncId × Option TypeId) → Prop
  | [] => True
  | p :: l => MethOk P p.1 p.2.1 p.2.2.1 p.2.2.2 ∧ AllM P l

theorem AllM.get {P : Program} : ∀ {l : List (TypeId × String × FuncId × Option TypeId)}, AllM P l → ∀ {t : TypeId} {n : String} {f : FuncId} {e : Option TypeId}, lookM l t n = some (f, e) → MethOk P t n f e
  | [], _, _, _, _, _, h => by simp [lookM] at h
  | p :: l, hh, t, n, f, e, h => by
    unfold lookM at h
    split at h
    · rename_i q
      obtain ⟨h1, h2⟩ := q
      simp only [Option.some.injEq] at h
      have := hh.1
      rw [h1, h2, h] at this
      exact this
    · exact AllM.get hh.2 h

theorem fitsOf {P : Program} {T : Tab} (hmix : P.follows .mixedOrders = true) (hty : ∀ t i, T.T t = some i → TyOk P t i) {fns : List (FuncId × Func)} (hfn : T.fn = lookF fns) (hall : AllFn P fns)
    (hm : ∀ t n f e, T.meth t n = some (f, e) → MethOk P t n f e) (hext : ∀ f e, T.ext f = some e → ExtOk P f e ∧ ∀ xs w, (callFunc f xs).run P w = .ok (.enter f xs) w) (heq : ∀ t us, T.eqs t = some us → EqOk P t us) : Fits P T := by
  have ag : Agree P T := ⟨heq, hty, fun f c h => (hall.get (by rw [← hfn]; exact h)).1⟩
  refine ⟨ag, hm, ?_, ?_, fun f e h => (hext f e h).1⟩
  · intro f h xs w
    rcases h with h | h
    · obtain ⟨fn, hf⟩ := Option.isSome_iff_exists.1 h
      exact (hall.get (by rw [← hfn]; exact hf)).2.1 xs w
    · obtain ⟨e, he⟩ := Option.isSome_iff_exists.1 h
      exact (hext f e he).2 xs w
  · intro f fn c hf hb
    have := (hall.get (by rw [← hfn]; exact hf)).2.2
    unfold funcChk at this
    rw [hb] at this
    exact codeOk ag hm hmix this

end Go.Proofs.Ytdhbclplondmjaa.C

end

section
/- Symbolic runs of the abstract machine: calls without fuel, code by what holds after it, regions operation by operation. -/
set_option linter.unusedVariables false
set_option linter.unusedSimpArgs false
namespace Go.Proofs.Ytdhbclplondmjaa.C
open Go.RowKit

variable {T : Tab}

/-- Calls with as much fuel as it takes. -/
noncomputable def big (T : Tab) : CallF := fun f args H =>
  open Classical in if h : ∃ n, (callC T n f args H).isSome = true then callC T (Classical.choose h) f args H else none

theorem big_some {f : FuncId} {args : List Value} {H : Heap} {r : Value × Heap} : big T f args H = some r ↔ ∃ n, callC T n f args H = some r := by
  unfold big
  constructor
  · intro h
    split at h
    · rename_i hh
      exact ⟨_, h⟩
    · simp at h
  · rintro ⟨n, h⟩
    have hh : ∃ n, (callC T n f args H).isSome = true := ⟨n, by simp [h]⟩
    rw [dif_pos hh]
    obtain ⟨r', hr⟩ := Option.isSome_iff_exists.1 (Classical.choose_spec hh)
    have h1 := callC_mono (T := T) (Nat.le_max_left n (Classical.choose hh)) _ _ _ _ h
    have h2 := callC_mono (T := T) (Nat.le_max_right n (Classical.choose hh)) _ _ _ _ hr
    rw [h1] at h2
    rw [hr, h2]

structure Lim (c : Nat → CallF) (l : CallF) : Prop where
  mono : ∀ n m, n ≤ m → CallLe (c n) (c m)
  lim : ∀ f args H r, l f args H = some r → ∃ n, c n f args H = some r

theorem Lim.big (T : Tab) : Lim (callC T) (big T) := ⟨fun _ _ h => callC_mono h, fun _ _ _ _ h => big_some.1 h⟩
theorem Lim.quiet {c : Nat → CallF} {l : CallF} (h : Lim c l) : Lim (fun n => quiet (c n)) (quiet l) := by
  refine ⟨fun n m hnm => quiet_mono (h.mono n m hnm), fun f args H r hr => ?_⟩
  unfold C.quiet at hr
  rw [Option.map_eq_some_iff] at hr
  obtain ⟨x, hx, hr⟩ := hr
  obtain ⟨n, hn⟩ := h.lim _ _ _ _ hx
  refine ⟨n, ?_⟩
  show C.quiet (c n) f args H = some r
  unfold C.quiet
  rw [hn]; exact congrArg some hr

theorem Lim.op {c : Nat → CallF} {l : CallF} (h : Lim c l) {s : List Value} {H : Heap} {o : Op} {r : Value × Heap} (e : evalOp T l s H o = some r) : ∃ n, evalOp T (c n) s H o = some r := by
  unfold evalOp at *
  split at e
  · exact ⟨0, e⟩
  · split at e
    · exact h.lim _ _ _ _ e
    · simp at e

theorem Lim.one {c : Nat → CallF} {l : CallF} (h : Lim c l) {d : Bool} {ops : Array Oper} {o : Oper} {s : List Value} {H : Heap} {r : List Value × Heap} (e : evalOne T l d ops o s H = some r) : ∃ n, evalOne T (c n) d ops o s H = some r := by
  unfold evalOne at *
  split at e
  · split at e
    · simp at e
    · rename_i hd
      rw [Option.map_eq_some_iff] at e
      obtain ⟨x, hx, e⟩ := e
      obtain ⟨n, hn⟩ := h.op hx
      exact ⟨n, by rw [if_neg hd, hn]; simp [e]⟩
  · exact ⟨0, e⟩
  · simp at e

theorem Lim.idx {c : Nat → CallF} {l : CallF} (h : Lim c l) {d : Bool} {ops : Array Oper} : ∀ {is : List Nat} {s : List Value} {H : Heap} {r : List Value × Heap}, evalIdx T l d ops is s H = some r → ∃ n, evalIdx T (c n) d ops is s H = some r
  | [], _, _, _, e => ⟨0, e⟩
  | i :: is, s, H, r, e => by
    unfold evalIdx at *
    split at e
    · simp at e
    · rename_i o ho
      split at e
      · rename_i s1 H1 e1
        obtain ⟨n, hn⟩ := h.one e1
        obtain ⟨m, hm⟩ := h.idx e
        refine ⟨max n m, ?_⟩
        rw [evalOne_mono (h.mono _ _ (Nat.le_max_left n m)) hn]
        exact evalIdx_mono (h.mono _ _ (Nat.le_max_right n m)) hm
      · simp at e

theorem Lim.region {c : Nat → CallF} {l : CallF} (h : Lim c l) {ops : Array Oper} {draw : Bool} {s : List Value} {H : Heap} {r : List Value × Heap} (e : evalRegion T l ops draw s H = some r) : ∃ n, evalRegion T (c n) ops draw s H = some r := by
  unfold evalRegion at *
  cases draw with
  | true => exact h.quiet.idx e
  | false => exact h.idx e

theorem Lim.code {c : Nat → CallF} {l : CallF} (h : Lim c l) : ∀ {n : Nat} {b : Code} {s : List Value} {H : Heap} {r : Ex × List Value × Heap}, evalC T l n b s H = some r → ∃ m, evalC T (c m) n b s H = some r
  | 0, _, _, _, _, e => by simp [evalC] at e
  | n + 1, b, s, H, r, e => by
    have two : ∀ {a1 a2 : Code} {s H s1 H1 r}, evalC T l n a1 s H = some (.normal, s1, H1) → evalC T l n a2 s1 H1 = some r → ∃ m, evalC T (c m) n a1 s H = some (.normal, s1, H1) ∧ evalC T (c m) n a2 s1 H1 = some r := by
      intro a1 a2 s H s1 H1 r e1 e2
      obtain ⟨m1, h1⟩ := h.code e1
      obtain ⟨m2, h2⟩ := h.code e2
      exact ⟨max m1 m2, evalC_mono (h.mono _ _ (Nat.le_max_left _ _)) (Nat.le_refl _) h1, evalC_mono (h.mono _ _ (Nat.le_max_right _ _)) (Nat.le_refl _) h2⟩
    cases b <;> simp only [evalC] at e ⊢ <;> try exact ⟨0, e⟩
    · rw [Option.map_eq_some_iff] at e
      obtain ⟨x, hx, e⟩ := e
      obtain ⟨m, hm⟩ := h.region hx
      exact ⟨m, by rw [hm]; simp [e]⟩
    · split at e
      · rename_i s1 H1 e1
        obtain ⟨m, h1, h2⟩ := two e1 e
        exact ⟨m, by rw [h1]; exact h2⟩
      · rename_i x y
        obtain ⟨m, hm⟩ := h.code e
        refine ⟨m, ?_⟩
        rw [hm]
        split
        · rename_i s1 H1 e1
          simp only [Option.some.injEq] at e1
          subst e1
          exact absurd e (y _ _)
        · rfl
    · split at e
      · exact h.code e
      · exact h.code e
      · simp at e
    · split at e
      · rename_i j s1 H1 e1
        obtain ⟨m, hm⟩ := h.code e1
        exact ⟨m, by rw [hm]; exact e⟩
      · rename_i x y
        obtain ⟨m, hm⟩ := h.code e
        refine ⟨m, ?_⟩
        rw [hm]
        split
        · rename_i j s1 H1 e1
          simp only [Option.some.injEq] at e1
          subst e1
          exact absurd e (y _ _ _)
        · rfl
    · split at e
      · rename_i s1 H1 e1
        obtain ⟨m, h1, h2⟩ := two e1 e
        exact ⟨m, by rw [h1]; exact h2⟩
      · rename_i x y
        obtain ⟨m, hm⟩ := h.code e
        refine ⟨m, ?_⟩
        rw [hm]
        split
        · rename_i s1 H1 e1
          simp only [Option.some.injEq] at e1
          subst e1
          exact absurd e (y _ _)
        · rfl

/-! ### Code -/

abbrev St := List Value → Heap → Prop

def post (N : St) (X : Nat → St) (R : St) : Ex → St
  | .normal => N
  | .exit j => X j
  | .ret => R

def Runs (T : Tab) (c : Code) (s : List Value) (H : Heap) (N : St) (X : Nat → St) (R : St) : Prop :=
  ∃ n e s1 H1, evalC T (big T) n c s H = some (e, s1, H1) ∧ post N X R e s1 H1

section
variable {s : List Value} {H : Heap} {N : St} {X : Nat → St} {R : St}

theorem Runs.mono {c : Code} {N' : St} {X' : Nat → St} {R' : St} (h : Runs T c s H N X R) (hN : ∀ s H, N s H → N' s H) (hX : ∀ j s H, X j s H → X' j s H) (hR : ∀ s H, R s H → R' s H) : Runs T c s H N' X' R' := by
  obtain ⟨n, e, s1, H1, h1, h2⟩ := h
  refine ⟨n, e, s1, H1, h1, ?_⟩
  cases e
  · exact hN _ _ h2
  · exact hX _ _ _ h2
  · exact hR _ _ h2

theorem Runs.skip (h : N s H) : Runs T .skip s H N X R := ⟨1, .normal, s, H, rfl, h⟩
theorem Runs.label {l : Nat} (h : N s H) : Runs T (.label l) s H N X R := ⟨1, .normal, s, H, rfl, h⟩
theorem Runs.exit {j : Nat} (h : X j s H) : Runs T (.exit j) s H N X R := ⟨1, .exit j, s, H, rfl, h⟩
theorem Runs.ret (h : R s H) : Runs T .ret s H N X R := ⟨1, .ret, s, H, rfl, h⟩

theorem Runs.seq {a b : Code} (h : Runs T a s H (fun s1 H1 => Runs T b s1 H1 N X R) X R) : Runs T (.seq a b) s H N X R := by
  obtain ⟨n, e, s1, H1, h1, h2⟩ := h
  cases e with
  | normal =>
    obtain ⟨m, e2, s2, H2, g1, g2⟩ := h2
    refine ⟨max n m + 1, e2, s2, H2, ?_, g2⟩
    have a1 := evalC_mono (CallLe.refl (big T)) (Nat.le_max_left n m) h1
    have a2 := evalC_mono (CallLe.refl (big T)) (Nat.le_max_right n m) g1
    simp only [evalC, a1, a2]
  | exit j => exact ⟨n + 1, .exit j, s1, H1, by simp only [evalC, h1], h2⟩
  | ret => exact ⟨n + 1, .ret, s1, H1, by simp only [evalC, h1], h2⟩

theorem Runs.cond {c : Operand} {a b : Code} (v : Bool) (hv : ev s c = .bool v) (ht : v = true → Runs T a s H N X R) (hf : v = false → Runs T b s H N X R) : Runs T (.cond c a b) s H N X R := by
  cases v with
  | true =>
    obtain ⟨n, e, s1, H1, h1, h2⟩ := ht rfl
    exact ⟨n + 1, e, s1, H1, by simp only [evalC, hv, h1], h2⟩
  | false =>
    obtain ⟨n, e, s1, H1, h1, h2⟩ := hf rfl
    exact ⟨n + 1, e, s1, H1, by simp only [evalC, hv, h1], h2⟩

theorem Runs.block {id : Nat} {a : Code} (h : Runs T a s H N (fun j s1 H1 => bif Nat.beq j id then N s1 H1 else X j s1 H1) R) : Runs T (.block id a) s H N X R := by
  obtain ⟨n, e, s1, H1, h1, h2⟩ := h
  cases e with
  | normal => exact ⟨n + 1, .normal, s1, H1, by simp only [evalC, h1], h2⟩
  | exit j =>
    simp only [post] at h2
    by_cases e : j = id
    · rw [show Nat.beq j id = true from (by subst e; exact Nat.beq_refl _)] at h2
      exact ⟨n + 1, .normal, s1, H1, by simp only [evalC, h1]; rw [if_pos e], h2⟩
    · rw [show Nat.beq j id = false from (by cases q : Nat.beq j id with | true => exact absurd (Nat.eq_of_beq_eq_true q) e | false => rfl)] at h2
      exact ⟨n + 1, .exit j, s1, H1, by simp only [evalC, h1]; rw [if_neg e], h2⟩
  | ret => exact ⟨n + 1, .ret, s1, H1, by simp only [evalC, h1], h2⟩

theorem Runs.loop {a : Code} (I : Nat → St) (m : Nat) (h0 : I m s H) (step : ∀ m s H, I m s H → Runs T a s H (fun s1 H1 => ∃ m1, m1 < m ∧ I m1 s1 H1) X R) : Runs T (.loop a) s H N X R := by
  induction m using Nat.strongRecOn generalizing s H with
  | _ m ih =>
    obtain ⟨n, e, s1, H1, h1, h2⟩ := step m s H h0
    cases e with
    | normal =>
      obtain ⟨m1, hm, hi⟩ := h2
      obtain ⟨k, e2, s2, H2, g1, g2⟩ := ih m1 hm hi
      refine ⟨max n k + 1, e2, s2, H2, ?_, g2⟩
      have a1 := evalC_mono (CallLe.refl (big T)) (Nat.le_max_left n k) h1
      have a2 := evalC_mono (CallLe.refl (big T)) (Nat.le_max_right n k) g1
      simp only [evalC, a1, a2]
    | exit j => exact ⟨n + 1, .exit j, s1, H1, by simp only [evalC, h1], h2⟩
    | ret => exact ⟨n + 1, .ret, s1, H1, by simp only [evalC, h1], h2⟩

/-! ### Regions -/

def Rg (T : Tab) (call : CallF) (d : Bool) (ops : Array Oper) (is : List Nat) (s : List Value) (H : Heap) (Q : St) : Prop :=
  ∃ s1 H1, evalIdx T call d ops is s H = some (s1, H1) ∧ Q s1 H1

theorem Runs.region {id : Nat} {ops : Array Oper} (h : Rg T (big T) false ops (List.range ops.size) s H N) : Runs T (.region id ops false) s H N X R := by
  obtain ⟨s1, H1, h1, h2⟩ := h
  refine ⟨1, .normal, s1, H1, ?_, h2⟩
  have : evalRegion T (big T) ops false s H = some (s1, H1) := h1
  simp only [evalC, this, Option.map_some]

theorem Runs.drawn {id : Nat} {ops : Array Oper} {is : List Nat} (ho : orderOf ops = is) (h : Rg T (quiet (big T)) true ops is s H N) : Runs T (.region id ops true) s H N X R := by
  subst ho
  obtain ⟨s1, H1, h1, h2⟩ := h
  refine ⟨1, .normal, s1, H1, ?_, h2⟩
  have : evalRegion T (big T) ops true s H = some (s1, H1) := h1
  simp only [evalC, this, Option.map_some]

variable {cal : CallF} {d : Bool} {ops : Array Oper} {i : Nat} {is : List Nat} {Q : St}

theorem Rg.nil (h : Q s H) : Rg T cal d ops [] s H Q := ⟨s, H, rfl, h⟩

theorem Rg.step {o : Oper} {s1 : List Value} {H1 : Heap} (ho : ops[i]? = some o) (he : evalOne T cal d ops o s H = some (s1, H1)) (k : Rg T cal d ops is s1 H1 Q) : Rg T cal d ops (i :: is) s H Q := by
  obtain ⟨s2, H2, h1, h2⟩ := k
  exact ⟨s2, H2, by simp only [evalIdx, ho, he, h1], h2⟩

/-- An operation that makes no call. -/
theorem Rg.op {o : Oper} {v : Value} {H1 : Heap} (ho : ops[i]? = some o) (hg : o.guard = none) (he : opEval T s H o.op = some (v, H1)) (hd : (d && inPlace s o.op) = false) (k : Rg T cal d ops is (put s o.dst v) H1 Q) : Rg T cal d ops (i :: is) s H Q :=
  Rg.step ho (by simp only [evalOne, guardC, evalOp, hg, he, hd, Option.map_some, Bool.false_eq_true, if_false]) k

/-- A call. -/
theorem Rg.call {o : Oper} {v : Value} {H1 : Heap} {f : FuncId} {args : List Value} (ho : ops[i]? = some o) (hg : o.guard = none) (hn : opEval T s H o.op = none) (hc : calleeOf T s H o.op = some (f, args)) (hd : (d && inPlace s o.op) = false)
    (hr : cal f args H = some (v, H1)) (k : Rg T cal d ops is (put s o.dst v) H1 Q) : Rg T cal d ops (i :: is) s H Q :=
  Rg.step ho (by simp only [evalOne, guardC, evalOp, hg, hn, hc, hr, hd, Option.map_some, Bool.false_eq_true, if_false]) k

/-- An operation under a guard. -/
theorem Rg.guard {o : Oper} (b : Bool) (ho : ops[i]? = some o) (hg : guardC ops o s = some b)
    (ht : b = true → ∃ v H1, evalOp T cal s H o.op = some (v, H1) ∧ (d && inPlace s o.op) = false ∧ Rg T cal d ops is (put s o.dst v) H1 Q) (hf : b = false → Rg T cal d ops is (put s o.dst (.chan none)) H Q) : Rg T cal d ops (i :: is) s H Q := by
  cases b with
  | true =>
    obtain ⟨v, H1, h1, hd, k⟩ := ht rfl
    exact Rg.step ho (by simp only [evalOne, hg, h1, hd, Option.map_some, Bool.false_eq_true, if_false]) k
  | false => exact Rg.step ho (by simp only [evalOne, hg]) (hf rfl)

end

/-! ### Functions -/

theorem big_of_runs {f : FuncId} {fn : Func} {c : Code} {args : List Value} {H : Heap} {Post : Value → Heap → Prop} (he : T.ext f = none) (hf : T.fn f = some fn) (hb : fn.body = some c)
    (h : Runs T c (startC fn args) H (fun s1 H1 => ∃ v, resultsC T fn s1 H1 = some v ∧ Post v H1) (fun _ _ _ => False) (fun s1 H1 => ∃ v, resultsC T fn s1 H1 = some v ∧ Post v H1)) :
    ∃ v H1, big T f args H = some (v, H1) ∧ Post v H1 := by
  obtain ⟨n, e, s1, H1, h1, h2⟩ := h
  obtain ⟨m, hm⟩ := (Lim.big T).code h1
  have a1 := evalC_mono (callC_mono (T := T) (Nat.le_max_left m n)) (Nat.le_max_right m n) hm
  cases e with
  | normal =>
    obtain ⟨v, hv, hp⟩ := h2
    exact ⟨v, H1, big_some.2 ⟨max m n + 1, by simp only [callC, he, hf, hb, a1, hv, Option.map_some]⟩, hp⟩
  | exit j => exact h2.elim
  | ret =>
    obtain ⟨v, hv, hp⟩ := h2
    exact ⟨v, H1, big_some.2 ⟨max m n + 1, by simp only [callC, he, hf, hb, a1, hv, Option.map_some]⟩, hp⟩

end Go.Proofs.Ytdhbclplondmjaa.C

end

section
/- Memory as the symbolic runs see it: what grows, slices by their elements, slices under way. -/
set_option linter.unusedVariables false
set_option linter.unusedSimpArgs false
namespace Go.Proofs.Ytdhbclplondmjaa.C
open Go.RowKit

variable {T : Tab}

/-- Only new blocks, and all of them made by the call. -/
structure Ext (H H1 : Heap) : Prop where
  len : H.length ≤ H1.length
  old : ∀ b, b < H.length → H1[b]? = H[b]?
  new : ∀ b X, H.length ≤ b → H1[b]? = some X → X.left = X

theorem Ext.refl (H : Heap) : Ext H H := ⟨Nat.le_refl _, fun _ _ => rfl, fun b X h e => by rw [List.getElem?_eq_none h] at e; simp at e⟩
theorem Ext.trans {A B C : Heap} (h : Ext A B) (k : Ext B C) : Ext A C where
  len := Nat.le_trans h.len k.len
  old b hb := (k.old b (Nat.lt_of_lt_of_le hb h.len)).trans (h.old b hb)
  new b X hb e := by
    rcases Nat.lt_or_ge b B.length with q | q
    · exact h.new b X hb ((k.old b q).symm.trans e)
    · exact k.new b X q e
theorem Ext.snoc {H H1 : Heap} (h : Ext H H1) {X : Blk} (hX : X.left = X) : Ext H (H1 ++ [X]) where
  len := by have := h.len; simp; omega
  old b hb := by rw [List.getElem?_append_left (Nat.lt_of_lt_of_le hb h.len)]; exact h.old b hb
  new b Y hb e := by
    rw [getElem?_snoc] at e
    split at e
    · simp only [Option.some.injEq] at e; subst e; exact hX
    · exact h.new b Y hb e
theorem Ext.set {H H1 : Heap} (h : Ext H H1) {X : Blk} (hX : X.left = X) {b : Nat} (hb : H.length ≤ b) : Ext H (H1.set b X) where
  len := by have := h.len; simp; omega
  old c hc := by rw [List.getElem?_set_ne (by omega)]; exact h.old c hc
  new c Y hc e := by
    by_cases q : b = c
    · subst q
      rcases Nat.lt_or_ge b H1.length with z | z
      · rw [List.getElem?_set_self z] at e; simp only [Option.some.injEq] at e; subst e; exact hX
      · rw [List.getElem?_eq_none (by simpa using z)] at e; simp at e
    · rw [List.getElem?_set_ne q] at e; exact h.new c Y hc e
theorem Ext.row {H H1 : Heap} (h : Ext H H1) (sz : Nat) (cs : List Value) : Ext H (H1 ++ [.row sz cs true true]) := h.snoc rfl

/-- What can be read in one can be read in the other. -/
def Sees (H K : Heap) : Prop := ∀ (b sz : Nat) (cs : List Value) (own : Bool), H[b]? = some (Blk.row sz cs own true) → ∃ own1, K[b]? = some (Blk.row sz cs own1 true)

theorem Sees.refl (H : Heap) : Sees H H := fun b sz cs own h => ⟨own, h⟩
theorem Sees.trans {A B C : Heap} (h : Sees A B) (k : Sees B C) : Sees A C := fun b sz cs own e => let ⟨o, q⟩ := h b sz cs own e; k b sz cs o q
theorem Ext.sees {H K : Heap} (h : Ext H K) : Sees H K := fun b sz cs own e => ⟨own, (h.old b (List.getElem?_eq_some_iff.1 e).1).trans e⟩
theorem Sees.freeze (H : Heap) : Sees H (H.map Blk.freeze) := fun b sz cs own e => ⟨false, by rw [List.getElem?_map, e]; rfl⟩
theorem Sees.thaw (H : Heap) : Sees (H.map Blk.freeze) H := by
  intro b sz cs own e
  rw [List.getElem?_map, Option.map_eq_some_iff] at e
  obtain ⟨x, hx, e⟩ := e
  cases x with
  | map es => simp [Blk.freeze] at e
  | row sz1 cs1 own1 live1 =>
    simp only [Blk.freeze, Blk.row.injEq] at e
    obtain ⟨rfl, rfl, -, rfl⟩ := e
    exact ⟨own1, hx⟩

/-- A call in a drawn region. -/
theorem quiet_some {f : FuncId} {args : List Value} {H H1 : Heap} {v : Value} (h : big T f args (H.map Blk.freeze) = some (v, H1)) (he : Ext (H.map Blk.freeze) H1) :
    ∃ K, quiet (big T) f args H = some (v, K) ∧ Ext H K ∧ (∀ b, H.length ≤ b → K[b]? = H1[b]?) ∧ Sees H1 K := by
  have hl := he.len
  simp only [List.length_map] at hl
  have hnew : ∀ b, H.length ≤ b → (H ++ (H1.drop H.length).map Blk.left)[b]? = H1[b]? := by
    intro b hb
    rw [List.getElem?_append_right hb, List.getElem?_map, List.getElem?_drop, show H.length + (b - H.length) = b by omega]
    cases e : H1[b]? with
    | none => rfl
    | some X => simp only [Option.map_some]; rw [he.new b X (by simpa using hb) e]
  have hold : ∀ b, b < H.length → (H ++ (H1.drop H.length).map Blk.left)[b]? = H[b]? := fun b hb => List.getElem?_append_left hb
  refine ⟨H ++ (H1.drop H.length).map Blk.left, by unfold quiet; rw [h]; rfl, ⟨by simp, hold, ?_⟩, hnew, ?_⟩
  · intro b X hb e
    rw [hnew b hb] at e
    exact he.new b X (by simpa using hb) e
  · intro b sz cs own e
    rcases Nat.lt_or_ge b H.length with q | q
    · rw [hold b q]
      have := he.old b (by simpa using q)
      rw [this] at e
      exact Sees.thaw H b sz cs own e
    · rw [hnew b q]; exact ⟨own, e⟩

/-! ### Reading -/

theorem readCells_sees {H K : Heap} (h : Sees H K) {b o n : Nat} {cs : List Value} (e : readCells H b o n = some cs) : readCells K b o n = some cs := by
  unfold readCells at *
  split at e
  · rename_i sz c own hb
    obtain ⟨o1, h1⟩ := h _ _ _ _ hb
    rw [h1]; exact e
  · simp at e
theorem szAt_sees {H K : Heap} (h : Sees H K) {b sz : Nat} (e : szAt H b = some sz) : szAt K b = some sz := by
  unfold szAt at *
  split at e
  · rename_i sz c own hb
    obtain ⟨o1, h1⟩ := h _ _ _ _ hb
    rw [h1]; exact e
  · simp at e

/-- From this address on lie these elements. -/
def Cells (H : Heap) (sz : Nat) (a : Option Addr) (es : List (List Value)) : Prop :=
  es = [] ∨ ∃ b o, a = some ⟨b, o, none⟩ ∧ szAt H b = some sz ∧ ∀ i e, es[i]? = some e → readCells H b (o + i * sz) sz = some e

/-- A slice and its elements. -/
def Sl (H : Heap) (sz : Nat) (v : Value) (es : List (List Value)) : Prop := ∃ a c, v = .slice a es.length c ∧ es.length ≤ c ∧ Cells H sz a es

theorem Cells.sees {H K : Heap} (h : Sees H K) {sz : Nat} {a : Option Addr} {es : List (List Value)} (e : Cells H sz a es) : Cells K sz a es := by
  rcases e with rfl | ⟨b, o, rfl, h1, h2⟩
  · exact .inl rfl
  · exact .inr ⟨b, o, rfl, szAt_sees h h1, fun i e he => readCells_sees h (h2 i e he)⟩
theorem Sl.sees {H K : Heap} (h : Sees H K) {sz : Nat} {v : Value} {es : List (List Value)} (e : Sl H sz v es) : Sl K sz v es := by
  obtain ⟨a, c, rfl, hc, h1⟩ := e
  exact ⟨a, c, rfl, hc, h1.sees h⟩
theorem Sl.nil (H : Heap) (sz : Nat) : Sl H sz (.slice none 0 0) [] := ⟨none, 0, rfl, Nat.le_refl _, .inl rfl⟩

theorem Cells.lt {H : Heap} {sz : Nat} {a : Option Addr} {es : List (List Value)} (h : Cells H sz a es) {i : Nat} (hi : i < es.length) :
    ∃ b o, a = some ⟨b, o, none⟩ ∧ szAt H b = some sz ∧ ∀ i e, es[i]? = some e → readCells H b (o + i * sz) sz = some e := by
  rcases h with rfl | h
  · simp at hi
  · exact h

/-- A row of cells holds elements of a size. -/
theorem flat_get {es : List (List Value)} {sz : Nat} (hs : ∀ e ∈ es, e.length = sz) : ∀ {i : Nat} {e : List Value}, es[i]? = some e → i * sz + sz ≤ es.flatten.length ∧ (es.flatten.drop (i * sz)).take sz = e := by
  induction es with
  | nil => intro i e h; simp at h
  | cons x es ih =>
    intro i e h
    have hx := hs x List.mem_cons_self
    cases i with
    | zero =>
      simp at h; subst h
      refine ⟨by simp; omega, ?_⟩
      simp [← hx]
    | succ i =>
      obtain ⟨h1, h2⟩ := ih (fun e he => hs e (List.mem_cons_of_mem _ he)) (i := i) (e := e) (by simpa using h)
      refine ⟨by rw [List.flatten_cons, List.length_append, Nat.succ_mul]; omega, ?_⟩
      rw [List.flatten_cons, Nat.succ_mul, List.drop_append, List.drop_of_length_le (by omega), hx, show i * sz + sz - sz = i * sz by omega]
      simpa using h2
theorem flat_len {es : List (List Value)} {sz : Nat} (hs : ∀ e ∈ es, e.length = sz) : es.flatten.length = es.length * sz := by
  induction es with
  | nil => simp
  | cons x es ih =>
    have hx := hs x List.mem_cons_self
    simp [ih (fun e he => hs e (List.mem_cons_of_mem _ he)), Nat.succ_mul, hx]; omega

theorem Cells.row {H : Heap} {b sz : Nat} {own : Bool} {es : List (List Value)} (hs : ∀ e ∈ es, e.length = sz) (h : H[b]? = some (.row sz es.flatten own true)) : Cells H sz (some ⟨b, 0, none⟩) es := by
  refine .inr ⟨b, 0, rfl, by simp [szAt, h], fun i e he => ?_⟩
  obtain ⟨h1, h2⟩ := flat_get hs he
  simp only [readCells, h, Nat.zero_add, if_pos h1, h2]

/-- Elements in cells that lie together. -/
theorem Cells.all {H : Heap} {sz : Nat} {b o : Nat} : ∀ {es : List (List Value)}, (∀ e ∈ es, e.length = sz) → (∀ i e, es[i]? = some e → readCells H b (o + i * sz) sz = some e) → es ≠ [] → readCells H b o (es.length * sz) = some es.flatten := by
  intro es hs hr hne
  have hlast := hr (es.length - 1) (es.getLast hne) (by rw [List.getLast_eq_getElem]; exact List.getElem?_eq_getElem _)
  unfold readCells at hlast ⊢
  split at hlast
  · rename_i sz1 cs own hb
    have hpos : 0 < es.length := List.length_pos_iff.2 hne
    have hle : o + es.length * sz ≤ cs.length := by
      split at hlast
      · rename_i q
        have : (es.length - 1) * sz + sz = es.length * sz := by rw [← Nat.succ_mul]; congr 1; omega
        omega
      · simp at hlast
    simp only [hle, if_true, Option.some.injEq]
    clear hlast hne
    have hr' : ∀ i e, es[i]? = some e → (cs.drop (o + i * sz)).take sz = e := by
      intro i e he
      have := hr i e he
      unfold readCells at this
      rw [hb] at this
      simp only at this
      split at this
      · simpa using this
      · simp at this
    clear hr hb hpos
    induction es generalizing o with
    | nil => simp
    | cons x es ih =>
      have h0 := hr' 0 x rfl
      have hx := hs x List.mem_cons_self
      have := ih (o := o + sz) (fun e he => hs e (List.mem_cons_of_mem _ he)) (by simp [Nat.succ_mul] at hle; omega) (fun i e he => by have := hr' (i + 1) e (by simpa using he); rw [Nat.succ_mul] at this; rw [← this]; congr 2; omega)
      rw [List.flatten_cons, List.length_cons, Nat.succ_mul, Nat.add_comm (es.length * sz), List.take_add]
      simp only [Nat.zero_mul, Nat.add_zero] at h0
      rw [h0, List.drop_drop, this]
  · simp at hlast

/-- What an append takes from a slice. -/
theorem Cells.src {H : Heap} {sz : Nat} {a : Option Addr} {es : List (List Value)} (h : Cells H sz a es) (hs : ∀ e ∈ es, e.length = sz) : (a = none ∨ ∃ b o, a = some ⟨b, o, none⟩) → srcCells H a es.length sz = some es.flatten := by
  intro ha
  rcases h with rfl | ⟨b, o, rfl, h1, h2⟩
  · rcases ha with rfl | ⟨b, o, rfl⟩ <;> simp [srcCells]
  · by_cases hne : es = []
    · subst hne; simp [srcCells]
    · have : es.length ≠ 0 := by simpa using hne
      simp only [srcCells, this, if_false]
      exact Cells.all hs h2 hne

/-! ### Slices under way -/

/-- A slice that is being appended to: no block yet, or block p, of which the call is the only owner. -/
def Acc (H : Heap) (lo sz : Nat) (v : Value) (es : List (List Value)) (p : Nat) : Prop :=
  (∀ e ∈ es, e.length = sz) ∧ ((es = [] ∧ v = .slice none 0 0) ∨ (v = .slice (some ⟨p, 0, none⟩) es.length unk ∧ lo ≤ p ∧ H[p]? = some (.row sz es.flatten true true)))

theorem Acc.nil (H : Heap) (lo sz p : Nat) : Acc H lo sz (.slice none 0 0) [] p := ⟨by simp, .inl ⟨rfl, rfl⟩⟩

theorem Acc.sl {H : Heap} {lo sz p : Nat} {v : Value} {es : List (List Value)} (h : Acc H lo sz v es p) (hl : es.length ≤ unk) : Sl H sz v es := by
  obtain ⟨hs, ⟨rfl, rfl⟩ | ⟨rfl, h1, h2⟩⟩ := h
  · exact Sl.nil _ _
  · exact ⟨_, _, rfl, hl, Cells.row hs h2⟩

theorem Acc.keep {H K : Heap} {lo sz p : Nat} {v : Value} {es : List (List Value)} (h : Acc H lo sz v es p) (hk : ∀ b X, H[b]? = some X → b = p → K[b]? = some X) : Acc K lo sz v es p := by
  obtain ⟨hs, ⟨rfl, rfl⟩ | ⟨rfl, h1, h2⟩⟩ := h
  · exact Acc.nil _ _ _ _
  · exact ⟨hs, .inr ⟨rfl, h1, hk p _ h2 rfl⟩⟩

/-- The types that an append is about. -/
structure SliceTy (T : Tab) (t e : TypeId) (i ei : TI) : Prop where
  t : T.T t = some i
  d : i.desc = .slice e
  e : T.T e = some ei
  pos : 0 < ei.size ∧ 0 < ei.bytes

/-- What an append changes. -/
structure Grow (lo p p1 : Nat) (H H1 : Heap) : Prop where
  ext : ∀ H0 : Heap, H0.length = lo → Ext H0 H → Ext H0 H1
  same : ∀ b, b < H.length → b < lo ∨ b ≠ p → H1[b]? = H[b]?
  len : H.length ≤ H1.length
  at_ : p1 = p ∨ H.length ≤ p1

theorem push_app {H : Heap} {t e : TypeId} {i ei : TI} (ty : SliceTy T t e i ei) {lo p : Nat} {v : Value} {es xs : List (List Value)} {a2 : Option Addr} {c2 : Nat} (h : Acc H lo ei.size v es p)
    (hsrc : srcCells H a2 xs.length ei.size = some xs.flatten) (hx : ∀ e ∈ xs, e.length = ei.size ∧ e.all oneCell = true) (hb : (es.length + xs.length) * ei.bytes ≤ 2 ^ 40) (hn : es.length + xs.length ≤ 2 ^ 40) (hlo : lo ≤ H.length) :
    ∃ v1 H1 p1, vAppend T H t v (.slice a2 xs.length c2) = some (v1, H1) ∧ Acc H1 lo ei.size v1 (es ++ xs) p1 ∧ Grow lo p p1 H H1 := by
  obtain ⟨hs, hv⟩ := h
  have hone : xs.flatten.all oneCell = true := by
    simp only [List.all_eq_true, List.mem_flatten]
    rintro v ⟨l, hl, hv⟩
    exact List.all_eq_true.1 (hx l hl).2 v hv
  have hall : ∀ e ∈ es ++ xs, e.length = ei.size := by
    intro e he
    rcases List.mem_append.1 he with q | q
    · exact hs e q
    · exact (hx e q).1
  rcases hv with ⟨rfl, rfl⟩ | ⟨rfl, h1, h2⟩
  · unfold vAppend
    simp only [ty.t, ty.d, ty.e, Option.bind_eq_bind, Option.bind_some, List.length_nil, Nat.zero_add] at hb hn ⊢
    have hc : 0 < ei.size ∧ 0 < ei.bytes ∧ xs.length * ei.bytes ≤ 2 ^ 40 ∧ xs.length ≤ 2 ^ 40 := ⟨ty.pos.1, ty.pos.2, hb, hn⟩
    simp only [if_pos hc, hsrc, Option.bind_some, hone, if_true, and_self]
    by_cases hx0 : xs = []
    · subst hx0
      exact ⟨_, _, p, rfl, Acc.nil _ _ _ _, fun _ _ h => h, fun b _ _ => rfl, Nat.le_refl _, .inl rfl⟩
    · have hx1 : xs.length ≠ 0 := by simpa using hx0
      simp only [if_neg hx1]
      exact ⟨.slice (some ⟨H.length, 0, none⟩) xs.length unk, _, H.length, rfl, ⟨hall, .inr ⟨by simp, hlo, by simp⟩⟩, fun _ _ h => h.row _ _, fun b hb _ => List.getElem?_append_left hb, by simp, .inr (Nat.le_refl _)⟩
  · have hlt : p < H.length := (List.getElem?_eq_some_iff.1 h2).1
    unfold vAppend
    simp only [ty.t, ty.d, ty.e, Option.bind_eq_bind, Option.bind_some]
    have hc : 0 < ei.size ∧ 0 < ei.bytes ∧ (es.length + xs.length) * ei.bytes ≤ 2 ^ 40 ∧ es.length + xs.length ≤ 2 ^ 40 := ⟨ty.pos.1, ty.pos.2, hb, hn⟩
    have hu : ¬ (es.length = 0 ∧ unk = 0) := by simp [unk]
    have hfl := flat_len hs
    have hle : 0 + es.length * ei.size ≤ es.flatten.length := by rw [hfl]; omega
    simp only [if_pos hc, hsrc, Option.bind_some, hone, if_true, if_neg hu, h2, true_and, hle]
    refine ⟨.slice (some ⟨H.length, 0, none⟩) (es.length + xs.length) unk, _, H.length, rfl, ⟨hall, .inr ⟨by simp, hlo, ?_⟩⟩, ?_, ?_, by simp, .inr (Nat.le_refl _)⟩
    · rw [getElem?_snoc, if_pos (by simp)]
      simp only [List.drop_zero, ← hfl, List.take_length, List.flatten_append]
    · intro H0 hl h
      exact Ext.row (Ext.set h (X := .row ei.size es.flatten true false) rfl (by omega)) _ _
    · intro b hb hne
      have : p ≠ b := by rcases hne with q | q <;> omega
      rw [List.getElem?_append_left (by simpa using hb), List.getElem?_set_ne this]

end Go.Proofs.Ytdhbclplondmjaa.C

end
