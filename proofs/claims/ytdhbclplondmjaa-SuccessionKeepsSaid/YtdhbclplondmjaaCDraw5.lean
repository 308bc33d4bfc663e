/- Drawn regions, fifth part: the region's law. -/
import Derived.Test.YtdhbclplondmjaaCDraw4
set_option linter.unusedVariables false
set_option linter.unusedSimpArgs false
namespace Go.Proofs.Ytdhbclplondmjaa.C
open Go.RowKit

variable {P : Program} {T : Tab} {base : Nat} {F : Nat → Prop}

section
variable {call : CallF} {ops : Array Oper} {ord : List Nat} {st : Nat → List Value × Heap} {μ0 μ : Mu} {a0 a : Act} {w0 w : World} {listed : Array Bool} {hc : Nat → Option Blk}

/-- Whatever is ready may run. -/
theorem Mid.run (ag : Agree P T) (hm : ∀ t n f e, T.meth t n = some (f, e) → MethOk P t n f e) (hcall : SoundCall P call) (ht : Traced T call ops ord st) (chk : Chk ops ord) (hfree : Free μ0 (st 0).2.length (st ops.size).2.length)
    (M : Mid base F ops ord st μ0 a0 w0 listed a w μ hc) {i : Nat} (hi : i ∈ Region.ready .any ops listed) {K : Act → World → Prop} {Q : Exit → Act → World → Prop}
    (hK : ∀ a' w' μ' hc', Mid base F ops ord st μ0 a0 w0 (listed.setIfInBounds i true) a' w' μ' hc' → K a' w') : wpOp P ops Q i K a w := by
  obtain ⟨hun, o, ho, hrdy⟩ := mem_ready.1 hi
  have hisz : i < ops.size := (Array.getElem?_eq_some_iff.1 ho).1
  have hil : i < listed.size := by rw [M.size]; exact hisz
  have hnot : listed.getD i false = false := by
    rw [Array.getD_eq_getD_getElem?, Array.getElem?_eq_getElem hil] at hun ⊢
    exact hun
  obtain ⟨p0, hpn, hp0⟩ := chk.cover i hisz
  obtain ⟨o2, ho2, he⟩ := ht p0 i hp0
  rw [ho] at ho2
  simp only [Option.some.injEq] at ho2
  subst ho2
  have before : ∀ q j oj, q < p0 → ord[q]? = some j → ops[j]? = some oj → clash ops oj o = true → listed.getD j false = true := fun q j oj hq hj hoj hcl =>
    reach_listed M.closed (chk.clash q p0 j i oj o hq hj hp0 hoj ho hcl) fun o2 e2 h1 h2 h3 => by
      rw [ho] at h1
      simp only [Option.some.injEq] at h1
      subst h1
      exact hrdy e2 h2 h3
  have later : ∀ q j oj, p0 < q → ord[q]? = some j → ops[j]? = some oj → clash ops o oj = true → listed.getD j false = false := by
    intro q j oj hq hj hoj hcl
    cases hd : listed.getD j false with
    | false => rfl
    | true =>
      have := reach_listed M.closed (chk.clash p0 q i j o oj hq hp0 hj ho hoj hcl) fun o2 e2 h1 h2 h3 => M.closed j o2 e2 hd h1 h2 h3
      rw [hnot] at this; simp at this
  -- what the operation looks at is there
  have slot : ∀ t, t ∈ readsOf ops o → VR μ ((st p0).1.getD t undef) (a.tmps.getD t undef) := by
    intro t htm
    refine M.slots t p0 (by omega) fun q j oj hq hoj hdj => ?_
    rcases Nat.lt_trichotomy q p0 with h | h | h
    · have := before q j oj h hq hoj (by
        have : (oj.dst.toList.any fun d => (namesOf ops o).contains d) = true := by simp [hdj, namesOf, htm]
        unfold clash
        rw [this]
        simp only [Bool.true_or, Bool.or_true])
      simp [this, h]
    · subst h
      rw [hp0] at hq
      simp only [Option.some.injEq] at hq
      subst hq
      simp [hnot]
    · have := later q j oj h hq hoj (by
        have : (oj.dst.toList.any fun d => (namesOf ops o).contains d) = true := by simp [hdj, namesOf, htm]
        unfold clash
        rw [this]
        simp only [Bool.true_or, Bool.or_true])
      rw [this]
      simp; omega
  have hsr : SR μ (only (readsOf ops o) (st p0).1) a.tmps := by
    refine SR.of_getD ?_ fun t => ?_
    · rw [only_length, M.tmps, ht.slen chk (q := p0) (by omega)]
    · rw [only_getD]
      split
      · rename_i h; exact slot t (by simpa using h)
      · exact .undef _
  -- the memory that it is evaluated in
  have hvalid : pureOp o.op = false → Sub μ (st p0).2 hc := by
    intro hh
    refine M.subs p0 (by omega) ?_ ?_
    · intro q j oj h1 h2 h3 h4
      exact before q j oj h3 h1 h2 (by simp [clash, h4, hh])
    · intro q j oj h1 h2 h3 h4
      rcases Nat.lt_or_ge p0 q with h | h
      · exact later q j oj h h1 h2 (by simp [clash, h4, hh])
      · have : q = p0 := by omega
        subst this
        rw [hp0] at h1
        simp only [Option.some.injEq] at h1
        subst h1
        exact hnot
  have hfr : pureOp o.op = false → Free μ (st p0).2.length (st (p0 + 1)).2.length := by
    intro hh b h1 h2
    have hl0 : (st 0).2.length ≤ (st p0).2.length := ht.mono chk (Nat.zero_le _) (by omega)
    have hl1 : (st (p0 + 1)).2.length ≤ (st ops.size).2.length := ht.mono chk (by omega) (Nat.le_refl _)
    cases hμ : μ b with
    | none => rfl
    | some l =>
      exfalso
      obtain ⟨q, j, hq, hd, h3, h4⟩ := M.made b (by omega) (by omega) (by rw [hμ]; simp)
      have hqn : q < ops.size := by rw [← chk.len]; exact (List.getElem?_eq_some_iff.1 hq).1
      rcases Nat.lt_trichotomy q p0 with h | h | h
      · have := ht.mono chk (p := q + 1) (q := p0) (by omega) (by omega)
        omega
      · subst h
        rw [hp0] at hq
        simp only [Option.some.injEq] at hq
        subst hq
        rw [hnot] at hd; simp at hd
      · have := ht.mono chk (p := p0 + 1) (q := q) (by omega) (by omega)
        omega
  have hmoves := evalOne_moves (s1 := (st (p0 + 1)).1) (H1 := (st (p0 + 1)).2) he
  unfold wpOp
  simp only [ho]
  unfold evalOne at he
  have hgd := only_guard (ops := ops) (o := o) (st p0).1
  split at he
  · rename_i hg
    rw [hg] at hgd
    rw [guard_ok hsr hgd, if_pos rfl]
    split at he
    · simp at he
    · rw [Option.map_eq_some_iff] at he
      obtain ⟨⟨v, H2⟩, hx, he⟩ := he
      have h1 : (st (p0 + 1)).1 = put (st p0).1 o.dst v := by rw [← he]
      have h2 : (st (p0 + 1)).2 = H2 := by rw [← he]
      have hx' : evalOp T (quiet call) (only (readsOf ops o) (st p0).1) (st p0).2 o.op = some (v, H2) := by
        rw [evalOp_congr (only_ev (ops := ops) (st p0).1)]; exact hx
      refine .inl ?_
      cases hh : pureOp o.op with
      | true =>
        have hs0 : Sub μ [] hc := fun b x hb => by simp at hb
        refine evalOp_wp ag hm (quiet_sound hcall) (evalOp_pure hh hx' []) (M.mem.guarded hs0) (fun b _ hb => by simp at hb) hsr.evals fun v' w' μ' g hv => ?_
        exact hK _ _ _ _ (Mid.next ht chk hfree M hp0 ho hnot hrdy h1 (.inl ⟨hh, rfl, rfl⟩) hs0 (fun b _ hb => by simp at hb) g hv)
      | false =>
        have hs0 := hvalid hh
        have hf0 := hfr hh
        subst h2
        refine evalOp_wp ag hm (quiet_sound hcall) hx' (M.mem.guarded hs0) hf0 hsr.evals fun v' w' μ' g hv => ?_
        exact hK _ _ _ _ (Mid.next ht chk hfree M hp0 ho hnot hrdy h1 (.inr ⟨hh, rfl, rfl⟩) hs0 hf0 g hv)
  · rename_i hg
    rw [hg] at hgd
    rw [guard_ok hsr hgd]
    simp only [Option.some.injEq] at he
    have h1 : (st (p0 + 1)).1 = put (st p0).1 o.dst (.chan none) := by rw [← he]
    have h2 : (st (p0 + 1)).2 = (st p0).2 := by rw [← he]
    simp only [Bool.false_eq_true, if_false]
    cases hh : pureOp o.op with
    | true =>
      have hs0 : Sub μ [] hc := fun b x hb => by simp at hb
      exact hK _ _ _ _ (Mid.next ht chk hfree M hp0 ho hnot hrdy h1 (.inl ⟨hh, rfl, rfl⟩) hs0 (fun b _ hb => by simp at hb) (Goes.refl (M.mem.guarded hs0)) .skip)
    | false =>
      have hs0 := hvalid hh
      have g0 : Goes base (Guarded F μ hc (st p0).2) μ μ (st p0).2 (st (p0 + 1)).2 w w := by
        rw [h2]
        exact Goes.refl (M.mem.guarded hs0)
      exact hK _ _ _ _ (Mid.next ht chk hfree M hp0 ho hnot hrdy h1 (.inr ⟨hh, rfl, rfl⟩) hs0 (hfr hh) g0 .skip)
  · simp at he

theorem countP_lt {α : Type} {p q : α → Bool} : ∀ {l : List α}, (∀ x ∈ l, q x = true → p x = true) → (∃ x ∈ l, p x = true ∧ q x = false) → l.countP q < l.countP p
  | [], _, h => by obtain ⟨x, hx, _⟩ := h; simp at hx
  | y :: l, h, hex => by
    have hle : l.countP q ≤ l.countP p := List.countP_mono_left fun x hx => h x (List.mem_cons_of_mem _ hx)
    have hy := h y List.mem_cons_self
    rw [List.countP_cons, List.countP_cons]
    by_cases hpy : p y = true
    · by_cases hqy : q y = true
      · simp only [hpy, hqy, if_true]
        have : ∃ x ∈ l, p x = true ∧ q x = false := by
          obtain ⟨x, hx, h1, h2⟩ := hex
          rcases List.mem_cons.1 hx with rfl | hx
          · rw [hqy] at h2; simp at h2
          · exact ⟨x, hx, h1, h2⟩
        have := countP_lt (fun x hx => h x (List.mem_cons_of_mem _ hx)) this
        omega
      · simp only [hpy, hqy, if_true]
        simp; omega
    · have hqy : ¬ q y = true := fun q => hpy (hy q)
      simp only [hpy, hqy]
      have : ∃ x ∈ l, p x = true ∧ q x = false := by
        obtain ⟨x, hx, h1, h2⟩ := hex
        rcases List.mem_cons.1 hx with rfl | hx
        · exact absurd h1 hpy
        · exact ⟨x, hx, h1, h2⟩
      have := countP_lt (fun x hx => h x (List.mem_cons_of_mem _ hx)) this
      simpa using this

def open_ (ops : Array Oper) (listed : Array Bool) : Nat := (List.range ops.size).countP fun i => !(listed.getD i false)

/-- If nothing is ready, all have come up. -/
theorem Mid.all (ht : Traced T call ops ord st) (chk : Chk ops ord) (M : Mid base F ops ord st μ0 a0 w0 listed a w μ hc) (hr : Region.ready .any ops listed = []) : ∀ p i : Nat, ord[p]? = some i → listed.getD i false = true := by
  intro p
  induction p using Nat.strongRecOn with
  | _ p ih =>
    intro i hp
    cases hd : listed.getD i false with
    | true => rfl
    | false =>
      exfalso
      obtain ⟨o, ho, _⟩ := ht p i hp
      have hisz := chk.lt p i hp
      have hil : i < listed.size := by rw [M.size]; exact hisz
      have : i ∈ Region.ready .any ops listed := by
        rw [mem_ready]
        refine ⟨?_, o, ho, fun e he hb => ?_⟩
        · rw [Array.getD_eq_getD_getElem?, Array.getElem?_eq_getElem hil] at hd ⊢
          exact hd
        · obtain ⟨q, hq, hqe⟩ := chk.edge p i o e hp ho he hb
          exact ih q hq e.on hqe
      rw [hr] at this; simp at this

theorem Mid.done (ht : Traced T call ops ord st) (chk : Chk ops ord) (M : Mid base F ops ord st μ0 a0 w0 listed a w μ hc) (hr : Region.ready .any ops listed = []) :
    Goes base F μ0 μ (st 0).2 (st ops.size).2 w0 w ∧ SR μ (st ops.size).1 a.tmps ∧ a.defers = a0.defers := by
  have hall := M.all ht chk hr
  have hlt : ∀ {q j : Nat}, ord[q]? = some j → q < ops.size := fun h => by rw [← chk.len]; exact (List.getElem?_eq_some_iff.1 h).1
  refine ⟨⟨M.le, M.same, M.mem.toHR (M.subs ops.size (Nat.le_refl _) (fun q j oj h1 _ _ _ => hall q j h1) (fun q j oj h1 _ h3 _ => absurd (hlt h1) (by omega))), M.fr, ht.mono chk (Nat.zero_le _) (Nat.le_refl _)⟩, ?_, M.defers⟩
  refine SR.of_getD (by rw [M.tmps, ht.slen chk (Nat.le_refl _)]) fun t => M.slots t ops.size (Nat.le_refl _) fun q j oj hq _ _ => ?_
  simp [hall q j hq, hlt hq]

theorem Mid.any (ag : Agree P T) (hm : ∀ t n f e, T.meth t n = some (f, e) → MethOk P t n f e) (hcall : SoundCall P call) (ht : Traced T call ops ord st) (chk : Chk ops ord) (hfree : Free μ0 (st 0).2.length (st ops.size).2.length) {Q : Exit → Act → World → Prop}
    (hQ : ∀ a' w' μ', Goes base F μ0 μ' (st 0).2 (st ops.size).2 w0 w' → SR μ' (st ops.size).1 a'.tmps → a'.defers = a0.defers → Q .normal a' w') :
    ∀ (fuel : Nat) (listed : Array Bool) (a : Act) (w : World) (μ : Mu) (hc : Nat → Option Blk), Mid base F ops ord st μ0 a0 w0 listed a w μ hc → open_ ops listed ≤ fuel → wpAny P .any ops Q fuel listed a w
  | 0, listed, a, w, μ, hc, M, hle => by
    have hr : Region.ready .any ops listed = [] := by
      apply List.eq_nil_iff_forall_not_mem.2
      intro i hi
      obtain ⟨hun, o, ho, _⟩ := mem_ready.1 hi
      have hisz : i < ops.size := (Array.getElem?_eq_some_iff.1 ho).1
      have hil : i < listed.size := by rw [M.size]; exact hisz
      have : listed.getD i false = false := by
        rw [Array.getD_eq_getD_getElem?, Array.getElem?_eq_getElem hil] at hun ⊢
        exact hun
      have h0 : open_ ops listed = 0 := by omega
      rw [open_, List.countP_eq_zero] at h0
      have := h0 i (List.mem_range.2 hisz)
      simp_all
    obtain ⟨h1, h2, h3⟩ := M.done ht chk hr
    exact ⟨hr, hQ a w μ h1 h2 h3⟩
  | fuel + 1, listed, a, w, μ, hc, M, hle => by
    refine ⟨fun hr => ?_, fun i hi => ?_⟩
    · obtain ⟨h1, h2, h3⟩ := M.done ht chk hr
      exact hQ a w μ h1 h2 h3
    · refine M.run ag hm hcall ht chk hfree hi fun a' w' μ' hc' M' => ?_
      refine Mid.any ag hm hcall ht chk hfree hQ fuel _ a' w' μ' hc' M' ?_
      obtain ⟨hun, o, ho, _⟩ := mem_ready.1 hi
      have hisz : i < ops.size := (Array.getElem?_eq_some_iff.1 ho).1
      have hil : i < listed.size := by rw [M.size]; exact hisz
      have hnot : listed.getD i false = false := by
        rw [Array.getD_eq_getD_getElem?, Array.getElem?_eq_getElem hil] at hun ⊢
        exact hun
      have : open_ ops (listed.setIfInBounds i true) < open_ ops listed := by
        refine countP_lt (fun x _ hx => ?_) ⟨i, List.mem_range.2 hisz, by simp [hnot], ?_⟩
        · cases h : listed.getD x false with
          | false => rfl
          | true => rw [(listed_set (j := x) hil).2 (.inl h)] at hx; simp at hx
        · rw [(listed_set (j := i) hil).2 (.inr rfl)]; rfl
      omega

end

/-- Whatever order is drawn. -/
theorem draw_any (ag : Agree P T) (hm : ∀ t n f e, T.meth t n = some (f, e) → MethOk P t n f e) {ops : Array Oper} (hchk : drawChk ops (orderOf ops) = true) (call : CallF) (hcall : SoundCall P call) {base : Nat} {F : Nat → Prop} {μ : Mu} {s s1 : List Value} {H H1 : Heap} {w : World} {a : Act}
    (he : evalIdx T (quiet call) true ops (orderOf ops) s H = some (s1, H1)) (h : HR base F μ H w) (hs : SR μ s a.tmps) (hfree : Free μ H.length H1.length) :
    wpAny P .any ops (fun e a' w' => e = .normal ∧ After base F μ H s1 H1 a w a' w') ops.size (Array.replicate ops.size false) a { w with drawn := w.drawn + 1 } := by
  have chk := drawChk_spec hchk
  obtain ⟨st, h0, hn, ht⟩ := trace he
  rw [chk.len] at hn
  have e0 : (st 0).2 = H := by rw [h0]
  have e0' : (st 0).1 = s := by rw [h0]
  have en : (st ops.size).2 = H1 := by rw [hn]
  have en' : (st ops.size).1 = s1 := by rw [hn]
  have htr : Traced T call ops (orderOf ops) st := ht
  have hf0 : Free μ (st 0).2.length (st ops.size).2.length := by rw [e0, en]; exact hfree
  have hd0 : ∀ i, (Array.replicate ops.size false).getD i false = false := by
    intro i
    rw [Array.getD_eq_getD_getElem?]
    cases hq : (Array.replicate ops.size false)[i]? with
    | none => rfl
    | some x =>
      have := Array.getElem?_eq_some_iff.1 hq
      obtain ⟨_, hx⟩ := this
      simp at hx
      simp [← hx]
  refine Mid.any (base := base) (F := F) (w0 := w) ag hm hcall htr chk hf0 (a0 := a) (μ0 := μ) ?_ ops.size _ a _ μ (fun b => (st 0).2[b]?) ?_ ?_
  · intro a' w' μ' g hs' hd'
    rw [e0, en] at g
    rw [en'] at hs'
    exact ⟨rfl, μ', g, hs', hd'⟩
  · refine ⟨by simp, fun i o e hd => by rw [hd0] at hd; simp at hd, rfl, by rw [e0']; exact hs.1, ?_, ?_, ?_, ?_, MuLe.refl _, fun _ _ => rfl, Fr.drew⟩
    · intro t p hp hag
      rw [htr.const chk (p := 0) (q := p) (Nat.zero_le _) hp, e0']
      · exact hs.get t
      · intro r i o _ hr hi ho hd
        have := (hag r i o hi ho hd).2 hr
        rw [hd0] at this; simp at this
    · rw [e0]; exact h.drew.toF
    · intro p hp V1 V2 b x hx hl hμ
      have hw := htr.weak chk (p := 0) (q := p) (Nat.zero_le _) hp (fun r i o _ hr hi ho => by
        cases hs : strong o.op with
        | false => rfl
        | true =>
          have := V1 r i o hi ho hr hs
          rw [hd0] at this; simp at this)
      rcases Nat.lt_or_ge b (st 0).2.length with hb | hb
      · exact hw.2 b x hb hx hl
      · have h1 := (List.getElem?_eq_some_iff.1 hx).1
        have h2 := htr.mono chk (p := p) hp (Nat.le_refl _)
        exact absurd (hf0 b hb (by omega)) hμ
    · intro b h1 h2 h3
      exact absurd (hf0 b h1 h2) h3
  · unfold open_
    refine Nat.le_trans List.countP_le_length ?_
    simp

/-- The law of a drawn region. -/
theorem draw_ok (ag : Agree P T) (hm : ∀ t n f e, T.meth t n = some (f, e) → MethOk P t n f e) (hmix : P.follows .mixedOrders = true) {ops : Array Oper} (hchk : drawChk ops (orderOf ops) = true) : DrawOk P T ops :=
  fun _ call hcall _ _ _ _ _ _ _ _ _ he h hs hfree => wp_region_any hmix (draw_any ag hm hchk call hcall he h hs hfree)

end Go.Proofs.Ytdhbclplondmjaa.C
