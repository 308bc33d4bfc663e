/- A range over a function, as a whole; functions that hold one. -/
import Derived.Test.YtdhbclplondmjaaCRange
set_option linter.unusedVariables false
set_option linter.unusedSimpArgs false
namespace Go.Proofs.Ytdhbclplondmjaa.C
open Go.RowKit

variable {P : Program} {T : Tab} {base : Nat} {F : Nat → Prop}

/-- A block that is no cells of ours turns. -/
theorem HR.putObj {μ : Mu} {H : Heap} {w : World} (h : HR base F μ H w) {lp : Nat} (o : Obj) (hb : base ≤ lp) (hf : F lp) : HR base F μ H (w.putObj lp o) where
  own b sz cs l hb1 hl := by
    obtain ⟨a, c, d, e⟩ := h.own b sz cs l hb1 hl
    exact ⟨a, c, d, e.mono (MuLe.refl _) (World.putObj_heap_other (fun q => d (q ▸ hf)))⟩
  ro b sz cs l hb1 hl := by
    obtain ⟨a, c, d⟩ := h.ro b sz cs l hb1 hl
    refine ⟨a, c, fun i v hv => ?_⟩
    obtain ⟨v', x, y⟩ := d i v hv
    exact ⟨v', (cell_of_heap (World.putObj_heap_other (by show l.blk ≠ lp; omega))).trans x, y⟩
  maps b es l hb1 hl := by
    obtain ⟨a, c, d⟩ := h.maps b es l hb1 hl
    exact ⟨a, c, d.mono (MuLe.refl _) (World.putObj_heap_other (fun q => c (q ▸ hf)))⟩
  inj := h.inj
  far k hk := by simpa using h.far k hk
  base_le := by simpa using h.base_le

theorem Fr.putObj {w : World} {lp : Nat} (o : Obj) (hb : base ≤ lp) (hf : ¬ F lp) : Fr base F w (w.putObj lp o) :=
  ⟨rfl, rfl, rfl, by simp, fun k hk => World.putObj_heap_other (fun q => hk.elim (fun h => by omega) (fun h => hf (q ▸ h)))⟩

/-- A dead block. -/
theorem HR.dead {μ : Mu} {H : Heap} {w : World} (h : HR base F μ H w) (hfree : μ H.length = none) (l0 : Loc) : HR base F (μ.set H.length l0) (H ++ [.row 0 [] false false]) w := by
  have hm : MuLe μ (μ.set H.length l0) := Mu.le_set hfree
  have key : ∀ {b : Nat} {x : Blk} {l : Loc}, (H ++ [Blk.row 0 [] false false])[b]? = some x → (μ.set H.length l0) b = some l → (b = H.length ∧ x = .row 0 [] false false) ∨ (H[b]? = some x ∧ μ b = some l) := by
    intro b x l hb hl
    rw [getElem?_snoc] at hb
    by_cases e : b = H.length
    · rw [if_pos e] at hb; simp at hb; exact .inl ⟨e, hb.symm⟩
    · rw [if_neg e] at hb; rw [Mu.set_ne _ _ e] at hl; exact .inr ⟨hb, hl⟩
  refine ⟨?_, ?_, ?_, ?_, h.far, h.base_le⟩
  · intro b sz cs l hb hl
    rcases key hb hl with ⟨_, hx⟩ | ⟨hb, hl⟩
    · simp at hx
    · obtain ⟨a, c, d, e⟩ := h.own b sz cs l hb hl
      exact ⟨a, c, d, e.mono hm rfl⟩
  · intro b sz cs l hb hl
    rcases key hb hl with ⟨_, hx⟩ | ⟨hb, hl⟩
    · simp at hx
    · obtain ⟨a, c, d⟩ := h.ro b sz cs l hb hl
      exact ⟨a, c, fun i v hv => let ⟨v', x, y⟩ := d i v hv; ⟨v', x, y.mono hm⟩⟩
  · intro b es l hb hl
    rcases key hb hl with ⟨_, hx⟩ | ⟨hb, hl⟩
    · simp at hx
    · obtain ⟨a, c, d⟩ := h.maps b es l hb hl
      exact ⟨a, c, d.mono hm rfl⟩
  · intro b b' k k' l l' hb hb' hk hk' hne hl hl'
    rcases key hb hl with ⟨_, hx⟩ | ⟨hb, hl⟩
    · subst hx; simp [Blk.mine] at hk
    · rcases key hb' hl' with ⟨_, hx⟩ | ⟨hb', hl'⟩
      · subst hx; simp [Blk.mine] at hk'
      · exact h.inj b b' k k' l l' hb hb' hk hk' hne hl hl'

/-- More that is left alone, of what lies behind. -/
theorem HR.wider {μ : Mu} {H : Heap} {w w' : World} (h : HR base F μ H w) (hw : ∀ k, k < w.heap.size → w'.heap[k]? = w.heap[k]?) (hs : w.heap.size ≤ w'.heap.size) (G : Nat → Prop) (hG : ∀ k, G k → w.heap.size ≤ k ∧ k < w'.heap.size) :
    HR base (fun k => F k ∨ G k) μ H w' := by
  have h' := h.world hw hs
  refine ⟨?_, h'.ro, ?_, h'.inj, ?_, h'.base_le⟩
  · intro b sz cs l hb hl
    obtain ⟨a, c, d, e⟩ := h.own b sz cs l hb hl
    refine ⟨a, c, fun q => q.elim d (fun q => ?_), e.mono (MuLe.refl _) (hw _ e.lt)⟩
    have := e.lt
    have := hG _ q
    omega
  · intro b es l hb hl
    obtain ⟨a, c, d⟩ := h.maps b es l hb hl
    refine ⟨a, fun q => q.elim c (fun q => ?_), d.mono (MuLe.refl _) (hw _ d.lt)⟩
    have := d.lt
    have := hG _ q
    omega
  · intro k hk
    exact hk.elim (fun q => h'.far k q) (fun q => (hG k q).2)

theorem SR.putAll {μ : Mu} : ∀ (ts : List Tmp) {vs vs' : List Value} {s : List Value} {t : Array Value}, SR μ s t → VRs μ vs vs' → SR μ (putAll s ts vs) ((ts.zip vs').foldl (fun tmps (x : Tmp × Value) => tmps.setIfInBounds x.1 x.2) t)
  | [], _, _, s, t, h, _ => by simpa [C.putAll] using h
  | x :: ts, _, _, s, t, h, .nil => by simpa [C.putAll] using h
  | x :: ts, _, _, s, t, h, .cons hv ht => by
    simp only [C.putAll, List.zip_cons_cons, List.foldl_cons]
    exact SR.putAll ts (h.put x hv) ht

def recOf (fn : FuncId) (tmps : Array Value) (ps : Array Tmp) (assign body : Code) (D : Nat) : Loop := { state := .ready, pending := none, fn, tmps, params := ps, assign, body, defers := D }

theorem rangeRound_ok {call : CallF} (ag : Agree P T) (hm : ∀ t n f e, T.meth t n = some (f, e) → MethOk P t n f e) (hc : SoundCall P call) (hmix : P.follows .mixedOrders = true) {k n b lp D : Nat} {fn : FuncId} {s : List Value} {tmps : Array Value} {ps : Array Tmp} {assign body : Code} {μ0 : Mu} {L : Loc}
    (h1 : codeChk assign = true) (h2 : calm assign = true) (h3 : codeChk body = true) (h4 : calm body = true) (hs : SR μ0 s tmps) (hlp : base ≤ lp) (hD : base ≤ D) (hne : lp ≠ D) (hFl : ¬ F lp) :
    RoundOk P base F lp D b n (recOf fn tmps ps assign body D) μ0 L (rangeRound T call k s ps assign body) := by
  intro args H H1 hr
  unfold rangeRound at hr
  split at hr
  · rename_i hlen
    split at hr
    · rename_i sA HA eA
      split at hr
      · rename_i sB HB eB
        simp only [Option.some.injEq] at hr
        subst hr
        have l1 := evalC_len hc eA
        have l2 := evalC_len hc eB
        simp only at l1 l2
        refine ⟨Nat.le_trans l1 l2, fun μ w args' hle hh hrec hdf hva hfree => ?_⟩
        have hsz : args'.toArray.size = (recOf fn tmps ps assign body D).params.size := by simp [hva.length, recOf, hlen]
        refine ⟨_, _, _, _, run_yield hrec hsz, ?_⟩
        refine roundIn_of_wpIn trivial ?_
        have hsr : SR μ (putAll s ps.toList args) (((recOf fn tmps ps assign body D).params.zip args'.toArray).foldl (fun tmps (x : Tmp × Value) => tmps.setIfInBounds x.1 x.2) (recOf fn tmps ps assign body D).tmps) := by
          have := SR.putAll ps.toList (hs.mono hle) hva
          rw [← Array.foldl_toList, Array.toList_zip]
          simpa [recOf] using this
        refine wpIn_mono (evalC_in (F := fun k => F k ∨ k = lp ∨ k = D) ag hm hc hmix lp n k h1 h2 eA hh (a := { tmps := _, defers := [] }) hsr (hfree.le l2)) ?_
        rintro x a1 w1 ⟨rfl, μ1, g1, hs1, hd1⟩
        have hrec1 : w1.heap[lp]? = some (.loop (recOf fn tmps ps assign body D)) := (g1.fr.block lp (.inr (.inr (.inl rfl)))).trans hrec
        have hdf1 : w1.heap[D]? = some (.deferred (some [])) := (g1.fr.block D (.inr (.inr (.inr rfl)))).trans hdf
        refine ⟨_, run_beginRound hrec1 rfl, ?_⟩
        have hh2 := g1.hr.putObj (lp := lp) (.loop { recOf fn tmps ps assign body D with state := .busy }) hlp (.inr (.inl rfl))
        refine wpIn_mono (evalC_in (F := fun k => F k ∨ k = lp ∨ k = D) ag hm hc hmix lp n k h3 h4 eB hh2 hs1 (hfree.after g1)) ?_
        rintro x a2 w2 ⟨rfl, μ2, g2, hs2, hd2⟩
        have hlt1 : lp < w1.heap.size := (Array.getElem?_eq_some_iff.1 hrec1).1
        have hrec2 : w2.heap[lp]? = some (.loop { recOf fn tmps ps assign body D with state := .busy }) := (g2.fr.block lp (.inr (.inr (.inl rfl)))).trans (World.putObj_heap_same hlt1)
        have hdf2 : w2.heap[D]? = some (.deferred (some [])) := (g2.fr.block D (.inr (.inr (.inr rfl)))).trans ((World.putObj_heap_other (Ne.symm hne)).trans hdf1)
        have hlt2 : lp < w2.heap.size := (Array.getElem?_eq_some_iff.1 hrec2).1
        refine ⟨_, _, run_endRound none hrec2, rfl, μ2, ?_⟩
        refine ⟨g1.le.trans g2.le, fun b hb => ?_, g2.hr.putObj _ hlp (.inr (.inl rfl)), ?_, Nat.le_trans g1.len g2.len, World.putObj_heap_same hlt2, (World.putObj_heap_other (Ne.symm hne)).trans hdf2⟩
        · have := g1.len
          have := g2.len
          rw [g2.same b (by omega), g1.same b (by omega)]
        · exact (((g1.fr.weaken (fun k hk => .inl hk)).trans (Fr.putObj _ hlp hFl)).trans (g2.fr.weaken (fun k hk => .inl hk))).trans (Fr.putObj _ hlp hFl)
      · simp at hr
    · simp at hr
  · simp at hr

/-- After code that may hold a range over a function: more is left alone; perhaps a mark lies among the deferred calls. -/
def AfterX (base : Nat) (F : Nat → Prop) (μ : Mu) (H : Heap) (s1 : List Value) (H1 : Heap) (a : Act) (w : World) (a' : Act) (w' : World) : Prop :=
  ∃ μ' F', (∀ k, F k → F' k) ∧ MuLe μ μ' ∧ (∀ b, (b < H.length ∨ H1.length ≤ b) → μ' b = μ b) ∧ HR base F' μ' H1 w' ∧ Fr base F w w' ∧ H.length ≤ H1.length ∧ SR μ' s1 a'.tmps ∧
    (a'.defers = a.defers ∨ ∃ D, a'.defers = [{ target := .collected D, args := #[] }] ++ a.defers ∧ F' D ∧ base ≤ D ∧ ¬ F D ∧ w'.heap[D]? = some (.deferred (some [])))

theorem AfterX.of {μ : Mu} {H H1 : Heap} {s1 : List Value} {a a' : Act} {w w' : World} (h : After base F μ H s1 H1 a w a' w') : AfterX base F μ H s1 H1 a w a' w' := by
  obtain ⟨μ', g, hs, hd⟩ := h
  exact ⟨μ', F, fun _ h => h, g.le, g.same, g.hr, g.fr, g.len, hs, .inl hd⟩

theorem rangeRound_len {call : CallF} (hc : SoundCall P call) {k : Nat} {s : List Value} {ps : Array Tmp} {assign body : Code} : ∀ args H H1, rangeRound T call k s ps assign body args H = some H1 → H.length ≤ H1.length := by
  intro args H H1 hr
  unfold rangeRound at hr
  split at hr
  · split at hr
    · rename_i sA HA eA
      split at hr
      · rename_i sB HB eB
        simp only [Option.some.injEq] at hr
        subst hr
        exact Nat.le_trans (evalC_len hc eA) (evalC_len hc eB)
      · simp at hr
    · simp at hr
  · simp at hr

theorem evalRange_len {call : CallF} (hc : SoundCall P call) {k : Nat} {g : Operand} {ps : Array Tmp} {assign body : Code} {s : List Value} {H H1 : Heap} (he : evalRange T call k s H g ps assign body = some H1) : H.length < H1.length := by
  unfold evalRange at he
  split at he
  · split at he
    · split at he
      · split at he
        · split at he
          · rename_i s1 H2 e2
            rw [Option.map_eq_some_iff] at he
            obtain ⟨v, hv, rfl⟩ := he
            have := evalCY_len hc (rangeRound_len hc) e2
            simp at this
            omega
          · rename_i s1 H2 e2
            rw [Option.map_eq_some_iff] at he
            obtain ⟨v, hv, rfl⟩ := he
            have := evalCY_len hc (rangeRound_len hc) e2
            simp at this
            omega
          · simp at he
        · simp at he
      · simp at he
    · simp at he
  · simp at he

theorem evalRange_in {call : CallF} (hF : Fits P T) (hc : SoundCall P call) (hmix : P.follows .mixedOrders = true) {k m : Nat} {g : Operand} {ps : Array Tmp} {assign body : Code} {μ : Mu} {s : List Value} {H H1 : Heap} {w : World} {a : Act}
    (he : evalRange T call k s H g ps assign body = some H1) (hltH : H.length < H1.length) (h : HR base F μ H w) (hs : SR μ s a.tmps) (hfree : Free μ H.length H1.length) :
    (Code.rangeFunc g ps assign body).wpIn Fence.wide (m + 2) P (fun x a' w' => x = .normal ∧ AfterX base F μ H s H1 a w a' w') a w := by
  unfold evalRange at he
  split at he
  · rename_i f first cap hg
    split at he
    · rename_i fn hfn
      split at he
      · rename_i c hb
        split at he
        · rename_i hchk
          simp only [Bool.and_eq_true] at hchk
          obtain ⟨⟨⟨⟨hc0, hc1⟩, hc2⟩, hc3⟩, hc4⟩ := hchk
          have hv := hs.evals g
          rw [hg] at hv
          generalize hρ : a.eval g = gv at hv
          cases hv with
          | func fn0 hfs hcs =>
            rename_i f1 first' c1 cap'
            simp only [List.toList_toArray] at he
            -- the two new blocks
            let D := w.heap.size
            let lp := w.heap.size + 1
            let L : Loc := ⟨lp, 0, 0, 0⟩
            have hcy : ∃ (e : Ex) (s1 : List Value) (v : Value), evalCY T call H.length (rangeRound T call k s ps assign body) k c (startC fn (f1 ++ [Value.chan (some H.length)] ++ c1)) (H ++ [.row 0 [] false false]) = some (e, s1, H1) ∧ (e = Ex.normal ∨ e = Ex.ret) ∧ resultsC T fn s1 H1 = some v := by
              split at he
              · rename_i s1 H2 e2
                rw [Option.map_eq_some_iff] at he
                obtain ⟨v, hv, rfl⟩ := he
                exact ⟨_, _, v, e2, .inl rfl, hv⟩
              · rename_i s1 H2 e2
                rw [Option.map_eq_some_iff] at he
                obtain ⟨v, hv, rfl⟩ := he
                exact ⟨_, _, v, e2, .inr rfl, hv⟩
              · simp at he
            obtain ⟨e, s1, v, he2, hee, hres⟩ := hcy
            have hbD : base ≤ D := h.base_le
            have hblp : base ≤ lp := Nat.le_succ_of_le h.base_le
            have hFD : ¬ F D := fun q => Nat.lt_irrefl _ (h.far _ q)
            have hFlp : ¬ F lp := fun q => by have := h.far _ q; simp [lp] at this; omega
            have hne : lp ≠ D := by simp [lp, D]
            have hlen0 : H.length ≤ H1.length := Nat.le_of_lt hltH
            have hμb : μ H.length = none := hfree _ (Nat.le_refl _) hltH
            have hmle : MuLe μ (μ.set H.length L) := Mu.le_set hμb
            refine wpIn_rangeFunc ?_
            intro fid _
            have hro := rangeRound_ok (base := base) (F := F) (lp := lp) (D := D) (b := H.length) (n := m) (fn := fid) (L := L) hF.ag hF.meth hc hmix (k := k) (s := s) (ps := ps) (assign := assign) (body := body) (μ0 := μ.set H.length L) hc1 hc2 hc3 hc4 (hs.mono hmle) hblp hbD hne hFlp
            have hent := hF.call f (.inl (by simp [hfn]))
            let w1 : World := (w.alloc (.deferred (some []))).alloc (.loop (recOf fid a.tmps ps assign body D))
            let d : Deferred := { target := .fn (.func f) cap'.toArray, args := first'.toArray ++ #[.func (.yield lp) #[] #[]] }
            have hold : ∀ k, k < w.heap.size → w1.heap[k]? = w.heap[k]? := by
              intro k hk
              rw [show w1.heap[k]? = (w.alloc (.deferred (some []))).heap[k]? from Below.heap_alloc _ _ k (by simp; omega)]
              exact Below.heap_alloc _ _ k hk
            have hsz1 : w1.heap.size = w.heap.size + 2 := by simp [w1]
            have hrec1 : w1.heap[lp]? = some (.loop (recOf fid a.tmps ps assign body D)) := by
              have := World.alloc_heap_new (w.alloc (.deferred (some []))) (.loop (recOf fid a.tmps ps assign body D))
              rw [World.size_alloc] at this
              exact this
            have hdf1 : w1.heap[D]? = some (.deferred (some [])) := by
              rw [show w1.heap[D]? = (w.alloc (.deferred (some []))).heap[D]? from Below.heap_alloc _ _ D (by simp [D])]
              exact World.alloc_heap_new w _
            have hh1 : HR base (fun k => F k ∨ k = lp ∨ k = D) (μ.set H.length L) (H ++ [.row 0 [] false false]) w1 := by
              have := h.wider hold (by omega) (fun k => k = lp ∨ k = D) (fun k hk => by rcases hk with rfl | rfl <;> simp [lp, D, hsz1])
              exact this.dead hμb L
            refine ⟨lp, [{ target := .collected w.heap.size, args := #[] }], w1, d, w1, f, first'.toArray ++ #[Value.func (.yield lp) #[] #[]] ++ cap'.toArray, w1, run_enterLoop_outer fid a.tmps ps assign body, ?_, fun _ _ => trivial, ?_, fun q => by simp [Fence.wide] at q, ?_⟩
            · simp [rangeCall, resolve, hρ, Deferred.ofValue, d, lp]
              rfl
            · simp only [d, invoke]
              exact hent _ _
            · show CallsIn Fence.wide (m + 1) P f _ w1 _
              have hargs : VRs (μ.set H.length L) (f1 ++ [Value.chan (some H.length)] ++ c1) (first' ++ [Value.func (.yield lp) #[] #[]] ++ cap') := by
                refine ((hfs.mono hmle).append (.cons ?_ .nil)).append (hcs.mono hmle)
                exact VR.yield (l := L) (Mu.set_same _ _ _)
              have hst := start_ok hargs fn
              have harr : (first'.toArray ++ #[Value.func (.yield lp) #[] #[]] ++ cap'.toArray) = (first' ++ [Value.func (.yield lp) #[] #[]] ++ cap').toArray := by simp
              rw [harr]
              refine callsIn_of_wp (hF.ag.fn f fn hfn) hb trivial ?_ rfl
              refine wpIn_mono (evalCY_wp hF.ag hF.meth hc hro k hc0 he2 (μ := μ.set H.length L) (a := { tmps := _, defers := [] }) ⟨hh1, hrec1, hdf1, MuLe.refl _, Mu.set_same _ _ _, rfl, hst⟩ ?_) ?_
              · intro b hb1 hb2
                simp at hb1
                rw [Mu.set_ne _ _ (by omega)]
                exact hfree b (by omega) hb2
              · rintro x a2 w2 ⟨rfl, μ2, g2, h2, hd2⟩
                obtain ⟨v', hrun, hvv⟩ := results_ok (P := P) hF.ag h2.hr h2.sr hres
                have hlt2 : lp < w2.heap.size := (Array.getElem?_eq_some_iff.1 h2.rec_).1
                have hpost : rangePost Fence.wide (m + 2) P lp (fun x a' w' => x = .normal ∧ AfterX base F μ H s H1 a w a' w') { a with defers := [{ target := .collected w.heap.size, args := #[] }] ++ a.defers } (.returned v') w2 := by
                  refine ⟨none, _, run_endLoop h2.rec_ (by simp [recOf]), rfl, ?_⟩
                  refine ⟨μ2, fun k => F k ∨ k = lp ∨ k = D, fun k hk => .inl hk, hmle.trans g2.le, fun b hb => ?_, h2.hr.putObj _ hblp (.inr (.inl rfl)), ?_, hlen0, hs.mono (hmle.trans g2.le), .inr ⟨D, rfl, .inr (.inr rfl), hbD, hFD, (World.putObj_heap_other (Ne.symm hne)).trans h2.df⟩⟩
                  · have e1 := g2.same b (by simp; omega)
                    rw [e1, Mu.set_ne _ _ (by omega)]
                  · refine (Fr.trans ?_ g2.fr).trans (Fr.putObj _ hblp hFlp)
                    exact ⟨rfl, rfl, rfl, by omega, fun k hk => hold k (hk.elim (fun q => Nat.lt_of_lt_of_le q h.base_le) (h.far k))⟩
                rcases hee with rfl | rfl
                · exact ⟨hd2, v', hrun, hpost⟩
                · exact ⟨hd2, v', hrun, hpost⟩
        · simp at he
      · simp at he
    · simp at he
  · simp at he

theorem hasRange_wide {n : Nat} {c : Code} {Q : Exit → Act → World → Prop} {a : Act} {w : World} (h : c.wp P Q a w) : c.wpIn Fence.wide n P Q a w := wpIn_wide.2 h

theorem evalX_in {call : CallF} (hF : Fits P T) (hc : SoundCall P call) (hmix : P.follows .mixedOrders = true) {k m : Nat} : ∀ {c : Code} {μ : Mu} {s s1 : List Value} {H H1 : Heap} {e : Ex} {w : World} {a : Act},
    evalX T call k c s H = some (e, s1, H1) → H.length ≤ H1.length ∧ (HR base F μ H w → SR μ s a.tmps → Free μ H.length H1.length →
      c.wpIn Fence.wide (m + 2) P (fun x a' w' => x = exOf e ∧ AfterX base F μ H s1 H1 a w a' w') a w)
  | .seq x y, μ, s, s1, H, H1, e, w, a, he => by
    unfold evalX at he
    split at he
    · have key : ∀ {e2 : Ex} {s2 : List Value} {H2 : Heap}, evalX T call k x s H = some (e2, s2, H2) → (e2 = .normal → codeChk y = true ∧ evalC T call k y s2 H2 = some (e, s1, H1)) → (e2 ≠ .normal → e2 = e ∧ s2 = s1 ∧ H2 = H1) →
          H.length ≤ H1.length ∧ (HR base F μ H w → SR μ s a.tmps → Free μ H.length H1.length → (Code.seq x y).wpIn Fence.wide (m + 2) P (fun x a' w' => x = exOf e ∧ AfterX base F μ H s1 H1 a w a' w') a w) := by
        intro e2 s2 H2 hx hn ho
        have ih := evalX_in (μ := μ) (w := w) (a := a) (m := m) hF hc hmix hx
        cases e2 with
        | normal =>
          obtain ⟨hcy, hy⟩ := hn rfl
          have l2 := evalC_len hc hy
          refine ⟨Nat.le_trans ih.1 l2, fun h hs hfree => ?_⟩
          refine wpIn_seq (wpIn_mono (ih.2 h hs (hfree.le l2)) ?_)
          rintro e' a' w' ⟨rfl, μ', F', hF', hle, hsame, hr, hfr, hlen, hsr, hd⟩
          have hfree' : Free μ' H2.length H1.length := by
            intro b h1 h2
            rw [hsame b (.inr h1)]
            exact hfree b (by omega) h2
          refine wpIn_mono (hasRange_wide (evalC_wp (F := F') hF.ag hF.meth hc k (codeOk hF.ag hF.meth hmix hcy) hy hr hsr hfree')) ?_
          rintro e3 a3 w3 ⟨rfl, μ3, g3, hs3, hd3⟩
          refine ⟨rfl, μ3, F', hF', hle.trans g3.le, fun b hb => ?_, g3.hr, hfr.trans (g3.fr.weaken hF'), Nat.le_trans hlen g3.len, hs3, ?_⟩
          · have := g3.len
            rw [g3.same b (by omega), hsame b (by omega)]
          · rcases hd with hd | ⟨D, hd, h1, h2, h3, h4⟩
            · exact .inl (hd3.trans hd)
            · exact .inr ⟨D, hd3.trans hd, h1, h2, h3, (g3.fr.block D (.inr h1)).trans h4⟩
        | exit j =>
          obtain ⟨rfl, rfl, rfl⟩ := ho (by simp)
          refine ⟨ih.1, fun h hs hfree => wpIn_seq (wpIn_mono (ih.2 h hs hfree) ?_)⟩
          rintro e' a' w' ⟨rfl, hh⟩
          exact ⟨rfl, hh⟩
        | ret =>
          obtain ⟨rfl, rfl, rfl⟩ := ho (by simp)
          refine ⟨ih.1, fun h hs hfree => wpIn_seq (wpIn_mono (ih.2 h hs hfree) ?_)⟩
          rintro e' a' w' ⟨rfl, hh⟩
          exact ⟨rfl, hh⟩
      split at he
      · rename_i s2 H2 e2
        split at he
        · rename_i hcy
          exact key e2 (fun _ => ⟨hcy, he⟩) (fun q => absurd rfl q)
        · simp at he
      · rename_i hne
        exact key he (fun q => by subst q; exact absurd he (hne _ _)) (fun _ => ⟨rfl, rfl, rfl⟩)
    · have key : ∀ {e2 : Ex} {s2 : List Value} {H2 : Heap}, codeChk x = true → evalC T call k x s H = some (e2, s2, H2) → (e2 = .normal → evalX T call k y s2 H2 = some (e, s1, H1)) → (e2 ≠ .normal → e2 = e ∧ s2 = s1 ∧ H2 = H1) →
          H.length ≤ H1.length ∧ (HR base F μ H w → SR μ s a.tmps → Free μ H.length H1.length → (Code.seq x y).wpIn Fence.wide (m + 2) P (fun x a' w' => x = exOf e ∧ AfterX base F μ H s1 H1 a w a' w') a w) := by
        intro e2 s2 H2 hcx hx hn ho
        have l1 := evalC_len hc hx
        have wx := fun (h : HR base F μ H w) (hs : SR μ s a.tmps) (hfree : Free μ H.length H2.length) => hasRange_wide (n := m + 2) (evalC_wp (F := F) hF.ag hF.meth hc k (codeOk hF.ag hF.meth hmix hcx) hx h hs hfree)
        cases e2 with
        | normal =>
          have ih0 := evalX_in (μ := μ) (w := w) (a := a) (m := m) hF hc hmix (hn rfl)
          refine ⟨Nat.le_trans l1 ih0.1, fun h hs hfree => ?_⟩
          refine wpIn_seq (wpIn_mono (wx h hs (hfree.le ih0.1)) ?_)
          rintro e' a' w' ⟨rfl, μ', g, hsr, hd⟩
          have ih := evalX_in (μ := μ') (w := w') (a := a') (m := m) hF hc hmix (hn rfl)
          refine wpIn_mono (ih.2 g.hr hsr (hfree.after g)) ?_
          rintro e3 a3 w3 ⟨rfl, μ3, F', hF', hle, hsame, hr, hfr, hlen, hs3, hd3⟩
          refine ⟨rfl, μ3, F', hF', g.le.trans hle, fun b hb => ?_, hr, g.fr.trans hfr, Nat.le_trans g.len hlen, hs3, ?_⟩
          · have := g.len
            rw [hsame b (by omega), g.same b (by omega)]
          · rw [← hd]; exact hd3
        | exit j =>
          obtain ⟨rfl, rfl, rfl⟩ := ho (by simp)
          refine ⟨l1, fun h hs hfree => wpIn_seq (wpIn_mono (wx h hs hfree) ?_)⟩
          rintro e' a' w' ⟨rfl, hh⟩
          exact ⟨rfl, AfterX.of hh⟩
        | ret =>
          obtain ⟨rfl, rfl, rfl⟩ := ho (by simp)
          refine ⟨l1, fun h hs hfree => wpIn_seq (wpIn_mono (wx h hs hfree) ?_)⟩
          rintro e' a' w' ⟨rfl, hh⟩
          exact ⟨rfl, AfterX.of hh⟩
      by_cases hcx : codeChk x = true
      · simp only [hcx, if_true] at he
        split at he
        · rename_i s2 H2 e2
          exact key hcx e2 (fun _ => he) (fun q => absurd rfl q)
        · rename_i hne
          exact key hcx he (fun q => by subst q; exact absurd he (hne _ _)) (fun _ => ⟨rfl, rfl, rfl⟩)
      · simp only [hcx, if_false, Bool.false_eq_true, reduceCtorEq] at he
  | .block id x, μ, s, s1, H, H1, e, w, a, he => by
    unfold evalX at he
    split at he
    · rename_i j s2 H2 e2
      have hH : H2 = H1 := by split at he <;> (simp only [Option.some.injEq, Prod.mk.injEq] at he; exact he.2.2)
      have hS : s2 = s1 := by split at he <;> (simp only [Option.some.injEq, Prod.mk.injEq] at he; exact he.2.1)
      subst hH hS
      have ih := evalX_in (μ := μ) (w := w) (a := a) (m := m) hF hc hmix e2
      refine ⟨ih.1, fun h hs hfree => wpIn_block (wpIn_mono (ih.2 h hs hfree) ?_)⟩
      rintro e' a' w' ⟨rfl, k2⟩
      simp only [exOf, Exit.inBlock]
      split at he
      · rename_i hj
        simp only [Option.some.injEq, Prod.mk.injEq] at he
        rw [if_pos hj]
        exact ⟨by rw [← he.1], k2⟩
      · rename_i hj
        simp only [Option.some.injEq, Prod.mk.injEq] at he
        rw [if_neg hj]
        exact ⟨by rw [← he.1], k2⟩
    · rename_i hne
      have ih := evalX_in (μ := μ) (w := w) (a := a) (m := m) hF hc hmix he
      refine ⟨ih.1, fun h hs hfree => wpIn_block (wpIn_mono (ih.2 h hs hfree) ?_)⟩
      rintro e' a' w' ⟨rfl, k2⟩
      cases e with
      | exit id => exact absurd he (hne _ _ _)
      | normal => exact ⟨rfl, k2⟩
      | ret => exact ⟨rfl, k2⟩
  | .rangeFunc g ps assign body, μ, s, s1, H, H1, e, w, a, he => by
    unfold evalX at he
    rw [Option.map_eq_some_iff] at he
    obtain ⟨H2, he, h2⟩ := he
    simp only [Prod.mk.injEq] at h2
    obtain ⟨rfl, rfl, rfl⟩ := h2
    have hlt := evalRange_len hc he
    exact ⟨Nat.le_of_lt hlt, fun h hs hfree => evalRange_in hF hc hmix he hlt h hs hfree⟩
  | .skip, _, _, _, _, _, _, _, _, he | .exit _, _, _, _, _, _, _, _, _, he | .label _, _, _, _, _, _, _, _, _, he | .ret, _, _, _, _, _, _, _, _, he | .goto _, _, _, _, _, _, _, _, _, he | .refuse _, _, _, _, _, _, _, _, _, he | .scope _, _, _, _, _, _, _, _, _, he
  | .region .., _, _, _, _, _, _, _, _, he | .cond .., _, _, _, _, _, _, _, _, he | .loop _, _, _, _, _, _, _, _, _, he => by simp [evalX] at he

/-- A function that holds a range over a function. -/
def callX (T : Tab) (call : CallF) (n : Nat) (fn : Func) : List Value → Heap → Option (Value × Heap) := fun args H =>
  match fn.body with
  | some c =>
    match evalX T call n c (startC fn args) H with
    | some (.normal, s1, H1) => (resultsC T fn s1 H1).map fun v => (v, H1)
    | some (.ret, s1, H1) => (resultsC T fn s1 H1).map fun v => (v, H1)
    | _ => none
  | none => none

theorem callX_ok {call : CallF} (hF : Fits P T) (hc : SoundCall P call) (hmix : P.follows .mixedOrders = true) (n : Nat) {f : FuncId} {fn : Func} (hf : P.funcs[f]? = some fn) : ExtOk P f (callX T call n fn) := by
  intro args H v H1 he
  unfold callX at he
  split at he
  · rename_i c hb
    have hx : ∃ (e : Ex) (s1 : List Value), evalX T call n c (startC fn args) H = some (e, s1, H1) ∧ (e = Ex.normal ∨ e = Ex.ret) ∧ resultsC T fn s1 H1 = some v := by
      split at he
      · rename_i s1 H2 e2
        rw [Option.map_eq_some_iff] at he
        obtain ⟨u, hu, he⟩ := he
        simp only [Prod.mk.injEq] at he
        obtain ⟨rfl, rfl⟩ := he
        exact ⟨_, _, e2, .inl rfl, hu⟩
      · rename_i s1 H2 e2
        rw [Option.map_eq_some_iff] at he
        obtain ⟨u, hu, he⟩ := he
        simp only [Prod.mk.injEq] at he
        obtain ⟨rfl, rfl⟩ := he
        exact ⟨_, _, e2, .inr rfl, hu⟩
      · simp at he
    obtain ⟨e, s1, hx, hee, hres⟩ := hx
    refine ⟨(evalX_in (base := 0) (F := fun _ => False) (μ := fun _ => none) (a := ⟨#[], []⟩) (w := default) (m := 0) hF hc hmix hx).1, ?_⟩
    intro base F μ w args' hh hfree ha
    refine callsIn_wide.1 (callsIn_of_wp_marks (n := 2) hf hb trivial ?_ rfl)
    refine wpIn_mono ((evalX_in (base := base) (F := F) (μ := μ) (a := { tmps := _, defers := [] }) (w := w) (m := 0) hF hc hmix hx).2 hh (start_ok ha fn) hfree) ?_
    rintro x a2 w2 ⟨rfl, μ2, F2, hF2, hle, hsame, hr2, hfr, hlen, hs2, hd⟩
    have fin : LeavesInM Fence.wide 2 P fn a2.tmps (CallPost base F μ H H1 w v) a2.defers .returning w2 := by
      rcases hd with hd | ⟨D, hd, h1, h2, h3, h4⟩
      · rw [hd]
        obtain ⟨v', hrun, hv⟩ := results_ok (P := P) hF.ag hr2 hs2 hres
        have hr3 : HR base F μ2 H1 w2 := ⟨fun b sz cs l a b' => let ⟨p, q, r, t⟩ := hr2.own b sz cs l a b'; ⟨p, q, fun z => r (hF2 _ z), t⟩, hr2.ro, fun b es l a b' => let ⟨p, q, t⟩ := hr2.maps b es l a b'; ⟨p, fun z => q (hF2 _ z), t⟩, hr2.inj, fun k hk => hr2.far k (hF2 _ hk), hr2.base_le⟩
        exact ⟨v', hrun, v', μ2, rfl, ⟨hle, hsame, hr3, hfr, hlen⟩, hv⟩
      · rw [hd]
        have hr4 := hr2.putObj (lp := D) (.deferred none) h2 h1
        obtain ⟨v', hrun, hv⟩ := results_ok (P := P) hF.ag hr4 hs2 hres
        have hr3 : HR base F μ2 H1 (w2.putObj D (.deferred none)) := ⟨fun b sz cs l a b' => let ⟨p, q, r, t⟩ := hr4.own b sz cs l a b'; ⟨p, q, fun z => r (hF2 _ z), t⟩, hr4.ro, fun b es l a b' => let ⟨p, q, t⟩ := hr4.maps b es l a b'; ⟨p, fun z => q (hF2 _ z), t⟩, hr4.inj, fun k hk => hr4.far k (hF2 _ hk), hr4.base_le⟩
        exact ⟨by simp, .inl ⟨D, _, rfl, run_takeDeferred h4, v', hrun, v', μ2, rfl, ⟨hle, hsame, hr3, hfr.trans (Fr.putObj _ h2 h3), hlen⟩, hv⟩⟩
    rcases hee with rfl | rfl
    · exact fin
    · exact fin
  · simp at he

end Go.Proofs.Ytdhbclplondmjaa.C
