/- Functions; calls that may not write what was there. -/
import Derived.Test.YtdhbclplondmjaaCRun
set_option linter.unusedVariables false
set_option linter.unusedSimpArgs false
namespace Go.Proofs.Ytdhbclplondmjaa.C
open Go.RowKit

variable {P : Program} {T : Tab} {base : Nat} {F : Nat → Prop}

/-- A function whose behaviour is given. -/
def ExtOk (P : Program) (f : FuncId) (e : List Value → Heap → Option (Value × Heap)) : Prop :=
  ∀ args H v H', e args H = some (v, H') → H.length ≤ H'.length ∧
    ∀ base F μ w args', HR base F μ H w → Free μ H.length H'.length → VRs μ args args' → Calls P f args'.toArray w (CallPost base F μ H H' w v)

structure Fits (P : Program) (T : Tab) : Prop where
  ag : Agree P T
  meth : ∀ t n f e, T.meth t n = some (f, e) → MethOk P t n f e
  call : ∀ f, ((T.fn f).isSome = true ∨ (T.ext f).isSome = true) → ∀ xs w, (callFunc f xs).run P w = .ok (.enter f xs) w
  code : ∀ f fn c, T.fn f = some fn → fn.body = some c → CodeOk P T c
  ext : ∀ f e, T.ext f = some e → ExtOk P f e

def resRun (tmps : Array Value) (r : ResultVar) : Sem Value :=
  match r with
  | .tmp t => pure (tmps.getD t undef)
  | .cell a t => do loadVar t (← asAddr (tmps.getD a undef))

theorem results_eq (fn : Func) (tmps : Array Value) : results fn tmps = (do let vs ← fn.results.mapM (resRun tmps); pure (if h : vs.size = 1 then vs[0] else .tuple vs)) := by
  unfold results
  congr 2

theorem mapM_res (ag : Agree P T) {μ : Mu} {H : Heap} {w : World} (h : HR base F μ H w) {s : List Value} {tmps : Array Value} (hs : SR μ s tmps) : ∀ {rs : List ResultVar} {vs : List Value}, rs.mapM (resOne T s H) = some vs →
    ∃ vs', (rs.mapM (resRun tmps)).run P w = .ok vs' w ∧ VRs μ vs vs'
  | [], vs, hv => by
    simp at hv; subst hv
    exact ⟨[], by simp, .nil⟩
  | r :: rs, vs, hv => by
    simp only [List.mapM_cons, Option.bind_eq_bind, Option.bind_eq_some_iff, Option.pure_def, Option.some.injEq] at hv
    obtain ⟨v, hr, us, hus, rfl⟩ := hv
    obtain ⟨us', hrun, hu⟩ := mapM_res ag h hs hus
    cases r with
    | tmp t =>
      simp only [resOne, Option.some.injEq] at hr
      subst hr
      exact ⟨tmps.getD t undef :: us', by simp [resRun, hrun], .cons (hs.get t) hu⟩
    | cell a t =>
      simp only [resOne] at hr
      obtain ⟨v', hl, hv⟩ := vLoad_ok ag h (hs.get a) hr
      have : ∃ ad, tmps.getD a undef = .pointer (some ad) ∧ (loadVar t ad).run P w = .ok v' w := by
        have hg := hs.get a
        generalize tmps.getD a undef = x at *
        generalize s.getD a undef = y at *
        unfold vLoad at hr
        simp only [Option.bind_eq_bind, Option.bind_eq_some_iff] at hr
        obtain ⟨i, hi, hr⟩ := hr
        split at hr
        · cases hg
          exact ⟨_, rfl, by simpa [Instr.loadAt, Instr.sureAddr] using hl⟩
        · simp at hr
      obtain ⟨ad, h1, h2⟩ := this
      exact ⟨v' :: us', by simp [resRun, h1, asAddr, h2, hrun], .cons hv hu⟩

theorem results_ok (ag : Agree P T) {μ : Mu} {H : Heap} {w : World} (h : HR base F μ H w) {s : List Value} {tmps : Array Value} (hs : SR μ s tmps) {fn : Func} {v : Value} (hv : resultsC T fn s H = some v) :
    ∃ v', (results fn tmps).run P w = .ok v' w ∧ VR μ v v' := by
  unfold resultsC at hv
  split at hv
  · rename_i u hu
    simp only [Option.some.injEq] at hv
    subst hv
    obtain ⟨vs', hrun, hr⟩ := mapM_res (P := P) ag h hs hu
    cases hr with
    | cons h1 h2 =>
      cases h2
      exact ⟨_, by simp [results_eq, Array.mapM_eq_mapM_toList, hrun], h1⟩
  · rename_i vs hne hu
    simp only [Option.some.injEq] at hv
    subst hv
    obtain ⟨vs', hrun, hr⟩ := mapM_res (P := P) ag h hs hu
    have hlen := hr.length
    have h1 : vs'.length ≠ 1 := by
      intro q
      rw [hlen] at q
      cases vs with
      | nil => simp at q
      | cons a l =>
        cases l with
        | nil => exact hne a rfl
        | cons b l => simp at q
    exact ⟨.tuple vs'.toArray, by simp [results_eq, Array.mapM_eq_mapM_toList, hrun, h1], .tuple hr⟩
  · simp at hv

theorem start_ok {μ : Mu} {args args' : List Value} (h : VRs μ args args') (fn : Func) : SR μ (startC fn args) (args'.toArray ++ Array.replicate (fn.ntmps - args'.toArray.size) undef) := by
  have hl := h.length
  refine ⟨by simp [startC, hl], ?_⟩
  have : (args'.toArray ++ Array.replicate (fn.ntmps - args'.toArray.size) undef).toList = args' ++ List.replicate (fn.ntmps - args.length) undef := by simp [hl]
  rw [this]
  unfold startC
  refine h.append (VRs.refl_of fun v hv => ?_)
  rw [List.eq_of_mem_replicate hv]
  exact .undef _

theorem callC_sound (hF : Fits P T) : ∀ n, SoundCall P (callC T n)
  | 0 => ⟨fun _ _ _ _ h => by simp [callC] at h, fun _ _ _ _ _ h => by simp [callC] at h, fun _ _ _ _ _ h => by simp [callC] at h⟩
  | n + 1 => by
    have ih := callC_sound hF n
    have key : ∀ f args H v H', callC T (n + 1) f args H = some (v, H') → (∃ e, T.ext f = some e ∧ e args H = some (v, H')) ∨
        ∃ fn c e s1, T.ext f = none ∧ T.fn f = some fn ∧ fn.body = some c ∧ evalC T (callC T n) n c (startC fn args) H = some (e, s1, H') ∧ (e = .normal ∨ e = .ret) ∧ resultsC T fn s1 H' = some v := by
      intro f args H v H' h
      unfold callC at h
      split at h
      · rename_i e he; exact .inl ⟨e, he, h⟩
      · rename_i he
        split at h
        · rename_i fn hfn
          split at h
          · rename_i c hc
            split at h
            · rename_i s1 H1 e1
              rw [Option.map_eq_some_iff] at h
              obtain ⟨u, hu, h⟩ := h
              simp only [Prod.mk.injEq] at h
              obtain ⟨rfl, rfl⟩ := h
              exact .inr ⟨fn, c, _, s1, he, hfn, hc, e1, .inl rfl, hu⟩
            · rename_i s1 H1 e1
              rw [Option.map_eq_some_iff] at h
              obtain ⟨u, hu, h⟩ := h
              simp only [Prod.mk.injEq] at h
              obtain ⟨rfl, rfl⟩ := h
              exact .inr ⟨fn, c, _, s1, he, hfn, hc, e1, .inr rfl, hu⟩
            · simp at h
          · simp at h
        · simp at h
    refine ⟨?_, ?_, ?_⟩
    · intro f args H r h xs w
      obtain ⟨v, H'⟩ := r
      rcases key _ _ _ _ _ h with ⟨e, he, _⟩ | ⟨fn, c, e, s1, _, hf, _⟩
      · exact hF.call f (.inr (by simp [he])) xs w
      · exact hF.call f (.inl (by simp [hf])) xs w
    · intro f args H v H' h base F μ w args' hh hfree ha
      rcases key _ _ _ _ _ h with ⟨e, he, hx⟩ | ⟨fn, c, e, s1, hne, hf, hb, he, hee, hr⟩
      · exact (hF.ext f e he args H v H' hx).2 base F μ w args' hh hfree ha
      · have hfa := hF.ag.fn f fn hf
        refine calls_of_wp hfa hb ?_
        refine wp_mono (evalC_wp hF.ag hF.meth ih n (hF.code f fn c hf hb) he hh (start_ok ha fn) hfree) ?_
        rintro x a' w' ⟨rfl, μ', g, hs', hd⟩
        obtain ⟨v', hrun, hv⟩ := results_ok (P := P) hF.ag g.hr hs' hr
        rcases hee with rfl | rfl
        · exact ⟨hd, v', hrun, v', μ', rfl, g, hv⟩
        · exact ⟨hd, v', hrun, v', μ', rfl, g, hv⟩
    · intro f args H v H' h
      rcases key _ _ _ _ _ h with ⟨e, he, hx⟩ | ⟨fn, c, e, s1, hne, hf, hb, he, hee, hr⟩
      · exact (hF.ext f e he args H v H' hx).1
      · exact evalC_len ih he

/-- Frozen, nothing is one's own. -/
theorem HR.freeze {μ : Mu} {H : Heap} {w : World} (h : HR base F μ H w) : HR w.heap.size (fun _ => False) μ (H.map Blk.freeze) w where
  own b sz cs l hb hl := by
    rw [List.getElem?_map, Option.map_eq_some_iff] at hb
    obtain ⟨x, hx, e⟩ := hb
    cases x <;> simp [Blk.freeze] at e
  ro b sz cs l hb hl := by
    rw [List.getElem?_map, Option.map_eq_some_iff] at hb
    obtain ⟨x, hx, e⟩ := hb
    cases x with
    | map es => simp [Blk.freeze] at e
    | row sz' cs' own live =>
      simp only [Blk.freeze, Blk.row.injEq, true_and] at e
      obtain ⟨rfl, rfl, rfl⟩ := e
      cases own with
      | true =>
        obtain ⟨h1, h2, h3, h4⟩ := h.own b _ _ l hx hl
        refine ⟨h1, h4.lt, fun i v hv => ?_⟩
        obtain ⟨arr, e, fr, g1, g2, g3, g4⟩ := h4
        obtain ⟨v', a, c⟩ := g4 i v hv
        exact ⟨v', by simp [World.cell?, g1, a], c⟩
      | false =>
        obtain ⟨h1, h2, h3⟩ := h.ro b _ _ l hx hl
        exact ⟨h1, Nat.lt_of_lt_of_le h2 h.base_le, h3⟩
  maps b es l hb hl := by
    rw [List.getElem?_map, Option.map_eq_some_iff] at hb
    obtain ⟨x, hx, e⟩ := hb
    cases x <;> simp [Blk.freeze] at e
  inj b b' k k' l l' hb hb' hk := by
    rw [List.getElem?_map, Option.map_eq_some_iff] at hb
    obtain ⟨x, hx, e⟩ := hb
    subst e
    cases x <;> simp [Blk.freeze, Blk.mine] at hk
  far k hk := hk.elim
  base_le := Nat.le_refl _

/-- What a frozen call leaves. -/
theorem HR.thaw {μ μ' : Mu} {H H2 : Heap} {w w' : World} (h : HR base F μ H w) (k : HR w.heap.size (fun _ => False) μ' H2 w') (hle : MuLe μ μ') (hsame : ∀ b, b < H.length → μ' b = μ b) (hlen : H.length ≤ H2.length)
    (fr : Fr w.heap.size (fun _ => False) w w') : HR base F μ' (H ++ (H2.drop H.length).map Blk.left) w' := by
  have hblk : ∀ k, k < w.heap.size → w'.heap[k]? = w.heap[k]? := fun k hk => fr.block k (.inl hk)
  have h' := (h.world hblk fr.size)
  have key : ∀ {b : Nat} {x : Blk} {l : Loc}, (H ++ (H2.drop H.length).map Blk.left)[b]? = some x → μ' b = some l → (b < H.length ∧ H[b]? = some x ∧ μ b = some l) ∨ (H.length ≤ b ∧ ∃ y, H2[b]? = some y ∧ y.left = x) := by
    intro b x l hb hl
    rcases Nat.lt_or_ge b H.length with hlt | hge
    · rw [List.getElem?_append_left hlt] at hb
      exact .inl ⟨hlt, hb, by rw [← hsame b hlt]; exact hl⟩
    · rw [List.getElem?_append_right hge, List.getElem?_map, Option.map_eq_some_iff] at hb
      obtain ⟨y, hy, e⟩ := hb
      rw [List.getElem?_drop] at hy
      exact .inr ⟨hge, y, by rw [← hy]; congr 1; omega, e⟩
  have left_mine : ∀ {y : Blk}, y.left.mine = true → y.left = y := by
    intro y hy
    cases y with
    | row sz cs own live => cases own <;> cases live <;> simp_all [Blk.left, Blk.mine]
    | map es => rfl
  have hb0 := h.base_le
  have hmine : ∀ {b : Nat} {x : Blk} {l : Loc}, H2[b]? = some x → x.mine = true → μ' b = some l → w.heap.size ≤ l.blk := fun hb hx hl => (k.mine_lt hb hx hl).2.1
  refine ⟨?_, ?_, ?_, ?_, ?_, ?_⟩
  · intro b sz cs l hb hl
    rcases key hb hl with ⟨_, hb, hl⟩ | ⟨_, y, hb, hy⟩
    · obtain ⟨a, c, d, e⟩ := h'.own b sz cs l hb hl
      exact ⟨a, c, d, e.mono hle rfl⟩
    · rw [left_mine (y := y) (by rw [hy]; rfl)] at hy
      subst hy
      obtain ⟨a, c, d, e⟩ := k.own b sz cs l hb hl
      exact ⟨a, by omega, fun q => by have := h.far _ q; omega, e⟩
  · intro b sz cs l hb hl
    rcases key hb hl with ⟨_, hb, hl⟩ | ⟨_, y, hb, hy⟩
    · obtain ⟨a, c, d⟩ := h'.ro b sz cs l hb hl
      exact ⟨a, c, fun i v hv => let ⟨v', x, y⟩ := d i v hv; ⟨v', x, y.mono hle⟩⟩
    · cases y with
      | map es => simp [Blk.left] at hy
      | row sz2 cs2 own live => cases own <;> simp [Blk.left] at hy
  · intro b es l hb hl
    rcases key hb hl with ⟨_, hb, hl⟩ | ⟨_, y, hb, hy⟩
    · obtain ⟨a, c, d⟩ := h'.maps b es l hb hl
      exact ⟨a, c, d.mono hle rfl⟩
    · rw [left_mine (y := y) (by rw [hy]; rfl)] at hy
      subst hy
      obtain ⟨a, c, d⟩ := k.maps b es l hb hl
      exact ⟨by omega, fun q => by have := h.far _ q; omega, d⟩
  · intro b b' x x' l l' hb hb' hx hx' hne hl hl'
    have fix : ∀ {b : Nat} {x : Blk}, x.mine = true → (∃ y, H2[b]? = some y ∧ y.left = x) → H2[b]? = some x := by
      rintro b x hx ⟨y, hy, rfl⟩
      rw [left_mine hx]; exact hy
    rcases key hb hl with ⟨_, hb, hl2⟩ | ⟨_, hb⟩ <;> rcases key hb' hl' with ⟨_, hb', hl2'⟩ | ⟨_, hb'⟩
    · exact h.inj b b' x x' l l' hb hb' hx hx' hne hl2 hl2'
    · have := (h.mine_lt hb hx hl2).1
      have := hmine (fix hx' hb') hx' hl'
      omega
    · have := (h.mine_lt hb' hx' hl2').1
      have := hmine (fix hx hb) hx hl
      omega
    · exact k.inj b b' x x' l l' (fix hx hb) (fix hx' hb') hx hx' hne hl hl'
  · exact h'.far
  · exact h'.base_le

/-- A frozen call is a call. -/
theorem quiet_sound {call : CallF} (hc : SoundCall P call) : SoundCall P (quiet call) where
  enter f args H r h xs w := by
    unfold quiet at h
    rw [Option.map_eq_some_iff] at h
    obtain ⟨x, hx, h⟩ := h
    exact hc.enter f args _ x hx xs w
  len f args H v H' h := quiet_len h
  calls f args H v H' h base F μ w args' hh hfree ha := by
    unfold quiet at h
    rw [Option.map_eq_some_iff] at h
    obtain ⟨⟨v2, H2⟩, hx, h⟩ := h
    simp only [Prod.mk.injEq] at h
    obtain ⟨rfl, rfl⟩ := h
    have hl := hc.len f args _ _ _ hx
    simp only [List.length_map] at hl
    have hlen : (H ++ (H2.drop H.length).map Blk.left).length = H2.length := by simp; omega
    rw [hlen] at hfree
    refine Calls.mono (hc.calls f args _ v2 H2 hx w.heap.size (fun _ => False) μ w args' hh.freeze (by simpa using hfree) ha) ?_
    rintro e w' ⟨v', μ', rfl, g, hv⟩
    have hsame : ∀ b, b < H.length ∨ H2.length ≤ b → μ' b = μ b := fun b hb => g.same b (by simpa using hb)
    refine ⟨v', μ', rfl, ⟨g.le, fun b hb => hsame b (by rw [hlen] at hb; exact hb), HR.thaw hh g.hr g.le (fun b hb => hsame b (.inl hb)) hl g.fr, ?_, by simp⟩, hv⟩
    exact ⟨g.fr.os, g.fr.tape, g.fr.output, g.fr.size, fun k hk => g.fr.block k (.inl (hk.elim (fun q => Nat.lt_of_lt_of_le q hh.base_le) (hh.far k)))⟩

end Go.Proofs.Ytdhbclplondmjaa.C
