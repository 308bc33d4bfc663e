/- Drawn regions, second part: the memory of a region that is under way. -/
import Derived.Test.YtdhbclplondmjaaCDraw
set_option linter.unusedVariables false
set_option linter.unusedSimpArgs false
namespace Go.Proofs.Ytdhbclplondmjaa.C
open Go.RowKit

variable {P : Program} {T : Tab} {base : Nat} {F : Nat → Prop}

/-- The memory's relation, for blocks told by a function. -/
structure HRf (base : Nat) (F : Nat → Prop) (μ : Mu) (H : Nat → Option Blk) (w : World) : Prop where
  own : ∀ b sz cs l, H b = some (.row sz cs true true) → μ b = some l → l.sz = sz ∧ base ≤ l.blk ∧ ¬ F l.blk ∧ RowAt μ w l cs
  ro : ∀ b sz cs l, H b = some (.row sz cs false true) → μ b = some l → l.sz = sz ∧ l.blk < base ∧
    ∀ (i : Nat) (v : Value), cs[i]? = some v → ∃ v', w.cell? ⟨l.blk, l.sh + i, none⟩ = some v' ∧ VR μ v v'
  maps : ∀ b es l, H b = some (.map es) → μ b = some l → base ≤ l.blk ∧ ¬ F l.blk ∧ MapAt μ w l es
  inj : ∀ b b' k k' l l', H b = some k → H b' = some k' → k.mine = true → k'.mine = true → b ≠ b' → μ b = some l → μ b' = some l' → l.blk ≠ l'.blk
  far : ∀ k, F k → k < w.heap.size
  base_le : base ≤ w.heap.size

theorem HR.toF {μ : Mu} {H : Heap} {w : World} (h : HR base F μ H w) : HRf base F μ (fun b => H[b]?) w := ⟨h.own, h.ro, h.maps, h.inj, h.far, h.base_le⟩

theorem HRf.mine_lt {μ : Mu} {H : Nat → Option Blk} {w : World} (h : HRf base F μ H w) {b : Nat} {k : Blk} {l : Loc} (hb : H b = some k) (hk : k.mine = true) (hl : μ b = some l) : l.blk < w.heap.size ∧ base ≤ l.blk ∧ ¬ F l.blk := by
  cases k with
  | row sz cs own live =>
    simp [Blk.mine] at hk
    obtain ⟨rfl, rfl⟩ := hk
    obtain ⟨_, a, c, d⟩ := h.own b sz cs l hb hl
    exact ⟨d.lt, a, c⟩
  | map es =>
    obtain ⟨a, c, d⟩ := h.maps b es l hb hl
    exact ⟨d.lt, a, c⟩

theorem Blk.live_of_mine {k : Blk} (h : k.mine = true) : k.live = true := by
  cases k with
  | row sz cs own live => simp [Blk.mine] at h; exact h.2
  | map es => rfl

def Sub (μ : Mu) (H : Heap) (hc : Nat → Option Blk) : Prop := ∀ b x, H[b]? = some x → x.live = true → μ b ≠ none → hc b = some x

theorem HRf.toHR {μ : Mu} {H : Heap} {hc : Nat → Option Blk} {w : World} (h : HRf base F μ hc w) (hs : Sub μ H hc) : HR base F μ H w where
  own b sz cs l hb hl := h.own b sz cs l (hs b _ hb rfl (by rw [hl]; simp)) hl
  ro b sz cs l hb hl := h.ro b sz cs l (hs b _ hb rfl (by rw [hl]; simp)) hl
  maps b es l hb hl := h.maps b es l (hs b _ hb rfl (by rw [hl]; simp)) hl
  inj b b' k k' l l' hb hb' hk hk' hne hl hl' := h.inj b b' k k' l l' (hs b _ hb (Blk.live_of_mine hk) (by rw [hl]; simp)) (hs b' _ hb' (Blk.live_of_mine hk') (by rw [hl']; simp)) hk hk' hne hl hl'
  far := h.far
  base_le := h.base_le

/-- The machine's blocks that must stay as they are while an operation runs. -/
def Guarded (F : Nat → Prop) (μ : Mu) (hc : Nat → Option Blk) (Hb : Heap) (k : Nat) : Prop :=
  F k ∨ ∃ b x l, hc b = some x ∧ x.mine = true ∧ μ b = some l ∧ l.blk = k ∧ ¬ ∃ y, Hb[b]? = some y ∧ y.live = true

theorem HRf.guarded {μ : Mu} {Hb : Heap} {hc : Nat → Option Blk} {w : World} (h : HRf base F μ hc w) (hs : Sub μ Hb hc) : HR base (Guarded F μ hc Hb) μ Hb w := by
  have h0 := h.toHR hs
  have not : ∀ {b : Nat} {x : Blk} {l : Loc}, Hb[b]? = some x → x.mine = true → μ b = some l → ¬ F l.blk → ¬ Guarded F μ hc Hb l.blk := by
    rintro b x l hb hx hl hF (q | ⟨b2, x2, l2, h1, h2, h3, h4, h5⟩)
    · exact hF q
    · have hne : b ≠ b2 := by
        rintro rfl
        exact h5 ⟨x, hb, Blk.live_of_mine hx⟩
      exact h.inj b b2 x x2 l l2 (hs b _ hb (Blk.live_of_mine hx) (by rw [hl]; simp)) h1 hx h2 hne hl h3 h4.symm
  refine ⟨?_, h0.ro, ?_, h0.inj, ?_, h0.base_le⟩
  · intro b sz cs l hb hl
    obtain ⟨a, c, d, e⟩ := h0.own b sz cs l hb hl
    exact ⟨a, c, not hb rfl hl d, e⟩
  · intro b es l hb hl
    obtain ⟨a, c, d⟩ := h0.maps b es l hb hl
    exact ⟨a, not hb rfl hl c, d⟩
  · rintro k (q | ⟨b2, x2, l2, h1, h2, h3, rfl, h5⟩)
    · exact h.far k q
    · exact (h.mine_lt h1 h2 h3).1

/-- The blocks behind an operation. -/
def behind (hc : Nat → Option Blk) (Hb Ha : Heap) : Nat → Option Blk := fun b =>
  if (∃ y, Hb[b]? = some y ∧ y.live = true) ∨ (Hb.length ≤ b ∧ b < Ha.length) then Ha[b]? else hc b

open Classical in
theorem HRf.step {μ μ' : Mu} {Hb Ha : Heap} {hc : Nat → Option Blk} {w w' : World} (h : HRf base F μ hc w) (hs : Sub μ Hb hc) (g : Goes base (Guarded F μ hc Hb) μ μ' Hb Ha w w') (hf : Free μ Hb.length Ha.length) :
    HRf base F μ' (behind hc Hb Ha) w' ∧ Fr base F w w' := by
  have hfr : Fr base F w w' := g.fr.weaken fun k hk => .inl hk
  have hF' : ∀ {k : Nat}, ¬ Guarded F μ hc Hb k → ¬ F k := fun h q => h (.inl q)
  refine ⟨?_, hfr⟩
  have key : ∀ {b : Nat} {x : Blk} {l : Loc}, behind hc Hb Ha b = some x → μ' b = some l →
      Ha[b]? = some x ∨ (hc b = some x ∧ μ b = some l ∧ ¬ ∃ y, Hb[b]? = some y ∧ y.live = true) := by
    intro b x l hb hl
    unfold behind at hb
    split at hb
    · exact .inl hb
    · rename_i hno
      simp only [not_or] at hno
      refine .inr ⟨hb, ?_, hno.1⟩
      rw [← g.same b (by have := hno.2; omega)]
      exact hl
  have kept : ∀ {b : Nat} {x : Blk} {l : Loc}, hc b = some x → x.mine = true → μ b = some l → (¬ ∃ y, Hb[b]? = some y ∧ y.live = true) → Guarded F μ hc Hb l.blk := fun h1 h2 h3 h4 => .inr ⟨_, _, _, h1, h2, h3, rfl, h4⟩
  refine ⟨?_, ?_, ?_, ?_, ?_, g.hr.base_le⟩
  · intro b sz cs l hb hl
    rcases key hb hl with hb | ⟨hb, hl, hno⟩
    · obtain ⟨a, c, d, e⟩ := g.hr.own b sz cs l hb hl
      exact ⟨a, c, hF' d, e⟩
    · obtain ⟨a, c, d, e⟩ := h.own b sz cs l hb hl
      exact ⟨a, c, d, e.mono g.le (g.fr.block _ (.inr (kept hb rfl hl hno)))⟩
  · intro b sz cs l hb hl
    rcases key hb hl with hb | ⟨hb, hl, hno⟩
    · exact g.hr.ro b sz cs l hb hl
    · obtain ⟨a, c, d⟩ := h.ro b sz cs l hb hl
      exact ⟨a, c, fun i v hv => let ⟨v', x, y⟩ := d i v hv; ⟨v', (cell_of_heap (g.fr.block _ (.inl c))).trans x, y.mono g.le⟩⟩
  · intro b es l hb hl
    rcases key hb hl with hb | ⟨hb, hl, hno⟩
    · obtain ⟨a, c, d⟩ := g.hr.maps b es l hb hl
      exact ⟨a, hF' c, d⟩
    · obtain ⟨a, c, d⟩ := h.maps b es l hb hl
      exact ⟨a, c, d.mono g.le (g.fr.block _ (.inr (kept hb rfl hl hno)))⟩
  · intro b b' k k' l l' hb hb' hk hk' hne hl hl'
    rcases key hb hl with hb | ⟨hb, hl2, hno⟩ <;> rcases key hb' hl' with hb' | ⟨hb', hl2', hno'⟩
    · exact g.hr.inj b b' k k' l l' hb hb' hk hk' hne hl hl'
    · intro q
      exact (g.hr.mine_lt hb hk hl).2.2 (q ▸ kept hb' hk' hl2' hno')
    · intro q
      exact (g.hr.mine_lt hb' hk' hl').2.2 (q ▸ kept hb hk hl2 hno)
    · exact h.inj b b' k k' l l' hb hb' hk hk' hne hl2 hl2'
  · intro k hk
    exact g.hr.far k (.inl hk)

/-! ### What is checked of a region -/

def readsOf (ops : Array Oper) (o : Oper) : List Tmp :=
  (o.op.operands.toList.filterMap fun x => match x with | .tmp t => some t | _ => none) ++ (match o.guard with | some (j, _) => ((ops[j]?).bind (·.dst)).toList | none => [])

def namesOf (ops : Array Oper) (o : Oper) : List Tmp := o.dst.toList ++ readsOf ops o

/-- Does an operation wait for another one? -/
def reach (ops : Array Oper) : Nat → Nat → Nat → Bool
  | 0, _, _ => false
  | n + 1, i, j => match ops[j]? with
    | none => false
    | some o => o.after.any fun e => Region.binds .any e && (e.on == i || reach ops n i e.on)

def writer (o : Op) : Bool := strong o || isAppend o

def clash (ops : Array Oper) (oi oj : Oper) : Bool :=
  oi.dst.toList.any (fun d => (namesOf ops oj).contains d) || oj.dst.toList.any (fun d => (namesOf ops oi).contains d) || (!pureOp oi.op && writer oj.op) || (strong oi.op && !pureOp oj.op)

def drawChk (ops : Array Oper) (ord : List Nat) : Bool :=
  ord.length == ops.size && (List.range ops.size).all (fun i => ord.contains i) && ord.all (fun i => decide (i < ops.size)) && decide ord.Nodup &&
  (List.range ops.size).all (fun q => (List.range q).all fun p => match ord[p]?, ord[q]? with
    | some i, some j => match ops[i]?, ops[j]? with
      | some oi, some oj => !clash ops oi oj || reach ops ops.size i j
      | _, _ => false
    | _, _ => false) &&
  (List.range ops.size).all (fun q => match ord[q]? with
    | some j => match ops[j]? with
      | some o => o.after.all fun e => !Region.binds .any e || (ord.take q).contains e.on
      | none => false
    | none => false)

structure Chk (ops : Array Oper) (ord : List Nat) : Prop where
  len : ord.length = ops.size
  cover : ∀ i : Nat, i < ops.size → ∃ p, p < ops.size ∧ ord[p]? = some i
  lt : ∀ p i : Nat, ord[p]? = some i → i < ops.size
  inj : ∀ p q i : Nat, ord[p]? = some i → ord[q]? = some i → p = q
  clash : ∀ (p q i j : Nat) (oi oj : Oper), p < q → ord[p]? = some i → ord[q]? = some j → ops[i]? = some oi → ops[j]? = some oj → C.clash ops oi oj = true → reach ops ops.size i j = true
  edge : ∀ (q j : Nat) (o : Oper) (e : Edge), ord[q]? = some j → ops[j]? = some o → e ∈ o.after → Region.binds .any e = true → ∃ p, p < q ∧ ord[p]? = some e.on

theorem drawChk_spec {ops : Array Oper} {ord : List Nat} (h : drawChk ops ord = true) : Chk ops ord := by
  unfold drawChk at h
  simp only [Bool.and_eq_true, beq_iff_eq, List.all_eq_true, List.mem_range, decide_eq_true_eq, List.contains_iff_mem] at h
  obtain ⟨⟨⟨⟨⟨h1, h2⟩, h3⟩, h4⟩, h5⟩, h6⟩ := h
  have lt : ∀ p i, ord[p]? = some i → p < ops.size := fun p i hp => by rw [← h1]; exact (List.getElem?_eq_some_iff.1 hp).1
  refine ⟨h1, ?_, ?_, ?_, ?_, ?_⟩
  · intro i hi
    obtain ⟨p, hp⟩ := List.getElem?_of_mem (h2 i hi)
    exact ⟨p, lt p i hp, hp⟩
  · intro p i hp
    exact h3 i (List.mem_of_getElem? hp)
  · intro p q i hp hq
    exact (List.getElem?_inj (List.getElem?_eq_some_iff.1 hp).1 h4).1 (hp.trans hq.symm)
  · intro p q i j oi oj hpq hp hq hi hj hc
    have := h5 q (lt q j hq) p hpq
    rw [hp, hq] at this
    simp only [hi, hj, hc, Bool.not_true, Bool.false_or] at this
    exact this
  · intro q j o e hq hj he hb
    have := h6 q (lt q j hq)
    rw [hq] at this
    simp only [hj, Array.all_eq_true_iff_forall_mem] at this
    have := this e he
    simp only [hb, Bool.not_true, Bool.false_or, List.contains_iff_mem] at this
    obtain ⟨p, hp⟩ := List.getElem?_of_mem this
    rw [List.getElem?_take] at hp
    split at hp
    · rename_i hlt; exact ⟨p, hlt, hp⟩
    · simp at hp

end Go.Proofs.Ytdhbclplondmjaa.C
