/- Texts of one's own, laid together: CApp, CApp2 -/
import Derived.Test.YtdhbclplondmjaaQc04
import Derived.Laws.Append
import Derived.Laws.AppendOwn
import Derived.IntWalk
section
/- make and append. -/
set_option linter.unusedVariables false
set_option linter.unusedSimpArgs false
namespace Go.Proofs.Ytdhbclplondmjaa.C
open Go.RowKit

variable {P : Program} {T : Tab} {μ : Mu} {base : Nat} {F : Nat → Prop} {H : Heap} {w : World}

theorem wrap_id {n : Int} (h0 : 0 ≤ n) (h1 : n ≤ 2 ^ 40) : IntKind.i64.wrap n = n := by
  have h2 : (2 : Int) ^ 40 = 1099511627776 := by decide
  rw [h2] at h1
  exact IntWalk.i64_in n ⟨by omega, by omega⟩

theorem vMakeSlice_ok (ag : Agree P T) (h : HR base F μ H w) (hfree : μ H.length = none) {t : TypeId} {n c n' c' x : Value} {H' : Heap} (hn : VR μ n n') (hc : VR μ c c') (hb : vMakeSlice T H t n c = some (x, H')) :
    Step base F μ H H' w ((Instr.makeSlice t n' c').run P w) fun ν a => VR ν x a := by
  unfold vMakeSlice at hb
  simp only [Option.bind_eq_bind, Option.bind_eq_some_iff] at hb
  obtain ⟨i, hi, hb⟩ := hb
  have ok := ag.ty t i hi
  obtain ⟨d, hd, hu⟩ := ok.und
  split at hb
  · rename_i el l m hdesc
    simp only [Option.bind_eq_some_iff] at hb
    obtain ⟨ei, hei, hb⟩ := hb
    split at hb <;> simp only [Option.some.injEq, Prod.mk.injEq, reduceCtorEq] at hb
    obtain ⟨rfl, rfl⟩ := hb
    rename_i hcond
    obtain ⟨g1, g2, g3, g4, g5⟩ := hcond
    rw [hdesc] at hu
    simp only [DescOk] at hu
    subst hu
    have oke := ag.ty el ei hei
    obtain ⟨inf, e1, e2, e3, e4⟩ := oke.info
    have hz : VRs μ (cellsOf ei.zero) (cellsOf ei.zero) := VRs.refl_of fun u hu => plain_vr μ (oke.plains u hu)
    have hzc : ei.zero.cells = (cellsOf ei.zero).toArray := by rw [← cellsOf_cells]
    cases hn; cases hc
    have w1 := wrap_id (n := l) g1 (by omega)
    have w2 := wrap_id (n := m) (by omega) g5
    have hbig : ¬ (281474976710656 < (ei.bytes : Int) * m) := by
      have : (ei.bytes : Int) * m ≤ 2 ^ 40 := by rw [Int.mul_comm]; exact g3
      have h2 : (2 : Int) ^ 40 = 1099511627776 := by decide
      rw [h2] at this
      omega
    refine step_newRow h hfree (hz.rep m.toNat) ei.size el (a := .slice (some ⟨w.heap.size, 0, none⟩) l.toNat m.toNat) ?_ ?_
    · have hrep := rangeMap_rep (cellsOf ei.zero) m.toNat
      rw [oke.cells] at hrep
      have hcond1 : ¬ (m < 0) := by omega
      have hcond2 : ¬ (l < 0) := by omega
      have hcond3 : ¬ (m < l) := by omega
      by_cases hn0 : m.toNat * ei.size = 0
      · have hrep0 : repCells (cellsOf ei.zero) m.toNat = [] := List.eq_nil_of_length_eq_zero (by rw [repCells_length, oke.cells, hn0])
        rw [hrep0]
        simp [Instr.makeSlice, run_underlying hd, asInt, asIntOf, run_typeInfo' e1, e4, w1, w2, hcond1, hcond2, hcond3, hbig, oke.sizeOf w, hn0, Go.newRow, range_zero]
      · simp [Instr.makeSlice, run_underlying hd, asInt, asIntOf, run_typeInfo' e1, e4, w1, w2, hcond1, hcond2, hcond3, hbig, oke.sizeOf w, hn0, Go.newRow, oke.zero w, hzc, oke.cells]
        rw [hrep]
    · intro ν hm hl
      have := VR.slice (n := l.toNat) (c := m.toNat) (c' := m.toNat) (o := 0) hl (by omega) (.inr rfl) (by simp [repCells_length, oke.cells])
      simpa using this
  · simp at hb

/-- The cells that are appended. -/
structure Src (P : Program) (w : World) (size m : Nat) (y' : Value) (news : List Value) : Prop where
  form : ∃ a c, y' = .slice a m c ∧ (0 < m → ∃ ad, a = some ad ∧ ∀ j v, news[j]? = some v → w.cell? (ad.add j) = some v)
  len : news.length = m * size

theorem src_ok (h : HR base F μ H w) {a2 : Option Addr} {m c2 size : Nat} {y' : Value} {new : List Value} (hy : VR μ (.slice a2 m c2) y')
    (hnew : srcCells H a2 m size = some new) :
    ∃ news, VRs μ new news ∧ Src P w size m y' news := by
  unfold srcCells at hnew
  cases hy with
  | nilSlice =>
    simp at hnew; subst hnew
    exact ⟨[], .nil, ⟨none, 0, rfl, fun h0 => by omega⟩, by simp⟩
  | sliceZ p p' =>
    obtain ⟨b, o, sp⟩ := p
    cases sp <;> simp at hnew
    subst hnew
    exact ⟨[], .nil, ⟨some p', 0, rfl, fun h0 => by omega⟩, by simp⟩
  | sliceE p p' =>
    obtain ⟨b, o, sp⟩ := p
    cases sp <;> simp at hnew
    subst hnew
    exact ⟨[], .nil, ⟨some p', 0, rfl, fun h0 => by omega⟩, by simp⟩
  | slice hl hn hc ht =>
    rename_i b o c' l
    simp only at hnew
    split at hnew
    · rename_i hm0
      simp at hnew; subst hnew
      exact ⟨[], .nil, ⟨_, c', rfl, fun h0 => by omega⟩, by simp [hm0]⟩
    · obtain ⟨hlen, cs', hr, hcell⟩ := readCells_ok h hnew hl
      refine ⟨cs', hr, ⟨_, c', rfl, fun _ => ⟨_, rfl, fun j v hj => ?_⟩⟩, by rw [hr.length, hlen]⟩
      rw [add_loc, ← Nat.add_assoc]
      exact hcell j v hj

theorem Src.first {size m : Nat} {y' : Value} {news : List Value} (hs : Src P w size m y' news) (w' : World) (hw : ∀ a, w'.cell? a = w.cell? a) : (Builtin.firstCells size m y').run P w' = .ok news.toArray w' := by
  obtain ⟨⟨a, c, rfl, hm⟩, hlen⟩ := hs
  rcases Nat.eq_zero_or_pos m with h0 | h0
  · subst h0
    have : news = [] := List.eq_nil_of_length_eq_zero (by simpa using hlen)
    subst this
    cases a <;> simp [Builtin.firstCells, loadCells, loadCellsFrom]
  · obtain ⟨ad, rfl, hc⟩ := hm h0
    have := run_loadCells_list (P := P) w' ad news (fun j v hj => by rw [hw]; exact hc j v hj)
    rw [hlen] at this
    simp [Builtin.firstCells, this]

theorem run_room (ag : Agree P T) {t e : TypeId} {ei : TI} (ht : P.underlying t = some (.slice e)) (he : T.T e = some ei) {ty : TypeId} {b o n m c : Nat} {y' : Value} {news : List Value} (hs : Src P w ei.size m y' news) (hle : n + m ≤ c)
    {w2 : World} (hst : (storeCells ⟨b, o + n * ei.size, none⟩ news).run P w = .ok () w2) :
    (Builtin.append_ #[t, t] ty #[.slice (some ⟨b, o, none⟩) n c, y']).run P w = .ok (.slice (some ⟨b, o, none⟩) (n + m) c) w2 := by
  have oke := ag.ty e ei he
  have hf := hs.first w (fun _ => rfl)
  obtain ⟨⟨a, c2, rfl, hm⟩, hlen⟩ := hs
  have hadd : (⟨b, o, none⟩ : Addr).add (n * ei.size) = ⟨b, o + n * ei.size, none⟩ := by unfold Addr.add; split <;> simp_all
  simp [Builtin.append_, run_underlying ht, oke.sizeOf w, Builtin.lenOf, hle, hf, hadd, hst]

theorem run_zero (ag : Agree P T) {t e : TypeId} {ei : TI} (ht : P.underlying t = some (.slice e)) (he : T.T e = some ei) {ty : TypeId} {a : Option Addr} {c : Nat} {y' : Value} {news : List Value} (hs : Src P w ei.size 0 y' news) :
    (Builtin.append_ #[t, t] ty #[.slice a 0 c, y']).run P w = .ok (.slice a 0 c) w := by
  have oke := ag.ty e ei he
  have hf := hs.first w (fun _ => rfl)
  obtain ⟨⟨a2, c2, rfl, hm⟩, hlen⟩ := hs
  have : news = [] := List.eq_nil_of_length_eq_zero (by simpa using hlen)
  subst this
  cases a <;> simp [Builtin.append_, run_underlying ht, oke.sizeOf w, Builtin.lenOf, hf, storeCells]

/-- A row that grew: the machine's new block. -/
theorem step_grow (h : HR base F μ H w) (hfree : μ H.length = none) {cs cs' : List Value} (hcs : VRs μ cs cs') (sz n : Nat) (e : TypeId) (hlen : cs.length = n * sz) (z : Array Value) (hz : z.size = sz) (c : Nat) (hc : n ≤ c) {H1 : Heap}
    (h1 : HR base F μ H1 w) (hl1 : H1.length = H.length) {r : Result Value}
    (hr : r = .ok (.slice (some ⟨w.heap.size, 0, none⟩) n c) (w.drew.alloc (.cells (cs'.toArray ++ Builtin.zeroCells z (c - n)) e (0, 0)))) :
    Step base F μ H (H1 ++ [.row sz cs true true]) w r fun ν a => VR ν (.slice (some ⟨H.length, 0, none⟩) n unk) a := by
  have hfree1 : μ H1.length = none := by rw [hl1]; exact hfree
  have hsz : (cs'.toArray ++ Builtin.zeroCells z (c - n)).size = c * sz := by
    simp [size_zeroCells, hz, hcs.length, hlen, ← Nat.add_mul]
    congr 1; omega
  refine ⟨_, _, _, hr, Mu.le_set hfree1, fun b hb => Mu.set_ne _ _ (by simp at hb; omega), HR.new h1.drew hfree1 (cs'.toArray ++ Builtin.zeroCells z (c - n)) e (0, 0) sz cs (fun i _ => by simp) (fun i v hv => ?_), (Fr.drew).trans (Fr.alloc _ h.base_le h.far), ?_⟩
  · obtain ⟨v', a, b⟩ := hcs.get i v hv
    have hlt : i < cs'.length := (List.getElem?_eq_some_iff.1 a).1
    exact ⟨v', by rw [Array.getElem?_append_left (by simpa using hlt)]; simpa using a, b⟩
  · have hl : (μ.set H1.length ⟨w.drew.heap.size, 0, (cs'.toArray ++ Builtin.zeroCells z (c - n)).size, sz⟩) H.length = some ⟨w.heap.size, 0, (cs'.toArray ++ Builtin.zeroCells z (c - n)).size, sz⟩ := by
      rw [← hl1, Mu.set_same]; rfl
    have := VR.slice (n := n) (c := unk) (c' := c) (o := 0) hl hc (.inl rfl) (by simp only [hsz]; omega)
    simpa using this

/-- The abstract memory, with a block of which nothing is known. -/
theorem HR.spare (h : HR base F μ H w) (hfree : μ H.length = none) (x : Blk) : HR base F μ (H ++ [x]) w := by
  have key : ∀ {b : Nat} {y : Blk} {l : Loc}, (H ++ [x])[b]? = some y → μ b = some l → H[b]? = some y := by
    intro b y l hb hl
    rw [getElem?_snoc] at hb
    by_cases e : b = H.length
    · subst e; rw [hfree] at hl; simp at hl
    · rwa [if_neg e] at hb
  exact ⟨fun b sz cs l hb hl => h.own b sz cs l (key hb hl) hl, fun b sz cs l hb hl => h.ro b sz cs l (key hb hl) hl, fun b es l hb hl => h.maps b es l (key hb hl) hl,
    fun b b' k k' l l' hb hb' hk hk' hne hl hl' => h.inj b b' k k' l l' (key hb hl) (key hb' hl') hk hk' hne hl hl', h.far, h.base_le⟩

theorem fits {n m c bytes : Nat} (hg : c < n + m) (hb : (n + m) * bytes ≤ 2 ^ 40) : Builtin.nextslicecap (n + m) c * bytes ≤ 281474976710656 := growslice_fits hg (by omega)

/-- Growing: the machine's answer. -/
theorem run_grow (ag : Agree P T) {t e : TypeId} {ei : TI} (ht : P.underlying t = some (.slice e)) (he : T.T e = some ei) {ty : TypeId} {a : Addr} {n m c : Nat} {y' : Value} {olds news : List Value} (hs : Src P w ei.size m y' news)
    (hlo : olds.length = n * ei.size) (holds : ∀ j v, olds[j]? = some v → w.cell? (a.add j) = some v) (hg : c < n + m) (hn : n ≤ c) (h1 : (n + m) * ei.bytes ≤ 2 ^ 40) (h2 : n + m ≤ 2 ^ 40) :
    ∃ c', n + m ≤ c' ∧ (Builtin.append_ #[t, t] ty #[.slice (some a) n c, y']).run P w =
      .ok (.slice (some ⟨w.heap.size, 0, none⟩) (n + m) c') (w.drew.alloc (.cells ((olds ++ news).toArray ++ Builtin.zeroCells (cellsOf ei.zero).toArray (c' - (n + m))) e (0, 0))) := by
  have oke := ag.ty e ei he
  obtain ⟨inf, e1, e2, e3, e4⟩ := oke.info
  obtain ⟨⟨a2, c2, rfl, hm⟩, hlen⟩ := hs
  obtain ⟨ad, rfl, hc⟩ := hm (by omega)
  refine ⟨grownCap w (n + m) c e, grownCap_ge _ _ _ _, ?_⟩
  have := run_append_grow (P := P) (w := w) t ty e inf ei.zero ht e1 e2 a n c olds (by rw [hlo, e3]) holds ad m c2 news (by rw [hlen, e3]) hc hg (by omega) (by rw [e4]; exact fits hg h1)
  rw [this]
  have hzc : ei.zero.cells = (cellsOf ei.zero).toArray := by rw [← cellsOf_cells]
  simp [hzc]

theorem run_first (ag : Agree P T) {t e : TypeId} {ei : TI} (ht : P.underlying t = some (.slice e)) (he : T.T e = some ei) {ty : TypeId} {m : Nat} {y' : Value} {news : List Value} (hs : Src P w ei.size m y' news)
    (hg : 0 < m) (h1 : m * ei.bytes ≤ 2 ^ 40) (h2 : m ≤ 2 ^ 40) :
    ∃ c', m ≤ c' ∧ (Builtin.append_ #[t, t] ty #[.slice none 0 0, y']).run P w =
      .ok (.slice (some ⟨w.heap.size, 0, none⟩) m c') (w.drew.alloc (.cells (news.toArray ++ Builtin.zeroCells (cellsOf ei.zero).toArray (c' - m)) e (0, 0))) := by
  have oke := ag.ty e ei he
  obtain ⟨inf, e1, e2, e3, e4⟩ := oke.info
  obtain ⟨⟨a2, c2, rfl, hm⟩, hlen⟩ := hs
  obtain ⟨ad, rfl, hc⟩ := hm hg
  refine ⟨grownCap w m 0 e, grownCap_ge _ _ _ _, ?_⟩
  have := run_append_nil (P := P) (w := w) t ty e inf ei.zero ht e1 e2 ad m c2 news (by rw [hlen, e3]) hc hg (by omega) (by rw [e4]; omega)
  rw [this]
  have hzc : ei.zero.cells = (cellsOf ei.zero).toArray := by rw [← cellsOf_cells]
  simp [hzc]

end Go.Proofs.Ytdhbclplondmjaa.C

end

section
/- append. -/
set_option linter.unusedVariables false
set_option linter.unusedSimpArgs false
namespace Go.Proofs.Ytdhbclplondmjaa.C
open Go.RowKit

variable {P : Program} {T : Tab} {μ : Mu} {base : Nat} {F : Nat → Prop} {H : Heap} {w : World}

theorem VRs.nil_eq {l' : List Value} (h : VRs μ [] l') : l' = [] := by cases h; rfl

theorem mul_bytes {a b c d : Nat} (h : a * b ≤ c) (h2 : d ≤ a) : d * b ≤ c := Nat.le_trans (Nat.mul_le_mul_right b h2) h

theorem setCells_block : ∀ (b : Nat) (e : TypeId) (fr : Nat × Nat) (vs : List Value) (o : Nat) (arr : Array Value) (w : World), w.heap[b]? = some (.cells arr e fr) →
    ∃ arr2, (w.setCells b o vs).heap[b]? = some (.cells arr2 e fr) ∧ arr2.size = arr.size ∧ (∀ i, (i < o ∨ o + vs.length ≤ i) → arr2[i]? = arr[i]?) ∧ (∀ j, j < vs.length → o + j < arr.size → arr2[o + j]? = vs[j]?)
  | b, e, fr, [], o, arr, w, h => ⟨arr, h, rfl, fun _ _ => rfl, fun j hj => by simp at hj⟩
  | b, e, fr, v :: vs, o, arr, w, h => by
    have h1 : (w.setCell ⟨b, o, none⟩ v).heap[b]? = some (.cells (arr.setIfInBounds o v) e fr) := by simp [World.setCell, Array.getElem?_modify, h]
    obtain ⟨arr2, a1, a2, a3, a4⟩ := setCells_block b e fr vs (o + 1) _ _ h1
    refine ⟨arr2, a1, by simpa using a2, fun i hi => ?_, fun j hj hlt => ?_⟩
    · simp only [List.length_cons] at hi
      rw [a3 i (by omega), Array.getElem?_setIfInBounds_ne (by omega)]
    · cases j with
      | zero =>
        simp only [Nat.add_zero] at hlt ⊢
        rw [a3 o (by omega)]
        simp [hlt]
      | succ j =>
        simp only [List.length_cons] at hj
        have := a4 j (by omega) (by simp; omega)
        simpa [Nat.add_assoc, Nat.add_comm 1 j] using this

/-- Append to nothing with something. -/
theorem append_first (ag : Agree P T) (h : HR base F μ H w) (hfree : μ H.length = none) {t ty e : TypeId} {ei : TI} (ht : P.underlying t = some (.slice e)) (he : T.T e = some ei) {x' y' : Value} {m : Nat} {new news : List Value}
    (hx : VR μ (.slice none 0 0) x' ∨ ∃ a, x' = .slice (some a) 0 0) (hs : Src P w ei.size m y' news) (hr : VRs μ new news) (hm : 0 < m) (h1 : m * ei.bytes ≤ 2 ^ 40) (h2 : m ≤ 2 ^ 40) {H1 : Heap} (h3 : HR base F μ H1 w) (hl1 : H1.length = H.length) :
    Step base F μ H (H1 ++ [.row ei.size new true true]) w ((Builtin.append_ #[t, t] ty #[x', y']).run P w) fun ν a => VR ν (.slice (some ⟨H.length, 0, none⟩) m unk) a := by
  have oke := ag.ty e ei he
  have hlen : new.length = m * ei.size := by rw [← hr.length]; exact hs.len
  rcases hx with hx | ⟨a, rfl⟩
  · cases hx
    obtain ⟨c', hc, hrun⟩ := run_first ag ht he (ty := ty) hs hm h1 h2
    exact step_grow h hfree hr ei.size m e hlen _ (by simp [oke.cells]) c' hc h3 hl1 hrun
  · obtain ⟨c', hc, hrun⟩ := run_grow ag ht he (ty := ty) (a := a) (n := 0) (c := 0) (olds := []) hs (by simp) (by simp) (by omega) (Nat.le_refl _) (by simpa using h1) (by omega)
    rw [Nat.zero_add] at hc
    simp only [Nat.zero_add, List.nil_append] at hrun
    exact step_grow h hfree hr ei.size m e hlen _ (by simp [oke.cells]) c' hc h3 hl1 hrun

theorem vAppend_ok (ag : Agree P T) (h : HR base F μ H w) {t ty : TypeId} {x y x' y' r : Value} {H' : Heap} (hfree : H.length < H'.length → μ H.length = none) (hx : VR μ x x') (hy : VR μ y y') (hb : vAppend T H t x y = some (r, H')) :
    Step base F μ H H' w ((Builtin.append_ #[t, t] ty #[x', y']).run P w) fun ν a => VR ν r a := by
  unfold vAppend at hb
  simp only [Option.bind_eq_bind, Option.bind_eq_some_iff] at hb
  obtain ⟨i, hi, hb⟩ := hb
  have ok := ag.ty t i hi
  obtain ⟨d, hd, hu⟩ := ok.und
  split at hb
  · rename_i el a n c a2 m c2 hdesc
    rw [hdesc] at hu
    simp only [DescOk] at hu
    subst hu
    simp only [Option.bind_eq_some_iff] at hb
    obtain ⟨ei, hei, hb⟩ := hb
    split at hb
    · rename_i hcond
      obtain ⟨g1, g2, g3, g4⟩ := hcond
      simp only [Option.bind_eq_some_iff] at hb
      obtain ⟨new, hnew, hb⟩ := hb
      obtain ⟨news, hr, hs⟩ := src_ok (P := P) h (size := ei.size) hy hnew
      have oke := ag.ty el ei hei
      have hlen : new.length = m * ei.size := by rw [← hr.length]; exact hs.len
      split at hb
      · rename_i hone
        split at hb
        · rename_i hz
          obtain ⟨rfl, rfl⟩ := hz
          simp only [Nat.zero_add] at g3 g4
          have hx' : VR μ (.slice none 0 0) x' ∨ ∃ a, x' = .slice (some a) 0 0 := by
            cases hx with
            | nilSlice => exact .inl .nilSlice
            | sliceZ a a' => exact .inr ⟨_, rfl⟩
            | slice hl hn hc ht =>
              rcases hc with hc | hc
              · simp [unk] at hc
              · subst hc; exact .inr ⟨_, rfl⟩
          split at hb
          · rename_i hm0
            subst hm0
            simp only [Option.some.injEq, Prod.mk.injEq] at hb
            obtain ⟨rfl, rfl⟩ := hb
            refine Step.same h ?_ hx
            rcases hx' with hx' | ⟨a, rfl⟩
            · cases hx'; exact run_zero ag hd hei hs
            · exact run_zero ag hd hei hs
          · rename_i hm0
            simp only [Option.some.injEq, Prod.mk.injEq] at hb
            obtain ⟨rfl, rfl⟩ := hb
            replace hfree := hfree (by simp)
            exact append_first ag h hfree hd hei hx' hs hr (by omega) g3 g4 h rfl
        · rename_i hnz
          split at hb
          · rename_i b o
            split at hb
            · rename_i hunk
              subst hunk
              split at hb
              · rename_i sz cs heq
                split at hb
                · rename_i hcond2
                  obtain ⟨rfl, hle⟩ := hcond2
                  simp only [Option.some.injEq, Prod.mk.injEq] at hb
                  obtain ⟨rfl, rfl⟩ := hb
                  replace hfree := hfree (by simp)
                  have hk := h.kill b heq
                  have hkl : (H.set b (Blk.row ei.size cs true false)).length = H.length := by simp
                  have hkf : μ (H.set b (Blk.row ei.size cs true false)).length = none := by rw [hkl]; exact hfree
                  cases hx with
                  | sliceE p p' =>
                    rw [Nat.zero_add] at g3 g4
                    simp only [Nat.zero_add, Nat.zero_mul, List.take_zero, List.nil_append]
                    rcases Nat.eq_zero_or_pos m with hm0 | hm0
                    · subst hm0
                      exact ⟨_, w, μ, run_zero ag hd hei hs, MuLe.refl _, fun _ _ => rfl, hk.spare hkf _, Fr.refl _ _ _, .sliceE _ _⟩
                    · exact append_first ag h hfree hd hei (.inr ⟨_, rfl⟩) hs hr hm0 g3 g4 hk hkl
                  | slice hl hn hc ht =>
                    rename_i c' l
                    obtain ⟨q1, q2, q3, arr, ety, fr, a1, a2', a3, a4⟩ := h.own b _ _ l heq hl
                    obtain ⟨olen, olds, hor, hocell⟩ := readCells_ok h (o := o) (n := n * ei.size) (cs := (cs.drop o).take (n * ei.size)) (by unfold readCells; rw [heq]; simp [hle]) hl
                    have hnol : ∀ b' k l', (H.set b (Blk.row ei.size cs true false))[b']? = some k → k.mine = true → μ b' = some l' → l'.blk ≠ l.blk := by
                      intro b' k l' hb' hk' hl'
                      rw [List.getElem?_set] at hb'
                      by_cases e : b = b'
                      · subst e
                        rw [if_pos rfl] at hb'
                        split at hb' <;> simp at hb'
                        subst hb'
                        simp [Blk.mine] at hk'
                      · rw [if_neg e] at hb'
                        exact h.inj b' b k _ l' l hb' heq hk' rfl (fun q => e q.symm) hl' hl
                    by_cases hroom : n + m ≤ c'
                    · -- in place
                      have hsz : l.sz = ei.size := q1
                      have hnewlen : news.length = m * ei.size := hs.len
                      have hbound : l.sh + o + (n + m) * ei.size ≤ arr.size := by
                        rw [a2']
                        rw [hsz] at ht
                        exact Nat.le_trans (Nat.add_le_add_left (Nat.mul_le_mul_right _ hroom) _) ht
                      rw [Nat.add_mul] at hbound
                      have hstore : (storeCells ⟨l.blk, l.sh + o + n * ei.size, none⟩ news).run P w = .ok () (w.setCells l.blk (l.sh + o + n * ei.size) news) := by
                        have := run_storeCells_cells (P := P) l.blk (l.sh + o + n * ei.size) news 0 w (fun j hj => ?_) (fun j hj => ?_) (hr.one hone)
                        · simpa using this
                        · have hlt : l.sh + o + n * ei.size + 0 + j < arr.size := by omega
                          simp [World.cell?, a1]; omega
                        · have hn := a3 (l.sh + o + n * ei.size + 0 + j) (by omega)
                          simp only [World.frozen?, a1, Bool.and_eq_false_iff, decide_eq_false_iff_not]
                          by_cases q : fr.1 ≤ l.sh + o + n * ei.size + 0 + j
                          · exact .inr fun r => hn ⟨q, r⟩
                          · exact .inl q
                      have hrun := run_room ag hd hei (ty := ty) hs hroom hstore
                      have hw2 : ∀ (vs : List Value) (k : Nat) (w : World), HR base F μ (H.set b (Blk.row ei.size cs true false)) w → HR base F μ (H.set b (Blk.row ei.size cs true false)) (w.setCells l.blk k vs) := by
                        intro vs
                        induction vs with
                        | nil => intro k w h; exact h
                        | cons v vs ih => intro k w h; exact ih _ _ (h.elsewhere (p := ⟨l.blk, k, none⟩) v q2 q3 hnol)
                      have h2 := hw2 news (l.sh + o + n * ei.size) w hk
                      have hfr : Fr base F w (w.setCells l.blk (l.sh + o + n * ei.size) news) := Fr.setCells q2 q3 _ _ _
                      let l0 : Loc := ⟨l.blk, l.sh + o, l.top, ei.size⟩
                      have hrow : RowAt μ (w.setCells l.blk (l.sh + o + n * ei.size) news) l0 ((cs.drop o).take (n * ei.size) ++ new) := by
                        obtain ⟨arr2, b1, b2, b3, b4⟩ := setCells_block l.blk ety fr news (l.sh + o + n * ei.size) arr w a1
                        refine ⟨arr2, ety, fr, b1, b2.trans a2', by rw [b2]; exact a3, fun i v hv => ?_⟩
                        rw [List.getElem?_append] at hv
                        split at hv
                        · rename_i hi
                          obtain ⟨v', e1, e2⟩ := hor.get i v hv
                          rw [olen] at hi
                          refine ⟨v', ?_, e2⟩
                          change arr2[l.sh + o + i]? = some v'
                          rw [b3 _ (.inl (by omega))]
                          have := hocell i v' e1
                          simpa [World.cell?, a1] using this
                        · rename_i hi
                          rw [olen] at hi hv
                          obtain ⟨v', e1, e2⟩ := hr.get _ v hv
                          have hlt := (List.getElem?_eq_some_iff.1 e1).1
                          refine ⟨v', ?_, e2⟩
                          change arr2[l.sh + o + i]? = some v'
                          rw [show l.sh + o + i = l.sh + o + n * ei.size + (i - n * ei.size) by omega, b4 _ (by omega) (by omega)]
                          exact e1
                      refine ⟨_, _, μ.set (H.set b (Blk.row ei.size cs true false)).length l0, hrun, Mu.le_set hkf, fun b' hb' => Mu.set_ne _ _ (by simp at hb' ⊢; omega), HR.adopt h2 hkf (.row ei.size ((cs.drop o).take (n * ei.size) ++ new) true true) l0 q2 q3 hnol
                        (.inl ⟨_, rfl, hrow.mono (Mu.le_set hkf) rfl⟩), hfr, ?_⟩
                      have hl2 : (μ.set (H.set b (Blk.row ei.size cs true false)).length l0) H.length = some l0 := by
                        rw [hkl]
                        exact Mu.set_same μ H.length l0
                      have := VR.slice (n := n + m) (c := unk) (c' := c') (o := 0) hl2 hroom (.inl rfl) (by simpa [l0, hsz] using ht)
                      simpa [l0] using this
                    · obtain ⟨c3, hc3, hrun⟩ := run_grow ag hd hei (ty := ty) (a := ⟨l.blk, l.sh + o, none⟩) (n := n) (c := c') (olds := olds) hs (by rw [hor.length, olen])
                        (fun j v hj => by rw [add_loc, ← Nat.add_assoc]; exact hocell j v hj) (by omega) hn g3 g4
                      exact step_grow h hfree (hor.append hr) ei.size (n + m) el (by rw [List.length_append, olen, hlen, Nat.add_mul]) _ (by simp [oke.cells]) c3 hc3 hk hkl hrun
                · simp at hb
              · simp at hb
            · rename_i hunk
              have hknown : ∀ {l : Loc} {c' : Nat}, c = unk ∨ c = c' → c = c' := fun h => h.resolve_left hunk
              split at hb
              · rename_i hroom
                split at hb
                · rename_i sz cs heq
                  split at hb
                  · rename_i hsz
                    subst hsz
                    rw [Option.map_eq_some_iff] at hb
                    obtain ⟨H2, hH2, hb⟩ := hb
                    simp only [Prod.mk.injEq] at hb
                    obtain ⟨rfl, rfl⟩ := hb
                    cases hx with
                    | sliceZ p p' => simp at hnz
                    | sliceE p p' => exact absurd rfl hunk
                    | slice hl hn hc ht =>
                      rename_i c' l
                      obtain rfl := hknown (l := l) hc
                      obtain ⟨sz2, cs2, heq2, hlen2, hrun2, hr2, hfr2⟩ := writeCells_ok (P := P) h hl hr hH2
                      have hrun := run_room ag hd hei (ty := ty) (b := l.blk) (o := l.sh + o) hs hroom (w2 := w.setCells l.blk (l.sh + (o + n * ei.size)) news) (by rw [Nat.add_assoc l.sh]; exact hrun2)
                      exact ⟨_, _, μ, hrun, MuLe.refl _, fun _ _ => rfl, hr2, hfr2, .slice hl hroom (.inr rfl) ht⟩
                  · simp at hb
                · simp at hb
              · rename_i hroom
                simp only [Option.bind_eq_some_iff] at hb
                obtain ⟨old, hold, hb⟩ := hb
                simp only [Option.some.injEq, Prod.mk.injEq] at hb
                obtain ⟨rfl, rfl⟩ := hb
                replace hfree := hfree (by simp)
                cases hx with
                | sliceZ p p' => simp at hnz
                | sliceE p p' => exact absurd rfl hunk
                | slice hl hn hc ht =>
                  rename_i c' l
                  obtain rfl := hknown (l := l) hc
                  obtain ⟨olen, olds, hor, hocell⟩ := readCells_ok h hold hl
                  obtain ⟨c3, hc3, hrun⟩ := run_grow ag hd hei (ty := ty) (a := ⟨l.blk, l.sh + o, none⟩) (n := n) (c := c) (olds := olds) hs (by rw [hor.length, olen])
                    (fun j v hj => by rw [add_loc, ← Nat.add_assoc]; exact hocell j v hj) (by omega) hn g3 g4
                  exact step_grow h hfree (hor.append hr) ei.size (n + m) el (by rw [List.length_append, olen, hlen, Nat.add_mul]) _ (by simp [oke.cells]) c3 hc3 h rfl hrun
          · simp at hb
      · simp at hb
    · simp at hb
  · simp at hb

end Go.Proofs.Ytdhbclplondmjaa.C

end
