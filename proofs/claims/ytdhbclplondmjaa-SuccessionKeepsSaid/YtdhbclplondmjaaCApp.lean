/- make and append. -/
import Derived.Test.YtdhbclplondmjaaCStore
import Derived.Laws.Append
import Derived.Laws.AppendOwn
import Derived.IntWalk
set_option linter.unusedVariables false
set_option linter.unusedSimpArgs false
namespace Go.Proofs.Ytdhbclplondmjaa.C
open Go.RowKit

variable {P : Program} {T : Tab} {μ : Mu} {base : Nat} {F : Nat → Prop} {H : Heap} {w : World}

theorem wrap_id {n : Int} (h0 : 0 ≤ n) (h1 : n ≤ 2 ^ 40) : IntKind.i64.wrap n = n := by
  have h2 : (2 : Int) ^ 40 = 1099511627776 := by decide
  rw [h2] at h1
  exact IntWalk.i64_in n ⟨by omega, by omega⟩

theorem vMakeSlice_ok (ag : Agree P T) (h : HR base F μ H w) (hfree : μ H.length = none) {t : TypeId} {n c n' c' x : Value} {H' : Heap} (hn : VR μ n n') (hc : VR μ c c') (hb : vMakeSlice T H t n c = some (x, H')) :
    Step base F μ H H' w ((Instr.makeSlice t n' c').run P w) fun ν a => VR ν x a := by
  unfold vMakeSlice at hb
  simp only [Option.bind_eq_bind, Option.bind_eq_some_iff] at hb
  obtain ⟨i, hi, hb⟩ := hb
  have ok := ag.ty t i hi
  obtain ⟨d, hd, hu⟩ := ok.und
  split at hb
  · rename_i el l m hdesc
    simp only [Option.bind_eq_some_iff] at hb
    obtain ⟨ei, hei, hb⟩ := hb
    split at hb <;> simp only [Option.some.injEq, Prod.mk.injEq, reduceCtorEq] at hb
    obtain ⟨rfl, rfl⟩ := hb
    rename_i hcond
    obtain ⟨g1, g2, g3, g4, g5⟩ := hcond
    rw [hdesc] at hu
    simp only [DescOk] at hu
    subst hu
    have oke := ag.ty el ei hei
    obtain ⟨inf, e1, e2, e3, e4⟩ := oke.info
    have hz : VRs μ (cellsOf ei.zero) (cellsOf ei.zero) := VRs.refl_of fun u hu => plain_vr μ (oke.plains u hu)
    have hzc : ei.zero.cells = (cellsOf ei.zero).toArray := by rw [← cellsOf_cells]
    cases hn; cases hc
    have w1 := wrap_id (n := l) g1 (by omega)
    have w2 := wrap_id (n := m) (by omega) g5
    have hbig : ¬ (281474976710656 < (ei.bytes : Int) * m) := by
      have : (ei.bytes : Int) * m ≤ 2 ^ 40 := by rw [Int.mul_comm]; exact g3
      have h2 : (2 : Int) ^ 40 = 1099511627776 := by decide
      rw [h2] at this
      omega
    refine step_newRow h hfree (hz.rep m.toNat) ei.size el (a := .slice (some ⟨w.heap.size, 0, none⟩) l.toNat m.toNat) ?_ ?_
    · have hrep := rangeMap_rep (cellsOf ei.zero) m.toNat
      rw [oke.cells] at hrep
      have hcond1 : ¬ (m < 0) := by omega
      have hcond2 : ¬ (l < 0) := by omega
      have hcond3 : ¬ (m < l) := by omega
      by_cases hn0 : m.toNat * ei.size = 0
      · have hrep0 : repCells (cellsOf ei.zero) m.toNat = [] := List.eq_nil_of_length_eq_zero (by rw [repCells_length, oke.cells, hn0])
        rw [hrep0]
        simp [Instr.makeSlice, run_underlying hd, asInt, asIntOf, run_typeInfo' e1, e4, w1, w2, hcond1, hcond2, hcond3, hbig, oke.sizeOf w, hn0, Go.newRow, range_zero]
      · simp [Instr.makeSlice, run_underlying hd, asInt, asIntOf, run_typeInfo' e1, e4, w1, w2, hcond1, hcond2, hcond3, hbig, oke.sizeOf w, hn0, Go.newRow, oke.zero w, hzc, oke.cells]
        rw [hrep]
    · intro ν hm hl
      have := VR.slice (n := l.toNat) (c := m.toNat) (c' := m.toNat) (o := 0) hl (by omega) (.inr rfl) (by simp [repCells_length, oke.cells])
      simpa using this
  · simp at hb

/-- The cells that are appended. -/
structure Src (P : Program) (w : World) (size m : Nat) (y' : Value) (news : List Value) : Prop where
  form : ∃ a c, y' = .slice a m c ∧ (0 < m → ∃ ad, a = some ad ∧ ∀ j v, news[j]? = some v → w.cell? (ad.add j) = some v)
  len : news.length = m * size

theorem src_ok (h : HR base F μ H w) {a2 : Option Addr} {m c2 size : Nat} {y' : Value} {new : List Value} (hy : VR μ (.slice a2 m c2) y')
    (hnew : srcCells H a2 m size = some new) :
    ∃ news, VRs μ new news ∧ Src P w size m y' news := by
  unfold srcCells at hnew
  cases hy with
  | nilSlice =>
    simp at hnew; subst hnew
    exact ⟨[], .nil, ⟨none, 0, rfl, fun h0 => by omega⟩, by simp⟩
  | sliceZ p p' =>
    obtain ⟨b, o, sp⟩ := p
    cases sp <;> simp at hnew
    subst hnew
    exact ⟨[], .nil, ⟨some p', 0, rfl, fun h0 => by omega⟩, by simp⟩
  | sliceE p p' =>
    obtain ⟨b, o, sp⟩ := p
    cases sp <;> simp at hnew
    subst hnew
    exact ⟨[], .nil, ⟨some p', 0, rfl, fun h0 => by omega⟩, by simp⟩
  | slice hl hn hc ht =>
    rename_i b o c' l
    simp only at hnew
    split at hnew
    · rename_i hm0
      simp at hnew; subst hnew
      exact ⟨[], .nil, ⟨_, c', rfl, fun h0 => by omega⟩, by simp [hm0]⟩
    · obtain ⟨hlen, cs', hr, hcell⟩ := readCells_ok h hnew hl
      refine ⟨cs', hr, ⟨_, c', rfl, fun _ => ⟨_, rfl, fun j v hj => ?_⟩⟩, by rw [hr.length, hlen]⟩
      rw [add_loc, ← Nat.add_assoc]
      exact hcell j v hj

theorem Src.first {size m : Nat} {y' : Value} {news : List Value} (hs : Src P w size m y' news) (w' : World) (hw : ∀ a, w'.cell? a = w.cell? a) : (Builtin.firstCells size m y').run P w' = .ok news.toArray w' := by
  obtain ⟨⟨a, c, rfl, hm⟩, hlen⟩ := hs
  rcases Nat.eq_zero_or_pos m with h0 | h0
  · subst h0
    have : news = [] := List.eq_nil_of_length_eq_zero (by simpa using hlen)
    subst this
    cases a <;> simp [Builtin.firstCells, loadCells, loadCellsFrom]
  · obtain ⟨ad, rfl, hc⟩ := hm h0
    have := run_loadCells_list (P := P) w' ad news (fun j v hj => by rw [hw]; exact hc j v hj)
    rw [hlen] at this
    simp [Builtin.firstCells, this]

theorem run_room (ag : Agree P T) {t e : TypeId} {ei : TI} (ht : P.underlying t = some (.slice e)) (he : T.T e = some ei) {ty : TypeId} {b o n m c : Nat} {y' : Value} {news : List Value} (hs : Src P w ei.size m y' news) (hle : n + m ≤ c)
    {w2 : World} (hst : (storeCells ⟨b, o + n * ei.size, none⟩ news).run P w = .ok () w2) :
    (Builtin.append_ #[t, t] ty #[.slice (some ⟨b, o, none⟩) n c, y']).run P w = .ok (.slice (some ⟨b, o, none⟩) (n + m) c) w2 := by
  have oke := ag.ty e ei he
  have hf := hs.first w (fun _ => rfl)
  obtain ⟨⟨a, c2, rfl, hm⟩, hlen⟩ := hs
  have hadd : (⟨b, o, none⟩ : Addr).add (n * ei.size) = ⟨b, o + n * ei.size, none⟩ := by unfold Addr.add; split <;> simp_all
  simp [Builtin.append_, run_underlying ht, oke.sizeOf w, Builtin.lenOf, hle, hf, hadd, hst]

theorem run_zero (ag : Agree P T) {t e : TypeId} {ei : TI} (ht : P.underlying t = some (.slice e)) (he : T.T e = some ei) {ty : TypeId} {a : Option Addr} {c : Nat} {y' : Value} {news : List Value} (hs : Src P w ei.size 0 y' news) :
    (Builtin.append_ #[t, t] ty #[.slice a 0 c, y']).run P w = .ok (.slice a 0 c) w := by
  have oke := ag.ty e ei he
  have hf := hs.first w (fun _ => rfl)
  obtain ⟨⟨a2, c2, rfl, hm⟩, hlen⟩ := hs
  have : news = [] := List.eq_nil_of_length_eq_zero (by simpa using hlen)
  subst this
  cases a <;> simp [Builtin.append_, run_underlying ht, oke.sizeOf w, Builtin.lenOf, hf, storeCells]

/-- A row that grew: the machine's new block. -/
theorem step_grow (h : HR base F μ H w) (hfree : μ H.length = none) {cs cs' : List Value} (hcs : VRs μ cs cs') (sz n : Nat) (e : TypeId) (hlen : cs.length = n * sz) (z : Array Value) (hz : z.size = sz) (c : Nat) (hc : n ≤ c) {H1 : Heap}
    (h1 : HR base F μ H1 w) (hl1 : H1.length = H.length) {r : Result Value}
    (hr : r = .ok (.slice (some ⟨w.heap.size, 0, none⟩) n c) (w.drew.alloc (.cells (cs'.toArray ++ Builtin.zeroCells z (c - n)) e (0, 0)))) :
    Step base F μ H (H1 ++ [.row sz cs true true]) w r fun ν a => VR ν (.slice (some ⟨H.length, 0, none⟩) n unk) a := by
  have hfree1 : μ H1.length = none := by rw [hl1]; exact hfree
  have hsz : (cs'.toArray ++ Builtin.zeroCells z (c - n)).size = c * sz := by
    simp [size_zeroCells, hz, hcs.length, hlen, ← Nat.add_mul]
    congr 1; omega
  refine ⟨_, _, _, hr, Mu.le_set hfree1, fun b hb => Mu.set_ne _ _ (by simp at hb; omega), HR.new h1.drew hfree1 (cs'.toArray ++ Builtin.zeroCells z (c - n)) e (0, 0) sz cs (fun i _ => by simp) (fun i v hv => ?_), (Fr.drew).trans (Fr.alloc _ h.base_le h.far), ?_⟩
  · obtain ⟨v', a, b⟩ := hcs.get i v hv
    have hlt : i < cs'.length := (List.getElem?_eq_some_iff.1 a).1
    exact ⟨v', by rw [Array.getElem?_append_left (by simpa using hlt)]; simpa using a, b⟩
  · have hl : (μ.set H1.length ⟨w.drew.heap.size, 0, (cs'.toArray ++ Builtin.zeroCells z (c - n)).size, sz⟩) H.length = some ⟨w.heap.size, 0, (cs'.toArray ++ Builtin.zeroCells z (c - n)).size, sz⟩ := by
      rw [← hl1, Mu.set_same]; rfl
    have := VR.slice (n := n) (c := unk) (c' := c) (o := 0) hl hc (.inl rfl) (by simp only [hsz]; omega)
    simpa using this

/-- The abstract memory, with a block of which nothing is known. -/
theorem HR.spare (h : HR base F μ H w) (hfree : μ H.length = none) (x : Blk) : HR base F μ (H ++ [x]) w := by
  have key : ∀ {b : Nat} {y : Blk} {l : Loc}, (H ++ [x])[b]? = some y → μ b = some l → H[b]? = some y := by
    intro b y l hb hl
    rw [getElem?_snoc] at hb
    by_cases e : b = H.length
    · subst e; rw [hfree] at hl; simp at hl
    · rwa [if_neg e] at hb
  exact ⟨fun b sz cs l hb hl => h.own b sz cs l (key hb hl) hl, fun b sz cs l hb hl => h.ro b sz cs l (key hb hl) hl, fun b es l hb hl => h.maps b es l (key hb hl) hl,
    fun b b' k k' l l' hb hb' hk hk' hne hl hl' => h.inj b b' k k' l l' (key hb hl) (key hb' hl') hk hk' hne hl hl', h.far, h.base_le⟩

theorem fits {n m c bytes : Nat} (hg : c < n + m) (hb : (n + m) * bytes ≤ 2 ^ 40) : Builtin.nextslicecap (n + m) c * bytes ≤ 281474976710656 := growslice_fits hg (by omega)

/-- Growing: the machine's answer. -/
theorem run_grow (ag : Agree P T) {t e : TypeId} {ei : TI} (ht : P.underlying t = some (.slice e)) (he : T.T e = some ei) {ty : TypeId} {a : Addr} {n m c : Nat} {y' : Value} {olds news : List Value} (hs : Src P w ei.size m y' news)
    (hlo : olds.length = n * ei.size) (holds : ∀ j v, olds[j]? = some v → w.cell? (a.add j) = some v) (hg : c < n + m) (hn : n ≤ c) (h1 : (n + m) * ei.bytes ≤ 2 ^ 40) (h2 : n + m ≤ 2 ^ 40) :
    ∃ c', n + m ≤ c' ∧ (Builtin.append_ #[t, t] ty #[.slice (some a) n c, y']).run P w =
      .ok (.slice (some ⟨w.heap.size, 0, none⟩) (n + m) c') (w.drew.alloc (.cells ((olds ++ news).toArray ++ Builtin.zeroCells (cellsOf ei.zero).toArray (c' - (n + m))) e (0, 0))) := by
  have oke := ag.ty e ei he
  obtain ⟨inf, e1, e2, e3, e4⟩ := oke.info
  obtain ⟨⟨a2, c2, rfl, hm⟩, hlen⟩ := hs
  obtain ⟨ad, rfl, hc⟩ := hm (by omega)
  refine ⟨grownCap w (n + m) c e, grownCap_ge _ _ _ _, ?_⟩
  have := run_append_grow (P := P) (w := w) t ty e inf ei.zero ht e1 e2 a n c olds (by rw [hlo, e3]) holds ad m c2 news (by rw [hlen, e3]) hc hg (by omega) (by rw [e4]; exact fits hg h1)
  rw [this]
  have hzc : ei.zero.cells = (cellsOf ei.zero).toArray := by rw [← cellsOf_cells]
  simp [hzc]

theorem run_first (ag : Agree P T) {t e : TypeId} {ei : TI} (ht : P.underlying t = some (.slice e)) (he : T.T e = some ei) {ty : TypeId} {m : Nat} {y' : Value} {news : List Value} (hs : Src P w ei.size m y' news)
    (hg : 0 < m) (h1 : m * ei.bytes ≤ 2 ^ 40) (h2 : m ≤ 2 ^ 40) :
    ∃ c', m ≤ c' ∧ (Builtin.append_ #[t, t] ty #[.slice none 0 0, y']).run P w =
      .ok (.slice (some ⟨w.heap.size, 0, none⟩) m c') (w.drew.alloc (.cells (news.toArray ++ Builtin.zeroCells (cellsOf ei.zero).toArray (c' - m)) e (0, 0))) := by
  have oke := ag.ty e ei he
  obtain ⟨inf, e1, e2, e3, e4⟩ := oke.info
  obtain ⟨⟨a2, c2, rfl, hm⟩, hlen⟩ := hs
  obtain ⟨ad, rfl, hc⟩ := hm hg
  refine ⟨grownCap w m 0 e, grownCap_ge _ _ _ _, ?_⟩
  have := run_append_nil (P := P) (w := w) t ty e inf ei.zero ht e1 e2 ad m c2 news (by rw [hlen, e3]) hc hg (by omega) (by rw [e4]; omega)
  rw [this]
  have hzc : ei.zero.cells = (cellsOf ei.zero).toArray := by rw [← cellsOf_cells]
  simp [hzc]

end Go.Proofs.Ytdhbclplondmjaa.C
