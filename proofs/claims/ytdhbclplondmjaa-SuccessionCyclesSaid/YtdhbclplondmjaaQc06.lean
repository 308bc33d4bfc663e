/- Texts of one's own, laid together: CMap -/
import Derived.Test.YtdhbclplondmjaaQc05
import Derived.Laws.IdiomMaps
import Derived.Lib.ConvBytes
section
/- Maps by strings; the bytes of a string. -/
set_option linter.unusedVariables false
set_option linter.unusedSimpArgs false
namespace Go.Proofs.Ytdhbclplondmjaa.C
open Go.RowKit

variable {P : Program} {T : Tab} {μ : Mu} {base : Nat} {F : Nat → Prop} {H : Heap} {w : World}

theorem zero_vr {t : TypeId} {i : TI} (h : TyOk P t i) : VR μ i.zero i.zero := by
  have hp := h.plains
  cases hz : i.zero with
  | agg cs =>
    rw [hz] at hp
    have := VR.agg (μ := μ) (VRs.refl_of fun v hv => plain_vr μ (hp v (by simpa [cellsOf] using hv)) : VRs μ cs.toList cs.toList)
    simpa using this
  | _ =>
    rw [hz] at hp
    exact plain_vr μ (hp _ (by simp [cellsOf]))

theorem ba_data (s a : ByteArray) : (s == a) = (s.data == a.data) := by cases s; cases a; rfl
theorem ba_eq {s a : ByteArray} (h : (s == a) = true) : s = a := by
  rw [ba_data] at h
  cases s; cases a
  simp at h
  rw [h]
theorem ba_refl (a : ByteArray) : (a == a) = true := by rw [ba_data]; simp

theorem find_ok {s : ByteArray} : ∀ {es : List (Value × Value)} {ms : List MapEntry} (i : Nat), VRs μ (es.map (·.1)) (ms.map (·.key)) → VRs μ (es.map (·.2)) (ms.map (·.val)) → ∀ {r : Option Value}, lookE es s = some r →
    (r = none ∧ Instr.findNow .string (.string s) ms i = some none) ∨ ∃ v j m, r = some v ∧ ms[j]? = some m ∧ m.key = .string s ∧ VR μ v m.val ∧ Instr.findNow .string (.string s) ms i = some (some (i + j, m.val))
  | [], [], i, _, _, r, h => by
    simp [lookE] at h
    exact .inl ⟨h.symm, rfl⟩
  | [], _ :: _, _, h, _, _, _ => by cases h
  | _ :: _, [], _, h, _, _, _ => by cases h
  | (k, v) :: es, m :: ms, i, hk, hv, r, h => by
    cases hk with
    | cons hk hks =>
      cases hv with
      | cons hv hvs =>
        cases k <;> simp only [lookE, reduceCtorEq] at h
        rename_i a
        simp only at hk hv
        generalize hmk : m.key = mk at hk
        cases hk
        split at h
        · rename_i he
          simp only [Option.some.injEq] at h
          refine .inr ⟨v, 0, m, h.symm, rfl, ?_, hv, ?_⟩
          · rw [hmk, ba_eq he]
          · simp [Instr.findNow, Instr.sameNow, hmk, he]
        · rename_i he
          have he' : (s == a) = false := by simpa using he
          rcases find_ok (i + 1) hks hvs h with ⟨h1, h2⟩ | ⟨v', j, m', h1, h2, h3, h4, h5⟩
          · exact .inl ⟨h1, by simp [Instr.findNow, Instr.sameNow, hmk, he', h2]⟩
          · refine .inr ⟨v', j + 1, m', h1, by simpa using h2, h3, h4, ?_⟩
            simp only [Instr.findNow, Instr.sameNow, hmk, he', h5]
            congr 3
            omega

theorem vLookup_ok (ag : Agree P T) (h : HR base F μ H w) {t : TypeId} {x k x' k' v : Value} {ok : Bool} (hx : VR μ x x') (hk : VR μ k k') (hv : vLookup T H t x k ok = some v) : ∃ v', (Instr.lookup t x' k' ok).run P w = .ok v' w ∧ VR μ v v' := by
  unfold vLookup at hv
  split at hv
  · rename_i kt et s hd
    split at hv
    · rename_i ei hkt het
      rw [Option.bind_eq_some_iff] at hv
      obtain ⟨es, hes, hv⟩ := hv
      rw [Option.map_eq_some_iff] at hv
      obtain ⟨r, hr, hv⟩ := hv
      obtain ⟨d, hd1, hd2⟩ := ag.d hd
      simp only [DescOk] at hd2
      subst hd2
      obtain ⟨d2, hk1, hk2⟩ := ag.d hkt
      simp only [DescOk] at hk2
      subst hk2
      have oke := ag.ty et ei het
      cases hk
      have chk : ∀ b, (Instr.checkKey b 10000 kt (.string s)).run P w = .ok () w := by
        intro b
        unfold Instr.checkKey
        simp [run_underlying hk1]
      have fin : ∀ ms : Array MapEntry, VRs μ (es.map (·.1)) (ms.toList.map (·.key)) → VRs μ (es.map (·.2)) (ms.toList.map (·.val)) →
          (r = none ∧ (Instr.findKey kt (.string s) ms.toList).run P w = .ok none w) ∨ ∃ u j m, r = some u ∧ VR μ u m ∧ (Instr.findKey kt (.string s) ms.toList).run P w = .ok (some (j, m)) w := by
        intro ms h1 h2
        rcases find_ok 0 h1 h2 hr with ⟨h3, hf⟩ | ⟨u, j, m, h3, hj, hmk, hu, hf⟩
        · exact .inl ⟨h3, by simp [Instr.findKey, run_underlying hk1, hf]⟩
        · exact .inr ⟨u, 0 + j, m.val, h3, hu, by simp [Instr.findKey, run_underlying hk1, hf]⟩
      have vnone : VR μ (if ok then .tuple #[ei.zero, .bool false] else ei.zero) (if ok then .tuple #[ei.zero, .bool false] else ei.zero) := by
        cases ok
        · exact zero_vr oke
        · exact .tuple (.cons (zero_vr oke) (.cons (.bool _) .nil))
      have vsome : ∀ {u m : Value}, VR μ u m → VR μ (if ok then .tuple #[u, .bool true] else u) (if ok then .tuple #[m, .bool true] else m) := by
        intro u m hu
        cases ok
        · exact hu
        · exact .tuple (.cons hu (.cons (.bool _) .nil))
      unfold entriesOf at hes
      split at hes
      · simp only [Option.some.injEq] at hes
        subst hes
        cases hx
        rcases fin #[] .nil .nil with ⟨h3, hf⟩ | ⟨u, j, m, h3, hu, hf⟩
        · subst h3
          simp only at hf
          exact ⟨if ok then .tuple #[ei.zero, .bool false] else ei.zero, by simp [Instr.lookup, run_underlying hd1, chk, hf, oke.zero w], by rw [← hv]; exact vnone⟩
        · subst h3
          simp only at hf
          exact ⟨if ok then .tuple #[m, .bool true] else m, by simp [Instr.lookup, run_underlying hd1, chk, hf], by rw [← hv]; exact vsome hu⟩
      · rename_i b
        split at hes
        · rename_i es2 heq
          simp only [Option.some.injEq] at hes
          subst hes
          cases hx
          rename_i l hl
          obtain ⟨_, _, ms, clock, m1, m2, m3⟩ := h.maps b _ l heq hl
          rcases fin ms m2 m3 with ⟨h3, hf⟩ | ⟨u, j, m, h3, hu, hf⟩
          · subst h3
            exact ⟨if ok then .tuple #[ei.zero, .bool false] else ei.zero, by simp [Instr.lookup, run_underlying hd1, MapKept.run_getObj_map m1, chk, hf, oke.zero w], by rw [← hv]; exact vnone⟩
          · subst h3
            exact ⟨if ok then .tuple #[m, .bool true] else m, by simp [Instr.lookup, run_underlying hd1, MapKept.run_getObj_map m1, chk, hf], by rw [← hv]; exact vsome hu⟩
        · simp at hes
      · simp at hes
    · simp at hv
  · simp at hv

theorem modify_zero {α : Type} (f : α → α) (a : α) (l : List α) : (a :: l).modify 0 f = f a :: l := rfl

/-- What an update finds and leaves. -/
theorem put_ok {s : ByteArray} {v v' : Value} (hv : VR μ v v') : ∀ {es : List (Value × Value)} {ms : List MapEntry} (i : Nat), VRs μ (es.map (·.1)) (ms.map (·.key)) → VRs μ (es.map (·.2)) (ms.map (·.val)) → ∀ {es' : List (Value × Value)}, setE es s v = some es' →
    (Instr.findNow .string (.string s) ms i = some none ∧ ∀ c, VRs μ (es'.map (·.1)) ((ms ++ [({ key := .string s, val := v', born := c } : MapEntry)]).map (·.key)) ∧ VRs μ (es'.map (·.2)) ((ms ++ [({ key := .string s, val := v', born := c } : MapEntry)]).map (·.val))) ∨
    ∃ j m, ms[j]? = some m ∧ m.key = .string s ∧ Instr.findNow .string (.string s) ms i = some (some (i + j, m.val)) ∧
      VRs μ (es'.map (·.1)) ((ms.modify j fun e => { e with key := .string s, val := v' }).map (·.key)) ∧ VRs μ (es'.map (·.2)) ((ms.modify j fun e => { e with key := .string s, val := v' }).map (·.val))
  | [], [], i, _, _, es', h => by
    simp [setE] at h
    subst h
    exact .inl ⟨rfl, fun c => ⟨.cons (.string s) .nil, .cons hv .nil⟩⟩
  | [], _ :: _, _, h, _, _, _ => by cases h
  | _ :: _, [], _, h, _, _, _ => by cases h
  | (k, u) :: es, m :: ms, i, hk, hu, es', h => by
    cases hk with
    | cons hk hks =>
      cases hu with
      | cons hu hus =>
        cases k <;> simp only [setE, reduceCtorEq] at h
        rename_i a
        simp only at hk hu
        generalize hmk : m.key = mk at hk
        cases hk
        split at h
        · rename_i he
          simp only [Option.some.injEq] at h
          subst h
          refine .inr ⟨0, m, rfl, by rw [hmk, ba_eq he], by simp [Instr.findNow, Instr.sameNow, hmk, he], ?_, ?_⟩
          · rw [modify_zero]; exact .cons (.string s) hks
          · rw [modify_zero]; exact .cons hv hus
        · rename_i he
          have he' : (s == a) = false := by simpa using he
          rw [Option.map_eq_some_iff] at h
          obtain ⟨l', hl', h⟩ := h
          subst h
          rcases put_ok hv (i + 1) hks hus hl' with ⟨h1, h2⟩ | ⟨j, m', h1, h2, h3, h4, h5⟩
          · refine .inl ⟨by simp [Instr.findNow, Instr.sameNow, hmk, he', h1], fun c => ?_⟩
            obtain ⟨q1, q2⟩ := h2 c
            refine ⟨.cons ?_ q1, .cons hu q2⟩
            simp only [hmk]; exact .string a
          · refine .inr ⟨j + 1, m', by simpa using h1, h2, ?_, ?_, ?_⟩
            · simp only [Instr.findNow, Instr.sameNow, hmk, he', h3]
              congr 3
              omega
            · refine .cons ?_ h4
              simp only [hmk]; exact .string a
            · exact .cons hu h5

/-- A map's entries are others. -/
theorem HR.putMap (h : HR base F μ H w) {b : Nat} {es es' : List (Value × Value)} {l : Loc} (hb : H[b]? = some (.map es)) (hl : μ b = some l) {ms : Array MapEntry} {clock : Nat}
    (h1 : VRs μ (es'.map (·.1)) (ms.toList.map (·.key))) (h2 : VRs μ (es'.map (·.2)) (ms.toList.map (·.val))) :
    HR base F μ (H.set b (.map es')) { w with heap := w.heap.setIfInBounds l.blk (.map ms clock) } ∧ Fr base F w { w with heap := w.heap.setIfInBounds l.blk (.map ms clock) } := by
  obtain ⟨e1, e2, e3⟩ := h.maps b es l hb hl
  have hblt : b < H.length := (List.getElem?_eq_some_iff.1 hb).1
  have hlt := e3.lt
  have hother : ∀ k, k ≠ l.blk → (w.heap.setIfInBounds l.blk (.map ms clock))[k]? = w.heap[k]? := fun k hk => Array.getElem?_setIfInBounds_ne (fun q => hk q.symm)
  have key : ∀ {c : Nat} {x : Blk}, (H.set b (.map es'))[c]? = some x → (c = b ∧ x = .map es') ∨ (c ≠ b ∧ H[c]? = some x) := by
    intro c x hx
    rw [List.getElem?_set] at hx
    by_cases e : b = c
    · subst e; rw [if_pos rfl, if_pos hblt] at hx; simp at hx; exact .inl ⟨rfl, hx.symm⟩
    · rw [if_neg e] at hx; exact .inr ⟨fun q => e q.symm, hx⟩
  refine ⟨⟨?_, ?_, ?_, ?_, ?_, ?_⟩, ⟨rfl, rfl, rfl, by simp, ?_⟩⟩
  · intro c sz cs l' hc hl'
    rcases key hc with ⟨rfl, hx⟩ | ⟨hne, hc⟩
    · simp at hx
    · obtain ⟨a, c1, d, g⟩ := h.own c sz cs l' hc hl'
      exact ⟨a, c1, d, g.mono (MuLe.refl _) (hother _ (h.inj c b _ _ l' l hc hb rfl rfl hne hl' hl))⟩
  · intro c sz cs l' hc hl'
    rcases key hc with ⟨rfl, hx⟩ | ⟨hne, hc⟩
    · simp at hx
    · obtain ⟨a, c1, d⟩ := h.ro c sz cs l' hc hl'
      exact ⟨a, c1, fun j u hu => let ⟨u', x, y⟩ := d j u hu; ⟨u', (cell_of_heap (hother _ (by simp; omega))).trans x, y⟩⟩
  · intro c es2 l' hc hl'
    rcases key hc with ⟨rfl, hx⟩ | ⟨hne, hc⟩
    · simp only [Blk.map.injEq] at hx
      subst hx
      rw [hl] at hl'; simp at hl'; subst hl'
      exact ⟨e1, e2, ms, clock, by simp [hlt], h1, h2⟩
    · obtain ⟨a, c1, d⟩ := h.maps c es2 l' hc hl'
      exact ⟨a, c1, d.mono (MuLe.refl _) (hother _ (h.inj c b _ _ l' l hc hb rfl rfl hne hl' hl))⟩
  · intro c c' k k' m m' hc hc' hk hk' hne hm hm'
    rcases key hc with ⟨rfl, rfl⟩ | ⟨g1, hc2⟩ <;> rcases key hc' with ⟨rfl, rfl⟩ | ⟨g2, hc3⟩
    · exact absurd rfl hne
    · exact h.inj _ c' _ k' m m' hb hc3 rfl hk' hne hm hm'
    · exact h.inj c _ k _ m m' hc2 hb hk rfl hne hm hm'
    · exact h.inj c c' k k' m m' hc2 hc3 hk hk' hne hm hm'
  · intro k hk; simpa using h.far k hk
  · simpa using h.base_le
  · intro k hk
    refine hother k ?_
    rintro rfl
    rcases hk with hk | hk
    · omega
    · exact e2 hk

theorem vMapUpdate_ok (ag : Agree P T) (h : HR base F μ H w) {t : TypeId} {m k v m' k' v' : Value} {H' : Heap} (hm : VR μ m m') (hk : VR μ k k') (hv : VR μ v v') (hs : vMapUpdate T H t m k v = some H') :
    H'.length = H.length ∧ Step base F μ H H' w ((Instr.mapUpdate t m' k' v').run P w) fun _ _ => True := by
  unfold vMapUpdate at hs
  split at hs
  · rename_i kt et b s hd
    split at hs
    · rename_i es hkt heq
      rw [Option.map_eq_some_iff] at hs
      obtain ⟨es', hes, hs⟩ := hs
      subst hs
      obtain ⟨d, hd1, hd2⟩ := ag.d hd
      simp only [DescOk] at hd2
      subst hd2
      obtain ⟨d2, hk1, hk2⟩ := ag.d hkt
      simp only [DescOk] at hk2
      subst hk2
      cases hk
      cases hm
      rename_i l hl
      obtain ⟨_, _, ms, clock, m1, m2, m3⟩ := h.maps b _ l heq hl
      have chk : ∀ b, (Instr.checkKey b 10000 kt (.string s)).run P w = .ok () w := by
        intro b
        unfold Instr.checkKey
        simp [run_underlying hk1]
      refine ⟨by simp, ?_⟩
      rcases put_ok hv 0 m2 m3 hes with ⟨h1, h2⟩ | ⟨j, e, h1, h2, h3, h4, h5⟩
      · obtain ⟨q1, q2⟩ := h2 clock
        have := h.putMap heq hl (ms := ms.push { key := .string s, val := v', born := clock }) (clock := clock + 1) (by simpa using q1) (by simpa using q2)
        refine ⟨(), _, μ, ?_, MuLe.refl _, fun _ _ => rfl, this.1, this.2, trivial⟩
        simp [Instr.mapUpdate, run_underlying hd1, MapKept.run_getObj_map m1, chk, Instr.findKey, run_underlying hk1, h1, MapKept.run_setObj_map _ m1]
      · have := h.putMap heq hl (ms := ms.modify j fun e => { e with key := .string s, val := v' }) (clock := clock) (by simpa using h4) (by simpa using h5)
        refine ⟨(), _, μ, ?_, MuLe.refl _, fun _ _ => rfl, this.1, this.2, trivial⟩
        have hj : ms[j]? = some e := by simpa using h1
        simp [Instr.mapUpdate, run_underlying hd1, MapKept.run_getObj_map m1, chk, Instr.findKey, run_underlying hk1, h3, hj, h2, Instr.keyThatStays, Instr.sameBits, ba_refl, MapKept.run_setObj_map _ m1]
    · simp at hs
  · simp at hs

theorem vMakeMap_ok (h : HR base F μ H w) (hfree : μ H.length = none) (t : TypeId) : Step base F μ H (H ++ [.map []]) w ((Instr.makeMap t none).run P w) fun ν a => VR ν (.map (some H.length)) a := by
  have hold : ∀ k, k < w.heap.size → (w.alloc (.map #[] 0)).heap[k]? = w.heap[k]? := fun k hk => Below.heap_alloc w _ k hk
  have h1 := h.world hold (by simp)
  let l0 : Loc := ⟨w.heap.size, 0, 0, 0⟩
  refine ⟨.map (some w.heap.size), _, μ.set H.length l0, by simp [Instr.makeMap], Mu.le_set hfree, fun b hb => Mu.set_ne _ _ (by simp at hb; omega),
    HR.adopt h1 hfree (.map []) l0 h.base_le (fun q => Nat.lt_irrefl _ (h.far _ q)) ?_ (.inr ⟨[], rfl, #[], 0, heap_alloc_new w _, .nil, .nil⟩), Fr.alloc _ h.base_le h.far, ?_⟩
  · intro b k l hb hk hl q
    have := (h.mine_lt hb hk hl).1
    simp only [l0] at q
    omega
  · exact .map (l := l0) (Mu.set_same _ _ _)

theorem vBytes0_ok (ag : Agree P T) (h : HR base F μ H w) (hfree : μ H.length = none) {src dst : TypeId} {x x' v : Value} {H' : Heap} (hx : VR μ x x') (hb : vBytes0 T H src dst x = some (v, H')) :
    Step base F μ H H' w ((Go.convert src dst x').run P w) fun ν a => VR ν v a := by
  unfold vBytes0 at hb
  split at hb
  · rename_i e s hs hd
    split at hb
    · rename_i ei hei
      split at hb
      · rename_i hdesc
        split at hb
        · rename_i hsz
          simp only [Option.some.injEq, Prod.mk.injEq] at hb
          obtain ⟨rfl, rfl⟩ := hb
          obtain ⟨d1, hs1, hs2⟩ := ag.d hs
          obtain ⟨d2, hd1, hd2⟩ := ag.d hd
          simp only [DescOk] at hs2 hd2
          subst hs2 hd2
          obtain ⟨d3, he1, he2⟩ := (ag.ty e ei hei).und
          rw [hdesc] at he2
          simp only [DescOk] at he2
          subst he2
          cases hx
          have hrun := Lib.run_convert_string_bytes (P := P) w src dst e s hs1 hd1 he1
          have hold : ∀ k, k < w.heap.size → (Lib.bytesWorld w e s).heap[k]? = w.heap[k]? := fun k hk => Lib.bytesWorld_at_old w e s k hk
          have h1 := h.world hold (by rw [Lib.bytesWorld_size]; omega)
          let l0 : Loc := ⟨w.heap.size, 0, (Lib.bytesCells w e s).size, 1⟩
          have hcap := grownCap_ge w s.size 0 e
          have hcs : (Lib.bytesCells w e s).size = grownCap w s.size 0 e := by
            simp [Lib.bytesCells]
            have : s.data.size = s.size := rfl
            omega
          refine ⟨_, _, μ.set H.length l0, hrun, Mu.le_set hfree, fun b hb => Mu.set_ne _ _ (by simp at hb; omega),
            HR.adopt h1 hfree _ l0 h.base_le (fun q => Nat.lt_irrefl _ (h.far _ q)) ?_ (.inl ⟨_, rfl, _, e, _, Lib.bytesWorld_at_new w e s, rfl, fun i hi => by simp; omega, ?_⟩), ?_, ?_⟩
          · intro b k l hb hk hl q
            have := (h.mine_lt hb hk hl).1
            simp only [l0] at q
            omega
          · intro i v hv
            rw [List.getElem?_map, Option.map_eq_some_iff] at hv
            obtain ⟨c, hc, rfl⟩ := hv
            have hlt := (List.getElem?_eq_some_iff.1 hc).1
            refine ⟨.int .u8 c.toNat, ?_, .int _ _⟩
            simp only [l0, Nat.zero_add, Lib.bytesCells]
            rw [Array.getElem?_append_left (by simpa using hlt)]
            simp at hc
            simp [hc]
          · refine ⟨rfl, rfl, rfl, by rw [Lib.bytesWorld_size]; omega, fun k hk => hold k (hk.elim (fun q => Nat.lt_of_lt_of_le q h.base_le) (h.far k))⟩
          · have := VR.slice (μ := μ.set H.length l0) (n := s.size) (c := unk) (c' := grownCap w s.size 0 e) (o := 0) (Mu.set_same μ H.length l0) hcap (.inl rfl) (by simp [l0, hcs])
            simpa [l0] using this
        · simp at hb
      · simp at hb
    · simp at hb
  · simp at hb

theorem vClear_ok (ag : Agree P T) (h : HR base F μ H w) {t ty : TypeId} {x x' : Value} {H' : Heap} (hx : VR μ x x') (hb : vClear T H t x = some H') :
    H'.length = H.length ∧ Step base F μ H H' w ((Builtin.clear_ #[t] ty #[x']).run P w) fun ν a => VR ν undef a := by
  unfold vClear at hb
  split at hb
  · rename_i e a n c hd
    obtain ⟨d, hd1, hd2⟩ := ag.d hd
    simp only [DescOk] at hd2
    subst hd2
    split at hb
    · rename_i hn
      subst hn
      simp only [Option.some.injEq] at hb
      subst hb
      refine ⟨rfl, Step.same h (a := .tuple #[]) ?_ (.undef _)⟩
      cases hx <;> simp [Builtin.clear_, run_underlying hd1]
    · rename_i hn
      split at hb
      · rename_i b o ei he
        have oke := ag.ty e ei he
        have hz : VRs μ (cellsOf ei.zero) (cellsOf ei.zero) := VRs.refl_of fun u hu => plain_vr μ (oke.plains u hu)
        cases hx with
        | sliceZ p p' => exact absurd rfl hn
        | sliceE p p' => exact absurd rfl hn
        | slice hl hnc hc ht =>
          rename_i c' l
          obtain ⟨sz2, cs2, heq2, hlen2, hrun2, hr2, hfr2⟩ := writeCells_ok (P := P) h hl (hz.rep n) hb
          have hzc : (Builtin.zeroCells ei.zero.cells n).toList = repCells (cellsOf ei.zero) n := by
            have h1 : ei.zero.cells = (cellsOf ei.zero).toArray := by rw [← cellsOf_cells]
            have := rangeMap_rep (cellsOf ei.zero) n
            rw [h1, Builtin.zeroCells]
            have h2 : (Array.range (n * (cellsOf ei.zero).toArray.size)).map (fun i => (cellsOf ei.zero).toArray[i % (cellsOf ei.zero).toArray.size]!) = (repCells (cellsOf ei.zero) n).toArray := by
              rw [← this]
              simp only [List.size_toArray]
              congr 1
              funext i
              simp [getElem!_def]
              split <;> simp_all
            rw [h2]
          refine ⟨hlen2, .tuple #[], _, μ, ?_, MuLe.refl _, fun _ _ => rfl, hr2, hfr2, .undef _⟩
          simp [Builtin.clear_, run_underlying hd1, hn, oke.zero w, hzc, hrun2]
      · simp at hb
  · simp at hb

end Go.Proofs.Ytdhbclplondmjaa.C

end
