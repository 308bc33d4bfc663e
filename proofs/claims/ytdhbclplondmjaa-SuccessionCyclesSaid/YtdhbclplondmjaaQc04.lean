/- Texts of one's own, laid together: CBlock, CStore -/
import Derived.Test.YtdhbclplondmjaaQc02
import Derived.Laws.Tables
import Derived.Laws.IdiomCopy
section
/- Structs built, variables made, loads and stores. -/
set_option linter.unusedVariables false
set_option linter.unusedSimpArgs false
namespace Go.Proofs.Ytdhbclplondmjaa.C
open Go.RowKit

variable {P : Program} {T : Tab} {μ : Mu} {base : Nat} {F : Nat → Prop} {H : Heap} {w : World}

theorem setCells_length : ∀ (vs cs : List Value) (o : Nat), (setCells cs o vs).length = cs.length
  | [], _, _ => rfl
  | v :: vs, cs, o => by simp [setCells, setCells_length vs]

theorem VRs.setCells : ∀ {vs vs' : List Value}, VRs μ vs vs' → ∀ {cs cs' : List Value}, VRs μ cs cs' → ∀ o, VRs μ (setCells cs o vs) (C.setCells cs' o vs')
  | _, _, .nil, _, _, h, _ => h
  | _, _, .cons hv ht, _, _, h, o => VRs.setCells ht (h.set o hv) (o + 1)

theorem setCells_foldl : ∀ (vs : List Value) (k : Nat) (cs : Array Value) (off : Nat),
    ((vs.zipIdx k).foldl (fun cs (p : Value × Nat) => cs.setIfInBounds (off + p.2) p.1) cs).toList = setCells cs.toList (off + k) vs
  | [], _, _, _ => rfl
  | v :: vs, k, cs, off => by
    simp only [List.zipIdx_cons, List.foldl_cons, setCells]
    rw [setCells_foldl vs (k + 1)]
    simp [Nat.add_assoc]

theorem notTuple {v : Value} (h : isTuple v = false) : v ≠ Go.undef := by rintro rfl; simp [isTuple, Go.undef] at h

theorem fill_ok (place : Nat → Option (Nat × Nat)) : ∀ {parts parts' : List (Nat × Value)} {cells cells' : List Value} {cs : List Value}, fillParts place cells parts = some cs →
    parts'.map (·.1) = parts.map (·.1) → VRs μ (parts.map (·.2)) (parts'.map (·.2)) → VRs μ cells cells' →
    ∃ cs', Instr.fill place cells'.toArray parts' = some cs'.toArray ∧ VRs μ cs cs'
  | [], [], cells, cells', cs, h, _, _, hc => by simp [fillParts] at h; subst h; exact ⟨cells', rfl, hc⟩
  | [], _ :: _, _, _, _, _, h, _, _ => by simp at h
  | _ :: _, [], _, _, _, _, h, _, _ => by simp at h
  | (i, v) :: rest, (i', v') :: rest', cells, cells', cs, h, hi, hv, hc => by
    simp only [List.map_cons, List.cons.injEq] at hi
    obtain ⟨rfl, hi⟩ := hi
    cases hv with
    | cons hv ht =>
      simp only [fillParts] at h
      cases hp : place i' with
      | none => simp [hp] at h
      | some p =>
        obtain ⟨off, n⟩ := p
        simp only [hp] at h
        split at h
        · rename_i hcond
          obtain ⟨h1, h2, h3⟩ := hcond
          have hvc := hv.cells (notTuple h3)
          have hl := hvc.length
          obtain ⟨cs', e, hcs⟩ := fill_ok place (cells' := C.setCells cells' off (cellsOf v')) h hi ht (VRs.setCells hvc hc off)
          refine ⟨cs', ?_, hcs⟩
          simp only [Instr.fill, hp]
          have hsz : v'.cells.size = n := by rw [← h1, ← hl, ← cellsOf_cells]; simp
          have hcl : cells'.length = cells.length := hc.length
          rw [if_neg (by simp [hsz]; omega)]
          have hf := setCells_foldl v'.cells.toList 0 cells'.toArray off
          simp only [Nat.add_zero, cellsOf_cells] at hf
          have : (v'.cells.zipIdx.foldl (fun cs (p : Value × Nat) => cs.setIfInBounds (off + p.2) p.1) cells'.toArray) = (C.setCells cells' off (cellsOf v')).toArray := by
            apply Array.ext'
            rw [← hf, ← Array.foldl_toList]
            simp [cellsOf_cells]
          rw [← e, ← this]
        · simp at h

theorem places_ok (ag : Agree P T) : ∀ (fs : List Field) (places : List (Nat × Nat)), (fs.map fun f => (f.type, f.offset)).mapM (fun f => (T.T f.1).map fun k => (f.2, k.size)) = some places →
    fs.mapM (fun f => (P.info? f.type).map fun i => (f.offset, i.size)) = some places
  | [], _, h => by simpa using h
  | f :: fs, places, h => by
    simp only [List.map_cons, List.mapM_cons, Option.bind_eq_bind, Option.bind_eq_some_iff, Option.pure_def] at h ⊢
    obtain ⟨p, hp, ps, hps, h⟩ := h
    rw [Option.map_eq_some_iff] at hp
    obtain ⟨k, hk, rfl⟩ := hp
    obtain ⟨inf, h1, _, h3, _⟩ := (ag.ty _ k hk).info
    exact ⟨_, by rw [h1]; rfl, ps, places_ok ag fs ps hps, by show some ((f.offset, inf.size) :: ps) = _; rw [h3]; exact h⟩

theorem vBuild_ok (ag : Agree P T) {t : TypeId} {parts parts' : List (Nat × Value)} {v : Value} (h : vBuild T t parts = some v) (h1 : parts'.map (·.1) = parts.map (·.1)) (h2 : VRs μ (parts.map (·.2)) (parts'.map (·.2))) (w : World) :
    ∃ v', (Instr.build t parts'.toArray).run P w = .ok v' w ∧ VR μ v v' := by
  unfold vBuild at h
  simp only [Option.bind_eq_bind, Option.bind_eq_some_iff] at h
  obtain ⟨i, hi, h⟩ := h
  have ok := ag.ty t i hi
  obtain ⟨inf, e1, e2, e3, e4⟩ := ok.info
  obtain ⟨d, hd, hu⟩ := ok.und
  have hz : VRs μ (cellsOf i.zero) (cellsOf i.zero) := VRs.refl_of fun u hu => plain_vr μ (ok.plains u hu)
  split at h
  · rename_i fs hdesc
    simp only [Option.bind_eq_some_iff] at h
    obtain ⟨places, hp, cs, hcs, h⟩ := h
    simp at h; subst h
    rw [hdesc] at hu
    obtain ⟨fields, rfl, rfl⟩ := hu
    have hp2 := places_ok ag _ _ hp
    obtain ⟨cs', e, hr⟩ := fill_ok (fun j => places[j]?) hcs h1 h2 hz
    refine ⟨.agg cs'.toArray, run_build w t _ _ ?_, .agg hr⟩
    have hzc : i.zero.cells = (cellsOf i.zero).toArray := by rw [← cellsOf_cells]
    simp only [Program.built, e1, hd, e2, hp2]
    rw [hzc]
    simpa using e
  · rename_i n el hdesc
    simp only [Option.bind_eq_some_iff] at h
    obtain ⟨ei, hei, cs, hcs, h⟩ := h
    simp at h; subst h
    rw [hdesc] at hu
    simp only [DescOk] at hu
    subst hu
    obtain ⟨inf2, g1, _, g3, _⟩ := (ag.ty el ei hei).info
    obtain ⟨cs', e, hr⟩ := fill_ok (fun j => some (j * ei.size, ei.size)) hcs h1 h2 hz
    refine ⟨.agg cs'.toArray, run_build w t _ _ ?_, .agg hr⟩
    have hzc : i.zero.cells = (cellsOf i.zero).toArray := by rw [← cellsOf_cells]
    simp only [Program.built, e1, hd, e2, g1, g3]
    rw [hzc]
    simpa using e
  · simp at h

/-- What a step comes to: the machine's answer, its new world, where the new blocks lie. -/
def Step (base : Nat) (F : Nat → Prop) (μ : Mu) (H H' : Heap) (w : World) {α : Type} (r : Result α) (R : Mu → α → Prop) : Prop :=
  ∃ a w' μ', r = .ok a w' ∧ MuLe μ μ' ∧ (∀ b, (b < H.length ∨ H'.length ≤ b) → μ' b = μ b) ∧ HR base F μ' H' w' ∧ Fr base F w w' ∧ R μ' a

theorem Step.same {α : Type} {r : Result α} {R : Mu → α → Prop} {a : α} (h : HR base F μ H w) (hr : r = .ok a w) (hR : R μ a) : Step base F μ H H w r R :=
  ⟨a, w, μ, hr, MuLe.refl _, fun _ _ => rfl, h, Fr.refl _ _ _, hR⟩

theorem step_newRow (h : HR base F μ H w) (hfree : μ H.length = none) {cs cs' : List Value} (hcs : VRs μ cs cs') (sz : Nat) (e : TypeId) {α : Type} {R : Mu → α → Prop} {r : Result α} {a : α}
    (hr : r = .ok a (w.alloc (.cells cs'.toArray e (0, 0)))) (hR : ∀ ν, MuLe μ ν → ν H.length = some ⟨w.heap.size, 0, cs'.length, sz⟩ → R ν a) : Step base F μ H (H ++ [.row sz cs true true]) w r R := by
  refine ⟨a, _, _, hr, Mu.le_set hfree, fun b hb => Mu.set_ne _ _ (by simp at hb; omega), HR.new h hfree cs'.toArray e (0, 0) sz cs (fun i _ => by simp) (fun i v hv => ?_), Fr.alloc _ h.base_le h.far, hR _ (Mu.le_set hfree) ?_⟩
  · obtain ⟨v', a, b⟩ := hcs.get i v hv
    exact ⟨v', by simpa using a, b⟩
  · rw [Mu.set_same]; simp

theorem vBox_ok (ag : Agree P T) (h : HR base F μ H w) (hfree : μ H.length = none) {e : TypeId} {v v' x : Value} {H' : Heap} (hv : VR μ v v') (hb : vBox T H e v = some (x, H')) :
    Step base F μ H H' w ((Instr.box e v').run P w) fun ν a => VR ν x a := by
  unfold vBox newRow at hb
  split at hb
  · simp at hb
  · rename_i ht
    rw [Option.map_eq_some_iff] at hb
    obtain ⟨i, hi, hb⟩ := hb
    simp only [Prod.mk.injEq] at hb
    obtain ⟨rfl, rfl⟩ := hb
    have hc := hv.cells (notTuple (by simpa using ht))
    refine step_newRow h hfree hc i.size e (a := .pointer (some ⟨w.heap.size, 0, none⟩)) ?_ ?_
    · have : v'.cells = (cellsOf v').toArray := by rw [← cellsOf_cells]
      simp [Instr.box, newVar, Go.newRow, this]
    · intro ν hm hl
      simpa using VR.ptr (o := 0) hl

theorem readCells_ok (h : HR base F μ H w) {b o n : Nat} {cs : List Value} {l : Loc} (hr : readCells H b o n = some cs) (hl : μ b = some l) :
    cs.length = n ∧ ∃ cs', VRs μ cs cs' ∧ ∀ j v, cs'[j]? = some v → w.cell? ⟨l.blk, l.sh + o + j, none⟩ = some v := by
  unfold readCells at hr
  split at hr
  · rename_i sz all own heq
    split at hr <;> simp at hr
    subst hr
    rename_i hle
    have hcell : ∀ (i : Nat) (v : Value), all[i]? = some v → ∃ v', w.cell? ⟨l.blk, l.sh + i, none⟩ = some v' ∧ VR μ v v' := by
      cases own with
      | true =>
        obtain ⟨_, _, _, arr, e, fr, g1, g2, g3, g4⟩ := h.own b _ _ l heq hl
        intro i v hv
        obtain ⟨v', a, c⟩ := g4 i v hv
        exact ⟨v', by simp [World.cell?, g1, a], c⟩
      | false => exact (h.ro b _ _ l heq hl).2.2
    refine ⟨by simp; omega, ?_⟩
    have hex : ∃ f : Nat → Value, ∀ j, j < n → w.cell? ⟨l.blk, l.sh + (o + j), none⟩ = some (f j) ∧ VR μ (all.getD (o + j) Go.undef) (f j) := by
      refine ⟨fun j => (w.cell? ⟨l.blk, l.sh + (o + j), none⟩).getD Go.undef, fun j hj => ?_⟩
      have hlt : o + j < all.length := by omega
      obtain ⟨v', a, c⟩ := hcell (o + j) all[o + j] (List.getElem?_eq_getElem hlt)
      exact ⟨by simp [a], by simpa [a, List.getD_eq_getElem?_getD, List.getElem?_eq_getElem hlt] using c⟩
    obtain ⟨f, hf⟩ := hex
    refine ⟨(List.range n).map f, VRs.of_get (by simp; omega) (fun i v hv => ?_), fun j v hv => ?_⟩
    · rw [List.getElem?_take] at hv
      split at hv
      · rename_i hi
        rw [List.getElem?_drop] at hv
        refine ⟨f i, by simp [hi], ?_⟩
        have := (hf i hi).2
        rwa [List.getD_eq_getElem?_getD, hv] at this
      · simp at hv
    · have hj : j < n := by
        have := (List.getElem?_eq_some_iff.1 hv).1
        simpa using this
      simp [hj] at hv
      subst hv
      rw [Nat.add_assoc]
      exact (hf j hj).1
  · simp at hr

theorem vLoad_ok (ag : Agree P T) (h : HR base F μ H w) {t : TypeId} {a a' v : Value} (ha : VR μ a a') (hv : vLoad T H t a = some v) : ∃ v', (Instr.loadAt t a').run P w = .ok v' w ∧ VR μ v v' := by
  unfold vLoad at hv
  simp only [Option.bind_eq_bind, Option.bind_eq_some_iff] at hv
  obtain ⟨i, hi, hv⟩ := hv
  have ok := ag.ty t i hi
  split at hv
  · rename_i b o
    simp only [Option.bind_eq_some_iff] at hv
    obtain ⟨cs, hcs, hv⟩ := hv
    cases ha
    rename_i l hl
    obtain ⟨hlen, cs', hr, hcell⟩ := readCells_ok h hcs hl
    have hlen' : cs'.length = i.size := by rw [hr.length, hlen]
    have hadd : ∀ j, (⟨l.blk, l.sh + o, none⟩ : Addr).add j = ⟨l.blk, l.sh + o + j, none⟩ := fun j => by rw [add_loc, Nat.add_assoc]
    split at hv
    · rename_i hagg
      simp at hv; subst hv
      refine ⟨.agg cs'.toArray, ?_, .agg hr⟩
      have := run_loadCells_list (P := P) w ⟨l.blk, l.sh + o, none⟩ cs' (fun j v hj => by rw [hadd]; exact hcell j v hj)
      rw [hlen'] at this
      simp [Instr.loadAt, Instr.sureAddr, loadVar, ok.isAgg w, hagg, ok.sizeOf w, this]
    · rename_i hagg
      split at hv <;> simp at hv
      subst hv
      cases hr with
      | cons hv ht =>
        cases ht
        rename_i v'
        have hc := hcell 0 v' rfl
        simp only [Nat.add_zero] at hc
        refine ⟨v', ?_, hv⟩
        simp [Instr.loadAt, Instr.sureAddr, loadVar, ok.isAgg w, hagg, hc]
  · simp at hv

end Go.Proofs.Ytdhbclplondmjaa.C

end

section
/- Stores, slices made. -/
set_option linter.unusedVariables false
set_option linter.unusedSimpArgs false
namespace Go.Proofs.Ytdhbclplondmjaa.C
open Go.RowKit

variable {P : Program} {T : Tab} {μ : Mu} {base : Nat} {F : Nat → Prop} {H : Heap} {w : World}

theorem HR.stores : ∀ {vs vs' : List Value}, VRs μ vs vs' → ∀ {H : Heap} {w : World} {b sz : Nat} {cs : List Value} {l : Loc} (o : Nat), HR base F μ H w → H[b]? = some (.row sz cs true true) → μ b = some l →
    o + vs.length ≤ cs.length → HR base F μ (H.set b (.row sz (setCells cs o vs) true true)) (w.setCells l.blk (l.sh + o) vs')
  | _, _, .nil, H, w, b, sz, cs, l, o, h, hb, hl, hle => by
    simp only [setCells, World.setCells]
    have : H.set b (.row sz cs true true) = H := by
      apply List.ext_getElem?
      intro i
      rw [List.getElem?_set]
      split
      · rename_i e; subst e; split
        · exact hb.symm
        · rename_i hn; rw [List.getElem?_eq_none (by omega)]
      · rfl
    rw [this]
    exact h
  | _, _, .cons hv ht, H, w, b, sz, cs, l, o, h, hb, hl, hle => by
    rename_i v v' vs vs'
    simp only [List.length_cons] at hle
    have h1 := h.store hb hl o (by omega) hv
    have hblt : b < H.length := (List.getElem?_eq_some_iff.1 hb).1
    have h2 := HR.stores ht (H := H.set b (.row sz (cs.set o v) true true)) (b := b) (sz := sz) (cs := cs.set o v) (l := l) (o + 1) h1 (by simp [hblt]) hl (by simp; omega)
    simp only [setCells, World.setCells]
    rw [List.set_set] at h2
    rw [Nat.add_assoc]
    exact h2

theorem Fr.setCells {b : Nat} (hb : base ≤ b) (hf : ¬ F b) : ∀ (vs : List Value) (o : Nat) (w : World), Fr base F w (w.setCells b o vs)
  | [], _, _ => Fr.refl _ _ _
  | v :: vs, o, w => (Fr.setCell (w := w) ⟨b, o, none⟩ v hb hf).trans (Fr.setCells hb hf vs (o + 1) _)

theorem VRs.one : ∀ {vs vs' : List Value}, VRs μ vs vs' → vs.all oneCell = true → ∀ v ∈ vs', v.oneCell' = true
  | _, _, .nil, _, v, h => by simp at h
  | _, _, .cons hv ht, h, v, hm => by
    simp only [List.all_cons, Bool.and_eq_true] at h
    rcases List.mem_cons.1 hm with rfl | hm
    · exact hv.one h.1
    · exact VRs.one ht h.2 v hm

theorem writeCells_ok (h : HR base F μ H w) {b o : Nat} {vs vs' : List Value} {H' : Heap} {l : Loc} (hl : μ b = some l) (hvs : VRs μ vs vs') (hw : writeCells H b o vs = some H') :
    ∃ sz cs, H[b]? = some (.row sz cs true true) ∧ H'.length = H.length ∧ (storeCells ⟨l.blk, l.sh + o, none⟩ vs').run P w = .ok () (w.setCells l.blk (l.sh + o) vs') ∧ HR base F μ H' (w.setCells l.blk (l.sh + o) vs') ∧
      Fr base F w (w.setCells l.blk (l.sh + o) vs') := by
  unfold writeCells at hw
  split at hw
  · rename_i hone
    split at hw
    · rename_i sz cs heq
      split at hw <;> simp at hw
      subst hw
      rename_i hle
      obtain ⟨g1, g2, g3, arr, e, fr, a1, a2, a3, a4⟩ := h.own b sz cs l heq hl
      have hlen := hvs.length
      have hcell : ∀ j, j < vs'.length → ∃ v, arr[l.sh + (o + j)]? = some v := fun j hj => by
        obtain ⟨v', x, _⟩ := a4 (o + j) (cs[o + j]'(by omega)) (List.getElem?_eq_getElem (by omega))
        exact ⟨v', x⟩
      refine ⟨sz, cs, heq, by simp, ?_, h.stores hvs o heq hl hle, Fr.setCells g2 g3 _ _ _⟩
      have := run_storeCells_cells (P := P) l.blk (l.sh + o) vs' 0 w (fun j hj => ?_) (fun j hj => ?_) (hvs.one hone)
      · simpa using this
      · obtain ⟨v, hv⟩ := hcell j hj
        simp [World.cell?, a1, show l.sh + o + j = l.sh + (o + j) by omega, hv]
      · obtain ⟨v, hv⟩ := hcell j hj
        have hlt := (Array.getElem?_eq_some_iff.1 hv).1
        have hn := a3 _ hlt
        simp only [World.frozen?, a1, Nat.add_zero, show l.sh + o + j = l.sh + (o + j) by omega, Bool.and_eq_false_iff, decide_eq_false_iff_not]
        by_cases q : fr.1 ≤ l.sh + (o + j)
        · exact .inr fun r => hn ⟨q, r⟩
        · exact .inl q
    · simp at hw
  · simp at hw

theorem vStore_ok (ag : Agree P T) (h : HR base F μ H w) {t : TypeId} {a a' v v' : Value} {H' : Heap} (ha : VR μ a a') (hv : VR μ v v') (hs : vStore T H t a v = some H') :
    H'.length = H.length ∧ Step base F μ H H' w ((Instr.storeAt t a' v').run P w) fun _ _ => True := by
  unfold vStore at hs
  simp only [Option.bind_eq_bind, Option.bind_eq_some_iff] at hs
  obtain ⟨i, hi, hs⟩ := hs
  have ok := ag.ty t i hi
  split at hs
  · rename_i b o
    split at hs
    · rename_i hlen
      cases ha
      rename_i l hl
      have hone : (cellsOf v).all oneCell = true := by unfold writeCells at hs; split at hs <;> first | assumption | simp at hs
      have hnt : v ≠ Go.undef := by rintro rfl; simp [cellsOf, oneCell, Go.undef] at hone
      have hc := hv.cells hnt
      obtain ⟨sz, cs, heq, hlen2, hrun, hr, hfr⟩ := writeCells_ok (P := P) h hl hc hs
      refine ⟨hlen2, (), _, μ, ?_, MuLe.refl _, fun _ _ => rfl, hr, hfr, trivial⟩
      have hsz : v'.cells.size = i.size := by rw [← hlen, ← hc.length, ← cellsOf_cells]; simp
      simp [Instr.storeAt, Instr.sureAddr, storeVar, ok.sizeOf w, hsz, cellsOf_cells, hrun]
    · simp at hs
  · simp at hs

theorem repCells_length (z : List Value) : ∀ n, (repCells z n).length = n * z.length
  | 0 => by simp [repCells]
  | n + 1 => by simp [repCells, repCells_length z n, Nat.add_mul]; omega

theorem repCells_get (z : List Value) : ∀ (n i : Nat), i < n * z.length → (repCells z n)[i]? = z[i % z.length]?
  | 0, i, h => by simp at h
  | n + 1, i, h => by
    simp only [repCells]
    by_cases hi : i < z.length
    · rw [List.getElem?_append_left hi, Nat.mod_eq_of_lt hi]
    · rw [List.getElem?_append_right (by omega), repCells_get z n _ (by rw [Nat.add_mul] at h; omega)]
      congr 1
      rw [← Nat.mod_eq_sub_mod (by omega)]

theorem rangeMap_rep (z : List Value) (m : Nat) : (Array.range (m * z.length)).map (fun i => (z[i % z.length]?).getD default) = (repCells z m).toArray := by
  apply Array.ext'
  apply List.ext_getElem?
  intro i
  by_cases hi : i < m * z.length
  · rw [show (repCells z m).toArray.toList = repCells z m from rfl, repCells_get z m i hi]
    have hz : 0 < z.length := by
      rcases Nat.eq_zero_or_pos z.length with h | h
      · rw [h] at hi; simp at hi
      · exact h
    have hmod : i % z.length < z.length := Nat.mod_lt _ hz
    simp [hi, hmod]
  · rw [List.getElem?_eq_none (by simp; omega), List.getElem?_eq_none (by simp [repCells_length]; omega)]

theorem range_zero : (Array.range 0).map (fun _ => (default : Value)) = #[] := by
  apply Array.ext'; simp

theorem VRs.rep {z z' : List Value} (h : VRs μ z z') : ∀ n, VRs μ (repCells z n) (repCells z' n)
  | 0 => .nil
  | n + 1 => h.append (VRs.rep h n)

theorem vBuildSlice_ok (ag : Agree P T) (h : HR base F μ H w) (hfree : μ H.length = none) {t : TypeId} {n : Nat} {parts parts' : List (Nat × Value)} {x : Value} {H' : Heap} (hb : vBuildSlice T H t n parts = some (x, H'))
    (h1 : parts'.map (·.1) = parts.map (·.1)) (h2 : VRs μ (parts.map (·.2)) (parts'.map (·.2))) : Step base F μ H H' w ((Instr.buildSlice t n parts'.toArray).run P w) fun ν a => VR ν x a := by
  unfold vBuildSlice at hb
  simp only [Option.bind_eq_bind, Option.bind_eq_some_iff] at hb
  obtain ⟨i, hi, hb⟩ := hb
  have ok := ag.ty t i hi
  obtain ⟨d, hd, hu⟩ := ok.und
  split at hb
  · rename_i el hdesc
    simp only [Option.bind_eq_some_iff] at hb
    obtain ⟨ei, hei, hb⟩ := hb
    split at hb
    · simp at hb
    · rename_i hbig
      simp only [Option.bind_eq_some_iff] at hb
      obtain ⟨cs, hcs, hb⟩ := hb
      simp only [Option.some.injEq, Prod.mk.injEq] at hb
      obtain ⟨rfl, rfl⟩ := hb
      rw [hdesc] at hu
      simp only [DescOk] at hu
      subst hu
      have oke := ag.ty el ei hei
      have hz : VRs μ (cellsOf ei.zero) (cellsOf ei.zero) := VRs.refl_of fun u hu => plain_vr μ (oke.plains u hu)
      obtain ⟨cs', hfill, hr⟩ := fill_ok (fun j => some (j * ei.size, ei.size)) hcs h1 h2 (hz.rep n)
      have hzc : ei.zero.cells = (cellsOf ei.zero).toArray := by rw [← cellsOf_cells]
      have hlen : cs'.length = cs.length := hr.length
      have hcl : cs.length = n * ei.size := by
        have : ∀ {parts : List (Nat × Value)} {c cs : List Value}, fillParts (fun j => some (j * ei.size, ei.size)) c parts = some cs → cs.length = c.length := by
          intro parts
          induction parts with
          | nil => intro c cs h; simp [fillParts] at h; rw [h]
          | cons p rest ih =>
            intro c cs h
            obtain ⟨j, v⟩ := p
            simp only [fillParts] at h
            split at h
            · rw [ih h, setCells_length]
            · simp at h
        rw [this hcs, repCells_length, oke.cells]
      refine step_newRow h hfree hr ei.size el (a := .slice (some ⟨w.heap.size, 0, none⟩) n n) ?_ ?_
      · have hrep := rangeMap_rep (cellsOf ei.zero) n
        by_cases hn0 : n * ei.size = 0
        · have hrep0 : repCells (cellsOf ei.zero) n = [] := List.eq_nil_of_length_eq_zero (by rw [repCells_length, oke.cells, hn0])
          rw [hrep0] at hfill
          simp [Instr.buildSlice, run_underlying hd, oke.sizeOf w, hn0, Go.newRow, range_zero, hfill]
        · rw [oke.cells] at hrep
          simp [Instr.buildSlice, run_underlying hd, oke.sizeOf w, hn0, oke.zero w, hzc, Go.newRow, show ¬ (16777216 < n * ei.size) by omega, oke.cells]
          rw [hrep, hfill]
          simp
      · intro ν hm hl
        have := VR.slice (n := n) (c := n) (c' := n) (o := 0) hl (Nat.le_refl _) (.inr rfl) (by simp [hlen, hcl])
        simpa using this
  · simp at hb

end Go.Proofs.Ytdhbclplondmjaa.C

end
