/- The law's units. -/
import Derived.Test.YtdhbclplondmjaaWe
set_option linter.unusedVariables false
set_option maxRecDepth 100000
namespace Go.Proofs.Ytdhbclplondmjaa.C
open Go.RowKit Go.Sort

/-- Where a name goes, and whether it is there, by the first k. -/
def scanK (out : List Nm) (x : Nm) : Nat → Nat × Bool
  | 0 => (0, false)
  | k + 1 => (if Op.bytesLess (out.getD k []) x then k + 1 else (scanK out x k).1, (scanK out x k).2 || decide (out.getD k [] = x))

theorem scanK_le (out : List Nm) (x : Nm) : ∀ k, (scanK out x k).1 ≤ k
  | 0 => Nat.le_refl _
  | k + 1 => by
    have := scanK_le out x k
    unfold scanK
    simp only
    split <;> omega

def insL (out : List Nm) (x : Nm) : List Nm :=
  if (scanK out x out.length).2 then out else out.take (scanK out x out.length).1 ++ [x] ++ out.drop (scanK out x out.length).1

def unitsL (l : List Rel) : List Nm := (allNames l).foldl insL []

theorem insL_len (out : List Nm) (x : Nm) : (insL out x).length ≤ out.length + 1 := by
  unfold insL
  split
  · omega
  · have := scanK_le out x out.length
    simp only [List.length_append, List.length_take, List.length_drop, List.length_cons, List.length_nil]
    omega

theorem foldl_len (xs : List Nm) : ∀ out : List Nm, (xs.foldl insL out).length ≤ out.length + xs.length := by
  induction xs with
  | nil => intro out; simp
  | cons x xs ih =>
    intro out
    have h1 := ih (insL out x)
    have h2 := insL_len out x
    simp only [List.foldl_cons, List.length_cons]
    omega

theorem less_eq {x y : Nm} : Op.bytesLess (ByteArray.mk x.toArray).toList (ByteArray.mk y.toArray).toList = Op.bytesLess x y := by
  rw [ByteArray.toList_mk, ByteArray.toList_mk]

section
variable {T : Tab} {s : List Value} {H : Heap}
theorem ev_seq {t t2 : TypeId} {x y : Operand} {a b : Nm} (hx : ev s x = str a) (hy : ev s y = str b) : opEval T s H (.binOp .eql t x y t2) = some (.bool (decide (a = b)), H) := by
  simp only [opEval, hx, hy, binOp, binStr, str_eq, Option.map_some]
theorem ev_slt {t t2 : TypeId} {x y : Operand} {a b : Nm} (hx : ev s x = str a) (hy : ev s y = str b) : opEval T s H (.binOp .lss t x y t2) = some (.bool (Op.bytesLess a b), H) := by
  simp only [opEval, hx, hy, binOp, binStr, less_eq, Option.map_some]
end

theorem ev_slice {T : Tab} {s : List Value} {H : Heap} {t : TypeId} {x : Operand} {lo hi mx : Option Operand} {w v : Value} (hx : ev s x = w) (h : sliceVal T H t w (lo.map (ev s)) (hi.map (ev s)) (mx.map (ev s)) = some v) : opEval T s H (.slice t x lo hi mx) = some (v, H) := by
  simp only [opEval, hx, h, Option.map_some]

/-- What a slice under way is cut into. -/
theorem cut_acc {H : Heap} {lo p at_ : Nat} {w : Value} {xs : List Nm} (h : Acc H lo 1 w (strs xs) p) (ha : at_ ≤ xs.length) (hu : xs.length < 2 ^ 40) :
    (∃ a2 c2, sliceVal tab H 37 w none (some (nat at_)) none = some (.slice a2 at_ c2) ∧ srcCells H a2 at_ 1 = some (strs (xs.take at_)).flatten) ∧
    (∃ a2 c2, sliceVal tab H 37 w (some (nat at_)) none none = some (.slice a2 (xs.length - at_) c2) ∧ srcCells H a2 (xs.length - at_) 1 = some (strs (xs.drop at_)).flatten) := by
  obtain ⟨hs, ⟨hnil, rfl⟩ | ⟨rfl, h1, h2⟩⟩ := h
  · have : xs = [] := by simpa [strs] using hnil
    subst this
    have : at_ = 0 := by simpa using ha
    subst this
    exact ⟨⟨none, 0, rfl, rfl⟩, ⟨none, 0, rfl, rfl⟩⟩
  · rw [strs_len]
    have hsz : szAt H p = some 1 := by simp [szAt, h2]
    have hfl : (strs xs).flatten.length = xs.length := by rw [strs_flat]; simp
    have hT : tab.d 37 = some (.slice 9) := rfl
    have hE : ∃ ei, tab.T 9 = some ei ∧ ei.size = 1 := ⟨_, rfl, rfl⟩
    obtain ⟨ei, hE, hE1⟩ := hE
    have hnu : ¬ (unk = 0 ∧ unk ≠ unk) := by simp
    have hnu2 : ¬ (unk = at_ ∧ unk ≠ unk) := by simp
    have b1 : bnd (nat at_) xs.length = some at_ := by
      simp only [bnd]
      rw [if_pos ⟨by omega, by omega⟩]
      simp
    refine ⟨⟨some ⟨p, 0 + 0 * 1, none⟩, unk, ?_, ?_⟩, ⟨some ⟨p, 0 + at_ * 1, none⟩, unk, ?_, ?_⟩⟩
    · simp only [sliceVal, hT, hE, hE1, Option.bind_some, if_true, b1, cutSlice, hnu, if_false, hsz]
      simp
    · by_cases h0 : at_ = 0
      · subst h0; simp [srcCells, strs]
      · simp only [srcCells, h0, if_false, readCells, h2]
        rw [if_pos (by omega)]
        simp only [strs_flat, List.map_take, Option.some.injEq]
        simp
    · simp only [sliceVal, hT, hE, hE1, Option.bind_some, if_true, b1, cutSlice, hnu2, if_false, hsz]
    · by_cases h0 : xs.length - at_ = 0
      · have : at_ = xs.length := by omega
        subst this
        simp [srcCells, strs]
      · simp only [srcCells, h0, if_false, readCells, h2]
        rw [if_pos (by omega)]
        simp only [strs_flat, List.map_drop, Option.some.injEq]
        rw [List.take_of_length_le (by simp)]
        simp

theorem strs_one (xs : List Nm) : ∀ e ∈ strs xs, e.length = 1 ∧ e.all oneCell = true := by
  intro e he
  simp only [strs, List.mem_map] at he
  obtain ⟨x, _, rfl⟩ := he
  exact ⟨rfl, rfl⟩

theorem acc_apart {H : Heap} {lo sz p : Nat} {w : Value} {es : List (List Value)} (h : Acc H lo sz w es p) (q : Nat) (hq : H.length ≤ q) : ∃ p1, Acc H lo sz w es p1 ∧ p1 ≠ q := by
  obtain ⟨hs, ⟨hnil, rfl⟩ | ⟨rfl, h1, h2⟩⟩ := h
  · exact ⟨q + 1, ⟨hs, .inl ⟨hnil, rfl⟩⟩, by omega⟩
  · have := (List.getElem?_eq_some_iff.1 h2).1
    exact ⟨p, ⟨hs, .inr ⟨rfl, h1, h2⟩⟩, by omega⟩

theorem acc_snoc {H : Heap} {lo sz p : Nat} {w : Value} {es : List (List Value)} (h : Acc H lo sz w es p) (X : Blk) : Acc (H ++ [X]) lo sz w es p :=
  h.keep fun b Y hb _ => by rw [List.getElem?_append_left (List.getElem?_eq_some_iff.1 hb).1]; exact hb

theorem row_apart {H H1 : Heap} {lo p p1 q : Nat} {X : Blk} (hg : Grow lo p p1 H H1) (h : H[q]? = some X) (hq : p ≠ q) : H1[q]? = some X := by
  rw [hg.same q (List.getElem?_eq_some_iff.1 h).1 (.inr fun e => hq e.symm)]; exact h

theorem lawUnits_runs {H : Heap} {v : Value} {l : List Rel} (h : Sl H 3 v (rels l)) (hl : l.length < 2 ^ 20) :
    ∃ r H1, big tab 20 [v] H = some (r, H1) ∧ Ext H H1 ∧ ∃ p, Acc H1 H.length 1 r (strs (unitsL l)) p := by
  obtain ⟨a, c, rfl, hc, hcs⟩ := h
  simp only [rels_len] at *
  refine big_of_runs rfl rfl rfl ?_
  obtain ⟨z, hz⟩ := startC_mkS Try.f20 [.slice a l.length c]
  rw [show startC (20, Try.f20).snd [Value.slice a l.length c] = _ from hz]
  clear hz
  refine Runs.seq (Runs.region ?_)
  repeat refine Rg.opp rfl rfl rfl rfl rfl ?_
  refine Rg.nil ?_
  refine Runs.seq (Runs.region ?_)
  repeat refine Rg.opp rfl rfl rfl rfl rfl ?_
  refine Rg.nil ?_
  refine Runs.seq (Runs.seq (Runs.region ?_))
  repeat refine Rg.opp rfl rfl rfl rfl rfl ?_
  refine Rg.nil ?_
  refine Runs.block ?_
  refine Runs.loop (fun m s H1 => ∃ k w p, k ≤ l.length ∧ m = l.length - k ∧ Ext H H1 ∧ Acc H1 H.length 1 w (strs (unitsL (l.take k))) p ∧ Is s 72 [(0, .slice a l.length c), (3, w), (4, nat k)]) _
    ⟨0, .slice none 0 0, 0, Nat.zero_le _, rfl, Ext.refl H, Acc.nil _ _ _ _, Is.of ⟨rfl, rfl, rfl, rfl, rfl, rfl, trivial⟩⟩ ?_
  rintro m s H1 ⟨k, w, p, hk, rfl, he, hacc, hs⟩
  obtain ⟨a0, rfl⟩ := hs.mk1
  clear hs
  by_cases hlt : k < l.length
  · refine Runs.seq (Runs.seq (Runs.region ?_))
    refine Rg.opp rfl rfl rfl rfl rfl ?_
    refine Rg.opp rfl rfl rfl rfl rfl ?_
    refine Rg.opp rfl rfl rfl rfl rfl ?_
    refine Rg.opp rfl rfl rfl (ev_lt true rfl rfl (by simp; omega)) rfl ?_
    refine Rg.nil ?_
    refine Runs.cond true rfl (fun _ => ?_) (fun h => by cases h)
    refine Runs.skip ?_
    have hcs1 := hcs.sees he.sees
    obtain ⟨b, o, rfl, hsz, hr⟩ := hcs1.lt (i := k) (by rw [rels_len]; exact hlt)
    have hrk := hr k _ (rels_get hlt)
    refine Runs.seq (Runs.block ?_)
    refine Runs.seq (Runs.drawn (is := List.range 13) (by decide +kernel) ?_)
    refine Rg.opp rfl rfl rfl rfl rfl ?_
    refine Rg.opp rfl rfl rfl rfl rfl ?_
    refine Rg.opp rfl rfl rfl (ev_at rfl rfl rfl rfl (by decide) hlt) rfl ?_
    refine Rg.opp rfl rfl rfl (ev_fld rfl rfl rfl rfl rfl (by decide)) rfl ?_
    refine Rg.opp rfl rfl rfl (ev_load1 rfl rfl (read_one hrk (j := 1) rfl) rfl) rfl ?_
    refine Rg.opp rfl rfl rfl rfl rfl ?_
    refine Rg.opp rfl rfl rfl rfl rfl ?_
    refine Rg.opp rfl rfl rfl (ev_at rfl rfl rfl rfl (by decide) hlt) rfl ?_
    refine Rg.opp rfl rfl rfl (ev_fld rfl rfl rfl rfl rfl (by decide)) rfl ?_
    refine Rg.opp rfl rfl rfl (ev_load1 rfl rfl (read_one hrk (j := 2) rfl) rfl) rfl ?_
    refine Rg.opp rfl rfl rfl rfl rfl ?_
    refine Rg.opp rfl rfl rfl rfl rfl ?_
    refine Rg.opp rfl rfl rfl rfl rfl ?_
    refine Rg.nil ?_
    obtain ⟨p0, hacc0, hp0⟩ := acc_apart hacc H1.length (Nat.le_refl _)
    have hall : unitsL (l.take (k + 1)) = [l[k].up, l[k].lo].foldl insL (unitsL (l.take k)) := by
      have e : ∀ (p : List Rel) (r : Rel), unitsL (p ++ [r]) = [r.up, r.lo].foldl insL (unitsL p) := by intro p r; simp [unitsL, allNames]
      rw [← List.take_append_getElem hlt, e]
    have hlenk : (unitsL (l.take k)).length ≤ 2 * k := by
      have := foldl_len (allNames (l.take k)) []
      rw [allNames_len, List.length_take] at this
      simp only [unitsL, List.length_nil] at *
      omega
    have hrow : (H1 ++ [Blk.row 1 [str l[k].up, str l[k].lo] true true])[H1.length]? = some (Blk.row 1 (strs [l[k].up, l[k].lo]).flatten true true) := by
      exact List.getElem?_concat_length
    have hlen1 := he.len
    refine Runs.block ?_
    refine Runs.loop (fun m s H2 => ∃ j w p, j ≤ 2 ∧ m = 2 - j ∧ Ext H H2 ∧ Acc H2 H.length 1 w (strs (([l[k].up, l[k].lo].take j).foldl insL (unitsL (l.take k)))) p ∧ p ≠ H1.length ∧ H2[H1.length]? = some (Blk.row 1 (strs [l[k].up, l[k].lo]).flatten true true) ∧
        Is s 72 [(0, .slice (some ⟨b, o, none⟩) l.length c), (3, w), (4, nat k), (27, .slice (some ⟨H1.length, 0, none⟩) 2 2), (28, nat 2), (29, nat j)]) _
      ⟨0, w, p0, by omega, rfl, he.row _ _, acc_snoc hacc0 _, hp0, hrow, Is.of ⟨rfl, rfl, rfl, rfl, rfl, rfl, rfl, rfl, rfl, rfl, rfl, rfl, trivial⟩⟩ ?_
    rintro m s H2 ⟨j, w2, p2, hj, rfl, he2, hacc2, hp2, hrow2, hs⟩
    obtain ⟨a1, rfl⟩ := hs.mk1
    clear hs
    by_cases hj2 : j < 2
    · have hcT : Cells H2 1 (some ⟨H1.length, 0, none⟩) (strs [l[k].up, l[k].lo]) := Cells.row (own := true) (strs_sz _) hrow2
      obtain ⟨bT, oT, eT, hszT, hrT⟩ := hcT.lt (i := j) (by rw [strs_len]; exact hj2)
      simp only [Option.some.injEq, Addr.mk.injEq, and_true] at eT
      obtain ⟨rfl, rfl⟩ := eT
      generalize hx : ([l[k].up, l[k].lo])[j]'(by simpa using hj2) = x
      have hrx := hrT j _ (strs_get (xs := [l[k].up, l[k].lo]) (by simpa using hj2))
      rw [hx] at hrx
      have hstep : ([l[k].up, l[k].lo].take (j + 1)).foldl insL (unitsL (l.take k)) = insL (([l[k].up, l[k].lo].take j).foldl insL (unitsL (l.take k))) x := by
        rw [← List.take_append_getElem (by simpa using hj2), List.foldl_append, hx]; rfl
      generalize hout : ([l[k].up, l[k].lo].take j).foldl insL (unitsL (l.take k)) = out at hacc2 hstep
      have houtl : out.length ≤ 2 * k + 2 := by
        have := foldl_len ([l[k].up, l[k].lo].take j) (unitsL (l.take k))
        rw [hout] at this
        simp only [List.length_take, List.length_cons, List.length_nil] at this
        omega
      refine Runs.seq (Runs.region ?_)
      refine Rg.opp rfl rfl rfl (ev_lt true rfl rfl (by simp; omega)) rfl ?_
      refine Rg.nil ?_
      refine Runs.seq (Runs.cond true rfl (fun _ => ?_) (fun h => by cases h))
      refine Runs.skip ?_
      -- behind the block: the index goes on
      refine Runs.seq (Runs.mono (N := fun s H3 => ∃ w3 p3, Ext H H3 ∧ Acc H3 H.length 1 w3 (strs (insL out x)) p3 ∧ p3 ≠ H1.length ∧ H3[H1.length]? = some (Blk.row 1 (strs [l[k].up, l[k].lo]).flatten true true) ∧
          Is s 72 [(0, .slice (some ⟨b, o, none⟩) l.length c), (3, w3), (4, nat k), (27, .slice (some ⟨H1.length, 0, none⟩) 2 2), (28, nat 2), (29, nat j)]) (X := fun _ _ _ => False) (R := fun _ _ => False) ?_ ?_ (fun _ _ _ h => h.elim) (fun _ _ h => h.elim))
      · refine Runs.block ?_
        refine Runs.seq (Runs.region ?_)
        refine Rg.opp rfl rfl rfl (ev_at rfl rfl rfl rfl (by decide) hj2) rfl ?_
        refine Rg.opp rfl rfl rfl (ev_load1 rfl rfl hrx rfl) rfl ?_
        refine Rg.opp rfl rfl rfl rfl rfl ?_
        refine Rg.nil ?_
        refine Runs.seq (Runs.region ?_)
        refine Rg.opp rfl rfl rfl rfl rfl ?_
        refine Rg.opp rfl rfl rfl rfl rfl ?_
        refine Rg.nil ?_
        obtain ⟨wa, wc, hw2, _, hwc⟩ := hacc2.sl (by rw [strs_len]; simp [unk]; omega)
        rw [strs_len] at hw2
        subst hw2
        refine Runs.seq (Runs.seq (Runs.region ?_))
        refine Rg.opp rfl rfl rfl rfl rfl ?_
        refine Rg.nil ?_
        refine Runs.block ?_
        refine Runs.loop (fun m s H3 => H3 = H2 ∧ ∃ i, i ≤ out.length ∧ m = out.length - i ∧
            Is s 72 [(0, .slice (some ⟨b, o, none⟩) l.length c), (3, .slice wa out.length wc), (4, nat k), (6, str x), (7, nat (scanK out x i).1), (8, .bool (scanK out x i).2), (9, nat i), (27, .slice (some ⟨H1.length, 0, none⟩) 2 2), (28, nat 2), (29, nat j)]) _
          ⟨rfl, 0, Nat.zero_le _, rfl, Is.of ⟨rfl, rfl, rfl, rfl, rfl, rfl, rfl, rfl, rfl, rfl, rfl, rfl, rfl, rfl, rfl, rfl, rfl, rfl, rfl, rfl, trivial⟩⟩ ?_
        rintro m s H3 ⟨hH3, i, hi, rfl, hs⟩
        subst hH3
        obtain ⟨a2, rfl⟩ := hs.mk1
        clear hs
        by_cases hil : i < out.length
        · obtain ⟨bw, ow, rfl, hszw, hrw⟩ := hwc.lt (i := i) (by rw [strs_len]; exact hil)
          have hri := hrw i _ (strs_get hil)
          have hget : out.getD i [] = out[i] := by simp [hil]
          refine Runs.seq (Runs.seq (Runs.region ?_))
          refine Rg.opp rfl rfl rfl rfl rfl ?_
          refine Rg.opp rfl rfl rfl rfl rfl ?_
          refine Rg.opp rfl rfl rfl rfl rfl ?_
          refine Rg.opp rfl rfl rfl (ev_lt true rfl rfl (by simp; omega)) rfl ?_
          refine Rg.nil ?_
          refine Runs.cond true rfl (fun _ => ?_) (fun h => by cases h)
          refine Runs.skip ?_
          refine Runs.seq (Runs.block ?_)
          refine Runs.seq (Runs.mono (N := fun s H4 => H3 = H4 ∧ Is s 72 [(0, .slice (some ⟨b, o, none⟩) l.length c), (3, .slice (some ⟨bw, ow, none⟩) out.length wc), (4, nat k), (6, str x), (7, nat (scanK out x i).1), (8, .bool (scanK out x (i + 1)).2), (9, nat i), (27, .slice (some ⟨H1.length, 0, none⟩) 2 2), (28, nat 2), (29, nat j)]) (X := fun _ _ _ => False) (R := fun _ _ => False) ?_ ?_ (fun _ _ _ h => h.elim) (fun _ _ h => h.elim))
          · cases hb : (scanK out x i).2 with
            | true =>
              refine Runs.cut (n := 72) (l := [(0, .slice (some ⟨b, o, none⟩) l.length c), (3, .slice (some ⟨bw, ow, none⟩) out.length wc), (4, nat k), (6, str x), (7, nat (scanK out x i).1), (8, .bool true), (9, nat i), (27, .slice (some ⟨H1.length, 0, none⟩) 2 2), (28, nat 2), (29, nat j)]) (Is.of ⟨rfl, rfl, rfl, rfl, rfl, rfl, rfl, rfl, rfl, rfl, rfl, rfl, rfl, rfl, rfl, rfl, rfl, rfl, rfl, rfl, trivial⟩) (fun a3 => ?_)
              refine Runs.region ?_
              refine Rg.opp rfl rfl rfl rfl rfl ?_
              refine Rg.opp rfl rfl rfl rfl rfl ?_
              refine Rg.guards false rfl rfl rfl (fun h => by cases h) (fun _ => ?_)
              refine Rg.guards false rfl rfl rfl (fun h => by cases h) (fun _ => ?_)
              refine Rg.guards false rfl rfl rfl (fun h => by cases h) (fun _ => ?_)
              refine Rg.guards false rfl rfl rfl (fun h => by cases h) (fun _ => ?_)
              refine Rg.guards false rfl rfl rfl (fun h => by cases h) (fun _ => ?_)
              refine Rg.guards false rfl rfl rfl (fun h => by cases h) (fun _ => ?_)
              refine Rg.opp rfl rfl rfl rfl rfl ?_
              refine Rg.opp rfl rfl rfl rfl rfl ?_
              refine Rg.nil ⟨rfl, Is.of ⟨rfl, rfl, rfl, rfl, rfl, rfl, rfl, rfl, rfl, rfl, rfl, ?_, rfl, rfl, rfl, rfl, rfl, rfl, rfl, rfl, trivial⟩⟩
              show Value.bool true = _
              simp [scanK, hb]
            | false =>
              refine Runs.cut (n := 72) (l := [(0, .slice (some ⟨b, o, none⟩) l.length c), (3, .slice (some ⟨bw, ow, none⟩) out.length wc), (4, nat k), (6, str x), (7, nat (scanK out x i).1), (8, .bool false), (9, nat i), (27, .slice (some ⟨H1.length, 0, none⟩) 2 2), (28, nat 2), (29, nat j)]) (Is.of ⟨rfl, rfl, rfl, rfl, rfl, rfl, rfl, rfl, rfl, rfl, rfl, rfl, rfl, rfl, rfl, rfl, rfl, rfl, rfl, rfl, trivial⟩) (fun a3 => ?_)
              refine Runs.region ?_
              refine Rg.opp rfl rfl rfl rfl rfl ?_
              refine Rg.opp rfl rfl rfl rfl rfl ?_
              refine Rg.guards true rfl rfl rfl (fun _ => ⟨_, _, evW_op rfl, rfl, ?_⟩) (fun h => by cases h)
              refine Rg.guards true rfl rfl rfl (fun _ => ⟨_, _, evW_op rfl, rfl, ?_⟩) (fun h => by cases h)
              refine Rg.guards true rfl rfl rfl (fun _ => ⟨_, _, evW_op (ev_at rfl rfl rfl rfl (by decide) hil), rfl, ?_⟩) (fun h => by cases h)
              refine Rg.guards true rfl rfl rfl (fun _ => ⟨_, _, evW_op (ev_load1 rfl rfl hri rfl), rfl, ?_⟩) (fun h => by cases h)
              refine Rg.guards true rfl rfl rfl (fun _ => ⟨_, _, evW_op rfl, rfl, ?_⟩) (fun h => by cases h)
              refine Rg.guards true rfl rfl rfl (fun _ => ⟨_, _, evW_op (ev_seq rfl rfl), rfl, ?_⟩) (fun h => by cases h)
              refine Rg.opp rfl rfl rfl rfl rfl ?_
              refine Rg.opp rfl rfl rfl rfl rfl ?_
              refine Rg.nil ⟨rfl, Is.of ⟨rfl, rfl, rfl, rfl, rfl, rfl, rfl, rfl, rfl, rfl, rfl, ?_, rfl, rfl, rfl, rfl, rfl, rfl, rfl, rfl, trivial⟩⟩
              show Value.bool (decide (out[i] = x)) = _
              rw [← hget]
              simp [scanK, hb]
          · rintro s H4 ⟨hH4, hs⟩
            subst hH4
            obtain ⟨a4, rfl⟩ := hs.mk1
            refine Runs.seq (Runs.region ?_)
            refine Rg.opp rfl rfl rfl rfl rfl ?_
            refine Rg.opp rfl rfl rfl rfl rfl ?_
            refine Rg.opp rfl rfl rfl (ev_at rfl rfl rfl rfl (by decide) hil) rfl ?_
            refine Rg.opp rfl rfl rfl (ev_load1 rfl rfl hri rfl) rfl ?_
            refine Rg.opp rfl rfl rfl rfl rfl ?_
            refine Rg.opp rfl rfl rfl (ev_slt rfl rfl) rfl ?_
            refine Rg.nil ?_
            refine Runs.cond (Op.bytesLess out[i] x) rfl (fun hless => ?_) (fun hless => ?_)
            · refine Runs.region ?_
              refine Rg.opp rfl rfl rfl rfl rfl ?_
              refine Rg.opp rfl rfl rfl (ev_addn (b := 1) rfl rfl (by omega)) rfl ?_
              refine Rg.opp rfl rfl rfl rfl rfl ?_
              refine Rg.nil ?_
              refine Runs.region ?_
              refine Rg.opp rfl rfl rfl rfl rfl ?_
              refine Rg.opp rfl rfl rfl (ev_addn (b := 1) rfl rfl (by omega)) rfl ?_
              refine Rg.opp rfl rfl rfl rfl rfl ?_
              refine Rg.nil ?_
              refine ⟨out.length - (i + 1), by omega, rfl, i + 1, hil, rfl, Is.of ⟨rfl, rfl, rfl, rfl, rfl, rfl, rfl, rfl, rfl, ?_, rfl, rfl, rfl, rfl, rfl, rfl, rfl, rfl, rfl, rfl, trivial⟩⟩
              show nat (i + 1) = _
              simp [scanK, hil, hless]
            · refine Runs.skip ?_
              refine Runs.region ?_
              refine Rg.opp rfl rfl rfl rfl rfl ?_
              refine Rg.opp rfl rfl rfl (ev_addn (b := 1) rfl rfl (by omega)) rfl ?_
              refine Rg.opp rfl rfl rfl rfl rfl ?_
              refine Rg.nil ?_
              refine ⟨out.length - (i + 1), by omega, rfl, i + 1, hil, rfl, Is.of ⟨rfl, rfl, rfl, rfl, rfl, rfl, rfl, rfl, rfl, ?_, rfl, rfl, rfl, rfl, rfl, rfl, rfl, rfl, rfl, rfl, trivial⟩⟩
              show nat (scanK out x i).1 = _
              simp [scanK, hil, hless]
        · have hio : i = out.length := by omega
          subst hio
          refine Runs.seq (Runs.seq (Runs.region ?_))
          refine Rg.opp rfl rfl rfl rfl rfl ?_
          refine Rg.opp rfl rfl rfl rfl rfl ?_
          refine Rg.opp rfl rfl rfl rfl rfl ?_
          refine Rg.opp rfl rfl rfl (ev_lt false rfl rfl (by simp)) rfl ?_
          refine Rg.nil ?_
          refine Runs.cond false rfl (fun h => by cases h) (fun _ => ?_)
          refine Runs.exit ?_
          cases hb : (scanK out x out.length).2 with
          | true =>
            refine Runs.cut (n := 72) (l := [(0, .slice (some ⟨b, o, none⟩) l.length c), (3, .slice wa out.length wc), (4, nat k), (6, str x), (7, nat (scanK out x out.length).1), (8, .bool true), (27, .slice (some ⟨H1.length, 0, none⟩) 2 2), (28, nat 2), (29, nat j)]) (Is.of ⟨rfl, rfl, rfl, rfl, rfl, rfl, rfl, rfl, rfl, rfl, rfl, rfl, rfl, rfl, rfl, rfl, rfl, rfl, trivial⟩) (fun a3 => ?_)
            refine Runs.seq (Runs.region ?_)
            refine Rg.opp rfl rfl rfl rfl rfl ?_
            refine Rg.opp rfl rfl rfl rfl rfl ?_
            refine Rg.nil ?_
            refine Runs.cond false rfl (fun h => by cases h) (fun _ => ?_)
            refine Runs.skip ⟨_, p2, he2, ?_, hp2, hrow2, Is.of ⟨rfl, rfl, rfl, rfl, rfl, rfl, rfl, rfl, rfl, rfl, rfl, rfl, trivial⟩⟩
            rw [show insL out x = out by unfold insL; rw [if_pos hb]]
            exact hacc2
          | false =>
            refine Runs.cut (n := 72) (l := [(0, .slice (some ⟨b, o, none⟩) l.length c), (3, .slice wa out.length wc), (4, nat k), (6, str x), (7, nat (scanK out x out.length).1), (8, .bool false), (27, .slice (some ⟨H1.length, 0, none⟩) 2 2), (28, nat 2), (29, nat j)]) (Is.of ⟨rfl, rfl, rfl, rfl, rfl, rfl, rfl, rfl, rfl, rfl, rfl, rfl, rfl, rfl, rfl, rfl, rfl, rfl, trivial⟩) (fun a3 => ?_)
            have hat := scanK_le out x out.length
            have hins : insL out x = out.take (scanK out x out.length).1 ++ [x] ++ out.drop (scanK out x out.length).1 := by unfold insL; rw [if_neg (by rw [hb]; decide)]
            generalize (scanK out x out.length).1 = at_ at hat hins
            refine Runs.seq (Runs.region ?_)
            refine Rg.opp rfl rfl rfl rfl rfl ?_
            refine Rg.opp rfl rfl rfl rfl rfl ?_
            refine Rg.nil ?_
            refine Runs.cond true rfl (fun _ => ?_) (fun h => by cases h)
            refine Runs.seq (Runs.region ?_)
            refine Rg.opp rfl rfl rfl rfl rfl ?_
            refine Rg.nil ?_
            obtain ⟨⟨sa, sc, hs1, hsrc1⟩, _⟩ := cut_acc hacc2 hat (by omega)
            have l1 : (strs (out.take at_)).length = at_ := by rw [strs_len, List.length_take]; omega
            have hlo2 := he2.len
            obtain ⟨vA, K1, pA, happ1, haccA, hgr1⟩ := push_app (T := tab) (t := 37) (e := 9) (i := _) (ei := _) ⟨rfl, rfl, rfl, by decide⟩ (Acc.nil H3 H.length 1 H3.length) (xs := strs (out.take at_)) (a2 := sa) (c2 := sc) (by rw [l1]; exact hsrc1) (strs_one _) (by rw [l1]; show (0 + at_) * 16 ≤ 2 ^ 40; omega) (by rw [l1]; simp; omega) hlo2
            rw [l1] at happ1
            rw [List.nil_append] at haccA
            have hpA : H3.length ≤ pA := by have := hgr1.at_; omega
            have keep1 : ∀ (q : Nat) (X : Blk), H3[q]? = some X → K1[q]? = some X := fun q X hX => row_apart hgr1 hX (by have := (List.getElem?_eq_some_iff.1 hX).1; omega)
            have hsrc2 : srcCells (K1 ++ [Blk.row 1 [str x] true true]) (some ⟨K1.length, 0, none⟩) (strs [x]).length 1 = some (strs [x]).flatten := by
              have : (K1 ++ [Blk.row 1 [str x] true true])[K1.length]? = some (Blk.row 1 [str x] true true) := List.getElem?_concat_length
              simp only [srcCells, readCells, this]
              rfl
            have hg1 := hgr1.len
            obtain ⟨vB, K2, pB, happ2, haccB, hgr2⟩ := push_app (T := tab) (t := 37) (e := 9) (i := _) (ei := _) ⟨rfl, rfl, rfl, by decide⟩ (acc_snoc haccA (Blk.row 1 [str x] true true)) (c2 := 1) hsrc2 (strs_one _) (by rw [l1]; show (at_ + 1) * 16 ≤ 2 ^ 40; omega) (by rw [l1]; show at_ + 1 ≤ 2 ^ 40; omega) (by simp; omega)
            have hpB : H3.length ≤ pB := by have := hgr2.at_; simp at this; omega
            have keep2 : ∀ (q : Nat) (X : Blk), H3[q]? = some X → K2[q]? = some X := fun q X hX => by
              have hq := (List.getElem?_eq_some_iff.1 hX).1
              have h1 := keep1 q X hX
              exact row_apart hgr2 (by rw [List.getElem?_append_left (List.getElem?_eq_some_iff.1 h1).1]; exact h1) (by omega)
            have hacc2' : Acc K2 H.length 1 (.slice wa out.length wc) (strs out) p2 := hacc2.keep fun q X hX _ => keep2 q X hX
            obtain ⟨_, ⟨sb, sd, hs3, hsrc3⟩⟩ := cut_acc hacc2' hat (by omega)
            have l3 : (strs (out.drop at_)).length = out.length - at_ := by rw [strs_len, List.length_drop]
            have lB : (strs (out.take at_) ++ strs [x]).length = at_ + 1 := by rw [List.length_append, l1]; rfl
            have hg2 := hgr2.len
            simp at hg2
            obtain ⟨vC, K3, pC, happ3, haccC, hgr3⟩ := push_app (T := tab) (t := 37) (e := 9) (i := _) (ei := _) ⟨rfl, rfl, rfl, by decide⟩ haccB (xs := strs (out.drop at_)) (a2 := sb) (c2 := sd) (by rw [l3]; exact hsrc3) (strs_one _) (by rw [l3, lB]; show (at_ + 1 + (out.length - at_)) * 16 ≤ 2 ^ 40; omega) (by rw [l3, lB]; omega) (by omega)
            rw [l3] at happ3
            have hpC : H3.length ≤ pC := by have := hgr3.at_; omega
            have hT := (List.getElem?_eq_some_iff.1 hrow2).1
            refine Runs.drawn (is := List.range 13) (by decide +kernel) ?_
            refine Rg.opp rfl rfl rfl rfl rfl ?_
            refine Rg.opp rfl rfl rfl rfl rfl ?_
            refine Rg.opp rfl rfl rfl rfl rfl ?_
            refine Rg.opp rfl rfl rfl (ev_slice rfl hs1) rfl ?_
            refine Rg.opp rfl rfl rfl (ev_append rfl rfl happ1) (by simp only [Bool.true_and]; exact acc_inPlace (Acc.nil H3 0 1 0) rfl rfl) ?_
            refine Rg.opp rfl rfl rfl rfl rfl ?_
            refine Rg.opp rfl rfl rfl rfl rfl ?_
            refine Rg.opp rfl rfl rfl (ev_append rfl rfl happ2) (by simp only [Bool.true_and]; exact acc_inPlace haccA rfl rfl) ?_
            refine Rg.opp rfl rfl rfl rfl rfl ?_
            refine Rg.opp rfl rfl rfl rfl rfl ?_
            refine Rg.opp rfl rfl rfl (ev_slice rfl hs3) rfl ?_
            refine Rg.opp rfl rfl rfl (ev_append rfl rfl happ3) (by simp only [Bool.true_and]; exact acc_inPlace haccB rfl rfl) ?_
            refine Rg.opp rfl rfl rfl rfl rfl ?_
            refine Rg.nil ?_
            refine ⟨vC, pC, hgr3.ext H rfl (hgr2.ext H rfl ((hgr1.ext H rfl he2).row _ _)), ?_, by omega, ?_, Is.of ⟨rfl, rfl, rfl, rfl, rfl, rfl, rfl, rfl, rfl, rfl, rfl, rfl, trivial⟩⟩
            · rw [hins]
              have e : ∀ p q : List Nm, strs (p ++ q) = strs p ++ strs q := by intro p q; simp [strs]
              rw [e, e]; exact haccC
            · exact row_apart hgr3 (keep2 _ _ hrow2) (by omega)
      · rintro s H3 ⟨w3, p3, he3, hacc3, hp3, hrow3, hs⟩
        obtain ⟨a3, rfl⟩ := hs.mk1
        refine Runs.region ?_
        refine Rg.opp rfl rfl rfl (ev_addn (b := 1) rfl rfl (by omega)) rfl ?_
        refine Rg.opp rfl rfl rfl rfl rfl ?_
        refine Rg.nil ?_
        exact ⟨2 - (j + 1), by omega, j + 1, w3, p3, hj2, rfl, he3, by rw [hstep]; exact hacc3, hp3, hrow3, Is.of ⟨rfl, rfl, rfl, rfl, rfl, rfl, rfl, rfl, rfl, rfl, rfl, rfl, trivial⟩⟩
    · have hj2 : j = 2 := by omega
      subst hj2
      refine Runs.seq (Runs.region ?_)
      refine Rg.opp rfl rfl rfl (ev_lt false rfl rfl (by decide)) rfl ?_
      refine Rg.nil ?_
      refine Runs.seq (Runs.cond false rfl (fun h => by cases h) (fun _ => ?_))
      refine Runs.exit ?_
      refine Runs.region ?_
      refine Rg.opp rfl rfl rfl rfl rfl ?_
      refine Rg.opp rfl rfl rfl (ev_addn (b := 1) rfl rfl (by omega)) rfl ?_
      refine Rg.opp rfl rfl rfl rfl rfl ?_
      refine Rg.nil ?_
      refine ⟨l.length - (k + 1), by omega, k + 1, w2, p2, hlt, rfl, he2, ?_, Is.of ⟨rfl, rfl, rfl, rfl, rfl, rfl, trivial⟩⟩
      rw [hall]; exact hacc2
  · have hkl : k = l.length := by omega
    refine Runs.seq (Runs.seq (Runs.region ?_))
    refine Rg.opp rfl rfl rfl rfl rfl ?_
    refine Rg.opp rfl rfl rfl rfl rfl ?_
    refine Rg.opp rfl rfl rfl rfl rfl ?_
    refine Rg.opp rfl rfl rfl (ev_lt false rfl rfl (by simp; omega)) rfl ?_
    refine Rg.nil ?_
    refine Runs.cond false rfl (fun h => by cases h) (fun _ => ?_)
    refine Runs.exit ?_
    rw [hkl, List.take_of_length_le (Nat.le_refl _)] at hacc
    refine Runs.seq (Runs.region ?_)
    repeat refine Rg.opp rfl rfl rfl rfl rfl ?_
    refine Rg.nil ?_
    exact Runs.ret ⟨w, rfl, he, p, hacc⟩

end Go.Proofs.Ytdhbclplondmjaa.C
