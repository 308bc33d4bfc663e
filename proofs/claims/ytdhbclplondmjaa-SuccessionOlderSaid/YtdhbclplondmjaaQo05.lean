/- Texts of one's own, laid together: Wf, Wg, Wh, Wi, Wk -/
import Derived.Test.YtdhbclplondmjaaQo04
/- The program's check of described relations. -/
set_option linter.unusedVariables false
set_option maxRecDepth 1000000
namespace Go.Proofs.Ytdhbclplondmjaa.C
open Go.RowKit Go.Sort

noncomputable def goodB (k u l : Nat) : Bool := match runF 100 43 [.agg #[nat k, str (nm u), str (nm l)]] [] with
  | some (.int .i64 0, _) => true
  | _ => false

set_option maxHeartbeats 0 in
theorem goodB_all : ((List.range 4).all fun k => (List.range 6).all fun u => (List.range 6).all fun l => u == l || goodB (1 + k) u l) = true := by decide +kernel

theorem check_good (s : Seen) (H : Heap) : big tab 43 [.agg #[nat (mk s).kind, str (mk s).up, str (mk s).lo]] H = some (nat 0, H) := by
  refine big_ext (T := tab) (f := 43) rfl ?_
  have h := goodB_all
  simp only [List.all_eq_true, List.mem_range, Bool.or_eq_true, beq_iff_eq] at h
  have hne : mkA s ≠ mkB s := by
    unfold mkA mkB
    split
    · omega
    · rename_i q; exact q
  have h1 := (h (s.k % 4) (by omega) (mkA s) (mk_le s).1 (mkB s) (mk_le s).2).resolve_left hne
  unfold goodB at h1
  split at h1
  · rename_i E he
    have he2 := callCF_ok 100 _ _ _ _ he
    rw [show tabF = tab0 from tabR_eq _] at he2
    exact pureB_is 100 rfl he2 rfl H
  · simp at h1

theorem read_whole {K : Heap} {sz : Nat} {cs : List Value} : readCells (K ++ [.row sz cs true true]) K.length 0 cs.length = some cs := by
  have hb : (K ++ [Blk.row sz cs true true])[K.length]? = some (.row sz cs true true) := List.getElem?_concat_length
  simp only [readCells, hb]
  rw [if_pos (by omega)]
  simp

section
variable {T : Tab} {s : List Value} {H : Heap}
theorem ev_gt {t t2 : TypeId} {x y : Operand} {k : IntKind} {a b : Int} (p : Bool) (hx : ev s x = .int k a) (hy : ev s y = .int k b) (h : decide (a > b) = p) : opEval T s H (.binOp .gtr t x y t2) = some (.bool p, H) :=
  ev_bin hx hy (by decide) (by subst h; rfl)
theorem ev_ne {t t2 : TypeId} {x y : Operand} {k : IntKind} {a b : Int} (p : Bool) (hx : ev s x = .int k a) (hy : ev s y = .int k b) (h : decide (a ≠ b) = p) : opEval T s H (.binOp .neq t x y t2) = some (.bool p, H) :=
  ev_bin hx hy (by decide) (by subst h; simp [binInt]; by_cases q : a = b <;> simp [q])
end

def Good (r : Rel) : Prop := ∀ K, big tab 43 [.agg #[nat r.kind, str r.up, str r.lo]] K = some (nat 0, K)

theorem checkP_runs {H : Heap} {v : Value} {l : List Rel} (h : Sl H 3 v (rels l)) (hl : l.length ≤ 200) (hg : ∀ r ∈ l, Good r) (hu : (unitsP l).length ≤ 60) :
    ∃ r H1, big tab 31 [v] H = some (r, H1) ∧ r = nat 0 ∧ Ext H H1 := by
  have hsl := h
  obtain ⟨a, c, rfl, hc, hcs⟩ := h
  simp only [rels_len] at *
  refine big_of_runs rfl rfl rfl ?_
  obtain ⟨z, hz⟩ := startC_mkS Try.f31 [.slice a l.length c]
  rw [show startC (31, Try.f31).snd [Value.slice a l.length c] = _ from hz]
  refine Runs.seq (Runs.region ?_)
  repeat refine Rg.opp rfl rfl rfl rfl rfl ?_
  refine Rg.nil ?_
  refine Runs.seq (Runs.seq (Runs.region ?_))
  refine Rg.opp rfl rfl rfl rfl rfl ?_
  refine Rg.opp rfl rfl rfl rfl rfl ?_
  refine Rg.opp rfl rfl rfl (ev_gt false rfl rfl (decide_eq_false (by omega))) rfl ?_
  refine Rg.nil ?_
  refine Runs.cond false rfl (fun h => by cases h) (fun _ => ?_)
  refine Runs.skip ?_
  refine Runs.seq (Runs.seq (Runs.region ?_))
  repeat refine Rg.opp rfl rfl rfl rfl rfl ?_
  refine Rg.nil ?_
  refine Runs.block ?_
  refine Runs.loop (fun m s H1 => ∃ k, k ≤ l.length ∧ m = l.length - k ∧ Ext H H1 ∧ Is s 25 [(0, .slice a l.length c), (9, .slice a l.length c), (10, nat l.length), (11, nat k)]) _
    ⟨0, Nat.zero_le _, rfl, Ext.refl H, Is.of ⟨rfl, rfl, rfl, rfl, rfl, rfl, rfl, rfl, trivial⟩⟩ ?_
  rintro m s H1 ⟨k, hk, rfl, he, hs⟩
  obtain ⟨a0, rfl⟩ := hs.mk1
  by_cases hlt : k < l.length
  · refine Runs.seq (Runs.region ?_)
    refine Rg.opp rfl rfl rfl (ev_lt true rfl rfl (by simp; omega)) rfl ?_
    refine Rg.nil ?_
    refine Runs.seq (Runs.cond true rfl (fun _ => ?_) (fun h => by cases h))
    refine Runs.skip ?_
    have hcs1 := hcs.sees he.sees
    obtain ⟨b, o, rfl, hsz, hr⟩ := hcs1.lt (i := k) (by rw [rels_len]; exact hlt)
    have hrk := hr k _ (rels_get hlt)
    refine Runs.seq (Runs.block ?_)
    refine Runs.seq (Runs.region ?_)
    refine Rg.opp rfl rfl rfl (ev_at rfl rfl rfl rfl (by decide) hlt) rfl ?_
    refine Rg.opp rfl rfl rfl (ev_loadA rfl rfl hrk rfl) rfl ?_
    refine Rg.opp rfl rfl rfl rfl rfl ?_
    refine Rg.opn rfl rfl rfl (ev_set (cs := relC l[k]) rfl rfl rfl rfl rfl rfl) rfl ?_
    refine Rg.nil ?_
    refine Runs.seq (Runs.region ?_)
    refine Rg.opp rfl rfl rfl (ev_loadA rfl rfl (read_whole (cs := relC l[k])) rfl) rfl ?_
    refine Rg.calls rfl rfl rfl rfl rfl rfl (hg l[k] (List.getElem_mem hlt) _) ?_
    refine Rg.opp rfl rfl rfl rfl rfl ?_
    refine Rg.nil ?_
    refine Runs.seq (Runs.region ?_)
    refine Rg.opp rfl rfl rfl rfl rfl ?_
    refine Rg.opp rfl rfl rfl (ev_ne false rfl rfl (by decide)) rfl ?_
    refine Rg.nil ?_
    refine Runs.cond false rfl (fun h => by cases h) (fun _ => ?_)
    refine Runs.skip ?_
    refine Runs.region ?_
    refine Rg.opp rfl rfl rfl (ev_addn (b := 1) rfl rfl (by omega)) rfl ?_
    refine Rg.opp rfl rfl rfl rfl rfl ?_
    refine Rg.nil ?_
    exact ⟨l.length - (k + 1), by omega, k + 1, hlt, rfl, he.row _ _, Is.of ⟨rfl, rfl, rfl, rfl, rfl, rfl, rfl, rfl, trivial⟩⟩
  · refine Runs.seq (Runs.region ?_)
    refine Rg.opp rfl rfl rfl (ev_lt false rfl rfl (by simp; omega)) rfl ?_
    refine Rg.nil ?_
    refine Runs.seq (Runs.cond false rfl (fun h => by cases h) (fun _ => ?_))
    refine Runs.exit ?_
    obtain ⟨r, H2, hu1, he2, hsu⟩ := unitsP_runs (hsl.sees he.sees) (by omega)
    obtain ⟨ua, uc, rfl, huc, _⟩ := hsu
    rw [strs_len] at *
    refine Runs.seq (Runs.seq (Runs.region ?_))
    refine Rg.opp rfl rfl rfl rfl rfl ?_
    refine Rg.calls rfl rfl rfl rfl rfl rfl hu1 ?_
    refine Rg.opp rfl rfl rfl rfl rfl ?_
    refine Rg.opp rfl rfl rfl (ev_gt false rfl rfl (decide_eq_false (by omega))) rfl ?_
    refine Rg.nil ?_
    refine Runs.cond false rfl (fun h => by cases h) (fun _ => ?_)
    refine Runs.skip ?_
    refine Runs.seq (Runs.region ?_)
    refine Rg.opp rfl rfl rfl rfl rfl ?_
    refine Rg.nil ?_
    exact Runs.ret ⟨_, rfl, rfl, he.trans he2⟩

end Go.Proofs.Ytdhbclplondmjaa.C

/- The law's units. -/
set_option linter.unusedVariables false
set_option maxRecDepth 100000
namespace Go.Proofs.Ytdhbclplondmjaa.C
open Go.RowKit Go.Sort

/-- Where a name goes, and whether it is there, by the first k. -/
def scanK (out : List Nm) (x : Nm) : Nat → Nat × Bool
  | 0 => (0, false)
  | k + 1 => (if Op.bytesLess (out.getD k []) x then k + 1 else (scanK out x k).1, (scanK out x k).2 || decide (out.getD k [] = x))

theorem scanK_le (out : List Nm) (x : Nm) : ∀ k, (scanK out x k).1 ≤ k
  | 0 => Nat.le_refl _
  | k + 1 => by
    have := scanK_le out x k
    unfold scanK
    simp only
    split <;> omega

def insL (out : List Nm) (x : Nm) : List Nm :=
  if (scanK out x out.length).2 then out else out.take (scanK out x out.length).1 ++ [x] ++ out.drop (scanK out x out.length).1

def unitsL (l : List Rel) : List Nm := (allNames l).foldl insL []

theorem insL_len (out : List Nm) (x : Nm) : (insL out x).length ≤ out.length + 1 := by
  unfold insL
  split
  · omega
  · have := scanK_le out x out.length
    simp only [List.length_append, List.length_take, List.length_drop, List.length_cons, List.length_nil]
    omega

theorem foldl_len (xs : List Nm) : ∀ out : List Nm, (xs.foldl insL out).length ≤ out.length + xs.length := by
  induction xs with
  | nil => intro out; simp
  | cons x xs ih =>
    intro out
    have h1 := ih (insL out x)
    have h2 := insL_len out x
    simp only [List.foldl_cons, List.length_cons]
    omega

theorem less_eq {x y : Nm} : Op.bytesLess (ByteArray.mk x.toArray).toList (ByteArray.mk y.toArray).toList = Op.bytesLess x y := by
  rw [ByteArray.toList_mk, ByteArray.toList_mk]

section
variable {T : Tab} {s : List Value} {H : Heap}
theorem ev_seq {t t2 : TypeId} {x y : Operand} {a b : Nm} (hx : ev s x = str a) (hy : ev s y = str b) : opEval T s H (.binOp .eql t x y t2) = some (.bool (decide (a = b)), H) := by
  simp only [opEval, hx, hy, binOp, binStr, str_eq, Option.map_some]
theorem ev_slt {t t2 : TypeId} {x y : Operand} {a b : Nm} (hx : ev s x = str a) (hy : ev s y = str b) : opEval T s H (.binOp .lss t x y t2) = some (.bool (Op.bytesLess a b), H) := by
  simp only [opEval, hx, hy, binOp, binStr, less_eq, Option.map_some]
end

theorem ev_slice {T : Tab} {s : List Value} {H : Heap} {t : TypeId} {x : Operand} {lo hi mx : Option Operand} {w v : Value} (hx : ev s x = w) (h : sliceVal T H t w (lo.map (ev s)) (hi.map (ev s)) (mx.map (ev s)) = some v) : opEval T s H (.slice t x lo hi mx) = some (v, H) := by
  simp only [opEval, hx, h, Option.map_some]

/-- What a slice under way is cut into. -/
theorem cut_acc {H : Heap} {lo p at_ : Nat} {w : Value} {xs : List Nm} (h : Acc H lo 1 w (strs xs) p) (ha : at_ ≤ xs.length) (hu : xs.length < 2 ^ 40) :
    (∃ a2 c2, sliceVal tab H 37 w none (some (nat at_)) none = some (.slice a2 at_ c2) ∧ srcCells H a2 at_ 1 = some (strs (xs.take at_)).flatten) ∧
    (∃ a2 c2, sliceVal tab H 37 w (some (nat at_)) none none = some (.slice a2 (xs.length - at_) c2) ∧ srcCells H a2 (xs.length - at_) 1 = some (strs (xs.drop at_)).flatten) := by
  obtain ⟨hs, ⟨hnil, rfl⟩ | ⟨rfl, h1, h2⟩⟩ := h
  · have : xs = [] := by simpa [strs] using hnil
    subst this
    have : at_ = 0 := by simpa using ha
    subst this
    exact ⟨⟨none, 0, rfl, rfl⟩, ⟨none, 0, rfl, rfl⟩⟩
  · rw [strs_len]
    have hsz : szAt H p = some 1 := by simp [szAt, h2]
    have hfl : (strs xs).flatten.length = xs.length := by rw [strs_flat]; simp
    have hT : tab.d 37 = some (.slice 9) := rfl
    have hE : ∃ ei, tab.T 9 = some ei ∧ ei.size = 1 := ⟨_, rfl, rfl⟩
    obtain ⟨ei, hE, hE1⟩ := hE
    have hnu : ¬ (unk = 0 ∧ unk ≠ unk) := by simp
    have hnu2 : ¬ (unk = at_ ∧ unk ≠ unk) := by simp
    have b1 : bnd (nat at_) xs.length = some at_ := by
      simp only [bnd]
      rw [if_pos ⟨by omega, by omega⟩]
      simp
    refine ⟨⟨some ⟨p, 0 + 0 * 1, none⟩, unk, ?_, ?_⟩, ⟨some ⟨p, 0 + at_ * 1, none⟩, unk, ?_, ?_⟩⟩
    · simp only [sliceVal, hT, hE, hE1, Option.bind_some, if_true, b1, cutSlice, hnu, if_false, hsz]
      simp
    · by_cases h0 : at_ = 0
      · subst h0; simp [srcCells, strs]
      · simp only [srcCells, h0, if_false, readCells, h2]
        rw [if_pos (by omega)]
        simp only [strs_flat, List.map_take, Option.some.injEq]
        simp
    · simp only [sliceVal, hT, hE, hE1, Option.bind_some, if_true, b1, cutSlice, hnu2, if_false, hsz]
    · by_cases h0 : xs.length - at_ = 0
      · have : at_ = xs.length := by omega
        subst this
        simp [srcCells, strs]
      · simp only [srcCells, h0, if_false, readCells, h2]
        rw [if_pos (by omega)]
        simp only [strs_flat, List.map_drop, Option.some.injEq]
        rw [List.take_of_length_le (by simp)]
        simp

theorem strs_one (xs : List Nm) : ∀ e ∈ strs xs, e.length = 1 ∧ e.all oneCell = true := by
  intro e he
  simp only [strs, List.mem_map] at he
  obtain ⟨x, _, rfl⟩ := he
  exact ⟨rfl, rfl⟩

theorem acc_apart {H : Heap} {lo sz p : Nat} {w : Value} {es : List (List Value)} (h : Acc H lo sz w es p) (q : Nat) (hq : H.length ≤ q) : ∃ p1, Acc H lo sz w es p1 ∧ p1 ≠ q := by
  obtain ⟨hs, ⟨hnil, rfl⟩ | ⟨rfl, h1, h2⟩⟩ := h
  · exact ⟨q + 1, ⟨hs, .inl ⟨hnil, rfl⟩⟩, by omega⟩
  · have := (List.getElem?_eq_some_iff.1 h2).1
    exact ⟨p, ⟨hs, .inr ⟨rfl, h1, h2⟩⟩, by omega⟩

theorem acc_snoc {H : Heap} {lo sz p : Nat} {w : Value} {es : List (List Value)} (h : Acc H lo sz w es p) (X : Blk) : Acc (H ++ [X]) lo sz w es p :=
  h.keep fun b Y hb _ => by rw [List.getElem?_append_left (List.getElem?_eq_some_iff.1 hb).1]; exact hb

theorem row_apart {H H1 : Heap} {lo p p1 q : Nat} {X : Blk} (hg : Grow lo p p1 H H1) (h : H[q]? = some X) (hq : p ≠ q) : H1[q]? = some X := by
  rw [hg.same q (List.getElem?_eq_some_iff.1 h).1 (.inr fun e => hq e.symm)]; exact h

theorem lawUnits_runs {H : Heap} {v : Value} {l : List Rel} (h : Sl H 3 v (rels l)) (hl : l.length < 2 ^ 20) :
    ∃ r H1, big tab 20 [v] H = some (r, H1) ∧ Ext H H1 ∧ ∃ p, Acc H1 H.length 1 r (strs (unitsL l)) p := by
  obtain ⟨a, c, rfl, hc, hcs⟩ := h
  simp only [rels_len] at *
  refine big_of_runs rfl rfl rfl ?_
  obtain ⟨z, hz⟩ := startC_mkS Try.f20 [.slice a l.length c]
  rw [show startC (20, Try.f20).snd [Value.slice a l.length c] = _ from hz]
  clear hz
  refine Runs.seq (Runs.region ?_)
  repeat refine Rg.opp rfl rfl rfl rfl rfl ?_
  refine Rg.nil ?_
  refine Runs.seq (Runs.region ?_)
  repeat refine Rg.opp rfl rfl rfl rfl rfl ?_
  refine Rg.nil ?_
  refine Runs.seq (Runs.seq (Runs.region ?_))
  repeat refine Rg.opp rfl rfl rfl rfl rfl ?_
  refine Rg.nil ?_
  refine Runs.block ?_
  refine Runs.loop (fun m s H1 => ∃ k w p, k ≤ l.length ∧ m = l.length - k ∧ Ext H H1 ∧ Acc H1 H.length 1 w (strs (unitsL (l.take k))) p ∧ Is s 72 [(0, .slice a l.length c), (3, w), (4, nat k)]) _
    ⟨0, .slice none 0 0, 0, Nat.zero_le _, rfl, Ext.refl H, Acc.nil _ _ _ _, Is.of ⟨rfl, rfl, rfl, rfl, rfl, rfl, trivial⟩⟩ ?_
  rintro m s H1 ⟨k, w, p, hk, rfl, he, hacc, hs⟩
  obtain ⟨a0, rfl⟩ := hs.mk1
  clear hs
  by_cases hlt : k < l.length
  · refine Runs.seq (Runs.seq (Runs.region ?_))
    refine Rg.opp rfl rfl rfl rfl rfl ?_
    refine Rg.opp rfl rfl rfl rfl rfl ?_
    refine Rg.opp rfl rfl rfl rfl rfl ?_
    refine Rg.opp rfl rfl rfl (ev_lt true rfl rfl (by simp; omega)) rfl ?_
    refine Rg.nil ?_
    refine Runs.cond true rfl (fun _ => ?_) (fun h => by cases h)
    refine Runs.skip ?_
    have hcs1 := hcs.sees he.sees
    obtain ⟨b, o, rfl, hsz, hr⟩ := hcs1.lt (i := k) (by rw [rels_len]; exact hlt)
    have hrk := hr k _ (rels_get hlt)
    refine Runs.seq (Runs.block ?_)
    refine Runs.seq (Runs.drawn (is := List.range 13) (by decide +kernel) ?_)
    refine Rg.opp rfl rfl rfl rfl rfl ?_
    refine Rg.opp rfl rfl rfl rfl rfl ?_
    refine Rg.opp rfl rfl rfl (ev_at rfl rfl rfl rfl (by decide) hlt) rfl ?_
    refine Rg.opp rfl rfl rfl (ev_fld rfl rfl rfl rfl rfl (by decide)) rfl ?_
    refine Rg.opp rfl rfl rfl (ev_load1 rfl rfl (read_one hrk (j := 1) rfl) rfl) rfl ?_
    refine Rg.opp rfl rfl rfl rfl rfl ?_
    refine Rg.opp rfl rfl rfl rfl rfl ?_
    refine Rg.opp rfl rfl rfl (ev_at rfl rfl rfl rfl (by decide) hlt) rfl ?_
    refine Rg.opp rfl rfl rfl (ev_fld rfl rfl rfl rfl rfl (by decide)) rfl ?_
    refine Rg.opp rfl rfl rfl (ev_load1 rfl rfl (read_one hrk (j := 2) rfl) rfl) rfl ?_
    refine Rg.opp rfl rfl rfl rfl rfl ?_
    refine Rg.opp rfl rfl rfl rfl rfl ?_
    refine Rg.opp rfl rfl rfl rfl rfl ?_
    refine Rg.nil ?_
    obtain ⟨p0, hacc0, hp0⟩ := acc_apart hacc H1.length (Nat.le_refl _)
    have hall : unitsL (l.take (k + 1)) = [l[k].up, l[k].lo].foldl insL (unitsL (l.take k)) := by
      have e : ∀ (p : List Rel) (r : Rel), unitsL (p ++ [r]) = [r.up, r.lo].foldl insL (unitsL p) := by intro p r; simp [unitsL, allNames]
      rw [← List.take_append_getElem hlt, e]
    have hlenk : (unitsL (l.take k)).length ≤ 2 * k := by
      have := foldl_len (allNames (l.take k)) []
      rw [allNames_len, List.length_take] at this
      simp only [unitsL, List.length_nil] at *
      omega
    have hrow : (H1 ++ [Blk.row 1 [str l[k].up, str l[k].lo] true true])[H1.length]? = some (Blk.row 1 (strs [l[k].up, l[k].lo]).flatten true true) := by
      exact List.getElem?_concat_length
    have hlen1 := he.len
    refine Runs.block ?_
    refine Runs.loop (fun m s H2 => ∃ j w p, j ≤ 2 ∧ m = 2 - j ∧ Ext H H2 ∧ Acc H2 H.length 1 w (strs (([l[k].up, l[k].lo].take j).foldl insL (unitsL (l.take k)))) p ∧ p ≠ H1.length ∧ H2[H1.length]? = some (Blk.row 1 (strs [l[k].up, l[k].lo]).flatten true true) ∧
        Is s 72 [(0, .slice (some ⟨b, o, none⟩) l.length c), (3, w), (4, nat k), (27, .slice (some ⟨H1.length, 0, none⟩) 2 2), (28, nat 2), (29, nat j)]) _
      ⟨0, w, p0, by omega, rfl, he.row _ _, acc_snoc hacc0 _, hp0, hrow, Is.of ⟨rfl, rfl, rfl, rfl, rfl, rfl, rfl, rfl, rfl, rfl, rfl, rfl, trivial⟩⟩ ?_
    rintro m s H2 ⟨j, w2, p2, hj, rfl, he2, hacc2, hp2, hrow2, hs⟩
    obtain ⟨a1, rfl⟩ := hs.mk1
    clear hs
    by_cases hj2 : j < 2
    · have hcT : Cells H2 1 (some ⟨H1.length, 0, none⟩) (strs [l[k].up, l[k].lo]) := Cells.row (own := true) (strs_sz _) hrow2
      obtain ⟨bT, oT, eT, hszT, hrT⟩ := hcT.lt (i := j) (by rw [strs_len]; exact hj2)
      simp only [Option.some.injEq, Addr.mk.injEq, and_true] at eT
      obtain ⟨rfl, rfl⟩ := eT
      generalize hx : ([l[k].up, l[k].lo])[j]'(by simpa using hj2) = x
      have hrx := hrT j _ (strs_get (xs := [l[k].up, l[k].lo]) (by simpa using hj2))
      rw [hx] at hrx
      have hstep : ([l[k].up, l[k].lo].take (j + 1)).foldl insL (unitsL (l.take k)) = insL (([l[k].up, l[k].lo].take j).foldl insL (unitsL (l.take k))) x := by
        rw [← List.take_append_getElem (by simpa using hj2), List.foldl_append, hx]; rfl
      generalize hout : ([l[k].up, l[k].lo].take j).foldl insL (unitsL (l.take k)) = out at hacc2 hstep
      have houtl : out.length ≤ 2 * k + 2 := by
        have := foldl_len ([l[k].up, l[k].lo].take j) (unitsL (l.take k))
        rw [hout] at this
        simp only [List.length_take, List.length_cons, List.length_nil] at this
        omega
      refine Runs.seq (Runs.region ?_)
      refine Rg.opp rfl rfl rfl (ev_lt true rfl rfl (by simp; omega)) rfl ?_
      refine Rg.nil ?_
      refine Runs.seq (Runs.cond true rfl (fun _ => ?_) (fun h => by cases h))
      refine Runs.skip ?_
      -- behind the block: the index goes on
      refine Runs.seq (Runs.mono (N := fun s H3 => ∃ w3 p3, Ext H H3 ∧ Acc H3 H.length 1 w3 (strs (insL out x)) p3 ∧ p3 ≠ H1.length ∧ H3[H1.length]? = some (Blk.row 1 (strs [l[k].up, l[k].lo]).flatten true true) ∧
          Is s 72 [(0, .slice (some ⟨b, o, none⟩) l.length c), (3, w3), (4, nat k), (27, .slice (some ⟨H1.length, 0, none⟩) 2 2), (28, nat 2), (29, nat j)]) (X := fun _ _ _ => False) (R := fun _ _ => False) ?_ ?_ (fun _ _ _ h => h.elim) (fun _ _ h => h.elim))
      · refine Runs.block ?_
        refine Runs.seq (Runs.region ?_)
        refine Rg.opp rfl rfl rfl (ev_at rfl rfl rfl rfl (by decide) hj2) rfl ?_
        refine Rg.opp rfl rfl rfl (ev_load1 rfl rfl hrx rfl) rfl ?_
        refine Rg.opp rfl rfl rfl rfl rfl ?_
        refine Rg.nil ?_
        refine Runs.seq (Runs.region ?_)
        refine Rg.opp rfl rfl rfl rfl rfl ?_
        refine Rg.opp rfl rfl rfl rfl rfl ?_
        refine Rg.nil ?_
        obtain ⟨wa, wc, hw2, _, hwc⟩ := hacc2.sl (by rw [strs_len]; simp [unk]; omega)
        rw [strs_len] at hw2
        subst hw2
        refine Runs.seq (Runs.seq (Runs.region ?_))
        refine Rg.opp rfl rfl rfl rfl rfl ?_
        refine Rg.nil ?_
        refine Runs.block ?_
        refine Runs.loop (fun m s H3 => H3 = H2 ∧ ∃ i, i ≤ out.length ∧ m = out.length - i ∧
            Is s 72 [(0, .slice (some ⟨b, o, none⟩) l.length c), (3, .slice wa out.length wc), (4, nat k), (6, str x), (7, nat (scanK out x i).1), (8, .bool (scanK out x i).2), (9, nat i), (27, .slice (some ⟨H1.length, 0, none⟩) 2 2), (28, nat 2), (29, nat j)]) _
          ⟨rfl, 0, Nat.zero_le _, rfl, Is.of ⟨rfl, rfl, rfl, rfl, rfl, rfl, rfl, rfl, rfl, rfl, rfl, rfl, rfl, rfl, rfl, rfl, rfl, rfl, rfl, rfl, trivial⟩⟩ ?_
        rintro m s H3 ⟨hH3, i, hi, rfl, hs⟩
        subst hH3
        obtain ⟨a2, rfl⟩ := hs.mk1
        clear hs
        by_cases hil : i < out.length
        · obtain ⟨bw, ow, rfl, hszw, hrw⟩ := hwc.lt (i := i) (by rw [strs_len]; exact hil)
          have hri := hrw i _ (strs_get hil)
          have hget : out.getD i [] = out[i] := by simp [hil]
          refine Runs.seq (Runs.seq (Runs.region ?_))
          refine Rg.opp rfl rfl rfl rfl rfl ?_
          refine Rg.opp rfl rfl rfl rfl rfl ?_
          refine Rg.opp rfl rfl rfl rfl rfl ?_
          refine Rg.opp rfl rfl rfl (ev_lt true rfl rfl (by simp; omega)) rfl ?_
          refine Rg.nil ?_
          refine Runs.cond true rfl (fun _ => ?_) (fun h => by cases h)
          refine Runs.skip ?_
          refine Runs.seq (Runs.block ?_)
          refine Runs.seq (Runs.mono (N := fun s H4 => H3 = H4 ∧ Is s 72 [(0, .slice (some ⟨b, o, none⟩) l.length c), (3, .slice (some ⟨bw, ow, none⟩) out.length wc), (4, nat k), (6, str x), (7, nat (scanK out x i).1), (8, .bool (scanK out x (i + 1)).2), (9, nat i), (27, .slice (some ⟨H1.length, 0, none⟩) 2 2), (28, nat 2), (29, nat j)]) (X := fun _ _ _ => False) (R := fun _ _ => False) ?_ ?_ (fun _ _ _ h => h.elim) (fun _ _ h => h.elim))
          · cases hb : (scanK out x i).2 with
            | true =>
              refine Runs.cut (n := 72) (l := [(0, .slice (some ⟨b, o, none⟩) l.length c), (3, .slice (some ⟨bw, ow, none⟩) out.length wc), (4, nat k), (6, str x), (7, nat (scanK out x i).1), (8, .bool true), (9, nat i), (27, .slice (some ⟨H1.length, 0, none⟩) 2 2), (28, nat 2), (29, nat j)]) (Is.of ⟨rfl, rfl, rfl, rfl, rfl, rfl, rfl, rfl, rfl, rfl, rfl, rfl, rfl, rfl, rfl, rfl, rfl, rfl, rfl, rfl, trivial⟩) (fun a3 => ?_)
              refine Runs.region ?_
              refine Rg.opp rfl rfl rfl rfl rfl ?_
              refine Rg.opp rfl rfl rfl rfl rfl ?_
              refine Rg.guards false rfl rfl rfl (fun h => by cases h) (fun _ => ?_)
              refine Rg.guards false rfl rfl rfl (fun h => by cases h) (fun _ => ?_)
              refine Rg.guards false rfl rfl rfl (fun h => by cases h) (fun _ => ?_)
              refine Rg.guards false rfl rfl rfl (fun h => by cases h) (fun _ => ?_)
              refine Rg.guards false rfl rfl rfl (fun h => by cases h) (fun _ => ?_)
              refine Rg.guards false rfl rfl rfl (fun h => by cases h) (fun _ => ?_)
              refine Rg.opp rfl rfl rfl rfl rfl ?_
              refine Rg.opp rfl rfl rfl rfl rfl ?_
              refine Rg.nil ⟨rfl, Is.of ⟨rfl, rfl, rfl, rfl, rfl, rfl, rfl, rfl, rfl, rfl, rfl, ?_, rfl, rfl, rfl, rfl, rfl, rfl, rfl, rfl, trivial⟩⟩
              show Value.bool true = _
              simp [scanK, hb]
            | false =>
              refine Runs.cut (n := 72) (l := [(0, .slice (some ⟨b, o, none⟩) l.length c), (3, .slice (some ⟨bw, ow, none⟩) out.length wc), (4, nat k), (6, str x), (7, nat (scanK out x i).1), (8, .bool false), (9, nat i), (27, .slice (some ⟨H1.length, 0, none⟩) 2 2), (28, nat 2), (29, nat j)]) (Is.of ⟨rfl, rfl, rfl, rfl, rfl, rfl, rfl, rfl, rfl, rfl, rfl, rfl, rfl, rfl, rfl, rfl, rfl, rfl, rfl, rfl, trivial⟩) (fun a3 => ?_)
              refine Runs.region ?_
              refine Rg.opp rfl rfl rfl rfl rfl ?_
              refine Rg.opp rfl rfl rfl rfl rfl ?_
              refine Rg.guards true rfl rfl rfl (fun _ => ⟨_, _, evW_op rfl, rfl, ?_⟩) (fun h => by cases h)
              refine Rg.guards true rfl rfl rfl (fun _ => ⟨_, _, evW_op rfl, rfl, ?_⟩) (fun h => by cases h)
              refine Rg.guards true rfl rfl rfl (fun _ => ⟨_, _, evW_op (ev_at rfl rfl rfl rfl (by decide) hil), rfl, ?_⟩) (fun h => by cases h)
              refine Rg.guards true rfl rfl rfl (fun _ => ⟨_, _, evW_op (ev_load1 rfl rfl hri rfl), rfl, ?_⟩) (fun h => by cases h)
              refine Rg.guards true rfl rfl rfl (fun _ => ⟨_, _, evW_op rfl, rfl, ?_⟩) (fun h => by cases h)
              refine Rg.guards true rfl rfl rfl (fun _ => ⟨_, _, evW_op (ev_seq rfl rfl), rfl, ?_⟩) (fun h => by cases h)
              refine Rg.opp rfl rfl rfl rfl rfl ?_
              refine Rg.opp rfl rfl rfl rfl rfl ?_
              refine Rg.nil ⟨rfl, Is.of ⟨rfl, rfl, rfl, rfl, rfl, rfl, rfl, rfl, rfl, rfl, rfl, ?_, rfl, rfl, rfl, rfl, rfl, rfl, rfl, rfl, trivial⟩⟩
              show Value.bool (decide (out[i] = x)) = _
              rw [← hget]
              simp [scanK, hb]
          · rintro s H4 ⟨hH4, hs⟩
            subst hH4
            obtain ⟨a4, rfl⟩ := hs.mk1
            refine Runs.seq (Runs.region ?_)
            refine Rg.opp rfl rfl rfl rfl rfl ?_
            refine Rg.opp rfl rfl rfl rfl rfl ?_
            refine Rg.opp rfl rfl rfl (ev_at rfl rfl rfl rfl (by decide) hil) rfl ?_
            refine Rg.opp rfl rfl rfl (ev_load1 rfl rfl hri rfl) rfl ?_
            refine Rg.opp rfl rfl rfl rfl rfl ?_
            refine Rg.opp rfl rfl rfl (ev_slt rfl rfl) rfl ?_
            refine Rg.nil ?_
            refine Runs.cond (Op.bytesLess out[i] x) rfl (fun hless => ?_) (fun hless => ?_)
            · refine Runs.region ?_
              refine Rg.opp rfl rfl rfl rfl rfl ?_
              refine Rg.opp rfl rfl rfl (ev_addn (b := 1) rfl rfl (by omega)) rfl ?_
              refine Rg.opp rfl rfl rfl rfl rfl ?_
              refine Rg.nil ?_
              refine Runs.region ?_
              refine Rg.opp rfl rfl rfl rfl rfl ?_
              refine Rg.opp rfl rfl rfl (ev_addn (b := 1) rfl rfl (by omega)) rfl ?_
              refine Rg.opp rfl rfl rfl rfl rfl ?_
              refine Rg.nil ?_
              refine ⟨out.length - (i + 1), by omega, rfl, i + 1, hil, rfl, Is.of ⟨rfl, rfl, rfl, rfl, rfl, rfl, rfl, rfl, rfl, ?_, rfl, rfl, rfl, rfl, rfl, rfl, rfl, rfl, rfl, rfl, trivial⟩⟩
              show nat (i + 1) = _
              simp [scanK, hil, hless]
            · refine Runs.skip ?_
              refine Runs.region ?_
              refine Rg.opp rfl rfl rfl rfl rfl ?_
              refine Rg.opp rfl rfl rfl (ev_addn (b := 1) rfl rfl (by omega)) rfl ?_
              refine Rg.opp rfl rfl rfl rfl rfl ?_
              refine Rg.nil ?_
              refine ⟨out.length - (i + 1), by omega, rfl, i + 1, hil, rfl, Is.of ⟨rfl, rfl, rfl, rfl, rfl, rfl, rfl, rfl, rfl, ?_, rfl, rfl, rfl, rfl, rfl, rfl, rfl, rfl, rfl, rfl, trivial⟩⟩
              show nat (scanK out x i).1 = _
              simp [scanK, hil, hless]
        · have hio : i = out.length := by omega
          subst hio
          refine Runs.seq (Runs.seq (Runs.region ?_))
          refine Rg.opp rfl rfl rfl rfl rfl ?_
          refine Rg.opp rfl rfl rfl rfl rfl ?_
          refine Rg.opp rfl rfl rfl rfl rfl ?_
          refine Rg.opp rfl rfl rfl (ev_lt false rfl rfl (by simp)) rfl ?_
          refine Rg.nil ?_
          refine Runs.cond false rfl (fun h => by cases h) (fun _ => ?_)
          refine Runs.exit ?_
          cases hb : (scanK out x out.length).2 with
          | true =>
            refine Runs.cut (n := 72) (l := [(0, .slice (some ⟨b, o, none⟩) l.length c), (3, .slice wa out.length wc), (4, nat k), (6, str x), (7, nat (scanK out x out.length).1), (8, .bool true), (27, .slice (some ⟨H1.length, 0, none⟩) 2 2), (28, nat 2), (29, nat j)]) (Is.of ⟨rfl, rfl, rfl, rfl, rfl, rfl, rfl, rfl, rfl, rfl, rfl, rfl, rfl, rfl, rfl, rfl, rfl, rfl, trivial⟩) (fun a3 => ?_)
            refine Runs.seq (Runs.region ?_)
            refine Rg.opp rfl rfl rfl rfl rfl ?_
            refine Rg.opp rfl rfl rfl rfl rfl ?_
            refine Rg.nil ?_
            refine Runs.cond false rfl (fun h => by cases h) (fun _ => ?_)
            refine Runs.skip ⟨_, p2, he2, ?_, hp2, hrow2, Is.of ⟨rfl, rfl, rfl, rfl, rfl, rfl, rfl, rfl, rfl, rfl, rfl, rfl, trivial⟩⟩
            rw [show insL out x = out by unfold insL; rw [if_pos hb]]
            exact hacc2
          | false =>
            refine Runs.cut (n := 72) (l := [(0, .slice (some ⟨b, o, none⟩) l.length c), (3, .slice wa out.length wc), (4, nat k), (6, str x), (7, nat (scanK out x out.length).1), (8, .bool false), (27, .slice (some ⟨H1.length, 0, none⟩) 2 2), (28, nat 2), (29, nat j)]) (Is.of ⟨rfl, rfl, rfl, rfl, rfl, rfl, rfl, rfl, rfl, rfl, rfl, rfl, rfl, rfl, rfl, rfl, rfl, rfl, trivial⟩) (fun a3 => ?_)
            have hat := scanK_le out x out.length
            have hins : insL out x = out.take (scanK out x out.length).1 ++ [x] ++ out.drop (scanK out x out.length).1 := by unfold insL; rw [if_neg (by rw [hb]; decide)]
            generalize (scanK out x out.length).1 = at_ at hat hins
            refine Runs.seq (Runs.region ?_)
            refine Rg.opp rfl rfl rfl rfl rfl ?_
            refine Rg.opp rfl rfl rfl rfl rfl ?_
            refine Rg.nil ?_
            refine Runs.cond true rfl (fun _ => ?_) (fun h => by cases h)
            refine Runs.seq (Runs.region ?_)
            refine Rg.opp rfl rfl rfl rfl rfl ?_
            refine Rg.nil ?_
            obtain ⟨⟨sa, sc, hs1, hsrc1⟩, _⟩ := cut_acc hacc2 hat (by omega)
            have l1 : (strs (out.take at_)).length = at_ := by rw [strs_len, List.length_take]; omega
            have hlo2 := he2.len
            obtain ⟨vA, K1, pA, happ1, haccA, hgr1⟩ := push_app (T := tab) (t := 37) (e := 9) (i := _) (ei := _) ⟨rfl, rfl, rfl, by decide⟩ (Acc.nil H3 H.length 1 H3.length) (xs := strs (out.take at_)) (a2 := sa) (c2 := sc) (by rw [l1]; exact hsrc1) (strs_one _) (by rw [l1]; show (0 + at_) * 16 ≤ 2 ^ 40; omega) (by rw [l1]; simp; omega) hlo2
            rw [l1] at happ1
            rw [List.nil_append] at haccA
            have hpA : H3.length ≤ pA := by have := hgr1.at_; omega
            have keep1 : ∀ (q : Nat) (X : Blk), H3[q]? = some X → K1[q]? = some X := fun q X hX => row_apart hgr1 hX (by have := (List.getElem?_eq_some_iff.1 hX).1; omega)
            have hsrc2 : srcCells (K1 ++ [Blk.row 1 [str x] true true]) (some ⟨K1.length, 0, none⟩) (strs [x]).length 1 = some (strs [x]).flatten := by
              have : (K1 ++ [Blk.row 1 [str x] true true])[K1.length]? = some (Blk.row 1 [str x] true true) := List.getElem?_concat_length
              simp only [srcCells, readCells, this]
              rfl
            have hg1 := hgr1.len
            obtain ⟨vB, K2, pB, happ2, haccB, hgr2⟩ := push_app (T := tab) (t := 37) (e := 9) (i := _) (ei := _) ⟨rfl, rfl, rfl, by decide⟩ (acc_snoc haccA (Blk.row 1 [str x] true true)) (c2 := 1) hsrc2 (strs_one _) (by rw [l1]; show (at_ + 1) * 16 ≤ 2 ^ 40; omega) (by rw [l1]; show at_ + 1 ≤ 2 ^ 40; omega) (by simp; omega)
            have hpB : H3.length ≤ pB := by have := hgr2.at_; simp at this; omega
            have keep2 : ∀ (q : Nat) (X : Blk), H3[q]? = some X → K2[q]? = some X := fun q X hX => by
              have hq := (List.getElem?_eq_some_iff.1 hX).1
              have h1 := keep1 q X hX
              exact row_apart hgr2 (by rw [List.getElem?_append_left (List.getElem?_eq_some_iff.1 h1).1]; exact h1) (by omega)
            have hacc2' : Acc K2 H.length 1 (.slice wa out.length wc) (strs out) p2 := hacc2.keep fun q X hX _ => keep2 q X hX
            obtain ⟨_, ⟨sb, sd, hs3, hsrc3⟩⟩ := cut_acc hacc2' hat (by omega)
            have l3 : (strs (out.drop at_)).length = out.length - at_ := by rw [strs_len, List.length_drop]
            have lB : (strs (out.take at_) ++ strs [x]).length = at_ + 1 := by rw [List.length_append, l1]; rfl
            have hg2 := hgr2.len
            simp at hg2
            obtain ⟨vC, K3, pC, happ3, haccC, hgr3⟩ := push_app (T := tab) (t := 37) (e := 9) (i := _) (ei := _) ⟨rfl, rfl, rfl, by decide⟩ haccB (xs := strs (out.drop at_)) (a2 := sb) (c2 := sd) (by rw [l3]; exact hsrc3) (strs_one _) (by rw [l3, lB]; show (at_ + 1 + (out.length - at_)) * 16 ≤ 2 ^ 40; omega) (by rw [l3, lB]; omega) (by omega)
            rw [l3] at happ3
            have hpC : H3.length ≤ pC := by have := hgr3.at_; omega
            have hT := (List.getElem?_eq_some_iff.1 hrow2).1
            refine Runs.drawn (is := List.range 13) (by decide +kernel) ?_
            refine Rg.opp rfl rfl rfl rfl rfl ?_
            refine Rg.opp rfl rfl rfl rfl rfl ?_
            refine Rg.opp rfl rfl rfl rfl rfl ?_
            refine Rg.opp rfl rfl rfl (ev_slice rfl hs1) rfl ?_
            refine Rg.opp rfl rfl rfl (ev_append rfl rfl happ1) (by simp only [Bool.true_and]; exact acc_inPlace (Acc.nil H3 0 1 0) rfl rfl) ?_
            refine Rg.opp rfl rfl rfl rfl rfl ?_
            refine Rg.opp rfl rfl rfl rfl rfl ?_
            refine Rg.opp rfl rfl rfl (ev_append rfl rfl happ2) (by simp only [Bool.true_and]; exact acc_inPlace haccA rfl rfl) ?_
            refine Rg.opp rfl rfl rfl rfl rfl ?_
            refine Rg.opp rfl rfl rfl rfl rfl ?_
            refine Rg.opp rfl rfl rfl (ev_slice rfl hs3) rfl ?_
            refine Rg.opp rfl rfl rfl (ev_append rfl rfl happ3) (by simp only [Bool.true_and]; exact acc_inPlace haccB rfl rfl) ?_
            refine Rg.opp rfl rfl rfl rfl rfl ?_
            refine Rg.nil ?_
            refine ⟨vC, pC, hgr3.ext H rfl (hgr2.ext H rfl ((hgr1.ext H rfl he2).row _ _)), ?_, by omega, ?_, Is.of ⟨rfl, rfl, rfl, rfl, rfl, rfl, rfl, rfl, rfl, rfl, rfl, rfl, trivial⟩⟩
            · rw [hins]
              have e : ∀ p q : List Nm, strs (p ++ q) = strs p ++ strs q := by intro p q; simp [strs]
              rw [e, e]; exact haccC
            · exact row_apart hgr3 (keep2 _ _ hrow2) (by omega)
      · rintro s H3 ⟨w3, p3, he3, hacc3, hp3, hrow3, hs⟩
        obtain ⟨a3, rfl⟩ := hs.mk1
        refine Runs.region ?_
        refine Rg.opp rfl rfl rfl (ev_addn (b := 1) rfl rfl (by omega)) rfl ?_
        refine Rg.opp rfl rfl rfl rfl rfl ?_
        refine Rg.nil ?_
        exact ⟨2 - (j + 1), by omega, j + 1, w3, p3, hj2, rfl, he3, by rw [hstep]; exact hacc3, hp3, hrow3, Is.of ⟨rfl, rfl, rfl, rfl, rfl, rfl, rfl, rfl, rfl, rfl, rfl, rfl, trivial⟩⟩
    · have hj2 : j = 2 := by omega
      subst hj2
      refine Runs.seq (Runs.region ?_)
      refine Rg.opp rfl rfl rfl (ev_lt false rfl rfl (by decide)) rfl ?_
      refine Rg.nil ?_
      refine Runs.seq (Runs.cond false rfl (fun h => by cases h) (fun _ => ?_))
      refine Runs.exit ?_
      refine Runs.region ?_
      refine Rg.opp rfl rfl rfl rfl rfl ?_
      refine Rg.opp rfl rfl rfl (ev_addn (b := 1) rfl rfl (by omega)) rfl ?_
      refine Rg.opp rfl rfl rfl rfl rfl ?_
      refine Rg.nil ?_
      refine ⟨l.length - (k + 1), by omega, k + 1, w2, p2, hlt, rfl, he2, ?_, Is.of ⟨rfl, rfl, rfl, rfl, rfl, rfl, trivial⟩⟩
      rw [hall]; exact hacc2
  · have hkl : k = l.length := by omega
    refine Runs.seq (Runs.seq (Runs.region ?_))
    refine Rg.opp rfl rfl rfl rfl rfl ?_
    refine Rg.opp rfl rfl rfl rfl rfl ?_
    refine Rg.opp rfl rfl rfl rfl rfl ?_
    refine Rg.opp rfl rfl rfl (ev_lt false rfl rfl (by simp; omega)) rfl ?_
    refine Rg.nil ?_
    refine Runs.cond false rfl (fun h => by cases h) (fun _ => ?_)
    refine Runs.exit ?_
    rw [hkl, List.take_of_length_le (Nat.le_refl _)] at hacc
    refine Runs.seq (Runs.region ?_)
    repeat refine Rg.opp rfl rfl rfl rfl rfl ?_
    refine Rg.nil ?_
    exact Runs.ret ⟨w, rfl, he, p, hacc⟩

end Go.Proofs.Ytdhbclplondmjaa.C

/- The program's Keeps. -/
set_option linter.unusedVariables false
set_option maxRecDepth 100000
namespace Go.Proofs.Ytdhbclplondmjaa.C
open Go.RowKit Go.Sort

/-- The map from names to their places. -/
def mapE : Nat → List Nm → List (Value × Value)
  | _, [] => []
  | i, x :: xs => (str x, nat i) :: mapE (i + 1) xs

theorem mapE_snoc : ∀ (i : Nat) (xs : List Nm) (x : Nm), mapE i (xs ++ [x]) = mapE i xs ++ [(str x, nat (i + xs.length))]
  | i, [], x => rfl
  | i, y :: xs, x => by
    simp only [List.cons_append, mapE, mapE_snoc (i + 1) xs x, List.length_cons]
    rw [show i + 1 + xs.length = i + (xs.length + 1) by omega]

theorem nm_eq {x y : Nm} : ((ByteArray.mk x.toArray) == (ByteArray.mk y.toArray)) = decide (x = y) := by
  show ((ByteArray.mk x.toArray).data == (ByteArray.mk y.toArray).data) = decide (x = y)
  by_cases h : x = y
  · subst h; simp
  · simp [h]

theorem lookE_mapE : ∀ (xs : List Nm) (i : Nat) (a : Nm), lookE (mapE i xs) ⟨a.toArray⟩ = some ((xs.idxOf? a).map fun k => nat (i + k))
  | [], i, a => rfl
  | x :: xs, i, a => by
    unfold mapE lookE
    rw [nm_eq, List.idxOf?_cons]
    by_cases h : a = x
    · subst h; simp
    · have h' : ¬ (x = a) := fun q => h q.symm
      rw [lookE_mapE xs (i + 1) a]
      simp only [h, decide_false, Bool.false_eq_true, if_false, beq_iff_eq, h']
      cases xs.idxOf? a with
      | none => rfl
      | some k =>
        simp only [Option.map_some]
        rw [show i + 1 + k = i + (k + 1) by omega]

theorem setE_mapE : ∀ (xs : List Nm) (i : Nat) (a : Nm) (v : Value), a ∉ xs → setE (mapE i xs) ⟨a.toArray⟩ v = some (mapE i xs ++ [(str a, v)])
  | [], i, a, v, _ => rfl
  | x :: xs, i, a, v, h => by
    unfold mapE setE
    rw [nm_eq]
    have h1 : ¬ (a = x) := fun q => h (by simp [q])
    rw [setE_mapE xs (i + 1) a v (fun q => h (by simp [q]))]
    simp [h1]

theorem look_is {H : Heap} {M : Nat} {xs : List Nm} {a : Nm} (h : H[M]? = some (.map (mapE 0 xs))) (ok : Bool) :
    vLookup tab H 74 (.map (some M)) (str a) ok = some (if ok then .tuple #[((xs.idxOf? a).map fun k => nat k).getD (nat 0), .bool (xs.idxOf? a).isSome] else ((xs.idxOf? a).map fun k => nat k).getD (nat 0)) := by
  have h1 : tab.d 74 = some (.map 9 3) := rfl
  have h2 : tab.d 9 = some .string := rfl
  have h3 : ∃ ei, tab.T 3 = some ei ∧ ei.zero = nat 0 := ⟨_, rfl, rfl⟩
  obtain ⟨ei, h3, h4⟩ := h3
  simp only [vLookup, h1, h2, h3, entriesOf, h, Option.bind_some, lookE_mapE, Nat.zero_add, Option.map_some, h4]
  congr 1
  cases ok <;> simp

section
variable {s : List Value} {H : Heap}
theorem ev_look {x k : Operand} {M : Nat} {xs : List Nm} {a : Nm} (ok : Bool) (hx : ev s x = .map (some M)) (hk : ev s k = str a) (h : H[M]? = some (.map (mapE 0 xs))) :
    opEval tab s H (.lookup 74 x k ok) = some (if ok then .tuple #[((xs.idxOf? a).map fun k => nat k).getD (nat 0), .bool (xs.idxOf? a).isSome] else ((xs.idxOf? a).map fun k => nat k).getD (nat 0), H) := by
  simp only [opEval, hx, hk, look_is h, Option.map_some]
theorem ev_mapset {m k v : Operand} {M i : Nat} {xs : List Nm} {a : Nm} (hm : ev s m = .map (some M)) (hk : ev s k = str a) (hv : ev s v = nat i) (h : H[M]? = some (.map (mapE 0 xs))) (hn : a ∉ xs) (hi : i = xs.length) :
    opEval tab s H (.mapUpdate 74 m k v) = some (undef, H.set M (.map (mapE 0 (xs ++ [a])))) := by
  have h1 : tab.d 74 = some (.map 9 3) := rfl
  have h2 : tab.d 9 = some .string := rfl
  subst hi
  simp only [opEval, hm, hk, hv, vMapUpdate, h1, h2, h, setE_mapE _ _ _ _ hn, mapE_snoc, Nat.zero_add, Option.map_some]
theorem ev_leq {T : Tab} {t t2 : TypeId} {x y : Operand} {k : IntKind} {a b : Int} (p : Bool) (hx : ev s x = .int k a) (hy : ev s y = .int k b) (h : decide (a ≤ b) = p) : opEval T s H (.binOp .leq t x y t2) = some (.bool p, H) :=
  ev_bin hx hy (by decide) (by subst h; rfl)
end

def idx (xs : List Nm) (x : Nm) : Nat := (xs.idxOf? x).getD 0
theorem idx_val (xs : List Nm) (x : Nm) : ((xs.idxOf? x).map fun k => nat k).getD (nat 0) = nat (idx xs x) := by
  unfold idx
  cases xs.idxOf? x <;> rfl
theorem idx_some {xs : List Nm} {x : Nm} : (xs.idxOf? x).isSome = decide (x ∈ xs) := by
  by_cases h : x ∈ xs
  · have : xs.idxOf? x ≠ none := by rw [ne_eq, List.idxOf?_eq_none_iff]; simpa using h
    rw [Option.isSome_iff_ne_none.2 this]; simp [h]
  · rw [List.idxOf?_eq_none_iff.2 h]; simp [h]

def badRel (order : List Nm) (r : Rel) : Bool := decide (r.kind ≠ 4) && decide (idx order r.up ≤ idx order r.lo)

def keepsP (l : List Rel) (order : List Nm) : Nat × Bool × Nat :=
  if ¬ order.Nodup then (0, false, 9)
  else if ¬ (∀ u ∈ unitsP l, u ∈ order) then (0, false, 10)
  else match l.findIdx? (badRel order) with
    | some i => (i, false, 0)
    | none => (0, true, 0)

end Go.Proofs.Ytdhbclplondmjaa.C

/- The program's Keeps, run. -/
set_option linter.unusedVariables false
set_option maxRecDepth 100000
namespace Go.Proofs.Ytdhbclplondmjaa.C
open Go.RowKit Go.Sort

def triple (x : Nat × Bool × Nat) : Value := .tuple #[nat x.1, .bool x.2.1, nat x.2.2]

theorem sees_map {H : Heap} {M : Nat} {es es2 : List (Value × Value)} (h : H[M]? = some (.map es)) : Sees H (H.set M (.map es2)) := by
  intro b sz cs own e
  by_cases q : M = b
  · subst q; rw [h] at e; simp at e
  · exact ⟨own, by rw [List.getElem?_set_ne q]; exact e⟩

theorem keepsP_runs {H : Heap} {v w : Value} {l : List Rel} {order : List Nm} (h : Sl H 3 v (rels l)) (ho : Sl H 1 w (strs order)) (hl : l.length ≤ 200) (hol : order.length < 2 ^ 40) (hg : ∀ r ∈ l, Good r) (hu : (unitsP l).length ≤ 60) :
    ∃ r H1, big tab 26 [v, w] H = some (r, H1) ∧ r = triple (keepsP l order) ∧ Ext H H1 := by
  obtain ⟨rc, Hc, hck, rfl, hec⟩ := checkP_runs h hl hg hu
  have hslu := h
  obtain ⟨a, c, rfl, hc, hcs⟩ := h
  obtain ⟨oa, oc, rfl, hoc, hocs⟩ := ho
  rw [rels_len] at *
  simp only [strs_len] at *
  refine big_of_runs rfl rfl rfl ?_
  obtain ⟨z, hz⟩ := startC_mkS Try.f26 [.slice a l.length c, .slice oa order.length oc]
  rw [show startC (26, Try.f26).snd [Value.slice a l.length c, .slice oa order.length oc] = _ from hz]
  clear hz
  refine Runs.seq (Runs.region ?_)
  repeat refine Rg.opp rfl rfl rfl rfl rfl ?_
  refine Rg.nil ?_
  refine Runs.seq (Runs.seq (Runs.region ?_))
  refine Rg.opp rfl rfl rfl rfl rfl ?_
  refine Rg.calls rfl rfl rfl rfl rfl rfl hck ?_
  refine Rg.opp rfl rfl rfl rfl rfl ?_
  refine Rg.nil ?_
  refine Runs.seq (Runs.region ?_)
  refine Rg.opp rfl rfl rfl rfl rfl ?_
  refine Rg.opp rfl rfl rfl (ev_ne false rfl rfl (by decide)) rfl ?_
  refine Rg.nil ?_
  refine Runs.cond false rfl (fun h => by cases h) (fun _ => ?_)
  refine Runs.skip ?_
  refine Runs.seq (Runs.region ?_)
  refine Rg.opp rfl rfl rfl rfl rfl ?_
  refine Rg.opp rfl rfl rfl rfl rfl ?_
  refine Rg.nil ?_
  have heM : Ext H (Hc ++ [Blk.map []]) := hec.snoc rfl
  have hM0 : (Hc ++ [Blk.map []])[Hc.length]? = some (Blk.map (mapE 0 [])) := List.getElem?_concat_length
  have hMlo : H.length ≤ Hc.length := hec.len
  refine Runs.cut (n := 82) (l := [(0, .slice a l.length c), (1, .slice oa order.length oc), (8, .map (some Hc.length))]) (Is.of ⟨rfl, rfl, rfl, rfl, rfl, rfl, trivial⟩) (fun a0 => ?_)
  generalize Hc.length = M at hM0 hMlo
  generalize Hc ++ [Blk.map []] = H1 at heM hM0
  clear hck hec
  -- the names' places
  refine Runs.seq (Runs.seq (Runs.region ?_))
  repeat refine Rg.opp rfl rfl rfl rfl rfl ?_
  refine Rg.nil ?_
  refine Runs.block ?_
  refine Runs.loop (fun m s H2 => ∃ k, k ≤ order.length ∧ m = order.length - k ∧ Ext H H2 ∧ H2[M]? = some (Blk.map (mapE 0 (order.take k))) ∧ (order.take k).Nodup ∧
      Is s 82 [(0, .slice a l.length c), (1, .slice oa order.length oc), (8, .map (some M)), (25, .slice oa order.length oc), (26, nat order.length), (27, nat k)]) _
    ⟨0, Nat.zero_le _, rfl, heM, hM0, by simp, Is.of ⟨rfl, rfl, rfl, rfl, rfl, rfl, rfl, rfl, rfl, rfl, rfl, rfl, trivial⟩⟩ ?_
  rintro m s H2 ⟨k, hk, rfl, he, hM, hnd, hs⟩
  obtain ⟨a1, rfl⟩ := hs.mk1
  clear hs
  by_cases hlt : k < order.length
  · refine Runs.seq (Runs.region ?_)
    refine Rg.opp rfl rfl rfl (ev_lt true rfl rfl (by simp; omega)) rfl ?_
    refine Rg.nil ?_
    refine Runs.seq (Runs.cond true rfl (fun _ => ?_) (fun h => by cases h))
    refine Runs.skip ?_
    have hcs1 := hocs.sees he.sees
    obtain ⟨b, o, rfl, hsz, hr⟩ := hcs1.lt (i := k) (by rw [strs_len]; exact hlt)
    have hrk := hr k _ (strs_get hlt)
    refine Runs.seq (Runs.block ?_)
    refine Runs.seq (Runs.region ?_)
    refine Rg.opp rfl rfl rfl rfl rfl ?_
    refine Rg.opp rfl rfl rfl (ev_at rfl rfl rfl rfl (by decide) hlt) rfl ?_
    refine Rg.opp rfl rfl rfl (ev_load1 rfl rfl hrk rfl) rfl ?_
    refine Rg.opp rfl rfl rfl rfl rfl ?_
    refine Rg.opp rfl rfl rfl rfl rfl ?_
    refine Rg.nil ?_
    refine Runs.seq (Runs.seq (Runs.region ?_))
    refine Rg.opp rfl rfl rfl rfl rfl ?_
    refine Rg.opp rfl rfl rfl rfl rfl ?_
    refine Rg.opp rfl rfl rfl (ev_look true rfl rfl hM) rfl ?_
    rw [if_pos rfl, idx_some]
    refine Rg.opp rfl rfl rfl rfl rfl ?_
    refine Rg.opp rfl rfl rfl rfl rfl ?_
    refine Rg.opp rfl rfl rfl rfl rfl ?_
    refine Rg.opp rfl rfl rfl rfl rfl ?_
    refine Rg.opp rfl rfl rfl rfl rfl ?_
    refine Rg.nil ?_
    refine Runs.seq (Runs.region ?_)
    refine Rg.opp rfl rfl rfl rfl rfl ?_
    refine Rg.nil ?_
    refine Runs.cond (decide (order[k] ∈ order.take k)) rfl (fun hin => ?_) (fun hin => ?_)
    · refine Runs.seq (Runs.region ?_)
      repeat refine Rg.opp rfl rfl rfl rfl rfl ?_
      refine Rg.nil ?_
      refine Runs.ret ⟨_, rfl, ?_, he⟩
      have hnn : ¬ order.Nodup := by
        intro q
        have h1 : (order.take k ++ order.drop k).Nodup := by rw [List.take_append_drop]; exact q
        have h2 := (List.nodup_append.1 h1).2.2 order[k] (of_decide_eq_true hin) order[k] (List.mem_of_getElem? (i := 0) (by simp [hlt]))
        exact h2 rfl
      rw [keepsP, if_pos hnn]
      rfl
    · refine Runs.skip ?_
      have hin : order[k] ∉ order.take k := of_decide_eq_false hin
      refine Runs.region ?_
      refine Rg.opp rfl rfl rfl rfl rfl ?_
      refine Rg.opp rfl rfl rfl rfl rfl ?_
      refine Rg.opp rfl rfl rfl rfl rfl ?_
      refine Rg.opn rfl rfl rfl (ev_mapset rfl rfl rfl hM hin (by rw [List.length_take]; omega)) rfl ?_
      refine Rg.nil ?_
      refine Runs.region ?_
      refine Rg.opp rfl rfl rfl (ev_addn (b := 1) rfl rfl (by omega)) rfl ?_
      refine Rg.opp rfl rfl rfl rfl rfl ?_
      refine Rg.nil ?_
      have hMlt := (List.getElem?_eq_some_iff.1 hM).1
      refine ⟨order.length - (k + 1), by omega, k + 1, hlt, rfl, he.set rfl hMlo, ?_, ?_, Is.of ⟨rfl, rfl, rfl, rfl, rfl, rfl, rfl, rfl, rfl, rfl, rfl, rfl, trivial⟩⟩
      · rw [List.getElem?_set_self hMlt, List.take_append_getElem hlt]
      · rw [← List.take_append_getElem hlt, List.nodup_append]
        refine ⟨hnd, by simp, fun x hx y hy => ?_⟩
        simp only [List.mem_singleton] at hy
        subst hy
        rintro rfl
        exact hin hx
  · have hko : k = order.length := by omega
    subst hko
    rw [List.take_of_length_le (Nat.le_refl _)] at hM hnd
    refine Runs.seq (Runs.region ?_)
    refine Rg.opp rfl rfl rfl (ev_lt false rfl rfl (by simp)) rfl ?_
    refine Rg.nil ?_
    refine Runs.seq (Runs.cond false rfl (fun h => by cases h) (fun _ => ?_))
    refine Runs.exit ?_
    -- the units are known
    obtain ⟨ur, H3, hur, he3, hus⟩ := unitsP_runs (hslu.sees he.sees) (by omega)
    have heu := he.trans he3
    have hM3 : H3[M]? = some (Blk.map (mapE 0 order)) := by rw [he3.old M (List.getElem?_eq_some_iff.1 hM).1]; exact hM
    obtain ⟨ua, uc, rfl, huc, hucs⟩ := hus
    rw [strs_len] at *
    refine Runs.seq (Runs.seq (Runs.region ?_))
    refine Rg.opp rfl rfl rfl rfl rfl ?_
    refine Rg.calls rfl rfl rfl rfl rfl rfl hur ?_
    refine Rg.opp rfl rfl rfl rfl rfl ?_
    refine Rg.opp rfl rfl rfl rfl rfl ?_
    refine Rg.nil ?_
    refine Runs.block ?_
    refine Runs.loop (fun m s H4 => H3 = H4 ∧ ∃ k, k ≤ (unitsP l).length ∧ m = (unitsP l).length - k ∧ (∀ i (hi : i < (unitsP l).length), i < k → (unitsP l)[i] ∈ order) ∧
        Is s 82 [(0, .slice a l.length c), (1, .slice oa order.length oc), (8, .map (some M)), (44, .slice ua (unitsP l).length uc), (45, nat (unitsP l).length), (46, nat k)]) _
      ⟨rfl, 0, Nat.zero_le _, rfl, fun i _ h => by omega, Is.of ⟨rfl, rfl, rfl, rfl, rfl, rfl, rfl, rfl, rfl, rfl, rfl, rfl, trivial⟩⟩ ?_
    rintro m s H4 ⟨hH4, k, hk, rfl, hkn, hs⟩
    subst hH4
    obtain ⟨a2, rfl⟩ := hs.mk1
    clear hs
    by_cases hlt : k < (unitsP l).length
    · refine Runs.seq (Runs.region ?_)
      refine Rg.opp rfl rfl rfl (ev_lt true rfl rfl (by simp; omega)) rfl ?_
      refine Rg.nil ?_
      refine Runs.seq (Runs.cond true rfl (fun _ => ?_) (fun h => by cases h))
      refine Runs.skip ?_
      obtain ⟨b, o, rfl, hsz, hr⟩ := hucs.lt (i := k) (by rw [strs_len]; exact hlt)
      have hrk := hr k _ (strs_get hlt)
      refine Runs.seq (Runs.block ?_)
      refine Runs.seq (Runs.region ?_)
      refine Rg.opp rfl rfl rfl (ev_at rfl rfl rfl rfl (by decide) hlt) rfl ?_
      refine Rg.opp rfl rfl rfl (ev_load1 rfl rfl hrk rfl) rfl ?_
      refine Rg.opp rfl rfl rfl rfl rfl ?_
      refine Rg.nil ?_
      refine Runs.seq (Runs.region ?_)
      refine Rg.opp rfl rfl rfl rfl rfl ?_
      refine Rg.opp rfl rfl rfl rfl rfl ?_
      refine Rg.opp rfl rfl rfl (ev_look true rfl rfl hM3) rfl ?_
      rw [if_pos rfl, idx_some]
      refine Rg.opp rfl rfl rfl rfl rfl ?_
      refine Rg.opp rfl rfl rfl rfl rfl ?_
      refine Rg.opp rfl rfl rfl rfl rfl ?_
      refine Rg.opp rfl rfl rfl rfl rfl ?_
      refine Rg.opp rfl rfl rfl rfl rfl ?_
      refine Rg.nil ?_
      refine Runs.seq (Runs.region ?_)
      refine Rg.opp rfl rfl rfl rfl rfl ?_
      refine Rg.opp rfl rfl rfl rfl rfl ?_
      refine Rg.nil ?_
      refine Runs.cond (!decide ((unitsP l)[k] ∈ order)) rfl (fun hin => ?_) (fun hin => ?_)
      · refine Runs.seq (Runs.region ?_)
        repeat refine Rg.opp rfl rfl rfl rfl rfl ?_
        refine Rg.nil ?_
        refine Runs.ret ⟨_, rfl, ?_, heu⟩
        have hq : ¬ ∀ u ∈ unitsP l, u ∈ order := fun q => by
          have := q _ (List.getElem_mem hlt)
          simp [this] at hin
        rw [keepsP, if_neg (by simpa using hnd), if_pos hq]
        rfl
      · refine Runs.skip ?_
        refine Runs.region ?_
        refine Rg.opp rfl rfl rfl (ev_addn (b := 1) rfl rfl (by omega)) rfl ?_
        refine Rg.opp rfl rfl rfl rfl rfl ?_
        refine Rg.nil ?_
        refine ⟨(unitsP l).length - (k + 1), by omega, rfl, k + 1, hlt, rfl, fun i hi h => ?_, Is.of ⟨rfl, rfl, rfl, rfl, rfl, rfl, rfl, rfl, rfl, rfl, rfl, rfl, trivial⟩⟩
        rcases Nat.lt_or_ge i k with q | q
        · exact hkn i hi q
        · have : i = k := by omega
          subst this
          simpa using hin
    · refine Runs.seq (Runs.region ?_)
      refine Rg.opp rfl rfl rfl (ev_lt false rfl rfl (by simp; omega)) rfl ?_
      refine Rg.nil ?_
      refine Runs.seq (Runs.cond false rfl (fun h => by cases h) (fun _ => ?_))
      refine Runs.exit ?_
      have hknown : ∀ u ∈ unitsP l, u ∈ order := by
        intro u hu
        obtain ⟨i, hi, rfl⟩ := List.mem_iff_getElem.1 hu
        exact hkn i hi (by omega)
      have hkp : keepsP l order = match l.findIdx? (badRel order) with | some i => (i, false, 0) | none => (0, true, 0) := by
        rw [keepsP, if_neg (by simpa using hnd), if_neg (by simpa using hknown)]
        rfl
      refine Runs.cut (n := 82) (l := [(0, .slice a l.length c), (8, .map (some M))]) (Is.of ⟨rfl, rfl, rfl, rfl, trivial⟩) (fun a3 => ?_)
      refine Runs.seq (Runs.seq (Runs.region ?_))
      repeat refine Rg.opp rfl rfl rfl rfl rfl ?_
      refine Rg.nil ?_
      refine Runs.block ?_
      refine Runs.loop (fun m s H4 => ∃ k, k ≤ l.length ∧ m = l.length - k ∧ Ext H H4 ∧ H4[M]? = some (Blk.map (mapE 0 order)) ∧ (∀ i (hi : i < l.length), i < k → badRel order l[i] = false) ∧
          Is s 82 [(8, .map (some M)), (59, .slice a l.length c), (60, nat l.length), (61, nat k)]) _
        ⟨0, Nat.zero_le _, rfl, heu, hM3, fun i _ h => by omega, Is.of ⟨rfl, rfl, rfl, rfl, rfl, rfl, rfl, rfl, trivial⟩⟩ ?_
      clear hk hkn hlt hur hucs hM3 heu he3 huc
      rintro m s H4 ⟨k, hk, rfl, he4, hM4, hgood, hs⟩
      obtain ⟨a4, rfl⟩ := hs.mk1
      clear hs
      by_cases hlt : k < l.length
      · refine Runs.seq (Runs.region ?_)
        refine Rg.opp rfl rfl rfl (ev_lt true rfl rfl (by simp; omega)) rfl ?_
        refine Rg.nil ?_
        refine Runs.seq (Runs.cond true rfl (fun _ => ?_) (fun h => by cases h))
        refine Runs.skip ?_
        have hcs1 := hcs.sees he4.sees
        obtain ⟨b, o, rfl, hsz, hr⟩ := hcs1.lt (i := k) (by rw [rels_len]; exact hlt)
        have hrk := hr k _ (rels_get hlt)
        refine Runs.seq (Runs.block ?_)
        refine Runs.seq (Runs.region ?_)
        refine Rg.opp rfl rfl rfl rfl rfl ?_
        refine Rg.opp rfl rfl rfl (ev_at rfl rfl rfl rfl (by decide) hlt) rfl ?_
        refine Rg.opp rfl rfl rfl (ev_loadA rfl rfl hrk rfl) rfl ?_
        refine Rg.opp rfl rfl rfl rfl rfl ?_
        refine Rg.opp rfl rfl rfl rfl rfl ?_
        refine Rg.opn rfl rfl rfl (ev_set (cs := relC l[k]) rfl rfl rfl rfl rfl rfl) rfl ?_
        refine Rg.nil ?_
        have hM5 : (H4 ++ [Blk.row 3 (relC l[k]) true true])[M]? = some (Blk.map (mapE 0 order)) := by rw [List.getElem?_append_left (List.getElem?_eq_some_iff.1 hM4).1]; exact hM4
        have he5 : Ext H (H4 ++ [Blk.row 3 (relC l[k]) true true]) := he4.row _ _
        have next : ∀ a5 : Nat → Value, badRel order l[k] = false → ∃ m1, m1 < l.length - k ∧ ∃ k1, k1 ≤ l.length ∧ m1 = l.length - k1 ∧ Ext H (H4 ++ [Blk.row 3 (relC l[k]) true true]) ∧ (H4 ++ [Blk.row 3 (relC l[k]) true true])[M]? = some (Blk.map (mapE 0 order)) ∧ (∀ i (hi : i < l.length), i < k1 → badRel order l[i] = false) ∧
            Is (mkS 82 a5 [(61, nat (k + 1)), (8, .map (some M)), (59, .slice (some ⟨b, o, none⟩) l.length c), (60, nat l.length)]) 82 [(8, .map (some M)), (59, .slice (some ⟨b, o, none⟩) l.length c), (60, nat l.length), (61, nat k1)] := by
          intro a5 hbad
          refine ⟨l.length - (k + 1), by omega, k + 1, hlt, rfl, he5, hM5, fun i hi h => ?_, Is.of ⟨rfl, rfl, rfl, rfl, rfl, rfl, rfl, rfl, trivial⟩⟩
          rcases Nat.lt_or_ge i k with q | q
          · exact hgood i hi q
          · have : i = k := by omega
            subst this; exact hbad
        refine Runs.seq (Runs.region ?_)
        refine Rg.opp rfl rfl rfl (ev_fld rfl rfl rfl rfl rfl (by decide)) rfl ?_
        refine Rg.opp rfl rfl rfl (ev_load1 rfl rfl (read_last (j := 0) rfl) rfl) rfl ?_
        by_cases h4 : l[k].kind = 4
        · refine Rg.opp rfl rfl rfl (ev_ne false rfl rfl (decide_eq_false (by omega))) rfl ?_
          refine Rg.opp rfl rfl rfl rfl rfl ?_
          refine Rg.guards false rfl rfl rfl (fun h => by cases h) (fun _ => ?_)
          refine Rg.guards false rfl rfl rfl (fun h => by cases h) (fun _ => ?_)
          refine Rg.guards false rfl rfl rfl (fun h => by cases h) (fun _ => ?_)
          refine Rg.guards false rfl rfl rfl (fun h => by cases h) (fun _ => ?_)
          refine Rg.guards false rfl rfl rfl (fun h => by cases h) (fun _ => ?_)
          refine Rg.guards false rfl rfl rfl (fun h => by cases h) (fun _ => ?_)
          refine Rg.guards false rfl rfl rfl (fun h => by cases h) (fun _ => ?_)
          refine Rg.guards false rfl rfl rfl (fun h => by cases h) (fun _ => ?_)
          refine Rg.guards false rfl rfl rfl (fun h => by cases h) (fun _ => ?_)
          refine Rg.opp rfl rfl rfl rfl rfl ?_
          refine Rg.nil ?_
          refine Runs.cond false rfl (fun h => by cases h) (fun _ => ?_)
          refine Runs.skip ?_
          refine Runs.region ?_
          refine Rg.opp rfl rfl rfl (ev_addn (b := 1) rfl rfl (by omega)) rfl ?_
          refine Rg.opp rfl rfl rfl rfl rfl ?_
          refine Rg.cut (n := 82) (l := [(61, nat (k + 1)), (8, .map (some M)), (59, .slice (some ⟨b, o, none⟩) l.length c), (60, nat l.length)]) (Is.of ⟨rfl, rfl, rfl, rfl, rfl, rfl, rfl, rfl, trivial⟩) (fun a5 => ?_)
          exact Rg.nil (next a5 (by simp [badRel, h4]))
        · refine Rg.opp rfl rfl rfl (ev_ne true rfl rfl (decide_eq_true (by omega))) rfl ?_
          refine Rg.opp rfl rfl rfl rfl rfl ?_
          refine Rg.guards true rfl rfl rfl (fun _ => ⟨_, _, evW_op rfl, rfl, ?_⟩) (fun h => by cases h)
          refine Rg.guards true rfl rfl rfl (fun _ => ⟨_, _, evW_op (ev_fld rfl rfl rfl rfl rfl (by decide)), rfl, ?_⟩) (fun h => by cases h)
          refine Rg.guards true rfl rfl rfl (fun _ => ⟨_, _, evW_op (ev_load1 rfl rfl (read_last (j := 1) rfl) rfl), rfl, ?_⟩) (fun h => by cases h)
          refine Rg.guards true rfl rfl rfl (fun _ => ⟨_, _, evW_op (ev_look false rfl rfl hM5), rfl, ?_⟩) (fun h => by cases h)
          refine Rg.guards true rfl rfl rfl (fun _ => ⟨_, _, evW_op rfl, rfl, ?_⟩) (fun h => by cases h)
          refine Rg.guards true rfl rfl rfl (fun _ => ⟨_, _, evW_op (ev_fld rfl rfl rfl rfl rfl (by decide)), rfl, ?_⟩) (fun h => by cases h)
          refine Rg.guards true rfl rfl rfl (fun _ => ⟨_, _, evW_op (ev_load1 rfl rfl (read_last (j := 2) rfl) rfl), rfl, ?_⟩) (fun h => by cases h)
          refine Rg.guards true rfl rfl rfl (fun _ => ⟨_, _, evW_op (ev_look false rfl rfl hM5), rfl, ?_⟩) (fun h => by cases h)
          simp only [Bool.false_eq_true, if_false, idx_val]
          refine Rg.guards true rfl rfl rfl (fun _ => ⟨_, _, evW_op (ev_leq (decide (idx order l[k].up ≤ idx order l[k].lo)) rfl rfl (by simp)), rfl, ?_⟩) (fun h => by cases h)
          refine Rg.opp rfl rfl rfl rfl rfl ?_
          refine Rg.nil ?_
          refine Runs.cond (decide (idx order l[k].up ≤ idx order l[k].lo)) rfl (fun hle => ?_) (fun hle => ?_)
          · refine Runs.seq (Runs.region ?_)
            repeat refine Rg.opp rfl rfl rfl rfl rfl ?_
            refine Rg.nil ?_
            refine Runs.ret ⟨_, rfl, ?_, he5⟩
            have hf : l.findIdx? (badRel order) = some k := by
              rw [List.findIdx?_eq_some_iff_getElem]
              exact ⟨hlt, by simp [badRel, h4]; exact of_decide_eq_true hle, fun i hi => by simpa using hgood i (by omega) hi⟩
            rw [hkp, hf]
            rfl
          · refine Runs.skip ?_
            refine Runs.region ?_
            refine Rg.opp rfl rfl rfl (ev_addn (b := 1) rfl rfl (by omega)) rfl ?_
            refine Rg.opp rfl rfl rfl rfl rfl ?_
            refine Rg.cut (n := 82) (l := [(61, nat (k + 1)), (8, .map (some M)), (59, .slice (some ⟨b, o, none⟩) l.length c), (60, nat l.length)]) (Is.of ⟨rfl, rfl, rfl, rfl, rfl, rfl, rfl, rfl, trivial⟩) (fun a5 => ?_)
            exact Rg.nil (next a5 (by simp [badRel, of_decide_eq_false hle]))
      · refine Runs.seq (Runs.region ?_)
        refine Rg.opp rfl rfl rfl (ev_lt false rfl rfl (by simp; omega)) rfl ?_
        refine Rg.nil ?_
        refine Runs.seq (Runs.cond false rfl (fun h => by cases h) (fun _ => ?_))
        refine Runs.exit ?_
        refine Runs.seq (Runs.region ?_)
        repeat refine Rg.opp rfl rfl rfl rfl rfl ?_
        refine Rg.nil ?_
        refine Runs.ret ⟨_, rfl, ?_, he4⟩
        have hf : l.findIdx? (badRel order) = none := by
          rw [List.findIdx?_eq_none_iff]
          intro r hr
          obtain ⟨i, hi, rfl⟩ := List.mem_iff_getElem.1 hr
          exact hgood i hi (by omega)
        rw [hkp, hf]
        rfl

end Go.Proofs.Ytdhbclplondmjaa.C

/- The end of the law on Keeps: its last loop. -/
set_option linter.unusedVariables false
set_option maxRecDepth 100000
namespace Go.Proofs.Ytdhbclplondmjaa.C
open Go.RowKit Go.Sort

def restOf : Code → Code
  | .seq _ b => b
  | c => c
def restN : Nat → Code → Code
  | 0, c => c
  | n + 1, c => restOf (restN n c)
def bodyOf (f : Func) : Code := match f.body with | some c => c | none => .skip

theorem evW_call {T : Tab} {call : CallF} {s : List Value} {H : Heap} {o : Op} {f : FuncId} {args : List Value} {r : Value × Heap} (hn : opEval T s H o = none) (hc : calleeOf T s H o = some (f, args)) (h : call f args H = some r) : evalOp T call s H o = some r := by
  unfold evalOp; rw [hn, hc]; exact h

theorem quiet_same {T : Tab} {f : FuncId} {args : List Value} {v : Value} {H : Heap} (h : big T f args (H.map Blk.freeze) = some (v, H.map Blk.freeze)) : quiet (big T) f args H = some (v, H) := by
  unfold quiet
  rw [h]
  simp

def lawArc (order : List Nm) (r : Rel) : Bool := decide (r.kind ≠ 4) && decide (indexOf order r.up < indexOf order r.lo)

set_option maxHeartbeats 4000000 in
theorem law_end {H4 : Heap} {order : List Nm} {L : List Rel} {f e oc lc : Nat} {al ans : Bool} {oa la : Option Addr} (hosl : Sl H4 1 (.slice oa order.length oc) (strs order)) (hol : order.length < 2 ^ 40) (hlcs : Cells H4 3 la (rels L)) (hL8 : L.length ≤ 8)
    (hlaw : (match L.findIdx? (lawArc order) with
      | some i => decide (e = 0) && decide (f = i) && !al
      | none => decide (e = 0) && decide (f = 0) && al) = ans) (a8 : Nat → Value) :
    Runs tab (restN 10 (bodyOf Try.f8)) (mkS 139 a8 [(1, .slice oa order.length oc), (6, .slice la L.length lc), (7, nat f), (8, .bool al), (9, nat e)]) H4 (fun s1 H1 => ∃ v, resultsC tab Try.f8 s1 H1 = some v ∧ v = .bool ans) (fun _ _ _ => False) (fun s1 H1 => ∃ v, resultsC tab Try.f8 s1 H1 = some v ∧ v = .bool ans) := by
  have hfin : ∀ r : Value, r = .bool ans → r = .bool ans := fun _ h => h
  refine Runs.seq (Runs.seq (Runs.region ?_))
  refine Rg.opp rfl rfl rfl rfl rfl ?_
  refine Rg.nil ?_
  refine Runs.block ?_
  refine Runs.loop (fun m s H5 => H4 = H5 ∧ ∃ k, k ≤ L.length ∧ m = L.length - k ∧ (∀ i (hi : i < L.length), i < k → lawArc order L[i] = false) ∧ Is s 139 [(1, .slice oa order.length oc), (6, .slice la L.length lc), (7, nat f), (8, .bool al), (9, nat e), (14, nat k)]) _ ⟨rfl, 0, Nat.zero_le _, rfl, fun i _ h => by omega, Is.of ⟨rfl, rfl, rfl, rfl, rfl, rfl, rfl, rfl, rfl, rfl, rfl, rfl, trivial⟩⟩ ?_
  rintro m s H5 ⟨hH5, k4, hk4, rfl, hgood, hs⟩
  subst hH5
  obtain ⟨a9, rfl⟩ := hs.mk1
  clear hs
  by_cases hlt4 : k4 < L.length
  · refine Runs.seq (Runs.seq (Runs.region ?_))
    refine Rg.opp rfl rfl rfl rfl rfl ?_
    refine Rg.opp rfl rfl rfl rfl rfl ?_
    refine Rg.opp rfl rfl rfl rfl rfl ?_
    refine Rg.opp rfl rfl rfl (ev_lt true rfl rfl (by simp; omega)) rfl ?_
    refine Rg.nil ?_
    refine Runs.cond true rfl (fun _ => ?_) (fun h => by cases h)
    refine Runs.skip ?_
    obtain ⟨b, o, rfl, hsz, hr⟩ := hlcs.lt (i := k4) (by rw [rels_len]; exact hlt4)
    have hrk := hr k4 _ (rels_get hlt4)
    have hix : ∀ x, quiet (big tab) 22 [.slice oa order.length oc, str x] H4 = some (.int .i64 (indexOf order x), H4) := fun x => quiet_same (index_runs x (hosl.sees (Sees.freeze _)) (by omega))
    have next : ∀ a5 : Nat → Value, lawArc order L[k4] = false → ∃ m1, m1 < L.length - k4 ∧ H4 = H4 ∧ ∃ k1, k1 ≤ L.length ∧ m1 = L.length - k1 ∧ (∀ i (hi : i < L.length), i < k1 → lawArc order L[i] = false) ∧ Is (mkS 139 a5 [(1, .slice oa order.length oc), (6, (.slice (some ⟨b, o, none⟩) L.length lc)), (7, nat f), (8, .bool al), (9, nat e), (14, nat (k4 + 1))]) 139 [(1, .slice oa order.length oc), (6, (.slice (some ⟨b, o, none⟩) L.length lc)), (7, nat f), (8, .bool al), (9, nat e), (14, nat k1)] := by
      intro a5 hbad
      refine ⟨L.length - (k4 + 1), by omega, rfl, k4 + 1, hlt4, rfl, fun i hi h => ?_, Is.of ⟨rfl, rfl, rfl, rfl, rfl, rfl, rfl, rfl, rfl, rfl, rfl, rfl, trivial⟩⟩
      rcases Nat.lt_or_ge i k4 with q | q
      · exact hgood i hi q
      · have : i = k4 := by omega
        subst this; exact hbad
    refine Runs.seq (Runs.block ?_)
    refine Runs.seq (Runs.drawn (is := List.range 22) (by decide +kernel) ?_)
    refine Rg.opp rfl rfl rfl rfl rfl ?_
    refine Rg.opp rfl rfl rfl rfl rfl ?_
    refine Rg.opp rfl rfl rfl (ev_at rfl rfl rfl rfl (by decide) hlt4) rfl ?_
    refine Rg.opp rfl rfl rfl (ev_loadA rfl rfl hrk rfl) rfl ?_
    refine Rg.calls rfl rfl rfl rfl rfl rfl (quiet_pure (fun K => arc_runs _ _ _ K) _) ?_
    by_cases hk : L[k4].kind = 4
    · rw [show decide (L[k4].kind ≠ 4) = false from decide_eq_false (by simp [hk])]
      refine Rg.opp rfl rfl rfl rfl rfl ?_
      refine Rg.guards false rfl rfl rfl (fun h => by cases h) (fun _ => ?_)
      refine Rg.guards false rfl rfl rfl (fun h => by cases h) (fun _ => ?_)
      refine Rg.guards false rfl rfl rfl (fun h => by cases h) (fun _ => ?_)
      refine Rg.guards false rfl rfl rfl (fun h => by cases h) (fun _ => ?_)
      refine Rg.guards false rfl rfl rfl (fun h => by cases h) (fun _ => ?_)
      refine Rg.guards false rfl rfl rfl (fun h => by cases h) (fun _ => ?_)
      refine Rg.guards false rfl rfl rfl (fun h => by cases h) (fun _ => ?_)
      refine Rg.guards false rfl rfl rfl (fun h => by cases h) (fun _ => ?_)
      refine Rg.guards false rfl rfl rfl (fun h => by cases h) (fun _ => ?_)
      refine Rg.guards false rfl rfl rfl (fun h => by cases h) (fun _ => ?_)
      refine Rg.guards false rfl rfl rfl (fun h => by cases h) (fun _ => ?_)
      refine Rg.guards false rfl rfl rfl (fun h => by cases h) (fun _ => ?_)
      refine Rg.guards false rfl rfl rfl (fun h => by cases h) (fun _ => ?_)
      refine Rg.guards false rfl rfl rfl (fun h => by cases h) (fun _ => ?_)
      refine Rg.guards false rfl rfl rfl (fun h => by cases h) (fun _ => ?_)
      refine Rg.opp rfl rfl rfl rfl rfl ?_
      refine Rg.nil ?_
      refine Runs.cond false rfl (fun h => by cases h) (fun _ => ?_)
      refine Runs.skip ?_
      refine Runs.region ?_
      refine Rg.opp rfl rfl rfl rfl rfl ?_
      refine Rg.opp rfl rfl rfl (ev_addn (b := 1) rfl rfl (by omega)) rfl ?_
      refine Rg.opp rfl rfl rfl rfl rfl ?_
      refine Rg.cut (n := 139) (l := [(1, .slice oa order.length oc), (6, (.slice (some ⟨b, o, none⟩) L.length lc)), (7, nat f), (8, .bool al), (9, nat e), (14, nat (k4 + 1))]) (Is.of ⟨rfl, rfl, rfl, rfl, rfl, rfl, rfl, rfl, rfl, rfl, rfl, rfl, trivial⟩) (fun a5 => ?_)
      exact Rg.nil (next a5 (by simp [lawArc, hk]))
    · rw [show decide (L[k4].kind ≠ 4) = true from decide_eq_true hk]
      refine Rg.opp rfl rfl rfl rfl rfl ?_
      refine Rg.guards true rfl rfl rfl (fun _ => ⟨_, _, evW_op rfl, rfl, ?_⟩) (fun h => by cases h)
      refine Rg.guards true rfl rfl rfl (fun _ => ⟨_, _, evW_op rfl, rfl, ?_⟩) (fun h => by cases h)
      refine Rg.guards true rfl rfl rfl (fun _ => ⟨_, _, evW_op rfl, rfl, ?_⟩) (fun h => by cases h)
      refine Rg.guards true rfl rfl rfl (fun _ => ⟨_, _, evW_op (ev_at rfl rfl rfl rfl (by decide) hlt4), rfl, ?_⟩) (fun h => by cases h)
      refine Rg.guards true rfl rfl rfl (fun _ => ⟨_, _, evW_op (ev_fld rfl rfl rfl rfl rfl (by decide)), rfl, ?_⟩) (fun h => by cases h)
      refine Rg.guards true rfl rfl rfl (fun _ => ⟨_, _, evW_op (ev_load1 rfl rfl (read_one hrk (j := 1) rfl) rfl), rfl, ?_⟩) (fun h => by cases h)
      refine Rg.guards true rfl rfl rfl (fun _ => ⟨_, _, evW_call rfl rfl (hix _), rfl, ?_⟩) (fun h => by cases h)
      refine Rg.guards true rfl rfl rfl (fun _ => ⟨_, _, evW_op rfl, rfl, ?_⟩) (fun h => by cases h)
      refine Rg.guards true rfl rfl rfl (fun _ => ⟨_, _, evW_op rfl, rfl, ?_⟩) (fun h => by cases h)
      refine Rg.guards true rfl rfl rfl (fun _ => ⟨_, _, evW_op rfl, rfl, ?_⟩) (fun h => by cases h)
      refine Rg.guards true rfl rfl rfl (fun _ => ⟨_, _, evW_op (ev_at rfl rfl rfl rfl (by decide) hlt4), rfl, ?_⟩) (fun h => by cases h)
      refine Rg.guards true rfl rfl rfl (fun _ => ⟨_, _, evW_op (ev_fld rfl rfl rfl rfl rfl (by decide)), rfl, ?_⟩) (fun h => by cases h)
      refine Rg.guards true rfl rfl rfl (fun _ => ⟨_, _, evW_op (ev_load1 rfl rfl (read_one hrk (j := 2) rfl) rfl), rfl, ?_⟩) (fun h => by cases h)
      refine Rg.guards true rfl rfl rfl (fun _ => ⟨_, _, evW_call rfl rfl (hix _), rfl, ?_⟩) (fun h => by cases h)
      refine Rg.guards true rfl rfl rfl (fun _ => ⟨_, _, evW_op (ev_lt (decide (indexOf order L[k4].up < indexOf order L[k4].lo)) rfl rfl rfl), rfl, ?_⟩) (fun h => by cases h)
      refine Rg.opp rfl rfl rfl rfl rfl ?_
      refine Rg.nil ?_
      refine Runs.cond (decide (indexOf order L[k4].up < indexOf order L[k4].lo)) rfl (fun q => ?_) (fun q => ?_)
      · have hfi : L.findIdx? (lawArc order) = some k4 := by
          rw [List.findIdx?_eq_some_iff_getElem]
          exact ⟨hlt4, by simp [lawArc, hk]; exact of_decide_eq_true q, fun i hi => by simpa using hgood i (by omega) hi⟩
        rw [hfi] at hlaw
        simp only at hlaw
        refine Runs.seq (Runs.region ?_)
        refine Rg.opp rfl rfl rfl rfl rfl ?_
        by_cases he0 : e = 0
        · refine Rg.opp rfl rfl rfl (ev_eq true rfl rfl (decide_eq_true (by omega))) rfl ?_
          refine Rg.opp rfl rfl rfl rfl rfl ?_
          refine Rg.guards true rfl rfl rfl (fun _ => ⟨_, _, evW_op rfl, rfl, ?_⟩) (fun h => by cases h)
          refine Rg.guards true rfl rfl rfl (fun _ => ⟨_, _, evW_op rfl, rfl, ?_⟩) (fun h => by cases h)
          by_cases hfk : f = k4
          · refine Rg.guards true rfl rfl rfl (fun _ => ⟨_, _, evW_op (ev_eq true rfl rfl (decide_eq_true (by omega))), rfl, ?_⟩) (fun h => by cases h)
            refine Rg.opp rfl rfl rfl rfl rfl ?_
            refine Rg.opp rfl rfl rfl rfl rfl ?_
            refine Rg.guards true rfl rfl rfl (fun _ => ⟨_, _, evW_op rfl, rfl, ?_⟩) (fun h => by cases h)
            refine Rg.guards true rfl rfl rfl (fun _ => ⟨_, _, evW_op rfl, rfl, ?_⟩) (fun h => by cases h)
            refine Rg.opp rfl rfl rfl rfl rfl ?_
            refine Rg.opp rfl rfl rfl rfl rfl ?_
            refine Rg.nil ?_
            refine Runs.ret ⟨_, rfl, hfin _ ?_⟩
            rw [← hlaw]
            simp [he0, hfk]
            try rfl
          · refine Rg.guards true rfl rfl rfl (fun _ => ⟨_, _, evW_op (ev_eq false rfl rfl (decide_eq_false (by omega))), rfl, ?_⟩) (fun h => by cases h)
            refine Rg.opp rfl rfl rfl rfl rfl ?_
            refine Rg.opp rfl rfl rfl rfl rfl ?_
            refine Rg.guards false rfl rfl rfl (fun h => by cases h) (fun _ => ?_)
            refine Rg.guards false rfl rfl rfl (fun h => by cases h) (fun _ => ?_)
            refine Rg.opp rfl rfl rfl rfl rfl ?_
            refine Rg.opp rfl rfl rfl rfl rfl ?_
            refine Rg.nil ?_
            refine Runs.ret ⟨_, rfl, hfin _ ?_⟩
            rw [← hlaw]
            simp [he0, hfk]
            try rfl
        · refine Rg.opp rfl rfl rfl (ev_eq false rfl rfl (decide_eq_false (by omega))) rfl ?_
          refine Rg.opp rfl rfl rfl rfl rfl ?_
          refine Rg.guards false rfl rfl rfl (fun h => by cases h) (fun _ => ?_)
          refine Rg.guards false rfl rfl rfl (fun h => by cases h) (fun _ => ?_)
          refine Rg.guards false rfl rfl rfl (fun h => by cases h) (fun _ => ?_)
          refine Rg.opp rfl rfl rfl rfl rfl ?_
          refine Rg.opp rfl rfl rfl rfl rfl ?_
          refine Rg.guards false rfl rfl rfl (fun h => by cases h) (fun _ => ?_)
          refine Rg.guards false rfl rfl rfl (fun h => by cases h) (fun _ => ?_)
          refine Rg.opp rfl rfl rfl rfl rfl ?_
          refine Rg.opp rfl rfl rfl rfl rfl ?_
          refine Rg.nil ?_
          refine Runs.ret ⟨_, rfl, hfin _ ?_⟩
          rw [← hlaw]
          simp [he0]
          try rfl
      · refine Runs.skip ?_
        refine Runs.region ?_
        refine Rg.opp rfl rfl rfl rfl rfl ?_
        refine Rg.opp rfl rfl rfl (ev_addn (b := 1) rfl rfl (by omega)) rfl ?_
        refine Rg.opp rfl rfl rfl rfl rfl ?_
        refine Rg.cut (n := 139) (l := [(1, .slice oa order.length oc), (6, (.slice (some ⟨b, o, none⟩) L.length lc)), (7, nat f), (8, .bool al), (9, nat e), (14, nat (k4 + 1))]) (Is.of ⟨rfl, rfl, rfl, rfl, rfl, rfl, rfl, rfl, rfl, rfl, rfl, rfl, trivial⟩) (fun a5 => ?_)
        exact Rg.nil (next a5 (by simp only [lawArc, of_decide_eq_false q, decide_false, Bool.and_false]))
  · refine Runs.seq (Runs.seq (Runs.region ?_))
    refine Rg.opp rfl rfl rfl rfl rfl ?_
    refine Rg.opp rfl rfl rfl rfl rfl ?_
    refine Rg.opp rfl rfl rfl rfl rfl ?_
    refine Rg.opp rfl rfl rfl (ev_lt false rfl rfl (by simp; omega)) rfl ?_
    refine Rg.nil ?_
    refine Runs.cond false rfl (fun h => by cases h) (fun _ => ?_)
    refine Runs.exit ?_
    have hfi : L.findIdx? (lawArc order) = none := by
      rw [List.findIdx?_eq_none_iff]
      intro r hr
      obtain ⟨i, hi, rfl⟩ := List.mem_iff_getElem.1 hr
      exact hgood i hi (by omega)
    rw [hfi] at hlaw
    simp only at hlaw
    refine Runs.seq (Runs.region ?_)
    refine Rg.opp rfl rfl rfl rfl rfl ?_
    by_cases he0 : e = 0
    · refine Rg.opp rfl rfl rfl (ev_eq true rfl rfl (decide_eq_true (by omega))) rfl ?_
      refine Rg.opp rfl rfl rfl rfl rfl ?_
      refine Rg.guards true rfl rfl rfl (fun _ => ⟨_, _, evW_op rfl, rfl, ?_⟩) (fun h => by cases h)
      by_cases hf0 : f = 0
      · refine Rg.guards true rfl rfl rfl (fun _ => ⟨_, _, evW_op (ev_eq true rfl rfl (decide_eq_true (by omega))), rfl, ?_⟩) (fun h => by cases h)
        refine Rg.opp rfl rfl rfl rfl rfl ?_
        refine Rg.opp rfl rfl rfl rfl rfl ?_
        refine Rg.guards true rfl rfl rfl (fun _ => ⟨_, _, evW_op rfl, rfl, ?_⟩) (fun h => by cases h)
        refine Rg.opp rfl rfl rfl rfl rfl ?_
        refine Rg.opp rfl rfl rfl rfl rfl ?_
        refine Rg.nil ?_
        refine Runs.ret ⟨_, rfl, hfin _ ?_⟩
        rw [← hlaw]
        simp [he0, hf0]
        try rfl
      · refine Rg.guards true rfl rfl rfl (fun _ => ⟨_, _, evW_op (ev_eq false rfl rfl (decide_eq_false (by omega))), rfl, ?_⟩) (fun h => by cases h)
        refine Rg.opp rfl rfl rfl rfl rfl ?_
        refine Rg.opp rfl rfl rfl rfl rfl ?_
        refine Rg.guards false rfl rfl rfl (fun h => by cases h) (fun _ => ?_)
        refine Rg.opp rfl rfl rfl rfl rfl ?_
        refine Rg.opp rfl rfl rfl rfl rfl ?_
        refine Rg.nil ?_
        refine Runs.ret ⟨_, rfl, hfin _ ?_⟩
        rw [← hlaw]
        simp [he0, hf0]
        try rfl
    · refine Rg.opp rfl rfl rfl (ev_eq false rfl rfl (decide_eq_false (by omega))) rfl ?_
      refine Rg.opp rfl rfl rfl rfl rfl ?_
      refine Rg.guards false rfl rfl rfl (fun h => by cases h) (fun _ => ?_)
      refine Rg.guards false rfl rfl rfl (fun h => by cases h) (fun _ => ?_)
      refine Rg.opp rfl rfl rfl rfl rfl ?_
      refine Rg.opp rfl rfl rfl rfl rfl ?_
      refine Rg.guards false rfl rfl rfl (fun h => by cases h) (fun _ => ?_)
      refine Rg.opp rfl rfl rfl rfl rfl ?_
      refine Rg.opp rfl rfl rfl rfl rfl ?_
      refine Rg.nil ?_
      refine Runs.ret ⟨_, rfl, hfin _ ?_⟩
      rw [← hlaw]
      simp [he0]
      try rfl

end Go.Proofs.Ytdhbclplondmjaa.C
