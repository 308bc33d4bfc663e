/- Texts of one's own, laid together: Kn6 -/
import Derived.Test.YtdhbclplondmjaaQc24
section
/- known returns true. -/
set_option linter.unusedVariables false
set_option maxRecDepth 100000
namespace Go.Proofs.Ytdhbclplondmjaa.C
open Go.RowKit

theorem evalOp_op {T : Tab} {call : CallF} {s : List Value} {H : Heap} {o : Op} {r : Value × Heap} (h : opEval T s H o = some r) : evalOp T call s H o = some r := by unfold evalOp; rw [h]
theorem evalOp_call {T : Tab} {call : CallF} {s : List Value} {H : Heap} {o : Op} {f : FuncId} {args : List Value} {r : Value × Heap} (hn : opEval T s H o = none) (hc : calleeOf T s H o = some (f, args)) (h : call f args H = some r) : evalOp T call s H o = some r := by
  unfold evalOp; rw [hn, hc]; exact h

/-- An append to a slice without room. -/
theorem app_full {T : Tab} {H : Heap} {t e : TypeId} {i ei : TI} (ty : SliceTy T t e i ei) {a a2 : Option Addr} {n m c2 : Nat} {es xs : List (List Value)} (h : Cells H ei.size a es) (hes : es ≠ []) (hn : es.length = n) (hm : xs.length = m) (hs : ∀ e ∈ es, e.length = ei.size) (hnu : n ≠ unk)
    (hx : ∀ e ∈ xs, e.length = ei.size ∧ e.all oneCell = true) (hpos : 0 < m) (hsrc : srcCells H a2 m ei.size = some xs.flatten) (hb : (n + m) * ei.bytes ≤ 2 ^ 40) (hb2 : n + m ≤ 2 ^ 40) :
    vAppend T H t (.slice a n n) (.slice a2 m c2) = some (.slice (some ⟨H.length, 0, none⟩) (n + m) unk, H ++ [.row ei.size (es ++ xs).flatten true true]) := by
  subst hn hm
  have h0 : 0 < es.length := List.length_pos_iff.2 hes
  obtain ⟨b, o, rfl, hsz, hr⟩ := h.lt h0
  have hall := Cells.all hs hr hes
  have hone : xs.flatten.all oneCell = true := by
    simp only [List.all_eq_true, List.mem_flatten]
    rintro v ⟨l, hl, hv⟩
    exact List.all_eq_true.1 (hx l hl).2 v hv
  unfold vAppend
  simp only [ty.t, ty.d, ty.e, Option.bind_eq_bind, Option.bind_some]
  have hc : 0 < ei.size ∧ 0 < ei.bytes ∧ (es.length + xs.length) * ei.bytes ≤ 2 ^ 40 ∧ es.length + xs.length ≤ 2 ^ 40 := ⟨ty.pos.1, ty.pos.2, hb, hb2⟩
  have h1 : ¬ (es.length = 0 ∧ es.length = 0) := by omega
  have h2 : ¬ (es.length + xs.length ≤ es.length) := by omega
  simp only [if_pos hc, hsrc, Option.bind_some, hone, if_true, if_neg h1, if_neg hnu, if_neg h2, hall, List.flatten_append]

theorem lit_ok (H : Heap) (es : List (List Value)) (hs : ∀ e ∈ es, e.length = 1) : Sl (H ++ [Blk.row 1 es.flatten true true]) 1 (.slice (some ⟨H.length, 0, none⟩) es.length es.length) es :=
  ⟨_, _, rfl, Nat.le_refl _, Cells.row (own := true) hs List.getElem?_concat_length⟩

theorem more_is (K : Heap) (r : Rel) (hK : Sl K 3 (.slice (some ⟨0, 0, none⟩) 3 3) (rels LA)) : ∃ K1, K1 = (K ++ [Blk.row 3 (relC r) true true]) ++ [Blk.row 3 (rels (LA ++ [r])).flatten true true] ∧
      vAppend tabK (K ++ [Blk.row 3 (relC r) true true]) 25 (.slice (some ⟨0, 0, none⟩) 3 3) (.slice (some ⟨K.length, 0, none⟩) 1 1) = some (.slice (some ⟨K.length + 1, 0, none⟩) 4 unk, K1) ∧ Sl K1 3 (.slice (some ⟨K.length + 1, 0, none⟩) 4 unk) (rels (LA ++ [r])) ∧ Sees K K1 := by
  have hK1 := hK.sees (sees_app K [Blk.row 3 (relC r) true true])
  obtain ⟨a, c, e1, hc, hcs⟩ := hK1
  have e2 : a = some ⟨0, 0, none⟩ := by injection e1 with q1 q2 q3; exact q1.symm
  subst e2
  have := app_full (T := tabK) (t := 25) (e := 41) (i := _) (ei := _) ⟨rfl, rfl, rfl, by decide⟩ (a2 := some ⟨K.length, 0, none⟩) (n := 3) (m := 1) (c2 := 1) (xs := rels [r]) hcs (by simp [rels]) rfl rfl (rels_sz _) (by decide) (by simp [rels, oneCell]) (by decide) ?_ (by decide) (by decide)
  · refine ⟨_, rfl, ?_, ?_, ?_⟩
    · rw [this, List.length_append]; rfl
    · refine ⟨_, _, rfl, (by show 4 ≤ unk; decide), Cells.row (own := true) (rels_sz _) ?_⟩
      rw [show K.length + 1 = (K ++ [Blk.row 3 (relC r) true true]).length by simp]
      exact List.getElem?_concat_length
    · exact (sees_app _ _).trans (sees_app _ _)
  · have : (K ++ [Blk.row 3 (relC r) true true])[K.length]? = some (Blk.row 3 (relC r) true true) := List.getElem?_concat_length
    simp only [srcCells, readCells, this]
    rfl

set_option maxHeartbeats 4000000 in
theorem known_runs : ∃ v E, big tabK 9 [] [] = some (v, E) ∧ v = .bool true := by
  let H1 : Heap := [] ++ [Blk.row 3 (rels LA).flatten true true]
  have h1 : Sl H1 3 (.slice (some ⟨0, 0, none⟩) 3 3) (rels LA) := ⟨_, _, rfl, Nat.le_refl _, Cells.row (own := true) (rels_sz _) rfl⟩
  obtain ⟨o, H2, ho, s2, hso⟩ := order_ex h1
  have h2 := h1.sees s2
  obtain ⟨ra, rb, H3, hra, s3, hsa, hsb⟩ := ranks_ex h2
  have h3 := h2.sees s3
  obtain ⟨xa, xc, H4, hx, s4⟩ := exts_ex h3
  have h4 := h3.sees s4
  obtain ⟨K5, e5, ha5, hs5, see5⟩ := more_is H4 ⟨1, [65], [67]⟩ h4
  obtain ⟨co, H5, hco, s5, hsc⟩ := cycle_ex hs5
  obtain ⟨K6, e6, ha6, hs6, see6⟩ := more_is H5 ⟨1, [67], [65]⟩ ((h4.sees see5).sees s5)
  obtain ⟨ro, H6, hro, s6, hsr⟩ := red_ex hs6
  have see : Sees H4 H6 := see5.trans (s5.trans (see6.trans s6))
  refine big_of_runs rfl rfl rfl ?_
  obtain ⟨z, hz⟩ := startC_mkS Try.f9 []
  rw [show startC (9, Try.f9).snd [] = _ from hz]
  refine Runs.seq (Runs.region ?_)
  refine Rg.opp rfl rfl rfl rfl rfl ?_
  refine Rg.nil ?_
  refine Runs.seq (Runs.region ?_)
  refine Rg.calls rfl rfl rfl rfl rfl rfl (over_runs (ext := extK) rfl [66] [65] _) ?_
  refine Rg.opp rfl rfl rfl rfl rfl ?_
  refine Rg.calls rfl rfl rfl rfl rfl rfl (over_runs (ext := extK) rfl [68] [65] _) ?_
  refine Rg.opp rfl rfl rfl rfl rfl ?_
  refine Rg.opp rfl rfl rfl rfl rfl ?_
  refine Rg.nil ?_
  refine Runs.seq (Runs.region ?_)
  refine Rg.opp rfl rfl rfl rfl rfl ?_
  refine Rg.calls rfl rfl rfl rfl rfl rfl ho ?_
  repeat refine Rg.opp rfl rfl rfl rfl rfl ?_
  refine Rg.nil ?_
  refine Runs.seq (Runs.region ?_)
  refine Rg.opp rfl rfl rfl rfl rfl ?_
  refine Rg.calls rfl rfl rfl rfl rfl rfl hra ?_
  repeat refine Rg.opp rfl rfl rfl rfl rfl ?_
  refine Rg.nil ?_
  refine Runs.seq (Runs.region ?_)
  refine Rg.opp rfl rfl rfl rfl rfl ?_
  refine Rg.calls rfl rfl rfl rfl rfl rfl hx ?_
  repeat refine Rg.opp rfl rfl rfl rfl rfl ?_
  refine Rg.nil ?_
  refine Runs.seq (Runs.region ?_)
  refine Rg.opp rfl rfl rfl rfl rfl ?_
  refine Rg.calls rfl rfl rfl rfl rfl rfl (over_runs (ext := extK) rfl [65] [67] _) ?_
  refine Rg.opp rfl rfl rfl rfl rfl ?_
  refine Rg.opp rfl rfl rfl (ev_append rfl rfl ha5) rfl ?_
  refine Rg.calls rfl rfl rfl rfl rfl rfl hco ?_
  repeat refine Rg.opp rfl rfl rfl rfl rfl ?_
  refine Rg.nil ?_
  refine Runs.seq (Runs.region ?_)
  refine Rg.opp rfl rfl rfl rfl rfl ?_
  refine Rg.calls rfl rfl rfl rfl rfl rfl (over_runs (ext := extK) rfl [67] [65] _) ?_
  refine Rg.opp rfl rfl rfl rfl rfl ?_
  refine Rg.opp rfl rfl rfl (ev_append rfl rfl ha6) rfl ?_
  refine Rg.calls rfl rfl rfl rfl rfl rfl hro ?_
  repeat refine Rg.opp rfl rfl rfl rfl rfl ?_
  refine Rg.nil ?_
  refine Runs.cut (n := 102) (l := [(2, o), (3, nat 0), (4, ra), (5, rb), (6, nat 0), (7, .slice xa 3 xc), (8, nat 0), (9, co), (10, .bool true), (11, nat 0), (12, ro), (13, nat 0)]) (Is.of ⟨rfl, rfl, rfl, rfl, rfl, rfl, rfl, rfl, rfl, rfl, rfl, rfl, rfl, rfl, rfl, rfl, rfl, rfl, rfl, rfl, rfl, rfl, rfl, rfl, trivial⟩) (fun z2 => ?_)
  refine Runs.seq (Runs.region ?_)
  refine Rg.opp rfl rfl rfl rfl rfl ?_
  refine Rg.opp rfl rfl rfl rfl rfl ?_
  refine Rg.opp rfl rfl rfl rfl rfl ?_
  refine Rg.guards true rfl rfl rfl (fun _ => ⟨_, _, evalOp_op rfl, rfl, ?_⟩) (fun h => by cases h)
  refine Rg.guards true rfl rfl rfl (fun _ => ⟨_, _, evalOp_op rfl, rfl, ?_⟩) (fun h => by cases h)
  have q4 : big tabK 29 [o, .slice (some ⟨List.length (H6), 0, none⟩) 4 4] (H6 ++ [Blk.row 1 (strs [[65], [66], [67], [68]]).flatten true true]) = some (.bool true, H6 ++ [Blk.row 1 (strs [[65], [66], [67], [68]]).flatten true true]) := by
    have := sameNames_runs (ext := extK) rfl (H := H6 ++ [Blk.row 1 (strs [[65], [66], [67], [68]]).flatten true true]) (Sl.sees ((Sees.refl H6).trans (sees_app _ _)) (hso.sees (s3.trans (s4.trans see)))) (lit_ok (H6) (strs [[65], [66], [67], [68]]) (strs_sz _)) (by decide)
    rw [decide_eq_true rfl] at this
    exact this
  have S4 : Sees H6 (H6 ++ [Blk.row 1 (strs [[65], [66], [67], [68]]).flatten true true]) := (Sees.refl H6).trans (sees_app _ _)
  refine Rg.guards true rfl rfl rfl (fun _ => ⟨_, _, evalOp_call rfl rfl q4, rfl, ?_⟩) (fun h => by cases h)
  refine Rg.opp rfl rfl rfl rfl rfl ?_
  refine Rg.opp rfl rfl rfl rfl rfl ?_
  refine Rg.cut (n := 102) (l := [(2, o), (3, nat 0), (4, ra), (5, rb), (6, nat 0), (7, .slice xa 3 xc), (8, nat 0), (9, co), (10, .bool true), (11, nat 0), (12, ro), (13, nat 0), (58, .bool true)]) (Is.of ⟨rfl, rfl, rfl, rfl, rfl, rfl, rfl, rfl, rfl, rfl, rfl, rfl, rfl, rfl, rfl, rfl, rfl, rfl, rfl, rfl, rfl, rfl, rfl, rfl, rfl, rfl, trivial⟩) (fun z8 => ?_)
  refine Rg.guards true rfl rfl rfl (fun _ => ⟨_, _, evalOp_op rfl, rfl, ?_⟩) (fun h => by cases h)
  refine Rg.guards true rfl rfl rfl (fun _ => ⟨_, _, evalOp_op rfl, rfl, ?_⟩) (fun h => by cases h)
  refine Rg.opp rfl rfl rfl rfl rfl ?_
  refine Rg.opp rfl rfl rfl rfl rfl ?_
  refine Rg.cut (n := 102) (l := [(2, o), (3, nat 0), (4, ra), (5, rb), (6, nat 0), (7, .slice xa 3 xc), (8, nat 0), (9, co), (10, .bool true), (11, nat 0), (12, ro), (13, nat 0), (62, .bool true)]) (Is.of ⟨rfl, rfl, rfl, rfl, rfl, rfl, rfl, rfl, rfl, rfl, rfl, rfl, rfl, rfl, rfl, rfl, rfl, rfl, rfl, rfl, rfl, rfl, rfl, rfl, rfl, rfl, trivial⟩) (fun z12 => ?_)
  refine Rg.guards true rfl rfl rfl (fun _ => ⟨_, _, evalOp_op rfl, rfl, ?_⟩) (fun h => by cases h)
  refine Rg.guards true rfl rfl rfl (fun _ => ⟨_, _, evalOp_op rfl, rfl, ?_⟩) (fun h => by cases h)
  have q13 : big tabK 15 [ra, .slice (some ⟨List.length (H6 ++ [Blk.row 1 (strs [[65], [66], [67], [68]]).flatten true true]), 0, none⟩) 4 4] (H6 ++ [Blk.row 1 (strs [[65], [66], [67], [68]]).flatten true true] ++ [Blk.row 1 (ints [0, 1, 2, 1]).flatten true true]) = some (.bool true, H6 ++ [Blk.row 1 (strs [[65], [66], [67], [68]]).flatten true true] ++ [Blk.row 1 (ints [0, 1, 2, 1]).flatten true true]) := by
    have := sameInts_runs (ext := extK) rfl (H := H6 ++ [Blk.row 1 (strs [[65], [66], [67], [68]]).flatten true true] ++ [Blk.row 1 (ints [0, 1, 2, 1]).flatten true true]) (Sl.sees (S4.trans (sees_app _ _)) (hsa.sees (s4.trans see))) (lit_ok (H6 ++ [Blk.row 1 (strs [[65], [66], [67], [68]]).flatten true true]) (ints [0, 1, 2, 1]) (ints_sz _)) (by decide)
    rw [decide_eq_true rfl] at this
    exact this
  have S13 : Sees H6 (H6 ++ [Blk.row 1 (strs [[65], [66], [67], [68]]).flatten true true] ++ [Blk.row 1 (ints [0, 1, 2, 1]).flatten true true]) := S4.trans (sees_app _ _)
  refine Rg.guards true rfl rfl rfl (fun _ => ⟨_, _, evalOp_call rfl rfl q13, rfl, ?_⟩) (fun h => by cases h)
  refine Rg.opp rfl rfl rfl rfl rfl ?_
  refine Rg.opp rfl rfl rfl rfl rfl ?_
  refine Rg.cut (n := 102) (l := [(2, o), (3, nat 0), (4, ra), (5, rb), (6, nat 0), (7, .slice xa 3 xc), (8, nat 0), (9, co), (10, .bool true), (11, nat 0), (12, ro), (13, nat 0), (67, .bool true)]) (Is.of ⟨rfl, rfl, rfl, rfl, rfl, rfl, rfl, rfl, rfl, rfl, rfl, rfl, rfl, rfl, rfl, rfl, rfl, rfl, rfl, rfl, rfl, rfl, rfl, rfl, rfl, rfl, trivial⟩) (fun z17 => ?_)
  refine Rg.guards true rfl rfl rfl (fun _ => ⟨_, _, evalOp_op rfl, rfl, ?_⟩) (fun h => by cases h)
  refine Rg.guards true rfl rfl rfl (fun _ => ⟨_, _, evalOp_op rfl, rfl, ?_⟩) (fun h => by cases h)
  have q18 : big tabK 15 [rb, .slice (some ⟨List.length (H6 ++ [Blk.row 1 (strs [[65], [66], [67], [68]]).flatten true true] ++ [Blk.row 1 (ints [0, 1, 2, 1]).flatten true true]), 0, none⟩) 4 4] (H6 ++ [Blk.row 1 (strs [[65], [66], [67], [68]]).flatten true true] ++ [Blk.row 1 (ints [0, 1, 2, 1]).flatten true true] ++ [Blk.row 1 (ints [0, 1, 2, 2]).flatten true true]) = some (.bool true, H6 ++ [Blk.row 1 (strs [[65], [66], [67], [68]]).flatten true true] ++ [Blk.row 1 (ints [0, 1, 2, 1]).flatten true true] ++ [Blk.row 1 (ints [0, 1, 2, 2]).flatten true true]) := by
    have := sameInts_runs (ext := extK) rfl (H := H6 ++ [Blk.row 1 (strs [[65], [66], [67], [68]]).flatten true true] ++ [Blk.row 1 (ints [0, 1, 2, 1]).flatten true true] ++ [Blk.row 1 (ints [0, 1, 2, 2]).flatten true true]) (Sl.sees (S13.trans (sees_app _ _)) (hsb.sees (s4.trans see))) (lit_ok (H6 ++ [Blk.row 1 (strs [[65], [66], [67], [68]]).flatten true true] ++ [Blk.row 1 (ints [0, 1, 2, 1]).flatten true true]) (ints [0, 1, 2, 2]) (ints_sz _)) (by decide)
    rw [decide_eq_true rfl] at this
    exact this
  have S18 : Sees H6 (H6 ++ [Blk.row 1 (strs [[65], [66], [67], [68]]).flatten true true] ++ [Blk.row 1 (ints [0, 1, 2, 1]).flatten true true] ++ [Blk.row 1 (ints [0, 1, 2, 2]).flatten true true]) := S13.trans (sees_app _ _)
  refine Rg.guards true rfl rfl rfl (fun _ => ⟨_, _, evalOp_call rfl rfl q18, rfl, ?_⟩) (fun h => by cases h)
  refine Rg.opp rfl rfl rfl rfl rfl ?_
  refine Rg.opp rfl rfl rfl rfl rfl ?_
  refine Rg.cut (n := 102) (l := [(2, o), (3, nat 0), (4, ra), (5, rb), (6, nat 0), (7, .slice xa 3 xc), (8, nat 0), (9, co), (10, .bool true), (11, nat 0), (12, ro), (13, nat 0), (72, .bool true)]) (Is.of ⟨rfl, rfl, rfl, rfl, rfl, rfl, rfl, rfl, rfl, rfl, rfl, rfl, rfl, rfl, rfl, rfl, rfl, rfl, rfl, rfl, rfl, rfl, rfl, rfl, rfl, rfl, trivial⟩) (fun z22 => ?_)
  refine Rg.guards true rfl rfl rfl (fun _ => ⟨_, _, evalOp_op rfl, rfl, ?_⟩) (fun h => by cases h)
  refine Rg.guards true rfl rfl rfl (fun _ => ⟨_, _, evalOp_op rfl, rfl, ?_⟩) (fun h => by cases h)
  refine Rg.opp rfl rfl rfl rfl rfl ?_
  refine Rg.opp rfl rfl rfl rfl rfl ?_
  refine Rg.cut (n := 102) (l := [(2, o), (3, nat 0), (4, ra), (5, rb), (6, nat 0), (7, .slice xa 3 xc), (8, nat 0), (9, co), (10, .bool true), (11, nat 0), (12, ro), (13, nat 0), (76, .bool true)]) (Is.of ⟨rfl, rfl, rfl, rfl, rfl, rfl, rfl, rfl, rfl, rfl, rfl, rfl, rfl, rfl, rfl, rfl, rfl, rfl, rfl, rfl, rfl, rfl, rfl, rfl, rfl, rfl, trivial⟩) (fun z26 => ?_)
  refine Rg.guards true rfl rfl rfl (fun _ => ⟨_, _, evalOp_op rfl, rfl, ?_⟩) (fun h => by cases h)
  refine Rg.guards true rfl rfl rfl (fun _ => ⟨_, _, evalOp_op rfl, rfl, ?_⟩) (fun h => by cases h)
  refine Rg.guards true rfl rfl rfl (fun _ => ⟨_, _, evalOp_op rfl, rfl, ?_⟩) (fun h => by cases h)
  refine Rg.opp rfl rfl rfl rfl rfl ?_
  refine Rg.opp rfl rfl rfl rfl rfl ?_
  refine Rg.cut (n := 102) (l := [(2, o), (3, nat 0), (4, ra), (5, rb), (6, nat 0), (7, .slice xa 3 xc), (8, nat 0), (9, co), (10, .bool true), (11, nat 0), (12, ro), (13, nat 0), (81, .bool true)]) (Is.of ⟨rfl, rfl, rfl, rfl, rfl, rfl, rfl, rfl, rfl, rfl, rfl, rfl, rfl, rfl, rfl, rfl, rfl, rfl, rfl, rfl, rfl, rfl, rfl, rfl, rfl, rfl, trivial⟩) (fun z31 => ?_)
  refine Rg.guards true rfl rfl rfl (fun _ => ⟨_, _, evalOp_op rfl, rfl, ?_⟩) (fun h => by cases h)
  refine Rg.guards true rfl rfl rfl (fun _ => ⟨_, _, evalOp_op rfl, rfl, ?_⟩) (fun h => by cases h)
  refine Rg.opp rfl rfl rfl rfl rfl ?_
  refine Rg.opp rfl rfl rfl rfl rfl ?_
  refine Rg.cut (n := 102) (l := [(2, o), (3, nat 0), (4, ra), (5, rb), (6, nat 0), (7, .slice xa 3 xc), (8, nat 0), (9, co), (10, .bool true), (11, nat 0), (12, ro), (13, nat 0), (85, .bool true)]) (Is.of ⟨rfl, rfl, rfl, rfl, rfl, rfl, rfl, rfl, rfl, rfl, rfl, rfl, rfl, rfl, rfl, rfl, rfl, rfl, rfl, rfl, rfl, rfl, rfl, rfl, rfl, rfl, trivial⟩) (fun z35 => ?_)
  refine Rg.guards true rfl rfl rfl (fun _ => ⟨_, _, evalOp_op rfl, rfl, ?_⟩) (fun h => by cases h)
  refine Rg.opp rfl rfl rfl rfl rfl ?_
  refine Rg.opp rfl rfl rfl rfl rfl ?_
  refine Rg.cut (n := 102) (l := [(2, o), (3, nat 0), (4, ra), (5, rb), (6, nat 0), (7, .slice xa 3 xc), (8, nat 0), (9, co), (10, .bool true), (11, nat 0), (12, ro), (13, nat 0), (88, .bool true)]) (Is.of ⟨rfl, rfl, rfl, rfl, rfl, rfl, rfl, rfl, rfl, rfl, rfl, rfl, rfl, rfl, rfl, rfl, rfl, rfl, rfl, rfl, rfl, rfl, rfl, rfl, rfl, rfl, trivial⟩) (fun z38 => ?_)
  refine Rg.guards true rfl rfl rfl (fun _ => ⟨_, _, evalOp_op rfl, rfl, ?_⟩) (fun h => by cases h)
  refine Rg.guards true rfl rfl rfl (fun _ => ⟨_, _, evalOp_op rfl, rfl, ?_⟩) (fun h => by cases h)
  have q39 : big tabK 15 [co, .slice (some ⟨List.length (H6 ++ [Blk.row 1 (strs [[65], [66], [67], [68]]).flatten true true] ++ [Blk.row 1 (ints [0, 1, 2, 1]).flatten true true] ++ [Blk.row 1 (ints [0, 1, 2, 2]).flatten true true]), 0, none⟩) 3 3] (H6 ++ [Blk.row 1 (strs [[65], [66], [67], [68]]).flatten true true] ++ [Blk.row 1 (ints [0, 1, 2, 1]).flatten true true] ++ [Blk.row 1 (ints [0, 1, 2, 2]).flatten true true] ++ [Blk.row 1 (ints [0, 1, 3]).flatten true true]) = some (.bool true, H6 ++ [Blk.row 1 (strs [[65], [66], [67], [68]]).flatten true true] ++ [Blk.row 1 (ints [0, 1, 2, 1]).flatten true true] ++ [Blk.row 1 (ints [0, 1, 2, 2]).flatten true true] ++ [Blk.row 1 (ints [0, 1, 3]).flatten true true]) := by
    have := sameInts_runs (ext := extK) rfl (H := H6 ++ [Blk.row 1 (strs [[65], [66], [67], [68]]).flatten true true] ++ [Blk.row 1 (ints [0, 1, 2, 1]).flatten true true] ++ [Blk.row 1 (ints [0, 1, 2, 2]).flatten true true] ++ [Blk.row 1 (ints [0, 1, 3]).flatten true true]) (Sl.sees (S18.trans (sees_app _ _)) (hsc.sees (see6.trans s6))) (lit_ok (H6 ++ [Blk.row 1 (strs [[65], [66], [67], [68]]).flatten true true] ++ [Blk.row 1 (ints [0, 1, 2, 1]).flatten true true] ++ [Blk.row 1 (ints [0, 1, 2, 2]).flatten true true]) (ints [0, 1, 3]) (ints_sz _)) (by decide)
    rw [decide_eq_true rfl] at this
    exact this
  have S39 : Sees H6 (H6 ++ [Blk.row 1 (strs [[65], [66], [67], [68]]).flatten true true] ++ [Blk.row 1 (ints [0, 1, 2, 1]).flatten true true] ++ [Blk.row 1 (ints [0, 1, 2, 2]).flatten true true] ++ [Blk.row 1 (ints [0, 1, 3]).flatten true true]) := S18.trans (sees_app _ _)
  refine Rg.guards true rfl rfl rfl (fun _ => ⟨_, _, evalOp_call rfl rfl q39, rfl, ?_⟩) (fun h => by cases h)
  refine Rg.opp rfl rfl rfl rfl rfl ?_
  refine Rg.opp rfl rfl rfl rfl rfl ?_
  refine Rg.cut (n := 102) (l := [(2, o), (3, nat 0), (4, ra), (5, rb), (6, nat 0), (7, .slice xa 3 xc), (8, nat 0), (9, co), (10, .bool true), (11, nat 0), (12, ro), (13, nat 0), (93, .bool true)]) (Is.of ⟨rfl, rfl, rfl, rfl, rfl, rfl, rfl, rfl, rfl, rfl, rfl, rfl, rfl, rfl, rfl, rfl, rfl, rfl, rfl, rfl, rfl, rfl, rfl, rfl, rfl, rfl, trivial⟩) (fun z43 => ?_)
  refine Rg.guards true rfl rfl rfl (fun _ => ⟨_, _, evalOp_op rfl, rfl, ?_⟩) (fun h => by cases h)
  refine Rg.guards true rfl rfl rfl (fun _ => ⟨_, _, evalOp_op rfl, rfl, ?_⟩) (fun h => by cases h)
  refine Rg.opp rfl rfl rfl rfl rfl ?_
  refine Rg.opp rfl rfl rfl rfl rfl ?_
  refine Rg.cut (n := 102) (l := [(2, o), (3, nat 0), (4, ra), (5, rb), (6, nat 0), (7, .slice xa 3 xc), (8, nat 0), (9, co), (10, .bool true), (11, nat 0), (12, ro), (13, nat 0), (97, .bool true)]) (Is.of ⟨rfl, rfl, rfl, rfl, rfl, rfl, rfl, rfl, rfl, rfl, rfl, rfl, rfl, rfl, rfl, rfl, rfl, rfl, rfl, rfl, rfl, rfl, rfl, rfl, rfl, rfl, trivial⟩) (fun z47 => ?_)
  refine Rg.guards true rfl rfl rfl (fun _ => ⟨_, _, evalOp_op rfl, rfl, ?_⟩) (fun h => by cases h)
  refine Rg.guards true rfl rfl rfl (fun _ => ⟨_, _, evalOp_op rfl, rfl, ?_⟩) (fun h => by cases h)
  have q48 : big tabK 15 [ro, .slice (some ⟨List.length (H6 ++ [Blk.row 1 (strs [[65], [66], [67], [68]]).flatten true true] ++ [Blk.row 1 (ints [0, 1, 2, 1]).flatten true true] ++ [Blk.row 1 (ints [0, 1, 2, 2]).flatten true true] ++ [Blk.row 1 (ints [0, 1, 3]).flatten true true]), 0, none⟩) 3 3] (H6 ++ [Blk.row 1 (strs [[65], [66], [67], [68]]).flatten true true] ++ [Blk.row 1 (ints [0, 1, 2, 1]).flatten true true] ++ [Blk.row 1 (ints [0, 1, 2, 2]).flatten true true] ++ [Blk.row 1 (ints [0, 1, 3]).flatten true true] ++ [Blk.row 1 (ints [0, 1, 2]).flatten true true]) = some (.bool true, H6 ++ [Blk.row 1 (strs [[65], [66], [67], [68]]).flatten true true] ++ [Blk.row 1 (ints [0, 1, 2, 1]).flatten true true] ++ [Blk.row 1 (ints [0, 1, 2, 2]).flatten true true] ++ [Blk.row 1 (ints [0, 1, 3]).flatten true true] ++ [Blk.row 1 (ints [0, 1, 2]).flatten true true]) := by
    have := sameInts_runs (ext := extK) rfl (H := H6 ++ [Blk.row 1 (strs [[65], [66], [67], [68]]).flatten true true] ++ [Blk.row 1 (ints [0, 1, 2, 1]).flatten true true] ++ [Blk.row 1 (ints [0, 1, 2, 2]).flatten true true] ++ [Blk.row 1 (ints [0, 1, 3]).flatten true true] ++ [Blk.row 1 (ints [0, 1, 2]).flatten true true]) (Sl.sees (S39.trans (sees_app _ _)) (hsr.sees (Sees.refl _))) (lit_ok (H6 ++ [Blk.row 1 (strs [[65], [66], [67], [68]]).flatten true true] ++ [Blk.row 1 (ints [0, 1, 2, 1]).flatten true true] ++ [Blk.row 1 (ints [0, 1, 2, 2]).flatten true true] ++ [Blk.row 1 (ints [0, 1, 3]).flatten true true]) (ints [0, 1, 2]) (ints_sz _)) (by decide)
    rw [decide_eq_true rfl] at this
    exact this
  have S48 : Sees H6 (H6 ++ [Blk.row 1 (strs [[65], [66], [67], [68]]).flatten true true] ++ [Blk.row 1 (ints [0, 1, 2, 1]).flatten true true] ++ [Blk.row 1 (ints [0, 1, 2, 2]).flatten true true] ++ [Blk.row 1 (ints [0, 1, 3]).flatten true true] ++ [Blk.row 1 (ints [0, 1, 2]).flatten true true]) := S39.trans (sees_app _ _)
  refine Rg.guards true rfl rfl rfl (fun _ => ⟨_, _, evalOp_call rfl rfl q48, rfl, ?_⟩) (fun h => by cases h)
  refine Rg.opp rfl rfl rfl rfl rfl ?_
  refine Rg.opp rfl rfl rfl rfl rfl ?_
  refine Rg.nil ?_
  exact Runs.ret ⟨_, rfl, rfl⟩

end Go.Proofs.Ytdhbclplondmjaa.C

end
