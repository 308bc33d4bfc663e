/- The law's Make. -/
import Derived.Test.YtdhbclplondmjaaWa
set_option linter.unusedVariables false
set_option maxRecDepth 100000
namespace Go.Proofs.Ytdhbclplondmjaa.C
open Go.RowKit

/-- What describes a relation. -/
structure Seen where
  k : Nat
  u : Nat
  l : Nat

abbrev u8 (x : Nat) : Value := .int .u8 (x : Int)
def seens (xs : List Seen) : List (List Value) := xs.map fun s => [u8 s.k, u8 s.u, u8 s.l]
theorem seens_len (xs : List Seen) : (seens xs).length = xs.length := by simp [seens]
theorem seens_get {xs : List Seen} {i : Nat} (h : i < xs.length) : (seens xs)[i]? = some [u8 xs[i].k, u8 xs[i].u, u8 xs[i].l] := by simp [seens, h]

def mkA (s : Seen) : Nat := s.u % 6
def mkB (s : Seen) : Nat := if s.u % 6 = s.l % 6 then (s.u % 6 + 1) % 6 else s.l % 6
def mk (s : Seen) : Rel := ⟨1 + s.k % 4, nm (mkA s), nm (mkB s)⟩

section
variable {T : Tab} {s : List Value} {H : Heap}

theorem ev_bin {op : BinOp} {t t2 : TypeId} {x y : Operand} {k : IntKind} {a b : Int} {v : Value} (hx : ev s x = .int k a) (hy : ev s y = .int k b) (hop : op ≠ .shl ∧ op ≠ .shr) (h : binInt op k a b = some v) : opEval T s H (.binOp op t x y t2) = some (v, H) := by
  have : binOp T op t (.int k a) (.int k b) = some v := by
    unfold binOp
    cases op <;> simp_all
  simp only [opEval, hx, hy, this, Option.map_some]

theorem ev_lt {t t2 : TypeId} {x y : Operand} {k : IntKind} {a b : Int} (p : Bool) (hx : ev s x = .int k a) (hy : ev s y = .int k b) (h : decide (a < b) = p) : opEval T s H (.binOp .lss t x y t2) = some (.bool p, H) :=
  ev_bin hx hy (by decide) (by simp [binInt, h])
theorem ev_eq {t t2 : TypeId} {x y : Operand} {k : IntKind} {a b : Int} (p : Bool) (hx : ev s x = .int k a) (hy : ev s y = .int k b) (h : decide (a = b) = p) : opEval T s H (.binOp .eql t x y t2) = some (.bool p, H) :=
  ev_bin hx hy (by decide) (by subst h; simp [binInt]; by_cases q : a = b <;> simp [q])

theorem ev_rem {t t2 : TypeId} {x y : Operand} {k : IntKind} {a b : Nat} (hx : ev s x = .int k (a : Nat)) (hy : ev s y = .int k (b : Nat)) (hb : b ≠ 0) : opEval T s H (.binOp .rem t x y t2) = some (.int k ((a % b : Nat) : Int), H) := by
  refine ev_bin hx hy (by decide) ?_
  have : (b : Int) ≠ 0 := by omega
  simp only [binInt, if_neg this]
  rw [← Int.ofNat_tmod]

theorem ev_conv {src dst : TypeId} {x : Operand} {k : IntKind} {a : Nat} (hx : ev s x = .int k (a : Nat)) (h1 : T.d src = some (.int k)) (h2 : T.d dst = some (.int .i64)) (ha : a < 2 ^ 62) : opEval T s H (.convert src dst x) = some (nat a, H) := by
  simp only [opEval, hx, vConvert, h1, h2, wrap_nat ha]

theorem ev_addn {t t2 : TypeId} {x y : Operand} {a b : Nat} (hx : ev s x = .int .i64 (a : Nat)) (hy : ev s y = .int .i64 (b : Nat)) (hb : a + b < 2 ^ 62) : opEval T s H (.binOp .add t x y t2) = some (nat (a + b), H) := by
  refine ev_bin hx hy (by decide) ?_
  simp only [binInt]
  rw [show ((a : Int) + (b : Int)) = ((a + b : Nat) : Int) by omega, wrap_nat hb]

/-- A field of an element. -/
theorem ev_fld {t : TypeId} {x : Operand} {f : Nat} {i k : TI} {fs : List (TypeId × Nat)} {p : TypeId × Nat} {b o : Nat} (hx : ev s x = .pointer (some ⟨b, o, none⟩)) (ht : T.T t = some i) (hd : i.desc = .struct fs) (hf : fs[f]? = some p) (hk : T.T p.1 = some k) (hp : 0 < k.size) :
    opEval T s H (.fieldAddr t x f) = some (.pointer (some ⟨b, o + p.2, none⟩), H) := by
  simp only [opEval, hx, vFieldAddr, ht, hd, hf, hk, Option.bind_eq_bind, Option.bind_some, if_pos hp, Option.map_some]

end

/-- A cell among cells. -/
theorem read_one {H : Heap} {b o n j : Nat} {cs : List Value} {v : Value} (h : readCells H b o n = some cs) (hj : cs[j]? = some v) : readCells H b (o + j) 1 = some [v] := by
  unfold readCells at *
  split at h
  · rename_i sz all own hb
    split at h
    · rename_i hle
      simp only [Option.some.injEq] at h
      subst h
      have hlt := (List.getElem?_eq_some_iff.1 hj).1
      simp at hlt
      rw [if_pos (by omega)]
      rw [List.getElem?_take_of_lt (by omega), List.getElem?_drop] at hj
      rw [show (all.drop (o + j)).take 1 = [v] from ?_]
      have h1 := (List.getElem?_eq_some_iff.1 hj)
      obtain ⟨h1, h2⟩ := h1
      rw [List.drop_eq_getElem_cons h1, h2]
      rfl
    · simp at h
  · simp at h

theorem mk_le (s : Seen) : mkA s < 6 ∧ mkB s < 6 := by
  unfold mkA mkB
  constructor
  · omega
  · split <;> omega

theorem evW_op {T : Tab} {call : CallF} {s : List Value} {H : Heap} {o : Op} {r : Value × Heap} (h : opEval T s H o = some r) : evalOp T call s H o = some r := by unfold evalOp; rw [h]

theorem quiet_pure {T : Tab} {f : FuncId} {args : List Value} {v : Value} (h : ∀ K, big T f args K = some (v, K)) (H : Heap) : quiet (big T) f args H = some (v, H) := by
  unfold quiet
  rw [h]
  simp

theorem acc_inPlace {s : List Value} {H : Heap} {x y : Operand} {ats : Array TypeId} {lo sz p m c2 : Nat} {w : Value} {a2 : Option Addr} {es : List (List Value)} (h : Acc H lo sz w es p) (hx : ev s x = w) (hy : ev s y = .slice a2 m c2) : inPlace s (.call { callee := .builtin .append, args := #[x, y], argTypes := ats }) = false := by
  unfold inPlace
  simp only [List.map_cons, List.map_nil, hx, hy]
  obtain ⟨_, ⟨_, rfl⟩ | ⟨rfl, _, _⟩⟩ := h
  · simp; intro _ h; omega
  · simp

theorem make_runs {H : Heap} {v : Value} {xs : List Seen} (h : Sl H 3 v (seens xs)) (hsm : ∀ s ∈ xs, s.k < 256 ∧ s.u < 256 ∧ s.l < 256) (hxl : xs.length < 2 ^ 60) :
    ∃ r H1, big tab 11 [v] H = some (r, H1) ∧ Ext H H1 ∧ ∃ p, Acc H1 H.length 3 r (rels ((xs.take 8).map mk)) p := by
  obtain ⟨a, c, rfl, hc, hcs⟩ := h
  simp only [seens_len] at *
  refine big_of_runs rfl rfl rfl ?_
  obtain ⟨z, hz⟩ := startC_mkS Try.f11 [.slice a xs.length c]
  rw [show startC (11, Try.f11).snd [Value.slice a xs.length c] = _ from hz]
  refine Runs.seq (Runs.region ?_)
  repeat refine Rg.opp rfl rfl rfl rfl rfl ?_
  refine Rg.nil ?_
  refine Runs.seq (Runs.region ?_)
  repeat refine Rg.opp rfl rfl rfl rfl rfl ?_
  refine Rg.nil ?_
  refine Runs.seq (Runs.seq (Runs.region ?_))
  repeat refine Rg.opp rfl rfl rfl rfl rfl ?_
  refine Rg.nil ?_
  refine Runs.block ?_
  refine Runs.loop (fun m s H1 => ∃ k w p, k ≤ xs.length ∧ k ≤ 8 ∧ m = 8 - k ∧ Ext H H1 ∧ Acc H1 H.length 3 w (rels ((xs.take k).map mk)) p ∧ Is s 54 [(0, .slice a xs.length c), (3, w), (4, nat k)]) _
    ⟨0, .slice none 0 0, 0, Nat.zero_le _, Nat.zero_le _, rfl, Ext.refl H, Acc.nil _ _ _ _, Is.of ⟨rfl, rfl, rfl, rfl, rfl, rfl, trivial⟩⟩ ?_
  rintro m s H1 ⟨k, w, p, hk, hk8, rfl, he, hacc, hs⟩
  obtain ⟨a0, rfl⟩ := hs.mk1
  have hend : k = xs.length ∨ k = 8 → ∃ v1, resultsC tab Try.f11 (mkS 54 a0 [(2, w), (53, w), (0, .slice a xs.length c), (3, w), (4, nat k)]) H1 = some v1 ∧ Ext H H1 ∧ ∃ p, Acc H1 H.length 3 v1 (rels ((xs.take 8).map mk)) p := by
    intro hor
    refine ⟨w, rfl, he, p, ?_⟩
    rcases hor with rfl | rfl
    · rw [List.take_of_length_le (Nat.le_refl _)] at hacc
      rw [List.take_of_length_le hk8]; exact hacc
    · exact hacc
  by_cases hlt : k < xs.length
  · by_cases hlt8 : k < 8
    · refine Runs.seq (Runs.seq (Runs.region ?_))
      refine Rg.opp rfl rfl rfl rfl rfl ?_
      refine Rg.opp rfl rfl rfl rfl rfl ?_
      refine Rg.opp rfl rfl rfl rfl rfl ?_
      refine Rg.opp rfl rfl rfl (ev_lt true rfl rfl (by simp; omega)) rfl ?_
      refine Rg.opp rfl rfl rfl rfl rfl ?_
      refine Rg.guards true rfl rfl rfl (fun _ => ⟨_, _, evW_op rfl, rfl, ?_⟩) (fun h => by cases h)
      refine Rg.guards true rfl rfl rfl (fun _ => ⟨_, _, evW_op (ev_lt true rfl rfl (by simp; omega)), rfl, ?_⟩) (fun h => by cases h)
      refine Rg.opp rfl rfl rfl rfl rfl ?_
      refine Rg.nil ?_
      refine Runs.cond true rfl (fun _ => ?_) (fun h => by cases h)
      refine Runs.skip ?_
      have hcs1 := hcs.sees he.sees
      obtain ⟨b, o, rfl, hsz, hr⟩ := hcs1.lt (i := k) (by rw [seens_len]; exact hlt)
      have hrk := hr k _ (seens_get hlt)
      obtain ⟨q1, q2, q3⟩ := hsm xs[k] (List.getElem_mem hlt)
      refine Runs.cut (n := 54) (l := [(0, .slice (some ⟨b, o, none⟩) xs.length c), (3, w), (4, nat k)]) (Is.of ⟨rfl, rfl, rfl, rfl, rfl, rfl, trivial⟩) (fun a1 => ?_)
      refine Runs.seq (Runs.block ?_)
      refine Runs.seq (Runs.drawn (is := List.range 16) (by decide +kernel) ?_)
      refine Rg.opp rfl rfl rfl rfl rfl ?_
      refine Rg.opp rfl rfl rfl rfl rfl ?_
      refine Rg.opp rfl rfl rfl (ev_at rfl rfl rfl rfl (by decide) hlt) rfl ?_
      refine Rg.opp rfl rfl rfl (ev_fld rfl rfl rfl rfl rfl (by decide)) rfl ?_
      refine Rg.opp rfl rfl rfl (ev_load1 rfl rfl (read_one hrk (j := 1) rfl) rfl) rfl ?_
      refine Rg.opp rfl rfl rfl (ev_rem (b := 6) rfl rfl (by decide)) rfl ?_
      refine Rg.opp rfl rfl rfl (ev_conv rfl rfl rfl (by omega)) rfl ?_
      refine Rg.opp rfl rfl rfl rfl rfl ?_
      refine Rg.opp rfl rfl rfl rfl rfl ?_
      refine Rg.opp rfl rfl rfl (ev_at rfl rfl rfl rfl (by decide) hlt) rfl ?_
      refine Rg.opp rfl rfl rfl (ev_fld rfl rfl rfl rfl rfl (by decide)) rfl ?_
      refine Rg.opp rfl rfl rfl (ev_load1 rfl rfl (read_one hrk (j := 2) rfl) rfl) rfl ?_
      refine Rg.opp rfl rfl rfl (ev_rem (b := 6) rfl rfl (by decide)) rfl ?_
      refine Rg.opp rfl rfl rfl (ev_conv rfl rfl rfl (by omega)) rfl ?_
      refine Rg.opp rfl rfl rfl rfl rfl ?_
      refine Rg.opp rfl rfl rfl rfl rfl ?_
      refine Rg.nil ?_
      refine Runs.cut (n := 54) (l := [(0, .slice (some ⟨b, o, none⟩) xs.length c), (3, w), (4, nat k), (5, nat (mkA xs[k])), (6, nat (xs[k].l % 6))]) (Is.of ⟨rfl, rfl, rfl, rfl, rfl, rfl, rfl, rfl, rfl, rfl, trivial⟩) (fun a2 => ?_)
      refine Runs.seq (Runs.mono (N := fun s H2 => H1 = H2 ∧ Is s 54 [(0, .slice (some ⟨b, o, none⟩) xs.length c), (3, w), (4, nat k), (5, nat (mkA xs[k])), (6, nat (mkB xs[k]))]) (X := fun _ _ _ => False) (R := fun _ _ => False) ?_ ?_ (fun _ _ _ h => h.elim) (fun _ _ h => h.elim))
      · refine Runs.seq (Runs.region ?_)
        refine Rg.opp rfl rfl rfl rfl rfl ?_
        refine Rg.opp rfl rfl rfl rfl rfl ?_
        by_cases hab : xs[k].u % 6 = xs[k].l % 6
        · refine Rg.opp rfl rfl rfl (ev_eq true rfl rfl (decide_eq_true (by unfold mkA; omega))) rfl ?_
          refine Rg.nil ?_
          refine Runs.cond true rfl (fun _ => ?_) (fun h => by cases h)
          refine Runs.region ?_
          refine Rg.opp rfl rfl rfl rfl rfl ?_
          refine Rg.opp rfl rfl rfl (ev_addn (b := 1) rfl rfl (by have := (mk_le xs[k]).1; omega)) rfl ?_
          refine Rg.opp rfl rfl rfl (ev_rem (b := 6) rfl rfl (by decide)) rfl ?_
          refine Rg.opp rfl rfl rfl rfl rfl ?_
          refine Rg.nil ⟨rfl, Is.of ⟨rfl, rfl, rfl, rfl, rfl, rfl, rfl, rfl, rfl, ?_, trivial⟩⟩
          show nat ((mkA xs[k] + 1) % 6) = nat (mkB xs[k])
          rw [mkB, if_pos hab]; rfl
        · refine Rg.opp rfl rfl rfl (ev_eq false rfl rfl (decide_eq_false (by unfold mkA; omega))) rfl ?_
          refine Rg.nil ?_
          refine Runs.cond false rfl (fun h => by cases h) (fun _ => ?_)
          refine Runs.skip ⟨rfl, Is.of ⟨rfl, rfl, rfl, rfl, rfl, rfl, rfl, rfl, rfl, ?_, trivial⟩⟩
          show nat (xs[k].l % 6) = nat (mkB xs[k])
          rw [mkB, if_neg hab]
      · rintro s _ ⟨rfl, hs⟩
        obtain ⟨a3, rfl⟩ := hs.mk1
        obtain ⟨hA, hB⟩ := mk_le xs[k]
        refine Runs.drawn (is := List.range 17) (by decide +kernel) ?_
        refine Rg.opp rfl rfl rfl rfl rfl ?_
        refine Rg.opp rfl rfl rfl rfl rfl ?_
        refine Rg.opp rfl rfl rfl rfl rfl ?_
        refine Rg.opp rfl rfl rfl (ev_at rfl rfl rfl rfl (by decide) hlt) rfl ?_
        refine Rg.opp rfl rfl rfl (ev_fld rfl rfl rfl rfl rfl (by decide)) rfl ?_
        refine Rg.opp rfl rfl rfl (ev_load1 rfl rfl (read_one hrk (j := 0) rfl) rfl) rfl ?_
        refine Rg.opp rfl rfl rfl (ev_rem (b := 4) rfl rfl (by decide)) rfl ?_
        refine Rg.opp rfl rfl rfl (ev_conv rfl rfl rfl (by omega)) rfl ?_
        refine Rg.opp rfl rfl rfl (ev_addn (a := 1) rfl rfl (by omega)) rfl ?_
        refine Rg.opp rfl rfl rfl rfl rfl ?_
        refine Rg.calls rfl rfl rfl rfl rfl rfl (quiet_pure (fun K => name_runs _ hA K) _) ?_
        refine Rg.opp rfl rfl rfl rfl rfl ?_
        refine Rg.calls rfl rfl rfl rfl rfl rfl (quiet_pure (fun K => name_runs _ hB K) _) ?_
        refine Rg.opp rfl rfl rfl rfl rfl ?_
        refine Rg.opp rfl rfl rfl rfl rfl ?_
        have hkeep : Acc (H1 ++ [Blk.row 3 (relC (mk xs[k])) true true]) H.length 3 w (rels ((xs.take k).map mk)) p := hacc.keep fun b X hb _ => by rw [List.getElem?_append_left (List.getElem?_eq_some_iff.1 hb).1]; exact hb
        have hsrc : srcCells (H1 ++ [Blk.row 3 (relC (mk xs[k])) true true]) (some ⟨H1.length, 0, none⟩) [relC (mk xs[k])].length 3 = some [relC (mk xs[k])].flatten := by
          have : (H1 ++ [Blk.row 3 (relC (mk xs[k])) true true])[H1.length]? = some (Blk.row 3 (relC (mk xs[k])) true true) := List.getElem?_concat_length
          simp only [srcCells, readCells, this]
          rfl
        have hlen : (rels ((xs.take k).map mk)).length = k := by simp [rels]; omega
        have hel := he.len
        obtain ⟨w2, H2, p2, happ, hacc2, hgrow⟩ := push_app (T := tab) (t := 25) (e := 41) (i := _) (ei := _) ⟨rfl, rfl, rfl, by decide⟩ hkeep (c2 := 1) hsrc (by simp [oneCell]) (by rw [hlen]; show (k + 1) * 40 ≤ 2 ^ 40; omega) (by rw [hlen]; show k + 1 ≤ 2 ^ 40; omega) (by simp; omega)
        refine Rg.opp rfl rfl rfl (ev_append rfl rfl happ) (by simp only [Bool.true_and]; exact acc_inPlace hacc rfl rfl) ?_
        refine Rg.opp rfl rfl rfl rfl rfl ?_
        refine Rg.nil ?_
        refine Runs.region ?_
        refine Rg.opp rfl rfl rfl rfl rfl ?_
        refine Rg.opp rfl rfl rfl (ev_addn (b := 1) rfl rfl (by omega)) rfl ?_
        refine Rg.opp rfl rfl rfl rfl rfl ?_
        refine Rg.nil ?_
        refine ⟨8 - (k + 1), by omega, k + 1, w2, p2, hlt, hlt8, rfl, hgrow.ext H rfl (he.row _ _), ?_, Is.of ⟨rfl, rfl, rfl, rfl, rfl, rfl, trivial⟩⟩
        rw [← List.take_append_getElem hlt, List.map_append]
        simpa [rels] using hacc2
    · have h8 : k = 8 := by omega
      refine Runs.seq (Runs.seq (Runs.region ?_))
      refine Rg.opp rfl rfl rfl rfl rfl ?_
      refine Rg.opp rfl rfl rfl rfl rfl ?_
      refine Rg.opp rfl rfl rfl rfl rfl ?_
      refine Rg.opp rfl rfl rfl (ev_lt true rfl rfl (by simp; omega)) rfl ?_
      refine Rg.opp rfl rfl rfl rfl rfl ?_
      refine Rg.guards true rfl rfl rfl (fun _ => ⟨_, _, evW_op rfl, rfl, ?_⟩) (fun h => by cases h)
      refine Rg.guards true rfl rfl rfl (fun _ => ⟨_, _, evW_op (ev_lt false rfl rfl (by simp; omega)), rfl, ?_⟩) (fun h => by cases h)
      refine Rg.opp rfl rfl rfl rfl rfl ?_
      refine Rg.nil ?_
      refine Runs.cond false rfl (fun h => by cases h) (fun _ => ?_)
      refine Runs.exit ?_
      refine Runs.seq (Runs.region ?_)
      repeat refine Rg.opp rfl rfl rfl rfl rfl ?_
      refine Rg.nil ?_
      exact Runs.ret (hend (.inr h8))
  · have h8 : k = xs.length := by omega
    refine Runs.seq (Runs.seq (Runs.region ?_))
    refine Rg.opp rfl rfl rfl rfl rfl ?_
    refine Rg.opp rfl rfl rfl rfl rfl ?_
    refine Rg.opp rfl rfl rfl rfl rfl ?_
    refine Rg.opp rfl rfl rfl (ev_lt false rfl rfl (by simp; omega)) rfl ?_
    refine Rg.opp rfl rfl rfl rfl rfl ?_
    refine Rg.guards false rfl rfl rfl (fun h => by cases h) (fun _ => ?_)
    refine Rg.guards false rfl rfl rfl (fun h => by cases h) (fun _ => ?_)
    refine Rg.opp rfl rfl rfl rfl rfl ?_
    refine Rg.nil ?_
    refine Runs.cond false rfl (fun h => by cases h) (fun _ => ?_)
    refine Runs.exit ?_
    refine Runs.seq (Runs.region ?_)
    repeat refine Rg.opp rfl rfl rfl rfl rfl ?_
    refine Rg.nil ?_
    exact Runs.ret (hend (.inl h8))

end Go.Proofs.Ytdhbclplondmjaa.C
