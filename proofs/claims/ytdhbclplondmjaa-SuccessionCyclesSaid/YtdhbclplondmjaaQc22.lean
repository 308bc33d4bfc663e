/- Texts of one's own, laid together: WTab2, Wa, Wc, Wd, We, Wf, Wg, Wh, Wi, Wk -/
import Derived.Test.YtdhbclplondmjaaQc17
import Derived.Test.YtdhbclplondmjaaQc03
import Derived.Test.YtdhbclplondmjaaQc14
section
/- The table in which the proofs are led: known, the checks of one relation, sorting are given by what they do. -/
namespace Go.Proofs.Ytdhbclplondmjaa.C
open Go.RowKit

/-- For the examples: the five functions by their runs. -/
noncomputable def extK : FuncId → Option ExtF := fun f =>
  bif Nat.beq f 17 then some (subX (runF 300) 17) else
  bif Nat.beq f 24 then some (subX (runF 300) 24) else
  bif Nat.beq f 16 then some (subX (runF 300) 16) else
  bif Nat.beq f 28 then some (subX (runF 300) 28) else
  bif Nat.beq f 12 then some (subX (runG 301) 12) else
  bif Nat.beq f 27 then some (pureB tab0 27) else none

theorem bif_key {k f : Nat} {a b : Option ExtF} {e : ExtF} (h : (bif Nat.beq f k then a else b) = some e) : (f = k ∧ a = some e) ∨ b = some e := by
  cases z : Nat.beq f k with
  | true => rw [z] at h; exact .inl ⟨Nat.eq_of_beq_eq_true z, h⟩
  | false => rw [z] at h; exact .inr h

theorem extK_ok : ∀ f e, extK f = some e → ExtOk Try.prog f e ∧ (lookF fns f).isSome = true := by
  intro f e h
  unfold extK at h
  rcases bif_key h with ⟨rfl, h⟩ | h
  · have h := Option.some.inj h; subst h; exact ⟨subX_ok (runF_sound _) _, rfl⟩
  rcases bif_key h with ⟨rfl, h⟩ | h
  · have h := Option.some.inj h; subst h; exact ⟨subX_ok (runF_sound _) _, rfl⟩
  rcases bif_key h with ⟨rfl, h⟩ | h
  · have h := Option.some.inj h; subst h; exact ⟨subX_ok (runF_sound _) _, rfl⟩
  rcases bif_key h with ⟨rfl, h⟩ | h
  · have h := Option.some.inj h; subst h; exact ⟨subX_ok (runF_sound _) _, rfl⟩
  rcases bif_key h with ⟨rfl, h⟩ | h
  · have h := Option.some.inj h; subst h; exact ⟨subX_ok (runG_sound _) _, rfl⟩
  rcases bif_key h with ⟨rfl, h⟩ | h
  · have h := Option.some.inj h; subst h; exact ⟨pureB_ok fits0 _, rfl⟩
  · simp at h

noncomputable def tabK : Tab := tabE extK
theorem fitsK : Fits Try.prog tabK := fitsE extK_ok

noncomputable def extB : FuncId → Option ExtF := fun f =>
  bif Nat.beq f 9 then some (pureB tabK 9) else
  bif Nat.beq f 43 then some (pureB tab0 43) else
  bif Nat.beq f 30 then some (pureB tab0 30) else
  bif Nat.beq f 25 then some (pureB tab0 25) else
  bif Nat.beq f 27 then some (pureB tab0 27) else
  bif Nat.beq f 51 then some sortX else
  bif Nat.beq f 52 then some compactX else
  bif Nat.beq f 57 then some (subX (runF 300) 57) else none

theorem extB_ok : ∀ f e, extB f = some e → ExtOk Try.prog f e ∧ (lookF fns f).isSome = true := by
  intro f e h
  unfold extB at h
  rcases bif_key h with ⟨rfl, h⟩ | h
  · have h := Option.some.inj h; subst h; exact ⟨pureB_ok fitsK _, rfl⟩
  rcases bif_key h with ⟨rfl, h⟩ | h
  · have h := Option.some.inj h; subst h; exact ⟨pureB_ok fits0 _, rfl⟩
  rcases bif_key h with ⟨rfl, h⟩ | h
  · have h := Option.some.inj h; subst h; exact ⟨pureB_ok fits0 _, rfl⟩
  rcases bif_key h with ⟨rfl, h⟩ | h
  · have h := Option.some.inj h; subst h; exact ⟨pureB_ok fits0 _, rfl⟩
  rcases bif_key h with ⟨rfl, h⟩ | h
  · have h := Option.some.inj h; subst h; exact ⟨pureB_ok fits0 _, rfl⟩
  rcases bif_key h with ⟨rfl, h⟩ | h
  · have h := Option.some.inj h; subst h
    exact ⟨sortX_ok (fun blk off cap ss w h1 h2 h3 => Try.slices_Sort_string blk off cap ss w h1 h2 h3) (fun p cap w => Try.slices_Sort_string_none p cap w), rfl⟩
  rcases bif_key h with ⟨rfl, h⟩ | h
  · have h := Option.some.inj h; subst h
    exact ⟨compactX_ok (fun blk off cap zs w h1 h2 h3 => Try.slices_Compact_string blk off cap zs w h1 h2 h3) (fun a cap w => Try.slices_Compact_string_empty a cap w), rfl⟩
  rcases bif_key h with ⟨rfl, h⟩ | h
  · have h := Option.some.inj h; subst h; exact ⟨subX_ok (runF_sound _) _, rfl⟩
  · simp at h

noncomputable def tab : Tab := tabE extB
theorem fitsB : Fits Try.prog tab := fitsE extB_ok

end Go.Proofs.Ytdhbclplondmjaa.C

end

section
/- Names and relations in the memory; the law's own functions on them. -/
set_option linter.unusedVariables false
set_option maxRecDepth 100000
namespace Go.Proofs.Ytdhbclplondmjaa.C
open Go.RowKit

abbrev Nm := List UInt8
abbrev str (x : Nm) : Value := .string ⟨x.toArray⟩
abbrev nat (k : Nat) : Value := .int .i64 (k : Int)

def strs (xs : List Nm) : List (List Value) := xs.map fun x => [str x]
theorem strs_len (xs : List Nm) : (strs xs).length = xs.length := by simp [strs]
theorem strs_get {xs : List Nm} {k : Nat} (h : k < xs.length) : (strs xs)[k]? = some [str xs[k]] := by simp [strs, h]
theorem strs_sz (xs : List Nm) : ∀ e ∈ strs xs, e.length = 1 := by simp [strs]

/-- A relation. -/
structure Rel where
  kind : Nat
  up : Nm
  lo : Nm

abbrev relC (r : Rel) : List Value := [nat r.kind, str r.up, str r.lo]
def rels (l : List Rel) : List (List Value) := l.map relC
theorem rels_len (l : List Rel) : (rels l).length = l.length := by simp [rels]
theorem rels_get {l : List Rel} {k : Nat} (h : k < l.length) : (rels l)[k]? = some (relC l[k]) := by simp [rels, h]
theorem rels_sz (l : List Rel) : ∀ e ∈ rels l, e.length = 3 := by simp [rels]

theorem str_eq {x y : Nm} : ((ByteArray.mk x.toArray).toList == (ByteArray.mk y.toArray).toList) = decide (x = y) := by
  rw [ByteArray.toList_mk, ByteArray.toList_mk]; by_cases h : x = y <;> simp [h]

/-- The index of a name, or -1. -/
def indexOf (xs : List Nm) (x : Nm) : Int := match xs.idxOf? x with | some k => k | none => -1

theorem indexOf_at {xs : List Nm} {x : Nm} {k : Nat} (h : k < xs.length) (hx : xs[k] = x) (hne : ∀ i (hi : i < k) (hk : i < xs.length), xs[i] ≠ x) : indexOf xs x = k := by
  have : xs.idxOf? x = some k := by
    rw [List.idxOf?, List.findIdx?_eq_some_iff_getElem]
    exact ⟨h, by simpa using hx, fun i hi => by simpa using hne i hi (by omega)⟩
  simp [indexOf, this]

theorem indexOf_none {xs : List Nm} {x : Nm} (hne : ∀ i (hk : i < xs.length), xs[i] ≠ x) : indexOf xs x = -1 := by
  have : xs.idxOf? x = none := by
    rw [List.idxOf?_eq_none_iff]
    intro h
    obtain ⟨i, hi, e⟩ := List.mem_iff_getElem.1 h
    exact hne i hi e
  simp [indexOf, this]

theorem index_runs {H : Heap} {v : Value} {xs : List Nm} (x : Nm) (h : Sl H 1 v (strs xs)) (hx : xs.length < 2 ^ 40) :
    big tab 22 [v, str x] H = some (.int .i64 (indexOf xs x), H) := by
  obtain ⟨a, c, rfl, hc, hcs⟩ := h
  rw [strs_len] at *
  have goal : ∃ r H1, big tab 22 [.slice a xs.length c, str x] H = some (r, H1) ∧ H1 = H ∧ r = .int .i64 (indexOf xs x) := by
    refine big_of_runs rfl rfl rfl ?_
    obtain ⟨z, hz⟩ := startC_mkS Try.f22 [.slice a xs.length c, str x]
    rw [show startC (22, Try.f22).snd [Value.slice a xs.length c, str x] = _ from hz]
    refine Runs.seq (Runs.region ?_)
    repeat refine Rg.opp rfl rfl rfl rfl rfl ?_
    refine Rg.nil ?_
    refine Runs.seq (Runs.seq (Runs.region ?_))
    repeat refine Rg.opp rfl rfl rfl rfl rfl ?_
    refine Rg.nil ?_
    refine Runs.block ?_
    refine Runs.loop (fun m s H1 => H1 = H ∧ ∃ k, k ≤ xs.length ∧ m = xs.length - k ∧ (∀ i (hi : i < k) (hk : i < xs.length), xs[i] ≠ x) ∧ Is s 19 [(0, .slice a xs.length c), (1, str x), (5, nat k)]) _ ⟨rfl, 0, Nat.zero_le _, rfl, by intro i hi; omega, Is.of ⟨rfl, rfl, rfl, rfl, rfl, rfl, trivial⟩⟩ ?_
    rintro m s _ ⟨rfl, k, hk, rfl, hne, hs⟩
    obtain ⟨a0, rfl⟩ := hs.mk1
    refine Runs.seq (Runs.seq (Runs.region ?_))
    repeat refine Rg.opp rfl rfl rfl rfl rfl ?_
    refine Rg.nil ?_
    refine Runs.cond _ rfl (fun hlt => ?_) (fun hlt => ?_)
    · refine Runs.skip ?_
      have hlt : k < xs.length := by have := of_decide_eq_true hlt; omega
      obtain ⟨b, o, rfl, hsz, hr⟩ := hcs.lt (i := k) (by rw [strs_len]; exact hlt)
      refine Runs.seq (Runs.block ?_)
      refine Runs.seq (Runs.region ?_)
      repeat refine Rg.opp rfl rfl rfl rfl rfl ?_
      refine Rg.opp rfl rfl rfl (ev_at rfl rfl rfl rfl (by decide) hlt) rfl ?_
      refine Rg.opp rfl rfl rfl (ev_load1 rfl rfl (hr k _ (strs_get hlt)) rfl) rfl ?_
      repeat refine Rg.opp rfl rfl rfl rfl rfl ?_
      refine Rg.nil ?_
      refine Runs.cond _ rfl (fun heq => ?_) (fun heq => ?_)
      · refine Runs.seq (Runs.region ?_)
        repeat refine Rg.opp rfl rfl rfl rfl rfl ?_
        refine Rg.nil ?_
        refine Runs.ret ⟨_, rfl, rfl, ?_⟩
        rw [indexOf_at hlt (by simpa using heq) hne]; rfl
      · refine Runs.skip ?_
        refine Runs.region ?_
        repeat refine Rg.opp rfl rfl rfl rfl rfl ?_
        refine Rg.nil ?_
        refine ⟨xs.length - (k + 1), by omega, rfl, k + 1, hlt, rfl, ?_, Is.of ⟨rfl, rfl, rfl, rfl, rfl, congrArg (Value.int .i64) (wrap_succ (by omega)), trivial⟩⟩
        intro i hi hk2
        rcases Nat.lt_or_ge i k with q | q
        · exact hne i q hk2
        · have : i = k := by omega
          subst this; simpa using heq
    · refine Runs.exit ?_
      refine Runs.seq (Runs.region ?_)
      repeat refine Rg.opp rfl rfl rfl rfl rfl ?_
      refine Rg.nil ?_
      refine Runs.ret ⟨_, rfl, rfl, ?_⟩
      have : k = xs.length := by have := of_decide_eq_false hlt; omega
      rw [indexOf_none fun i hi => hne i (by omega) hi]; rfl
  obtain ⟨r, H1, h1, rfl, rfl⟩ := goal
  exact h1

/-! ### Functions of plain values -/

theorem arc_runs (k : Nat) (u l : Nm) (H : Heap) : big tab 25 [.agg #[nat k, str u, str l]] H = some (.bool (decide (k ≠ 4)), H) := by
  refine big_ext (T := tab) (f := 25) rfl ?_
  have h : callC tab0 20 25 [.agg #[nat k, str u, str l]] [] = some (.bool ((k : Int) != 4), [.row 3 [nat k, str u, str l] true true]) := rfl
  have e : ((k : Int) != 4) = decide (k ≠ 4) := by
    by_cases q : k = 4
    · subst q; rfl
    · have : (k : Int) ≠ 4 := by omega
      simp [q, this]
  rw [e] at h
  exact pureB_is 20 rfl h rfl H

/-- The names of the units. -/
def nm (i : Nat) : Nm := [65 + UInt8.ofNat i]

theorem name_runs (i : Nat) (hi : i < 6) (H : Heap) : big tab 30 [nat i] H = some (str (nm i), H) := by
  refine big_ext (T := tab) (f := 30) rfl ?_
  have : ∃ E, callC tab0 20 30 [nat i] [] = some (str (nm i), E) := by
    match i, hi with
    | 0, _ => exact ⟨_, rfl⟩
    | 1, _ => exact ⟨_, rfl⟩
    | 2, _ => exact ⟨_, rfl⟩
    | 3, _ => exact ⟨_, rfl⟩
    | 4, _ => exact ⟨_, rfl⟩
    | 5, _ => exact ⟨_, rfl⟩
  obtain ⟨E, h⟩ := this
  exact pureB_is 20 rfl h rfl H

end Go.Proofs.Ytdhbclplondmjaa.C

end

section
/- The law's Make. -/
set_option linter.unusedVariables false
set_option maxRecDepth 100000
namespace Go.Proofs.Ytdhbclplondmjaa.C
open Go.RowKit

/-- What describes a relation. -/
structure Seen where
  k : Nat
  u : Nat
  l : Nat

abbrev u8 (x : Nat) : Value := .int .u8 (x : Int)
def seens (xs : List Seen) : List (List Value) := xs.map fun s => [u8 s.k, u8 s.u, u8 s.l]
theorem seens_len (xs : List Seen) : (seens xs).length = xs.length := by simp [seens]
theorem seens_get {xs : List Seen} {i : Nat} (h : i < xs.length) : (seens xs)[i]? = some [u8 xs[i].k, u8 xs[i].u, u8 xs[i].l] := by simp [seens, h]

def mkA (s : Seen) : Nat := s.u % 6
def mkB (s : Seen) : Nat := if s.u % 6 = s.l % 6 then (s.u % 6 + 1) % 6 else s.l % 6
def mk (s : Seen) : Rel := ⟨1 + s.k % 4, nm (mkA s), nm (mkB s)⟩

section
variable {T : Tab} {s : List Value} {H : Heap}

theorem ev_bin {op : BinOp} {t t2 : TypeId} {x y : Operand} {k : IntKind} {a b : Int} {v : Value} (hx : ev s x = .int k a) (hy : ev s y = .int k b) (hop : op ≠ .shl ∧ op ≠ .shr) (h : binInt op k a b = some v) : opEval T s H (.binOp op t x y t2) = some (v, H) := by
  have : binOp T op t (.int k a) (.int k b) = some v := by
    unfold binOp
    cases op <;> simp_all
  simp only [opEval, hx, hy, this, Option.map_some]

theorem ev_lt {t t2 : TypeId} {x y : Operand} {k : IntKind} {a b : Int} (p : Bool) (hx : ev s x = .int k a) (hy : ev s y = .int k b) (h : decide (a < b) = p) : opEval T s H (.binOp .lss t x y t2) = some (.bool p, H) :=
  ev_bin hx hy (by decide) (by simp [binInt, h])
theorem ev_eq {t t2 : TypeId} {x y : Operand} {k : IntKind} {a b : Int} (p : Bool) (hx : ev s x = .int k a) (hy : ev s y = .int k b) (h : decide (a = b) = p) : opEval T s H (.binOp .eql t x y t2) = some (.bool p, H) :=
  ev_bin hx hy (by decide) (by subst h; simp [binInt]; by_cases q : a = b <;> simp [q])

theorem ev_rem {t t2 : TypeId} {x y : Operand} {k : IntKind} {a b : Nat} (hx : ev s x = .int k (a : Nat)) (hy : ev s y = .int k (b : Nat)) (hb : b ≠ 0) : opEval T s H (.binOp .rem t x y t2) = some (.int k ((a % b : Nat) : Int), H) := by
  refine ev_bin hx hy (by decide) ?_
  have : (b : Int) ≠ 0 := by omega
  simp only [binInt, if_neg this]
  rw [← Int.ofNat_tmod]

theorem ev_conv {src dst : TypeId} {x : Operand} {k : IntKind} {a : Nat} (hx : ev s x = .int k (a : Nat)) (h1 : T.d src = some (.int k)) (h2 : T.d dst = some (.int .i64)) (ha : a < 2 ^ 62) : opEval T s H (.convert src dst x) = some (nat a, H) := by
  simp only [opEval, hx, vConvert, h1, h2, wrap_nat ha]

theorem ev_addn {t t2 : TypeId} {x y : Operand} {a b : Nat} (hx : ev s x = .int .i64 (a : Nat)) (hy : ev s y = .int .i64 (b : Nat)) (hb : a + b < 2 ^ 62) : opEval T s H (.binOp .add t x y t2) = some (nat (a + b), H) := by
  refine ev_bin hx hy (by decide) ?_
  simp only [binInt]
  rw [show ((a : Int) + (b : Int)) = ((a + b : Nat) : Int) by omega, wrap_nat hb]

/-- A field of an element. -/
theorem ev_fld {t : TypeId} {x : Operand} {f : Nat} {i k : TI} {fs : List (TypeId × Nat)} {p : TypeId × Nat} {b o : Nat} (hx : ev s x = .pointer (some ⟨b, o, none⟩)) (ht : T.T t = some i) (hd : i.desc = .struct fs) (hf : fs[f]? = some p) (hk : T.T p.1 = some k) (hp : 0 < k.size) :
    opEval T s H (.fieldAddr t x f) = some (.pointer (some ⟨b, o + p.2, none⟩), H) := by
  simp only [opEval, hx, vFieldAddr, ht, hd, hf, hk, Option.bind_eq_bind, Option.bind_some, if_pos hp, Option.map_some]

end

/-- A cell among cells. -/
theorem read_one {H : Heap} {b o n j : Nat} {cs : List Value} {v : Value} (h : readCells H b o n = some cs) (hj : cs[j]? = some v) : readCells H b (o + j) 1 = some [v] := by
  unfold readCells at *
  split at h
  · rename_i sz all own hb
    split at h
    · rename_i hle
      simp only [Option.some.injEq] at h
      subst h
      have hlt := (List.getElem?_eq_some_iff.1 hj).1
      simp at hlt
      rw [if_pos (by omega)]
      rw [List.getElem?_take_of_lt (by omega), List.getElem?_drop] at hj
      rw [show (all.drop (o + j)).take 1 = [v] from ?_]
      have h1 := (List.getElem?_eq_some_iff.1 hj)
      obtain ⟨h1, h2⟩ := h1
      rw [List.drop_eq_getElem_cons h1, h2]
      rfl
    · simp at h
  · simp at h

theorem mk_le (s : Seen) : mkA s < 6 ∧ mkB s < 6 := by
  unfold mkA mkB
  constructor
  · omega
  · split <;> omega

theorem evW_op {T : Tab} {call : CallF} {s : List Value} {H : Heap} {o : Op} {r : Value × Heap} (h : opEval T s H o = some r) : evalOp T call s H o = some r := by unfold evalOp; rw [h]

theorem quiet_pure {T : Tab} {f : FuncId} {args : List Value} {v : Value} (h : ∀ K, big T f args K = some (v, K)) (H : Heap) : quiet (big T) f args H = some (v, H) := by
  unfold quiet
  rw [h]
  simp

theorem acc_inPlace {s : List Value} {H : Heap} {x y : Operand} {ats : Array TypeId} {lo sz p m c2 : Nat} {w : Value} {a2 : Option Addr} {es : List (List Value)} (h : Acc H lo sz w es p) (hx : ev s x = w) (hy : ev s y = .slice a2 m c2) : inPlace s (.call { callee := .builtin .append, args := #[x, y], argTypes := ats }) = false := by
  unfold inPlace
  simp only [List.map_cons, List.map_nil, hx, hy]
  obtain ⟨_, ⟨_, rfl⟩ | ⟨rfl, _, _⟩⟩ := h
  · simp; intro _ h; omega
  · simp

theorem make_runs {H : Heap} {v : Value} {xs : List Seen} (h : Sl H 3 v (seens xs)) (hsm : ∀ s ∈ xs, s.k < 256 ∧ s.u < 256 ∧ s.l < 256) (hxl : xs.length < 2 ^ 60) :
    ∃ r H1, big tab 11 [v] H = some (r, H1) ∧ Ext H H1 ∧ ∃ p, Acc H1 H.length 3 r (rels ((xs.take 8).map mk)) p := by
  obtain ⟨a, c, rfl, hc, hcs⟩ := h
  simp only [seens_len] at *
  refine big_of_runs rfl rfl rfl ?_
  obtain ⟨z, hz⟩ := startC_mkS Try.f11 [.slice a xs.length c]
  rw [show startC (11, Try.f11).snd [Value.slice a xs.length c] = _ from hz]
  refine Runs.seq (Runs.region ?_)
  repeat refine Rg.opp rfl rfl rfl rfl rfl ?_
  refine Rg.nil ?_
  refine Runs.seq (Runs.region ?_)
  repeat refine Rg.opp rfl rfl rfl rfl rfl ?_
  refine Rg.nil ?_
  refine Runs.seq (Runs.seq (Runs.region ?_))
  repeat refine Rg.opp rfl rfl rfl rfl rfl ?_
  refine Rg.nil ?_
  refine Runs.block ?_
  refine Runs.loop (fun m s H1 => ∃ k w p, k ≤ xs.length ∧ k ≤ 8 ∧ m = 8 - k ∧ Ext H H1 ∧ Acc H1 H.length 3 w (rels ((xs.take k).map mk)) p ∧ Is s 54 [(0, .slice a xs.length c), (3, w), (4, nat k)]) _
    ⟨0, .slice none 0 0, 0, Nat.zero_le _, Nat.zero_le _, rfl, Ext.refl H, Acc.nil _ _ _ _, Is.of ⟨rfl, rfl, rfl, rfl, rfl, rfl, trivial⟩⟩ ?_
  rintro m s H1 ⟨k, w, p, hk, hk8, rfl, he, hacc, hs⟩
  obtain ⟨a0, rfl⟩ := hs.mk1
  have hend : k = xs.length ∨ k = 8 → ∃ v1, resultsC tab Try.f11 (mkS 54 a0 [(2, w), (53, w), (0, .slice a xs.length c), (3, w), (4, nat k)]) H1 = some v1 ∧ Ext H H1 ∧ ∃ p, Acc H1 H.length 3 v1 (rels ((xs.take 8).map mk)) p := by
    intro hor
    refine ⟨w, rfl, he, p, ?_⟩
    rcases hor with rfl | rfl
    · rw [List.take_of_length_le (Nat.le_refl _)] at hacc
      rw [List.take_of_length_le hk8]; exact hacc
    · exact hacc
  by_cases hlt : k < xs.length
  · by_cases hlt8 : k < 8
    · refine Runs.seq (Runs.seq (Runs.region ?_))
      refine Rg.opp rfl rfl rfl rfl rfl ?_
      refine Rg.opp rfl rfl rfl rfl rfl ?_
      refine Rg.opp rfl rfl rfl rfl rfl ?_
      refine Rg.opp rfl rfl rfl (ev_lt true rfl rfl (by simp; omega)) rfl ?_
      refine Rg.opp rfl rfl rfl rfl rfl ?_
      refine Rg.guards true rfl rfl rfl (fun _ => ⟨_, _, evW_op rfl, rfl, ?_⟩) (fun h => by cases h)
      refine Rg.guards true rfl rfl rfl (fun _ => ⟨_, _, evW_op (ev_lt true rfl rfl (by simp; omega)), rfl, ?_⟩) (fun h => by cases h)
      refine Rg.opp rfl rfl rfl rfl rfl ?_
      refine Rg.nil ?_
      refine Runs.cond true rfl (fun _ => ?_) (fun h => by cases h)
      refine Runs.skip ?_
      have hcs1 := hcs.sees he.sees
      obtain ⟨b, o, rfl, hsz, hr⟩ := hcs1.lt (i := k) (by rw [seens_len]; exact hlt)
      have hrk := hr k _ (seens_get hlt)
      obtain ⟨q1, q2, q3⟩ := hsm xs[k] (List.getElem_mem hlt)
      refine Runs.cut (n := 54) (l := [(0, .slice (some ⟨b, o, none⟩) xs.length c), (3, w), (4, nat k)]) (Is.of ⟨rfl, rfl, rfl, rfl, rfl, rfl, trivial⟩) (fun a1 => ?_)
      refine Runs.seq (Runs.block ?_)
      refine Runs.seq (Runs.drawn (is := List.range 16) (by decide +kernel) ?_)
      refine Rg.opp rfl rfl rfl rfl rfl ?_
      refine Rg.opp rfl rfl rfl rfl rfl ?_
      refine Rg.opp rfl rfl rfl (ev_at rfl rfl rfl rfl (by decide) hlt) rfl ?_
      refine Rg.opp rfl rfl rfl (ev_fld rfl rfl rfl rfl rfl (by decide)) rfl ?_
      refine Rg.opp rfl rfl rfl (ev_load1 rfl rfl (read_one hrk (j := 1) rfl) rfl) rfl ?_
      refine Rg.opp rfl rfl rfl (ev_rem (b := 6) rfl rfl (by decide)) rfl ?_
      refine Rg.opp rfl rfl rfl (ev_conv rfl rfl rfl (by omega)) rfl ?_
      refine Rg.opp rfl rfl rfl rfl rfl ?_
      refine Rg.opp rfl rfl rfl rfl rfl ?_
      refine Rg.opp rfl rfl rfl (ev_at rfl rfl rfl rfl (by decide) hlt) rfl ?_
      refine Rg.opp rfl rfl rfl (ev_fld rfl rfl rfl rfl rfl (by decide)) rfl ?_
      refine Rg.opp rfl rfl rfl (ev_load1 rfl rfl (read_one hrk (j := 2) rfl) rfl) rfl ?_
      refine Rg.opp rfl rfl rfl (ev_rem (b := 6) rfl rfl (by decide)) rfl ?_
      refine Rg.opp rfl rfl rfl (ev_conv rfl rfl rfl (by omega)) rfl ?_
      refine Rg.opp rfl rfl rfl rfl rfl ?_
      refine Rg.opp rfl rfl rfl rfl rfl ?_
      refine Rg.nil ?_
      refine Runs.cut (n := 54) (l := [(0, .slice (some ⟨b, o, none⟩) xs.length c), (3, w), (4, nat k), (5, nat (mkA xs[k])), (6, nat (xs[k].l % 6))]) (Is.of ⟨rfl, rfl, rfl, rfl, rfl, rfl, rfl, rfl, rfl, rfl, trivial⟩) (fun a2 => ?_)
      refine Runs.seq (Runs.mono (N := fun s H2 => H1 = H2 ∧ Is s 54 [(0, .slice (some ⟨b, o, none⟩) xs.length c), (3, w), (4, nat k), (5, nat (mkA xs[k])), (6, nat (mkB xs[k]))]) (X := fun _ _ _ => False) (R := fun _ _ => False) ?_ ?_ (fun _ _ _ h => h.elim) (fun _ _ h => h.elim))
      · refine Runs.seq (Runs.region ?_)
        refine Rg.opp rfl rfl rfl rfl rfl ?_
        refine Rg.opp rfl rfl rfl rfl rfl ?_
        by_cases hab : xs[k].u % 6 = xs[k].l % 6
        · refine Rg.opp rfl rfl rfl (ev_eq true rfl rfl (decide_eq_true (by unfold mkA; omega))) rfl ?_
          refine Rg.nil ?_
          refine Runs.cond true rfl (fun _ => ?_) (fun h => by cases h)
          refine Runs.region ?_
          refine Rg.opp rfl rfl rfl rfl rfl ?_
          refine Rg.opp rfl rfl rfl (ev_addn (b := 1) rfl rfl (by have := (mk_le xs[k]).1; omega)) rfl ?_
          refine Rg.opp rfl rfl rfl (ev_rem (b := 6) rfl rfl (by decide)) rfl ?_
          refine Rg.opp rfl rfl rfl rfl rfl ?_
          refine Rg.nil ⟨rfl, Is.of ⟨rfl, rfl, rfl, rfl, rfl, rfl, rfl, rfl, rfl, ?_, trivial⟩⟩
          show nat ((mkA xs[k] + 1) % 6) = nat (mkB xs[k])
          rw [mkB, if_pos hab]; rfl
        · refine Rg.opp rfl rfl rfl (ev_eq false rfl rfl (decide_eq_false (by unfold mkA; omega))) rfl ?_
          refine Rg.nil ?_
          refine Runs.cond false rfl (fun h => by cases h) (fun _ => ?_)
          refine Runs.skip ⟨rfl, Is.of ⟨rfl, rfl, rfl, rfl, rfl, rfl, rfl, rfl, rfl, ?_, trivial⟩⟩
          show nat (xs[k].l % 6) = nat (mkB xs[k])
          rw [mkB, if_neg hab]
      · rintro s _ ⟨rfl, hs⟩
        obtain ⟨a3, rfl⟩ := hs.mk1
        obtain ⟨hA, hB⟩ := mk_le xs[k]
        refine Runs.drawn (is := List.range 17) (by decide +kernel) ?_
        refine Rg.opp rfl rfl rfl rfl rfl ?_
        refine Rg.opp rfl rfl rfl rfl rfl ?_
        refine Rg.opp rfl rfl rfl rfl rfl ?_
        refine Rg.opp rfl rfl rfl (ev_at rfl rfl rfl rfl (by decide) hlt) rfl ?_
        refine Rg.opp rfl rfl rfl (ev_fld rfl rfl rfl rfl rfl (by decide)) rfl ?_
        refine Rg.opp rfl rfl rfl (ev_load1 rfl rfl (read_one hrk (j := 0) rfl) rfl) rfl ?_
        refine Rg.opp rfl rfl rfl (ev_rem (b := 4) rfl rfl (by decide)) rfl ?_
        refine Rg.opp rfl rfl rfl (ev_conv rfl rfl rfl (by omega)) rfl ?_
        refine Rg.opp rfl rfl rfl (ev_addn (a := 1) rfl rfl (by omega)) rfl ?_
        refine Rg.opp rfl rfl rfl rfl rfl ?_
        refine Rg.calls rfl rfl rfl rfl rfl rfl (quiet_pure (fun K => name_runs _ hA K) _) ?_
        refine Rg.opp rfl rfl rfl rfl rfl ?_
        refine Rg.calls rfl rfl rfl rfl rfl rfl (quiet_pure (fun K => name_runs _ hB K) _) ?_
        refine Rg.opp rfl rfl rfl rfl rfl ?_
        refine Rg.opp rfl rfl rfl rfl rfl ?_
        have hkeep : Acc (H1 ++ [Blk.row 3 (relC (mk xs[k])) true true]) H.length 3 w (rels ((xs.take k).map mk)) p := hacc.keep fun b X hb _ => by rw [List.getElem?_append_left (List.getElem?_eq_some_iff.1 hb).1]; exact hb
        have hsrc : srcCells (H1 ++ [Blk.row 3 (relC (mk xs[k])) true true]) (some ⟨H1.length, 0, none⟩) [relC (mk xs[k])].length 3 = some [relC (mk xs[k])].flatten := by
          have : (H1 ++ [Blk.row 3 (relC (mk xs[k])) true true])[H1.length]? = some (Blk.row 3 (relC (mk xs[k])) true true) := List.getElem?_concat_length
          simp only [srcCells, readCells, this]
          rfl
        have hlen : (rels ((xs.take k).map mk)).length = k := by simp [rels]; omega
        have hel := he.len
        obtain ⟨w2, H2, p2, happ, hacc2, hgrow⟩ := push_app (T := tab) (t := 25) (e := 41) (i := _) (ei := _) ⟨rfl, rfl, rfl, by decide⟩ hkeep (c2 := 1) hsrc (by simp [oneCell]) (by rw [hlen]; show (k + 1) * 40 ≤ 2 ^ 40; omega) (by rw [hlen]; show k + 1 ≤ 2 ^ 40; omega) (by simp; omega)
        refine Rg.opp rfl rfl rfl (ev_append rfl rfl happ) (by simp only [Bool.true_and]; exact acc_inPlace hacc rfl rfl) ?_
        refine Rg.opp rfl rfl rfl rfl rfl ?_
        refine Rg.nil ?_
        refine Runs.region ?_
        refine Rg.opp rfl rfl rfl rfl rfl ?_
        refine Rg.opp rfl rfl rfl (ev_addn (b := 1) rfl rfl (by omega)) rfl ?_
        refine Rg.opp rfl rfl rfl rfl rfl ?_
        refine Rg.nil ?_
        refine ⟨8 - (k + 1), by omega, k + 1, w2, p2, hlt, hlt8, rfl, hgrow.ext H rfl (he.row _ _), ?_, Is.of ⟨rfl, rfl, rfl, rfl, rfl, rfl, trivial⟩⟩
        rw [← List.take_append_getElem hlt, List.map_append]
        simpa [rels] using hacc2
    · have h8 : k = 8 := by omega
      refine Runs.seq (Runs.seq (Runs.region ?_))
      refine Rg.opp rfl rfl rfl rfl rfl ?_
      refine Rg.opp rfl rfl rfl rfl rfl ?_
      refine Rg.opp rfl rfl rfl rfl rfl ?_
      refine Rg.opp rfl rfl rfl (ev_lt true rfl rfl (by simp; omega)) rfl ?_
      refine Rg.opp rfl rfl rfl rfl rfl ?_
      refine Rg.guards true rfl rfl rfl (fun _ => ⟨_, _, evW_op rfl, rfl, ?_⟩) (fun h => by cases h)
      refine Rg.guards true rfl rfl rfl (fun _ => ⟨_, _, evW_op (ev_lt false rfl rfl (by simp; omega)), rfl, ?_⟩) (fun h => by cases h)
      refine Rg.opp rfl rfl rfl rfl rfl ?_
      refine Rg.nil ?_
      refine Runs.cond false rfl (fun h => by cases h) (fun _ => ?_)
      refine Runs.exit ?_
      refine Runs.seq (Runs.region ?_)
      repeat refine Rg.opp rfl rfl rfl rfl rfl ?_
      refine Rg.nil ?_
      exact Runs.ret (hend (.inr h8))
  · have h8 : k = xs.length := by omega
    refine Runs.seq (Runs.seq (Runs.region ?_))
    refine Rg.opp rfl rfl rfl rfl rfl ?_
    refine Rg.opp rfl rfl rfl rfl rfl ?_
    refine Rg.opp rfl rfl rfl rfl rfl ?_
    refine Rg.opp rfl rfl rfl (ev_lt false rfl rfl (by simp; omega)) rfl ?_
    refine Rg.opp rfl rfl rfl rfl rfl ?_
    refine Rg.guards false rfl rfl rfl (fun h => by cases h) (fun _ => ?_)
    refine Rg.guards false rfl rfl rfl (fun h => by cases h) (fun _ => ?_)
    refine Rg.opp rfl rfl rfl rfl rfl ?_
    refine Rg.nil ?_
    refine Runs.cond false rfl (fun h => by cases h) (fun _ => ?_)
    refine Runs.exit ?_
    refine Runs.seq (Runs.region ?_)
    repeat refine Rg.opp rfl rfl rfl rfl rfl ?_
    refine Rg.nil ?_
    exact Runs.ret (hend (.inl h8))

end Go.Proofs.Ytdhbclplondmjaa.C

end

section
/- The program's units. -/
set_option linter.unusedVariables false
set_option maxRecDepth 100000
namespace Go.Proofs.Ytdhbclplondmjaa.C
open Go.RowKit Go.Sort

theorem setCells_all : ∀ (zs vs pre : List Value), zs.length = vs.length → setCells (pre ++ zs) pre.length vs = pre ++ vs
  | zs, [], pre, h => by
    have : zs = [] := List.length_eq_zero_iff.1 (by simpa using h)
    subst this; simp [setCells]
  | [], v :: vs, pre, h => by simp at h
  | z :: zs, v :: vs, pre, h => by
    unfold setCells
    have := setCells_all zs vs (pre ++ [v]) (by simpa using h)
    simp only [List.append_assoc, List.singleton_append, List.length_append, List.length_singleton] at this
    rw [show (pre ++ z :: zs).set pre.length v = pre ++ v :: zs by simp]
    exact this
theorem setCells_whole {zs vs : List Value} (h : zs.length = vs.length) : setCells zs 0 vs = vs := by
  simpa using setCells_all zs vs [] h

theorem setCells_pre : ∀ (vs zs : List Value) (k : Nat), vs.length = k → k ≤ zs.length → setCells zs 0 vs = vs ++ zs.drop k
  | vs, zs, k, h, hk => by
    have := setCells_all (zs.take k) vs [] (by simp; omega)
    have key : ∀ (vs a b : List Value) (o : Nat), o + vs.length ≤ a.length → setCells (a ++ b) o vs = setCells a o vs ++ b := by
      intro vs
      induction vs with
      | nil => intro a b o _; rfl
      | cons v vs ih =>
        intro a b o ho
        simp only [List.length_cons] at ho
        unfold setCells
        rw [List.set_append_left _ _ (by omega)]
        exact ih _ _ _ (by simp; omega)
    have h2 := key vs (zs.take k) (zs.drop k) 0 (by simp; omega)
    rw [List.take_append_drop] at h2
    rw [h2, setCells_whole (by simp; omega)]

theorem write_whole {H : Heap} {b sz : Nat} {zs vs : List Value} (h : H[b]? = some (.row sz zs true true)) (hl : zs.length = vs.length) (ho : vs.all oneCell = true) : writeCells H b 0 vs = some (H.set b (.row sz vs true true)) := by
  have : 0 + vs.length ≤ zs.length := by omega
  simp only [writeCells, ho, if_true, h, if_pos this, setCells_whole hl]

/-- A variable that has just been laid is set. -/
theorem ev_set {T : Tab} {s : List Value} {K : Heap} {t : TypeId} {a v : Operand} {i : TI} {sz : Nat} {zs cs : List Value} (ha : ev s a = .pointer (some ⟨K.length, 0, none⟩)) (hv : ev s v = .agg cs.toArray) (hT : T.T t = some i) (hl : zs.length = cs.length) (hi : cs.length = i.size) (ho : cs.all oneCell = true) :
    opEval T s (K ++ [.row sz zs true true]) (.store t a v) = some (undef, K ++ [.row sz cs true true]) := by
  have hb : (K ++ [Blk.row sz zs true true])[K.length]? = some (.row sz zs true true) := List.getElem?_concat_length
  have hw := write_whole hb hl ho
  have hs : (K ++ [Blk.row sz zs true true]).set K.length (Blk.row sz cs true true) = K ++ [Blk.row sz cs true true] := by simp
  rw [hs] at hw
  have h3 : (cellsOf (Value.agg cs.toArray)).length = i.size := by simpa [cellsOf] using hi
  simp only [opEval, vStore, hT, ha, hv, Option.bind_eq_bind, Option.bind_some, if_pos h3]
  simp only [cellsOf, List.toList_toArray, hw, Option.map_some]

theorem read_last {K : Heap} {sz j : Nat} {cs : List Value} {v : Value} (h : cs[j]? = some v) : readCells (K ++ [.row sz cs true true]) K.length (0 + j) 1 = some [v] := by
  have hb : (K ++ [Blk.row sz cs true true])[K.length]? = some (.row sz cs true true) := List.getElem?_concat_length
  have hr : readCells (K ++ [.row sz cs true true]) K.length 0 cs.length = some cs := by
    simp only [readCells, hb]
    rw [if_pos (by omega)]
    simp
  exact read_one hr h

theorem strs_flat (xs : List Nm) : (strs xs).flatten = xs.map encStr := by
  induction xs with
  | nil => rfl
  | cons x xs ih =>
    show [str x] ++ (strs xs).flatten = _
    rw [ih]; rfl

theorem strsC_strs : ∀ xs : List Nm, strsC (xs.map encStr) = some xs
  | [] => rfl
  | x :: xs => by
    show (strsC (xs.map encStr)).map (fun r => (ByteArray.mk x.toArray).data.toList :: r) = _
    rw [strsC_strs xs]
    simp

theorem enc_one (xs : List Nm) : (xs.map encStr).all oneCell = true := by
  simp only [List.all_map, List.all_eq_true]
  intro x _
  rfl

theorem onStrs_is {H : Heap} {p sz : Nat} {xs ys : List Nm} {g : List Nm → List Nm} (h : H[p]? = some (.row sz (strs xs).flatten true true)) (hg : (g xs).length = xs.length) : onStrs g H p 0 xs.length = some (xs, H.set p (.row sz (strs (g xs)).flatten true true)) := by
  have hl : (strs xs).flatten.length = xs.length := by rw [strs_flat]; simp
  have hr : readCells H p 0 xs.length = some (strs xs).flatten := by
    simp only [readCells, h]
    rw [if_pos (by omega), ← hl, List.drop_zero, List.take_length]
  have hw := write_whole (vs := (g xs).map encStr) h (by rw [hl]; simp [hg]) (enc_one _)
  unfold onStrs
  simp only [h, hr, Option.bind_some]
  rw [strs_flat, strsC_strs]
  simp only [Option.bind_some, hw, Option.map_some, strs_flat]

abbrev sortNm (xs : List Nm) : List Nm := xs.mergeSort fun x y => decide (x ≤ y)

theorem sort_acc {H : Heap} {lo p : Nat} {w : Value} {xs : List Nm} (h : Acc H lo 1 w (strs xs) p) (hn : xs.length < 2 ^ 40) :
    ∃ H1, sortX [w] H = some (.tuple #[], H1) ∧ Acc H1 lo 1 w (strs (sortNm xs)) p ∧ (∀ H0 : Heap, H0.length = lo → Ext H0 H → Ext H0 H1) := by
  obtain ⟨hs, ⟨hnil, rfl⟩ | ⟨rfl, h1, h2⟩⟩ := h
  · have : xs = [] := by simpa [strs] using hnil
    subst this
    have e : sortNm [] = [] := by simp [sortNm]
    rw [e]
    exact ⟨H, rfl, ⟨by simp [strs], .inl ⟨rfl, rfl⟩⟩, fun _ _ h => h⟩
  · by_cases h0 : xs = []
    · subst h0
      have e : sortNm [] = [] := by simp [sortNm]
      rw [e]
      exact ⟨H, rfl, ⟨by simp [strs], .inr ⟨rfl, h1, h2⟩⟩, fun _ _ h => h⟩
    · have hl : (sortNm xs).length = xs.length := List.length_mergeSort _
      have hne : xs.length ≠ 0 := by simpa using h0
      have hon := onStrs_is (ys := xs) (g := sortNm) h2 hl
      have hlt := (List.getElem?_eq_some_iff.1 h2).1
      refine ⟨H.set p (.row 1 (strs (sortNm xs)).flatten true true), ?_, ⟨by simp [strs], .inr ⟨by simp only [strs_len, hl], h1, by simp [hlt]⟩⟩, fun H0 hl0 he => he.set rfl (by omega)⟩
      unfold sortX
      simp only [strs_len, hne, if_false]
      rw [if_neg (by omega), hon]
      rfl

theorem compact_acc {H : Heap} {lo p : Nat} {w : Value} {xs : List Nm} (h : Acc H lo 1 w (strs xs) p) (hn : xs.length < 2 ^ 40) :
    ∃ r H1, compactX [w] H = some (r, H1) ∧ Sl H1 1 r (strs (Lib.compact xs)) ∧ (∀ H0 : Heap, H0.length = lo → Ext H0 H → Ext H0 H1) := by
  obtain ⟨hs, ⟨hnil, rfl⟩ | ⟨rfl, h1, h2⟩⟩ := h
  · have : xs = [] := by simpa [strs] using hnil
    subst this
    exact ⟨_, H, rfl, Sl.nil _ _, fun _ _ h => h⟩
  · by_cases h0 : xs = []
    · subst h0
      exact ⟨_, H, rfl, ⟨_, _, rfl, Nat.zero_le _, .inl rfl⟩, fun _ _ h => h⟩
    · have hne : xs.length ≠ 0 := by simpa using h0
      have hle := Lib.compact_length_le xs
      have hl : (Lib.compact xs ++ List.replicate (xs.length - (Lib.compact xs).length) ([] : Nm)).length = xs.length := by simp; omega
      have hon := onStrs_is (ys := xs) (g := fun ss => Lib.compact ss ++ List.replicate (ss.length - (Lib.compact ss).length) []) h2 hl
      have hlt := (List.getElem?_eq_some_iff.1 h2).1
      refine ⟨.slice (some ⟨p, 0, none⟩) (Lib.compact xs).length unk, H.set p (.row 1 (strs (Lib.compact xs ++ List.replicate (xs.length - (Lib.compact xs).length) ([] : Nm))).flatten true true), ?_, ⟨some ⟨p, 0, none⟩, unk, by simp [strs], by simp [strs, unk]; omega, ?_⟩, fun H0 hl0 he => he.set rfl (by omega)⟩
      · unfold compactX
        simp only [strs_len, hne, if_false]
        rw [if_neg (by omega), hon]
        rfl
      · have hb : (H.set p (.row 1 (strs (Lib.compact xs ++ List.replicate (xs.length - (Lib.compact xs).length) ([] : Nm))).flatten true true))[p]? = some (.row 1 (strs (Lib.compact xs ++ List.replicate (xs.length - (Lib.compact xs).length) ([] : Nm))).flatten true true) := by simp [hlt]
        have hc := Cells.row (sz := 1) (own := true) (strs_sz _) hb
        rcases hc with hc | ⟨b, o, e1, e2, e3⟩
        · have : (strs (Lib.compact xs ++ List.replicate (xs.length - (Lib.compact xs).length) ([] : Nm))).length = 0 := by rw [hc]; rfl
          rw [strs_len, hl] at this
          omega
        · refine .inr ⟨b, o, e1, e2, fun i e he => e3 i e ?_⟩
          have hi := (List.getElem?_eq_some_iff.1 he).1
          simp only [strs, List.map_append] at he ⊢
          rw [List.getElem?_append_left (by simpa [strs] using hi)]
          exact he

end Go.Proofs.Ytdhbclplondmjaa.C

end

section
/- The program's units, run. -/
set_option linter.unusedVariables false
set_option maxRecDepth 100000
namespace Go.Proofs.Ytdhbclplondmjaa.C
open Go.RowKit Go.Sort

def allNames (l : List Rel) : List Nm := l.flatMap fun r => [r.up, r.lo]
def unitsP (l : List Rel) : List Nm := Lib.compact (sortNm (allNames l))

theorem allNames_len (l : List Rel) : (allNames l).length = 2 * l.length := by
  induction l with
  | nil => rfl
  | cons r l ih => simp only [allNames, List.flatMap_cons, List.length_append, List.length_cons, List.length_nil] at *; omega

theorem unitsP_runs {H : Heap} {v : Value} {l : List Rel} (h : Sl H 3 v (rels l)) (hl : l.length < 2 ^ 30) :
    ∃ r H1, big tab 40 [v] H = some (r, H1) ∧ Ext H H1 ∧ Sl H1 1 r (strs (unitsP l)) := by
  obtain ⟨a, c, rfl, hc, hcs⟩ := h
  simp only [rels_len] at *
  refine big_of_runs rfl rfl rfl ?_
  obtain ⟨z, hz⟩ := startC_mkS Try.f40 [.slice a l.length c]
  rw [show startC (40, Try.f40).snd [Value.slice a l.length c] = _ from hz]
  refine Runs.seq (Runs.region ?_)
  repeat refine Rg.opp rfl rfl rfl rfl rfl ?_
  refine Rg.nil ?_
  refine Runs.seq (Runs.region ?_)
  repeat refine Rg.opp rfl rfl rfl rfl rfl ?_
  refine Rg.nil ?_
  refine Runs.seq (Runs.seq (Runs.region ?_))
  repeat refine Rg.opp rfl rfl rfl rfl rfl ?_
  refine Rg.nil ?_
  refine Runs.block ?_
  refine Runs.loop (fun m s H1 => ∃ k w p, k ≤ l.length ∧ m = l.length - k ∧ Ext H H1 ∧ Acc H1 H.length 1 w (strs (allNames (l.take k))) p ∧ Is s 24 [(3, w), (6, .slice a l.length c), (7, nat l.length), (8, nat k)]) _
    ⟨0, .slice none 0 0, 0, Nat.zero_le _, rfl, Ext.refl H, Acc.nil _ _ _ _, Is.of ⟨rfl, rfl, rfl, rfl, rfl, rfl, rfl, rfl, trivial⟩⟩ ?_
  rintro m s H1 ⟨k, w, p, hk, rfl, he, hacc, hs⟩
  obtain ⟨a0, rfl⟩ := hs.mk1
  by_cases hlt : k < l.length
  · refine Runs.seq (Runs.region ?_)
    refine Rg.opp rfl rfl rfl (ev_lt true rfl rfl (by simp; omega)) rfl ?_
    refine Rg.nil ?_
    refine Runs.seq (Runs.cond true rfl (fun _ => ?_) (fun h => by cases h))
    refine Runs.skip ?_
    have hcs1 := hcs.sees he.sees
    obtain ⟨b, o, rfl, hsz, hr⟩ := hcs1.lt (i := k) (by rw [rels_len]; exact hlt)
    have hrk := hr k _ (rels_get hlt)
    refine Runs.seq (Runs.block ?_)
    refine Runs.seq (Runs.region ?_)
    refine Rg.opp rfl rfl rfl (ev_at rfl rfl rfl rfl (by decide) hlt) rfl ?_
    refine Rg.opp rfl rfl rfl (ev_loadA rfl rfl hrk rfl) rfl ?_
    refine Rg.opp rfl rfl rfl rfl rfl ?_
    refine Rg.opn rfl rfl rfl (ev_set (cs := relC l[k]) rfl rfl rfl rfl rfl rfl) rfl ?_
    refine Rg.nil ?_
    have hlen1 := he.len
    have hacc1 : Acc (H1 ++ [Blk.row 3 (relC l[k]) true true]) H.length 1 w (strs (allNames (l.take k))) p := hacc.keep fun b X hb _ => by rw [List.getElem?_append_left (List.getElem?_eq_some_iff.1 hb).1]; exact hb
    have he1 : Ext H (H1 ++ [Blk.row 3 (relC l[k]) true true]) := he.row _ _
    refine Runs.region ?_
    refine Rg.opp rfl rfl rfl rfl rfl ?_
    refine Rg.opp rfl rfl rfl (ev_fld rfl rfl rfl rfl rfl (by decide)) rfl ?_
    refine Rg.opp rfl rfl rfl (ev_load1 rfl rfl (read_last (j := 1) rfl) rfl) rfl ?_
    refine Rg.opp rfl rfl rfl (ev_fld rfl rfl rfl rfl rfl (by decide)) rfl ?_
    refine Rg.opp rfl rfl rfl (ev_load1 rfl rfl (read_last (j := 2) rfl) rfl) rfl ?_
    refine Rg.opp rfl rfl rfl rfl rfl ?_
    generalize hK : H1 ++ [Blk.row 3 (relC l[k]) true true] = K at hacc1 he1
    have hkeep : Acc (K ++ [Blk.row 1 [str l[k].up, str l[k].lo] true true]) H.length 1 w (strs (allNames (l.take k))) p := hacc1.keep fun b X hb _ => by rw [List.getElem?_append_left (List.getElem?_eq_some_iff.1 hb).1]; exact hb
    have hsrc : srcCells (K ++ [Blk.row 1 [str l[k].up, str l[k].lo] true true]) (some ⟨K.length, 0, none⟩) (strs [l[k].up, l[k].lo]).length 1 = some (strs [l[k].up, l[k].lo]).flatten := by
      have : (K ++ [Blk.row 1 [str l[k].up, str l[k].lo] true true])[K.length]? = some (Blk.row 1 [str l[k].up, str l[k].lo] true true) := List.getElem?_concat_length
      simp only [srcCells, readCells, this]
      rfl
    have hlen : (strs (allNames (l.take k))).length = 2 * k := by rw [strs_len, allNames_len, List.length_take]; omega
    have hel := he1.len
    obtain ⟨w2, H2, p2, happ, hacc2, hgrow⟩ := push_app (T := tab) (t := 37) (e := 9) (i := _) (ei := _) ⟨rfl, rfl, rfl, by decide⟩ hkeep (c2 := 2) hsrc (by simp [strs, oneCell]) (by rw [hlen]; show (2 * k + 2) * 16 ≤ 2 ^ 40; omega) (by rw [hlen]; show 2 * k + 2 ≤ 2 ^ 40; omega) (by simp; omega)
    subst hK
    refine Rg.opp rfl rfl rfl (ev_append rfl rfl happ) rfl ?_
    refine Rg.opp rfl rfl rfl rfl rfl ?_
    refine Rg.nil ?_
    refine Runs.region ?_
    refine Rg.opp rfl rfl rfl (ev_addn (b := 1) rfl rfl (by omega)) rfl ?_
    refine Rg.opp rfl rfl rfl rfl rfl ?_
    refine Rg.nil ?_
    refine ⟨l.length - (k + 1), by omega, k + 1, w2, p2, hlt, rfl, hgrow.ext H rfl (he1.row _ _), ?_, Is.of ⟨rfl, rfl, rfl, rfl, rfl, rfl, rfl, rfl, trivial⟩⟩
    rw [← List.take_append_getElem hlt]
    have e : ∀ (p : List Rel) (r : Rel), strs (allNames (p ++ [r])) = strs (allNames p) ++ strs [r.up, r.lo] := by intro p r; simp [strs, allNames]
    rw [e]; exact hacc2
  · have hkl : k = l.length := by omega
    refine Runs.seq (Runs.region ?_)
    refine Rg.opp rfl rfl rfl (ev_lt false rfl rfl (by simp; omega)) rfl ?_
    refine Rg.nil ?_
    refine Runs.seq (Runs.cond false rfl (fun h => by cases h) (fun _ => ?_))
    refine Runs.exit ?_
    rw [hkl, List.take_of_length_le (Nat.le_refl _)] at hacc
    have hn : (allNames l).length < 2 ^ 40 := by rw [allNames_len]; omega
    obtain ⟨H2, hs2, hacc2, he2⟩ := sort_acc hacc hn
    have hn2 : (sortNm (allNames l)).length < 2 ^ 40 := by rw [List.length_mergeSort]; exact hn
    obtain ⟨r, H3, hs3, hsl, he3⟩ := compact_acc hacc2 hn2
    refine Runs.seq (Runs.region ?_)
    refine Rg.opp rfl rfl rfl rfl rfl ?_
    refine Rg.calls rfl rfl rfl rfl rfl rfl (big_ext (T := tab) (f := 51) rfl hs2) ?_
    refine Rg.nil ?_
    refine Runs.seq (Runs.region ?_)
    refine Rg.opp rfl rfl rfl rfl rfl ?_
    refine Rg.calls rfl rfl rfl rfl rfl rfl (big_ext (T := tab) (f := 52) rfl hs3) ?_
    refine Rg.opp rfl rfl rfl rfl rfl ?_
    refine Rg.nil ?_
    exact Runs.ret ⟨r, rfl, he3 H rfl (he2 H rfl he), hsl⟩

end Go.Proofs.Ytdhbclplondmjaa.C

end

section
/- The program's check of described relations. -/
set_option linter.unusedVariables false
set_option maxRecDepth 1000000
namespace Go.Proofs.Ytdhbclplondmjaa.C
open Go.RowKit Go.Sort

noncomputable def goodB (k u l : Nat) : Bool := match runF 100 43 [.agg #[nat k, str (nm u), str (nm l)]] [] with
  | some (.int .i64 0, _) => true
  | _ => false

set_option maxHeartbeats 0 in
theorem goodB_all : ((List.range 4).all fun k => (List.range 6).all fun u => (List.range 6).all fun l => u == l || goodB (1 + k) u l) = true := by decide +kernel

theorem check_good (s : Seen) (H : Heap) : big tab 43 [.agg #[nat (mk s).kind, str (mk s).up, str (mk s).lo]] H = some (nat 0, H) := by
  refine big_ext (T := tab) (f := 43) rfl ?_
  have h := goodB_all
  simp only [List.all_eq_true, List.mem_range, Bool.or_eq_true, beq_iff_eq] at h
  have hne : mkA s ≠ mkB s := by
    unfold mkA mkB
    split
    · omega
    · rename_i q; exact q
  have h1 := (h (s.k % 4) (by omega) (mkA s) (mk_le s).1 (mkB s) (mk_le s).2).resolve_left hne
  unfold goodB at h1
  split at h1
  · rename_i E he
    have he2 := callCF_ok 100 _ _ _ _ he
    rw [show tabF = tab0 from tabR_eq _] at he2
    exact pureB_is 100 rfl he2 rfl H
  · simp at h1

theorem read_whole {K : Heap} {sz : Nat} {cs : List Value} : readCells (K ++ [.row sz cs true true]) K.length 0 cs.length = some cs := by
  have hb : (K ++ [Blk.row sz cs true true])[K.length]? = some (.row sz cs true true) := List.getElem?_concat_length
  simp only [readCells, hb]
  rw [if_pos (by omega)]
  simp

section
variable {T : Tab} {s : List Value} {H : Heap}
theorem ev_gt {t t2 : TypeId} {x y : Operand} {k : IntKind} {a b : Int} (p : Bool) (hx : ev s x = .int k a) (hy : ev s y = .int k b) (h : decide (a > b) = p) : opEval T s H (.binOp .gtr t x y t2) = some (.bool p, H) :=
  ev_bin hx hy (by decide) (by subst h; rfl)
theorem ev_ne {t t2 : TypeId} {x y : Operand} {k : IntKind} {a b : Int} (p : Bool) (hx : ev s x = .int k a) (hy : ev s y = .int k b) (h : decide (a ≠ b) = p) : opEval T s H (.binOp .neq t x y t2) = some (.bool p, H) :=
  ev_bin hx hy (by decide) (by subst h; simp [binInt]; by_cases q : a = b <;> simp [q])
end

def Good (r : Rel) : Prop := ∀ K, big tab 43 [.agg #[nat r.kind, str r.up, str r.lo]] K = some (nat 0, K)

theorem checkP_runs {H : Heap} {v : Value} {l : List Rel} (h : Sl H 3 v (rels l)) (hl : l.length ≤ 200) (hg : ∀ r ∈ l, Good r) (hu : (unitsP l).length ≤ 60) :
    ∃ r H1, big tab 31 [v] H = some (r, H1) ∧ r = nat 0 ∧ Ext H H1 := by
  have hsl := h
  obtain ⟨a, c, rfl, hc, hcs⟩ := h
  simp only [rels_len] at *
  refine big_of_runs rfl rfl rfl ?_
  obtain ⟨z, hz⟩ := startC_mkS Try.f31 [.slice a l.length c]
  rw [show startC (31, Try.f31).snd [Value.slice a l.length c] = _ from hz]
  refine Runs.seq (Runs.region ?_)
  repeat refine Rg.opp rfl rfl rfl rfl rfl ?_
  refine Rg.nil ?_
  refine Runs.seq (Runs.seq (Runs.region ?_))
  refine Rg.opp rfl rfl rfl rfl rfl ?_
  refine Rg.opp rfl rfl rfl rfl rfl ?_
  refine Rg.opp rfl rfl rfl (ev_gt false rfl rfl (decide_eq_false (by omega))) rfl ?_
  refine Rg.nil ?_
  refine Runs.cond false rfl (fun h => by cases h) (fun _ => ?_)
  refine Runs.skip ?_
  refine Runs.seq (Runs.seq (Runs.region ?_))
  repeat refine Rg.opp rfl rfl rfl rfl rfl ?_
  refine Rg.nil ?_
  refine Runs.block ?_
  refine Runs.loop (fun m s H1 => ∃ k, k ≤ l.length ∧ m = l.length - k ∧ Ext H H1 ∧ Is s 25 [(0, .slice a l.length c), (9, .slice a l.length c), (10, nat l.length), (11, nat k)]) _
    ⟨0, Nat.zero_le _, rfl, Ext.refl H, Is.of ⟨rfl, rfl, rfl, rfl, rfl, rfl, rfl, rfl, trivial⟩⟩ ?_
  rintro m s H1 ⟨k, hk, rfl, he, hs⟩
  obtain ⟨a0, rfl⟩ := hs.mk1
  by_cases hlt : k < l.length
  · refine Runs.seq (Runs.region ?_)
    refine Rg.opp rfl rfl rfl (ev_lt true rfl rfl (by simp; omega)) rfl ?_
    refine Rg.nil ?_
    refine Runs.seq (Runs.cond true rfl (fun _ => ?_) (fun h => by cases h))
    refine Runs.skip ?_
    have hcs1 := hcs.sees he.sees
    obtain ⟨b, o, rfl, hsz, hr⟩ := hcs1.lt (i := k) (by rw [rels_len]; exact hlt)
    have hrk := hr k _ (rels_get hlt)
    refine Runs.seq (Runs.block ?_)
    refine Runs.seq (Runs.region ?_)
    refine Rg.opp rfl rfl rfl (ev_at rfl rfl rfl rfl (by decide) hlt) rfl ?_
    refine Rg.opp rfl rfl rfl (ev_loadA rfl rfl hrk rfl) rfl ?_
    refine Rg.opp rfl rfl rfl rfl rfl ?_
    refine Rg.opn rfl rfl rfl (ev_set (cs := relC l[k]) rfl rfl rfl rfl rfl rfl) rfl ?_
    refine Rg.nil ?_
    refine Runs.seq (Runs.region ?_)
    refine Rg.opp rfl rfl rfl (ev_loadA rfl rfl (read_whole (cs := relC l[k])) rfl) rfl ?_
    refine Rg.calls rfl rfl rfl rfl rfl rfl (hg l[k] (List.getElem_mem hlt) _) ?_
    refine Rg.opp rfl rfl rfl rfl rfl ?_
    refine Rg.nil ?_
    refine Runs.seq (Runs.region ?_)
    refine Rg.opp rfl rfl rfl rfl rfl ?_
    refine Rg.opp rfl rfl rfl (ev_ne false rfl rfl (by decide)) rfl ?_
    refine Rg.nil ?_
    refine Runs.cond false rfl (fun h => by cases h) (fun _ => ?_)
    refine Runs.skip ?_
    refine Runs.region ?_
    refine Rg.opp rfl rfl rfl (ev_addn (b := 1) rfl rfl (by omega)) rfl ?_
    refine Rg.opp rfl rfl rfl rfl rfl ?_
    refine Rg.nil ?_
    exact ⟨l.length - (k + 1), by omega, k + 1, hlt, rfl, he.row _ _, Is.of ⟨rfl, rfl, rfl, rfl, rfl, rfl, rfl, rfl, trivial⟩⟩
  · refine Runs.seq (Runs.region ?_)
    refine Rg.opp rfl rfl rfl (ev_lt false rfl rfl (by simp; omega)) rfl ?_
    refine Rg.nil ?_
    refine Runs.seq (Runs.cond false rfl (fun h => by cases h) (fun _ => ?_))
    refine Runs.exit ?_
    obtain ⟨r, H2, hu1, he2, hsu⟩ := unitsP_runs (hsl.sees he.sees) (by omega)
    obtain ⟨ua, uc, rfl, huc, _⟩ := hsu
    rw [strs_len] at *
    refine Runs.seq (Runs.seq (Runs.region ?_))
    refine Rg.opp rfl rfl rfl rfl rfl ?_
    refine Rg.calls rfl rfl rfl rfl rfl rfl hu1 ?_
    refine Rg.opp rfl rfl rfl rfl rfl ?_
    refine Rg.opp rfl rfl rfl (ev_gt false rfl rfl (decide_eq_false (by omega))) rfl ?_
    refine Rg.nil ?_
    refine Runs.cond false rfl (fun h => by cases h) (fun _ => ?_)
    refine Runs.skip ?_
    refine Runs.seq (Runs.region ?_)
    refine Rg.opp rfl rfl rfl rfl rfl ?_
    refine Rg.nil ?_
    exact Runs.ret ⟨_, rfl, rfl, he.trans he2⟩

end Go.Proofs.Ytdhbclplondmjaa.C

end

section
/- The law's units. -/
set_option linter.unusedVariables false
set_option maxRecDepth 100000
namespace Go.Proofs.Ytdhbclplondmjaa.C
open Go.RowKit Go.Sort

/-- Where a name goes, and whether it is there, by the first k. -/
def scanK (out : List Nm) (x : Nm) : Nat → Nat × Bool
  | 0 => (0, false)
  | k + 1 => (if Op.bytesLess (out.getD k []) x then k + 1 else (scanK out x k).1, (scanK out x k).2 || decide (out.getD k [] = x))

theorem scanK_le (out : List Nm) (x : Nm) : ∀ k, (scanK out x k).1 ≤ k
  | 0 => Nat.le_refl _
  | k + 1 => by
    have := scanK_le out x k
    unfold scanK
    simp only
    split <;> omega

def insL (out : List Nm) (x : Nm) : List Nm :=
  if (scanK out x out.length).2 then out else out.take (scanK out x out.length).1 ++ [x] ++ out.drop (scanK out x out.length).1

def unitsL (l : List Rel) : List Nm := (allNames l).foldl insL []

theorem insL_len (out : List Nm) (x : Nm) : (insL out x).length ≤ out.length + 1 := by
  unfold insL
  split
  · omega
  · have := scanK_le out x out.length
    simp only [List.length_append, List.length_take, List.length_drop, List.length_cons, List.length_nil]
    omega

theorem foldl_len (xs : List Nm) : ∀ out : List Nm, (xs.foldl insL out).length ≤ out.length + xs.length := by
  induction xs with
  | nil => intro out; simp
  | cons x xs ih =>
    intro out
    have h1 := ih (insL out x)
    have h2 := insL_len out x
    simp only [List.foldl_cons, List.length_cons]
    omega

theorem less_eq {x y : Nm} : Op.bytesLess (ByteArray.mk x.toArray).toList (ByteArray.mk y.toArray).toList = Op.bytesLess x y := by
  rw [ByteArray.toList_mk, ByteArray.toList_mk]

section
variable {T : Tab} {s : List Value} {H : Heap}
theorem ev_seq {t t2 : TypeId} {x y : Operand} {a b : Nm} (hx : ev s x = str a) (hy : ev s y = str b) : opEval T s H (.binOp .eql t x y t2) = some (.bool (decide (a = b)), H) := by
  simp only [opEval, hx, hy, binOp, binStr, str_eq, Option.map_some]
theorem ev_slt {t t2 : TypeId} {x y : Operand} {a b : Nm} (hx : ev s x = str a) (hy : ev s y = str b) : opEval T s H (.binOp .lss t x y t2) = some (.bool (Op.bytesLess a b), H) := by
  simp only [opEval, hx, hy, binOp, binStr, less_eq, Option.map_some]
end

theorem ev_slice {T : Tab} {s : List Value} {H : Heap} {t : TypeId} {x : Operand} {lo hi mx : Option Operand} {w v : Value} (hx : ev s x = w) (h : sliceVal T H t w (lo.map (ev s)) (hi.map (ev s)) (mx.map (ev s)) = some v) : opEval T s H (.slice t x lo hi mx) = some (v, H) := by
  simp only [opEval, hx, h, Option.map_some]

/-- What a slice under way is cut into. -/
theorem cut_acc {H : Heap} {lo p at_ : Nat} {w : Value} {xs : List Nm} (h : Acc H lo 1 w (strs xs) p) (ha : at_ ≤ xs.length) (hu : xs.length < 2 ^ 40) :
    (∃ a2 c2, sliceVal tab H 37 w none (some (nat at_)) none = some (.slice a2 at_ c2) ∧ srcCells H a2 at_ 1 = some (strs (xs.take at_)).flatten) ∧
    (∃ a2 c2, sliceVal tab H 37 w (some (nat at_)) none none = some (.slice a2 (xs.length - at_) c2) ∧ srcCells H a2 (xs.length - at_) 1 = some (strs (xs.drop at_)).flatten) := by
  obtain ⟨hs, ⟨hnil, rfl⟩ | ⟨rfl, h1, h2⟩⟩ := h
  · have : xs = [] := by simpa [strs] using hnil
    subst this
    have : at_ = 0 := by simpa using ha
    subst this
    exact ⟨⟨none, 0, rfl, rfl⟩, ⟨none, 0, rfl, rfl⟩⟩
  · rw [strs_len]
    have hsz : szAt H p = some 1 := by simp [szAt, h2]
    have hfl : (strs xs).flatten.length = xs.length := by rw [strs_flat]; simp
    have hT : tab.d 37 = some (.slice 9) := rfl
    have hE : ∃ ei, tab.T 9 = some ei ∧ ei.size = 1 := ⟨_, rfl, rfl⟩
    obtain ⟨ei, hE, hE1⟩ := hE
    have hnu : ¬ (unk = 0 ∧ unk ≠ unk) := by simp
    have hnu2 : ¬ (unk = at_ ∧ unk ≠ unk) := by simp
    have b1 : bnd (nat at_) xs.length = some at_ := by
      simp only [bnd]
      rw [if_pos ⟨by omega, by omega⟩]
      simp
    refine ⟨⟨some ⟨p, 0 + 0 * 1, none⟩, unk, ?_, ?_⟩, ⟨some ⟨p, 0 + at_ * 1, none⟩, unk, ?_, ?_⟩⟩
    · simp only [sliceVal, hT, hE, hE1, Option.bind_some, if_true, b1, cutSlice, hnu, if_false, hsz]
      simp
    · by_cases h0 : at_ = 0
      · subst h0; simp [srcCells, strs]
      · simp only [srcCells, h0, if_false, readCells, h2]
        rw [if_pos (by omega)]
        simp only [strs_flat, List.map_take, Option.some.injEq]
        simp
    · simp only [sliceVal, hT, hE, hE1, Option.bind_some, if_true, b1, cutSlice, hnu2, if_false, hsz]
    · by_cases h0 : xs.length - at_ = 0
      · have : at_ = xs.length := by omega
        subst this
        simp [srcCells, strs]
      · simp only [srcCells, h0, if_false, readCells, h2]
        rw [if_pos (by omega)]
        simp only [strs_flat, List.map_drop, Option.some.injEq]
        rw [List.take_of_length_le (by simp)]
        simp

theorem strs_one (xs : List Nm) : ∀ e ∈ strs xs, e.length = 1 ∧ e.all oneCell = true := by
  intro e he
  simp only [strs, List.mem_map] at he
  obtain ⟨x, _, rfl⟩ := he
  exact ⟨rfl, rfl⟩

theorem acc_apart {H : Heap} {lo sz p : Nat} {w : Value} {es : List (List Value)} (h : Acc H lo sz w es p) (q : Nat) (hq : H.length ≤ q) : ∃ p1, Acc H lo sz w es p1 ∧ p1 ≠ q := by
  obtain ⟨hs, ⟨hnil, rfl⟩ | ⟨rfl, h1, h2⟩⟩ := h
  · exact ⟨q + 1, ⟨hs, .inl ⟨hnil, rfl⟩⟩, by omega⟩
  · have := (List.getElem?_eq_some_iff.1 h2).1
    exact ⟨p, ⟨hs, .inr ⟨rfl, h1, h2⟩⟩, by omega⟩

theorem acc_snoc {H : Heap} {lo sz p : Nat} {w : Value} {es : List (List Value)} (h : Acc H lo sz w es p) (X : Blk) : Acc (H ++ [X]) lo sz w es p :=
  h.keep fun b Y hb _ => by rw [List.getElem?_append_left (List.getElem?_eq_some_iff.1 hb).1]; exact hb

theorem row_apart {H H1 : Heap} {lo p p1 q : Nat} {X : Blk} (hg : Grow lo p p1 H H1) (h : H[q]? = some X) (hq : p ≠ q) : H1[q]? = some X := by
  rw [hg.same q (List.getElem?_eq_some_iff.1 h).1 (.inr fun e => hq e.symm)]; exact h

theorem lawUnits_runs {H : Heap} {v : Value} {l : List Rel} (h : Sl H 3 v (rels l)) (hl : l.length < 2 ^ 20) :
    ∃ r H1, big tab 20 [v] H = some (r, H1) ∧ Ext H H1 ∧ ∃ p, Acc H1 H.length 1 r (strs (unitsL l)) p := by
  obtain ⟨a, c, rfl, hc, hcs⟩ := h
  simp only [rels_len] at *
  refine big_of_runs rfl rfl rfl ?_
  obtain ⟨z, hz⟩ := startC_mkS Try.f20 [.slice a l.length c]
  rw [show startC (20, Try.f20).snd [Value.slice a l.length c] = _ from hz]
  clear hz
  refine Runs.seq (Runs.region ?_)
  repeat refine Rg.opp rfl rfl rfl rfl rfl ?_
  refine Rg.nil ?_
  refine Runs.seq (Runs.region ?_)
  repeat refine Rg.opp rfl rfl rfl rfl rfl ?_
  refine Rg.nil ?_
  refine Runs.seq (Runs.seq (Runs.region ?_))
  repeat refine Rg.opp rfl rfl rfl rfl rfl ?_
  refine Rg.nil ?_
  refine Runs.block ?_
  refine Runs.loop (fun m s H1 => ∃ k w p, k ≤ l.length ∧ m = l.length - k ∧ Ext H H1 ∧ Acc H1 H.length 1 w (strs (unitsL (l.take k))) p ∧ Is s 72 [(0, .slice a l.length c), (3, w), (4, nat k)]) _
    ⟨0, .slice none 0 0, 0, Nat.zero_le _, rfl, Ext.refl H, Acc.nil _ _ _ _, Is.of ⟨rfl, rfl, rfl, rfl, rfl, rfl, trivial⟩⟩ ?_
  rintro m s H1 ⟨k, w, p, hk, rfl, he, hacc, hs⟩
  obtain ⟨a0, rfl⟩ := hs.mk1
  clear hs
  by_cases hlt : k < l.length
  · refine Runs.seq (Runs.seq (Runs.region ?_))
    refine Rg.opp rfl rfl rfl rfl rfl ?_
    refine Rg.opp rfl rfl rfl rfl rfl ?_
    refine Rg.opp rfl rfl rfl rfl rfl ?_
    refine Rg.opp rfl rfl rfl (ev_lt true rfl rfl (by simp; omega)) rfl ?_
    refine Rg.nil ?_
    refine Runs.cond true rfl (fun _ => ?_) (fun h => by cases h)
    refine Runs.skip ?_
    have hcs1 := hcs.sees he.sees
    obtain ⟨b, o, rfl, hsz, hr⟩ := hcs1.lt (i := k) (by rw [rels_len]; exact hlt)
    have hrk := hr k _ (rels_get hlt)
    refine Runs.seq (Runs.block ?_)
    refine Runs.seq (Runs.drawn (is := List.range 13) (by decide +kernel) ?_)
    refine Rg.opp rfl rfl rfl rfl rfl ?_
    refine Rg.opp rfl rfl rfl rfl rfl ?_
    refine Rg.opp rfl rfl rfl (ev_at rfl rfl rfl rfl (by decide) hlt) rfl ?_
    refine Rg.opp rfl rfl rfl (ev_fld rfl rfl rfl rfl rfl (by decide)) rfl ?_
    refine Rg.opp rfl rfl rfl (ev_load1 rfl rfl (read_one hrk (j := 1) rfl) rfl) rfl ?_
    refine Rg.opp rfl rfl rfl rfl rfl ?_
    refine Rg.opp rfl rfl rfl rfl rfl ?_
    refine Rg.opp rfl rfl rfl (ev_at rfl rfl rfl rfl (by decide) hlt) rfl ?_
    refine Rg.opp rfl rfl rfl (ev_fld rfl rfl rfl rfl rfl (by decide)) rfl ?_
    refine Rg.opp rfl rfl rfl (ev_load1 rfl rfl (read_one hrk (j := 2) rfl) rfl) rfl ?_
    refine Rg.opp rfl rfl rfl rfl rfl ?_
    refine Rg.opp rfl rfl rfl rfl rfl ?_
    refine Rg.opp rfl rfl rfl rfl rfl ?_
    refine Rg.nil ?_
    obtain ⟨p0, hacc0, hp0⟩ := acc_apart hacc H1.length (Nat.le_refl _)
    have hall : unitsL (l.take (k + 1)) = [l[k].up, l[k].lo].foldl insL (unitsL (l.take k)) := by
      have e : ∀ (p : List Rel) (r : Rel), unitsL (p ++ [r]) = [r.up, r.lo].foldl insL (unitsL p) := by intro p r; simp [unitsL, allNames]
      rw [← List.take_append_getElem hlt, e]
    have hlenk : (unitsL (l.take k)).length ≤ 2 * k := by
      have := foldl_len (allNames (l.take k)) []
      rw [allNames_len, List.length_take] at this
      simp only [unitsL, List.length_nil] at *
      omega
    have hrow : (H1 ++ [Blk.row 1 [str l[k].up, str l[k].lo] true true])[H1.length]? = some (Blk.row 1 (strs [l[k].up, l[k].lo]).flatten true true) := by
      exact List.getElem?_concat_length
    have hlen1 := he.len
    refine Runs.block ?_
    refine Runs.loop (fun m s H2 => ∃ j w p, j ≤ 2 ∧ m = 2 - j ∧ Ext H H2 ∧ Acc H2 H.length 1 w (strs (([l[k].up, l[k].lo].take j).foldl insL (unitsL (l.take k)))) p ∧ p ≠ H1.length ∧ H2[H1.length]? = some (Blk.row 1 (strs [l[k].up, l[k].lo]).flatten true true) ∧
        Is s 72 [(0, .slice (some ⟨b, o, none⟩) l.length c), (3, w), (4, nat k), (27, .slice (some ⟨H1.length, 0, none⟩) 2 2), (28, nat 2), (29, nat j)]) _
      ⟨0, w, p0, by omega, rfl, he.row _ _, acc_snoc hacc0 _, hp0, hrow, Is.of ⟨rfl, rfl, rfl, rfl, rfl, rfl, rfl, rfl, rfl, rfl, rfl, rfl, trivial⟩⟩ ?_
    rintro m s H2 ⟨j, w2, p2, hj, rfl, he2, hacc2, hp2, hrow2, hs⟩
    obtain ⟨a1, rfl⟩ := hs.mk1
    clear hs
    by_cases hj2 : j < 2
    · have hcT : Cells H2 1 (some ⟨H1.length, 0, none⟩) (strs [l[k].up, l[k].lo]) := Cells.row (own := true) (strs_sz _) hrow2
      obtain ⟨bT, oT, eT, hszT, hrT⟩ := hcT.lt (i := j) (by rw [strs_len]; exact hj2)
      simp only [Option.some.injEq, Addr.mk.injEq, and_true] at eT
      obtain ⟨rfl, rfl⟩ := eT
      generalize hx : ([l[k].up, l[k].lo])[j]'(by simpa using hj2) = x
      have hrx := hrT j _ (strs_get (xs := [l[k].up, l[k].lo]) (by simpa using hj2))
      rw [hx] at hrx
      have hstep : ([l[k].up, l[k].lo].take (j + 1)).foldl insL (unitsL (l.take k)) = insL (([l[k].up, l[k].lo].take j).foldl insL (unitsL (l.take k))) x := by
        rw [← List.take_append_getElem (by simpa using hj2), List.foldl_append, hx]; rfl
      generalize hout : ([l[k].up, l[k].lo].take j).foldl insL (unitsL (l.take k)) = out at hacc2 hstep
      have houtl : out.length ≤ 2 * k + 2 := by
        have := foldl_len ([l[k].up, l[k].lo].take j) (unitsL (l.take k))
        rw [hout] at this
        simp only [List.length_take, List.length_cons, List.length_nil] at this
        omega
      refine Runs.seq (Runs.region ?_)
      refine Rg.opp rfl rfl rfl (ev_lt true rfl rfl (by simp; omega)) rfl ?_
      refine Rg.nil ?_
      refine Runs.seq (Runs.cond true rfl (fun _ => ?_) (fun h => by cases h))
      refine Runs.skip ?_
      -- behind the block: the index goes on
      refine Runs.seq (Runs.mono (N := fun s H3 => ∃ w3 p3, Ext H H3 ∧ Acc H3 H.length 1 w3 (strs (insL out x)) p3 ∧ p3 ≠ H1.length ∧ H3[H1.length]? = some (Blk.row 1 (strs [l[k].up, l[k].lo]).flatten true true) ∧
          Is s 72 [(0, .slice (some ⟨b, o, none⟩) l.length c), (3, w3), (4, nat k), (27, .slice (some ⟨H1.length, 0, none⟩) 2 2), (28, nat 2), (29, nat j)]) (X := fun _ _ _ => False) (R := fun _ _ => False) ?_ ?_ (fun _ _ _ h => h.elim) (fun _ _ h => h.elim))
      · refine Runs.block ?_
        refine Runs.seq (Runs.region ?_)
        refine Rg.opp rfl rfl rfl (ev_at rfl rfl rfl rfl (by decide) hj2) rfl ?_
        refine Rg.opp rfl rfl rfl (ev_load1 rfl rfl hrx rfl) rfl ?_
        refine Rg.opp rfl rfl rfl rfl rfl ?_
        refine Rg.nil ?_
        refine Runs.seq (Runs.region ?_)
        refine Rg.opp rfl rfl rfl rfl rfl ?_
        refine Rg.opp rfl rfl rfl rfl rfl ?_
        refine Rg.nil ?_
        obtain ⟨wa, wc, hw2, _, hwc⟩ := hacc2.sl (by rw [strs_len]; simp [unk]; omega)
        rw [strs_len] at hw2
        subst hw2
        refine Runs.seq (Runs.seq (Runs.region ?_))
        refine Rg.opp rfl rfl rfl rfl rfl ?_
        refine Rg.nil ?_
        refine Runs.block ?_
        refine Runs.loop (fun m s H3 => H3 = H2 ∧ ∃ i, i ≤ out.length ∧ m = out.length - i ∧
            Is s 72 [(0, .slice (some ⟨b, o, none⟩) l.length c), (3, .slice wa out.length wc), (4, nat k), (6, str x), (7, nat (scanK out x i).1), (8, .bool (scanK out x i).2), (9, nat i), (27, .slice (some ⟨H1.length, 0, none⟩) 2 2), (28, nat 2), (29, nat j)]) _
          ⟨rfl, 0, Nat.zero_le _, rfl, Is.of ⟨rfl, rfl, rfl, rfl, rfl, rfl, rfl, rfl, rfl, rfl, rfl, rfl, rfl, rfl, rfl, rfl, rfl, rfl, rfl, rfl, trivial⟩⟩ ?_
        rintro m s H3 ⟨hH3, i, hi, rfl, hs⟩
        subst hH3
        obtain ⟨a2, rfl⟩ := hs.mk1
        clear hs
        by_cases hil : i < out.length
        · obtain ⟨bw, ow, rfl, hszw, hrw⟩ := hwc.lt (i := i) (by rw [strs_len]; exact hil)
          have hri := hrw i _ (strs_get hil)
          have hget : out.getD i [] = out[i] := by simp [hil]
          refine Runs.seq (Runs.seq (Runs.region ?_))
          refine Rg.opp rfl rfl rfl rfl rfl ?_
          refine Rg.opp rfl rfl rfl rfl rfl ?_
          refine Rg.opp rfl rfl rfl rfl rfl ?_
          refine Rg.opp rfl rfl rfl (ev_lt true rfl rfl (by simp; omega)) rfl ?_
          refine Rg.nil ?_
          refine Runs.cond true rfl (fun _ => ?_) (fun h => by cases h)
          refine Runs.skip ?_
          refine Runs.seq (Runs.block ?_)
          refine Runs.seq (Runs.mono (N := fun s H4 => H3 = H4 ∧ Is s 72 [(0, .slice (some ⟨b, o, none⟩) l.length c), (3, .slice (some ⟨bw, ow, none⟩) out.length wc), (4, nat k), (6, str x), (7, nat (scanK out x i).1), (8, .bool (scanK out x (i + 1)).2), (9, nat i), (27, .slice (some ⟨H1.length, 0, none⟩) 2 2), (28, nat 2), (29, nat j)]) (X := fun _ _ _ => False) (R := fun _ _ => False) ?_ ?_ (fun _ _ _ h => h.elim) (fun _ _ h => h.elim))
          · cases hb : (scanK out x i).2 with
            | true =>
              refine Runs.cut (n := 72) (l := [(0, .slice (some ⟨b, o, none⟩) l.length c), (3, .slice (some ⟨bw, ow, none⟩) out.length wc), (4, nat k), (6, str x), (7, nat (scanK out x i).1), (8, .bool true), (9, nat i), (27, .slice (some ⟨H1.length, 0, none⟩) 2 2), (28, nat 2), (29, nat j)]) (Is.of ⟨rfl, rfl, rfl, rfl, rfl, rfl, rfl, rfl, rfl, rfl, rfl, rfl, rfl, rfl, rfl, rfl, rfl, rfl, rfl, rfl, trivial⟩) (fun a3 => ?_)
              refine Runs.region ?_
              refine Rg.opp rfl rfl rfl rfl rfl ?_
              refine Rg.opp rfl rfl rfl rfl rfl ?_
              refine Rg.guards false rfl rfl rfl (fun h => by cases h) (fun _ => ?_)
              refine Rg.guards false rfl rfl rfl (fun h => by cases h) (fun _ => ?_)
              refine Rg.guards false rfl rfl rfl (fun h => by cases h) (fun _ => ?_)
              refine Rg.guards false rfl rfl rfl (fun h => by cases h) (fun _ => ?_)
              refine Rg.guards false rfl rfl rfl (fun h => by cases h) (fun _ => ?_)
              refine Rg.guards false rfl rfl rfl (fun h => by cases h) (fun _ => ?_)
              refine Rg.opp rfl rfl rfl rfl rfl ?_
              refine Rg.opp rfl rfl rfl rfl rfl ?_
              refine Rg.nil ⟨rfl, Is.of ⟨rfl, rfl, rfl, rfl, rfl, rfl, rfl, rfl, rfl, rfl, rfl, ?_, rfl, rfl, rfl, rfl, rfl, rfl, rfl, rfl, trivial⟩⟩
              show Value.bool true = _
              simp [scanK, hb]
            | false =>
              refine Runs.cut (n := 72) (l := [(0, .slice (some ⟨b, o, none⟩) l.length c), (3, .slice (some ⟨bw, ow, none⟩) out.length wc), (4, nat k), (6, str x), (7, nat (scanK out x i).1), (8, .bool false), (9, nat i), (27, .slice (some ⟨H1.length, 0, none⟩) 2 2), (28, nat 2), (29, nat j)]) (Is.of ⟨rfl, rfl, rfl, rfl, rfl, rfl, rfl, rfl, rfl, rfl, rfl, rfl, rfl, rfl, rfl, rfl, rfl, rfl, rfl, rfl, trivial⟩) (fun a3 => ?_)
              refine Runs.region ?_
              refine Rg.opp rfl rfl rfl rfl rfl ?_
              refine Rg.opp rfl rfl rfl rfl rfl ?_
              refine Rg.guards true rfl rfl rfl (fun _ => ⟨_, _, evW_op rfl, rfl, ?_⟩) (fun h => by cases h)
              refine Rg.guards true rfl rfl rfl (fun _ => ⟨_, _, evW_op rfl, rfl, ?_⟩) (fun h => by cases h)
              refine Rg.guards true rfl rfl rfl (fun _ => ⟨_, _, evW_op (ev_at rfl rfl rfl rfl (by decide) hil), rfl, ?_⟩) (fun h => by cases h)
              refine Rg.guards true rfl rfl rfl (fun _ => ⟨_, _, evW_op (ev_load1 rfl rfl hri rfl), rfl, ?_⟩) (fun h => by cases h)
              refine Rg.guards true rfl rfl rfl (fun _ => ⟨_, _, evW_op rfl, rfl, ?_⟩) (fun h => by cases h)
              refine Rg.guards true rfl rfl rfl (fun _ => ⟨_, _, evW_op (ev_seq rfl rfl), rfl, ?_⟩) (fun h => by cases h)
              refine Rg.opp rfl rfl rfl rfl rfl ?_
              refine Rg.opp rfl rfl rfl rfl rfl ?_
              refine Rg.nil ⟨rfl, Is.of ⟨rfl, rfl, rfl, rfl, rfl, rfl, rfl, rfl, rfl, rfl, rfl, ?_, rfl, rfl, rfl, rfl, rfl, rfl, rfl, rfl, trivial⟩⟩
              show Value.bool (decide (out[i] = x)) = _
              rw [← hget]
              simp [scanK, hb]
          · rintro s H4 ⟨hH4, hs⟩
            subst hH4
            obtain ⟨a4, rfl⟩ := hs.mk1
            refine Runs.seq (Runs.region ?_)
            refine Rg.opp rfl rfl rfl rfl rfl ?_
            refine Rg.opp rfl rfl rfl rfl rfl ?_
            refine Rg.opp rfl rfl rfl (ev_at rfl rfl rfl rfl (by decide) hil) rfl ?_
            refine Rg.opp rfl rfl rfl (ev_load1 rfl rfl hri rfl) rfl ?_
            refine Rg.opp rfl rfl rfl rfl rfl ?_
            refine Rg.opp rfl rfl rfl (ev_slt rfl rfl) rfl ?_
            refine Rg.nil ?_
            refine Runs.cond (Op.bytesLess out[i] x) rfl (fun hless => ?_) (fun hless => ?_)
            · refine Runs.region ?_
              refine Rg.opp rfl rfl rfl rfl rfl ?_
              refine Rg.opp rfl rfl rfl (ev_addn (b := 1) rfl rfl (by omega)) rfl ?_
              refine Rg.opp rfl rfl rfl rfl rfl ?_
              refine Rg.nil ?_
              refine Runs.region ?_
              refine Rg.opp rfl rfl rfl rfl rfl ?_
              refine Rg.opp rfl rfl rfl (ev_addn (b := 1) rfl rfl (by omega)) rfl ?_
              refine Rg.opp rfl rfl rfl rfl rfl ?_
              refine Rg.nil ?_
              refine ⟨out.length - (i + 1), by omega, rfl, i + 1, hil, rfl, Is.of ⟨rfl, rfl, rfl, rfl, rfl, rfl, rfl, rfl, rfl, ?_, rfl, rfl, rfl, rfl, rfl, rfl, rfl, rfl, rfl, rfl, trivial⟩⟩
              show nat (i + 1) = _
              simp [scanK, hil, hless]
            · refine Runs.skip ?_
              refine Runs.region ?_
              refine Rg.opp rfl rfl rfl rfl rfl ?_
              refine Rg.opp rfl rfl rfl (ev_addn (b := 1) rfl rfl (by omega)) rfl ?_
              refine Rg.opp rfl rfl rfl rfl rfl ?_
              refine Rg.nil ?_
              refine ⟨out.length - (i + 1), by omega, rfl, i + 1, hil, rfl, Is.of ⟨rfl, rfl, rfl, rfl, rfl, rfl, rfl, rfl, rfl, ?_, rfl, rfl, rfl, rfl, rfl, rfl, rfl, rfl, rfl, rfl, trivial⟩⟩
              show nat (scanK out x i).1 = _
              simp [scanK, hil, hless]
        · have hio : i = out.length := by omega
          subst hio
          refine Runs.seq (Runs.seq (Runs.region ?_))
          refine Rg.opp rfl rfl rfl rfl rfl ?_
          refine Rg.opp rfl rfl rfl rfl rfl ?_
          refine Rg.opp rfl rfl rfl rfl rfl ?_
          refine Rg.opp rfl rfl rfl (ev_lt false rfl rfl (by simp)) rfl ?_
          refine Rg.nil ?_
          refine Runs.cond false rfl (fun h => by cases h) (fun _ => ?_)
          refine Runs.exit ?_
          cases hb : (scanK out x out.length).2 with
          | true =>
            refine Runs.cut (n := 72) (l := [(0, .slice (some ⟨b, o, none⟩) l.length c), (3, .slice wa out.length wc), (4, nat k), (6, str x), (7, nat (scanK out x out.length).1), (8, .bool true), (27, .slice (some ⟨H1.length, 0, none⟩) 2 2), (28, nat 2), (29, nat j)]) (Is.of ⟨rfl, rfl, rfl, rfl, rfl, rfl, rfl, rfl, rfl, rfl, rfl, rfl, rfl, rfl, rfl, rfl, rfl, rfl, trivial⟩) (fun a3 => ?_)
            refine Runs.seq (Runs.region ?_)
            refine Rg.opp rfl rfl rfl rfl rfl ?_
            refine Rg.opp rfl rfl rfl rfl rfl ?_
            refine Rg.nil ?_
            refine Runs.cond false rfl (fun h => by cases h) (fun _ => ?_)
            refine Runs.skip ⟨_, p2, he2, ?_, hp2, hrow2, Is.of ⟨rfl, rfl, rfl, rfl, rfl, rfl, rfl, rfl, rfl, rfl, rfl, rfl, trivial⟩⟩
            rw [show insL out x = out by unfold insL; rw [if_pos hb]]
            exact hacc2
          | false =>
            refine Runs.cut (n := 72) (l := [(0, .slice (some ⟨b, o, none⟩) l.length c), (3, .slice wa out.length wc), (4, nat k), (6, str x), (7, nat (scanK out x out.length).1), (8, .bool false), (27, .slice (some ⟨H1.length, 0, none⟩) 2 2), (28, nat 2), (29, nat j)]) (Is.of ⟨rfl, rfl, rfl, rfl, rfl, rfl, rfl, rfl, rfl, rfl, rfl, rfl, rfl, rfl, rfl, rfl, rfl, rfl, trivial⟩) (fun a3 => ?_)
            have hat := scanK_le out x out.length
            have hins : insL out x = out.take (scanK out x out.length).1 ++ [x] ++ out.drop (scanK out x out.length).1 := by unfold insL; rw [if_neg (by rw [hb]; decide)]
            generalize (scanK out x out.length).1 = at_ at hat hins
            refine Runs.seq (Runs.region ?_)
            refine Rg.opp rfl rfl rfl rfl rfl ?_
            refine Rg.opp rfl rfl rfl rfl rfl ?_
            refine Rg.nil ?_
            refine Runs.cond true rfl (fun _ => ?_) (fun h => by cases h)
            refine Runs.seq (Runs.region ?_)
            refine Rg.opp rfl rfl rfl rfl rfl ?_
            refine Rg.nil ?_
            obtain ⟨⟨sa, sc, hs1, hsrc1⟩, _⟩ := cut_acc hacc2 hat (by omega)
            have l1 : (strs (out.take at_)).length = at_ := by rw [strs_len, List.length_take]; omega
            have hlo2 := he2.len
            obtain ⟨vA, K1, pA, happ1, haccA, hgr1⟩ := push_app (T := tab) (t := 37) (e := 9) (i := _) (ei := _) ⟨rfl, rfl, rfl, by decide⟩ (Acc.nil H3 H.length 1 H3.length) (xs := strs (out.take at_)) (a2 := sa) (c2 := sc) (by rw [l1]; exact hsrc1) (strs_one _) (by rw [l1]; show (0 + at_) * 16 ≤ 2 ^ 40; omega) (by rw [l1]; simp; omega) hlo2
            rw [l1] at happ1
            rw [List.nil_append] at haccA
            have hpA : H3.length ≤ pA := by have := hgr1.at_; omega
            have keep1 : ∀ (q : Nat) (X : Blk), H3[q]? = some X → K1[q]? = some X := fun q X hX => row_apart hgr1 hX (by have := (List.getElem?_eq_some_iff.1 hX).1; omega)
            have hsrc2 : srcCells (K1 ++ [Blk.row 1 [str x] true true]) (some ⟨K1.length, 0, none⟩) (strs [x]).length 1 = some (strs [x]).flatten := by
              have : (K1 ++ [Blk.row 1 [str x] true true])[K1.length]? = some (Blk.row 1 [str x] true true) := List.getElem?_concat_length
              simp only [srcCells, readCells, this]
              rfl
            have hg1 := hgr1.len
            obtain ⟨vB, K2, pB, happ2, haccB, hgr2⟩ := push_app (T := tab) (t := 37) (e := 9) (i := _) (ei := _) ⟨rfl, rfl, rfl, by decide⟩ (acc_snoc haccA (Blk.row 1 [str x] true true)) (c2 := 1) hsrc2 (strs_one _) (by rw [l1]; show (at_ + 1) * 16 ≤ 2 ^ 40; omega) (by rw [l1]; show at_ + 1 ≤ 2 ^ 40; omega) (by simp; omega)
            have hpB : H3.length ≤ pB := by have := hgr2.at_; simp at this; omega
            have keep2 : ∀ (q : Nat) (X : Blk), H3[q]? = some X → K2[q]? = some X := fun q X hX => by
              have hq := (List.getElem?_eq_some_iff.1 hX).1
              have h1 := keep1 q X hX
              exact row_apart hgr2 (by rw [List.getElem?_append_left (List.getElem?_eq_some_iff.1 h1).1]; exact h1) (by omega)
            have hacc2' : Acc K2 H.length 1 (.slice wa out.length wc) (strs out) p2 := hacc2.keep fun q X hX _ => keep2 q X hX
            obtain ⟨_, ⟨sb, sd, hs3, hsrc3⟩⟩ := cut_acc hacc2' hat (by omega)
            have l3 : (strs (out.drop at_)).length = out.length - at_ := by rw [strs_len, List.length_drop]
            have lB : (strs (out.take at_) ++ strs [x]).length = at_ + 1 := by rw [List.length_append, l1]; rfl
            have hg2 := hgr2.len
            simp at hg2
            obtain ⟨vC, K3, pC, happ3, haccC, hgr3⟩ := push_app (T := tab) (t := 37) (e := 9) (i := _) (ei := _) ⟨rfl, rfl, rfl, by decide⟩ haccB (xs := strs (out.drop at_)) (a2 := sb) (c2 := sd) (by rw [l3]; exact hsrc3) (strs_one _) (by rw [l3, lB]; show (at_ + 1 + (out.length - at_)) * 16 ≤ 2 ^ 40; omega) (by rw [l3, lB]; omega) (by omega)
            rw [l3] at happ3
            have hpC : H3.length ≤ pC := by have := hgr3.at_; omega
            have hT := (List.getElem?_eq_some_iff.1 hrow2).1
            refine Runs.drawn (is := List.range 13) (by decide +kernel) ?_
            refine Rg.opp rfl rfl rfl rfl rfl ?_
            refine Rg.opp rfl rfl rfl rfl rfl ?_
            refine Rg.opp rfl rfl rfl rfl rfl ?_
            refine Rg.opp rfl rfl rfl (ev_slice rfl hs1) rfl ?_
            refine Rg.opp rfl rfl rfl (ev_append rfl rfl happ1) (by simp only [Bool.true_and]; exact acc_inPlace (Acc.nil H3 0 1 0) rfl rfl) ?_
            refine Rg.opp rfl rfl rfl rfl rfl ?_
            refine Rg.opp rfl rfl rfl rfl rfl ?_
            refine Rg.opp rfl rfl rfl (ev_append rfl rfl happ2) (by simp only [Bool.true_and]; exact acc_inPlace haccA rfl rfl) ?_
            refine Rg.opp rfl rfl rfl rfl rfl ?_
            refine Rg.opp rfl rfl rfl rfl rfl ?_
            refine Rg.opp rfl rfl rfl (ev_slice rfl hs3) rfl ?_
            refine Rg.opp rfl rfl rfl (ev_append rfl rfl happ3) (by simp only [Bool.true_and]; exact acc_inPlace haccB rfl rfl) ?_
            refine Rg.opp rfl rfl rfl rfl rfl ?_
            refine Rg.nil ?_
            refine ⟨vC, pC, hgr3.ext H rfl (hgr2.ext H rfl ((hgr1.ext H rfl he2).row _ _)), ?_, by omega, ?_, Is.of ⟨rfl, rfl, rfl, rfl, rfl, rfl, rfl, rfl, rfl, rfl, rfl, rfl, trivial⟩⟩
            · rw [hins]
              have e : ∀ p q : List Nm, strs (p ++ q) = strs p ++ strs q := by intro p q; simp [strs]
              rw [e, e]; exact haccC
            · exact row_apart hgr3 (keep2 _ _ hrow2) (by omega)
      · rintro s H3 ⟨w3, p3, he3, hacc3, hp3, hrow3, hs⟩
        obtain ⟨a3, rfl⟩ := hs.mk1
        refine Runs.region ?_
        refine Rg.opp rfl rfl rfl (ev_addn (b := 1) rfl rfl (by omega)) rfl ?_
        refine Rg.opp rfl rfl rfl rfl rfl ?_
        refine Rg.nil ?_
        exact ⟨2 - (j + 1), by omega, j + 1, w3, p3, hj2, rfl, he3, by rw [hstep]; exact hacc3, hp3, hrow3, Is.of ⟨rfl, rfl, rfl, rfl, rfl, rfl, rfl, rfl, rfl, rfl, rfl, rfl, trivial⟩⟩
    · have hj2 : j = 2 := by omega
      subst hj2
      refine Runs.seq (Runs.region ?_)
      refine Rg.opp rfl rfl rfl (ev_lt false rfl rfl (by decide)) rfl ?_
      refine Rg.nil ?_
      refine Runs.seq (Runs.cond false rfl (fun h => by cases h) (fun _ => ?_))
      refine Runs.exit ?_
      refine Runs.region ?_
      refine Rg.opp rfl rfl rfl rfl rfl ?_
      refine Rg.opp rfl rfl rfl (ev_addn (b := 1) rfl rfl (by omega)) rfl ?_
      refine Rg.opp rfl rfl rfl rfl rfl ?_
      refine Rg.nil ?_
      refine ⟨l.length - (k + 1), by omega, k + 1, w2, p2, hlt, rfl, he2, ?_, Is.of ⟨rfl, rfl, rfl, rfl, rfl, rfl, trivial⟩⟩
      rw [hall]; exact hacc2
  · have hkl : k = l.length := by omega
    refine Runs.seq (Runs.seq (Runs.region ?_))
    refine Rg.opp rfl rfl rfl rfl rfl ?_
    refine Rg.opp rfl rfl rfl rfl rfl ?_
    refine Rg.opp rfl rfl rfl rfl rfl ?_
    refine Rg.opp rfl rfl rfl (ev_lt false rfl rfl (by simp; omega)) rfl ?_
    refine Rg.nil ?_
    refine Runs.cond false rfl (fun h => by cases h) (fun _ => ?_)
    refine Runs.exit ?_
    rw [hkl, List.take_of_length_le (Nat.le_refl _)] at hacc
    refine Runs.seq (Runs.region ?_)
    repeat refine Rg.opp rfl rfl rfl rfl rfl ?_
    refine Rg.nil ?_
    exact Runs.ret ⟨w, rfl, he, p, hacc⟩

end Go.Proofs.Ytdhbclplondmjaa.C

end

section
/- The program's Keeps. -/
set_option linter.unusedVariables false
set_option maxRecDepth 100000
namespace Go.Proofs.Ytdhbclplondmjaa.C
open Go.RowKit Go.Sort

/-- The map from names to their places. -/
def mapE : Nat → List Nm → List (Value × Value)
  | _, [] => []
  | i, x :: xs => (str x, nat i) :: mapE (i + 1) xs

theorem mapE_snoc : ∀ (i : Nat) (xs : List Nm) (x : Nm), mapE i (xs ++ [x]) = mapE i xs ++ [(str x, nat (i + xs.length))]
  | i, [], x => rfl
  | i, y :: xs, x => by
    simp only [List.cons_append, mapE, mapE_snoc (i + 1) xs x, List.length_cons]
    rw [show i + 1 + xs.length = i + (xs.length + 1) by omega]

theorem nm_eq {x y : Nm} : ((ByteArray.mk x.toArray) == (ByteArray.mk y.toArray)) = decide (x = y) := by
  show ((ByteArray.mk x.toArray).data == (ByteArray.mk y.toArray).data) = decide (x = y)
  by_cases h : x = y
  · subst h; simp
  · simp [h]

theorem lookE_mapE : ∀ (xs : List Nm) (i : Nat) (a : Nm), lookE (mapE i xs) ⟨a.toArray⟩ = some ((xs.idxOf? a).map fun k => nat (i + k))
  | [], i, a => rfl
  | x :: xs, i, a => by
    unfold mapE lookE
    rw [nm_eq, List.idxOf?_cons]
    by_cases h : a = x
    · subst h; simp
    · have h' : ¬ (x = a) := fun q => h q.symm
      rw [lookE_mapE xs (i + 1) a]
      simp only [h, decide_false, Bool.false_eq_true, if_false, beq_iff_eq, h']
      cases xs.idxOf? a with
      | none => rfl
      | some k =>
        simp only [Option.map_some]
        rw [show i + 1 + k = i + (k + 1) by omega]

theorem setE_mapE : ∀ (xs : List Nm) (i : Nat) (a : Nm) (v : Value), a ∉ xs → setE (mapE i xs) ⟨a.toArray⟩ v = some (mapE i xs ++ [(str a, v)])
  | [], i, a, v, _ => rfl
  | x :: xs, i, a, v, h => by
    unfold mapE setE
    rw [nm_eq]
    have h1 : ¬ (a = x) := fun q => h (by simp [q])
    rw [setE_mapE xs (i + 1) a v (fun q => h (by simp [q]))]
    simp [h1]

theorem look_is {H : Heap} {M : Nat} {xs : List Nm} {a : Nm} (h : H[M]? = some (.map (mapE 0 xs))) (ok : Bool) :
    vLookup tab H 74 (.map (some M)) (str a) ok = some (if ok then .tuple #[((xs.idxOf? a).map fun k => nat k).getD (nat 0), .bool (xs.idxOf? a).isSome] else ((xs.idxOf? a).map fun k => nat k).getD (nat 0)) := by
  have h1 : tab.d 74 = some (.map 9 3) := rfl
  have h2 : tab.d 9 = some .string := rfl
  have h3 : ∃ ei, tab.T 3 = some ei ∧ ei.zero = nat 0 := ⟨_, rfl, rfl⟩
  obtain ⟨ei, h3, h4⟩ := h3
  simp only [vLookup, h1, h2, h3, entriesOf, h, Option.bind_some, lookE_mapE, Nat.zero_add, Option.map_some, h4]
  congr 1
  cases ok <;> simp

section
variable {s : List Value} {H : Heap}
theorem ev_look {x k : Operand} {M : Nat} {xs : List Nm} {a : Nm} (ok : Bool) (hx : ev s x = .map (some M)) (hk : ev s k = str a) (h : H[M]? = some (.map (mapE 0 xs))) :
    opEval tab s H (.lookup 74 x k ok) = some (if ok then .tuple #[((xs.idxOf? a).map fun k => nat k).getD (nat 0), .bool (xs.idxOf? a).isSome] else ((xs.idxOf? a).map fun k => nat k).getD (nat 0), H) := by
  simp only [opEval, hx, hk, look_is h, Option.map_some]
theorem ev_mapset {m k v : Operand} {M i : Nat} {xs : List Nm} {a : Nm} (hm : ev s m = .map (some M)) (hk : ev s k = str a) (hv : ev s v = nat i) (h : H[M]? = some (.map (mapE 0 xs))) (hn : a ∉ xs) (hi : i = xs.length) :
    opEval tab s H (.mapUpdate 74 m k v) = some (undef, H.set M (.map (mapE 0 (xs ++ [a])))) := by
  have h1 : tab.d 74 = some (.map 9 3) := rfl
  have h2 : tab.d 9 = some .string := rfl
  subst hi
  simp only [opEval, hm, hk, hv, vMapUpdate, h1, h2, h, setE_mapE _ _ _ _ hn, mapE_snoc, Nat.zero_add, Option.map_some]
theorem ev_leq {T : Tab} {t t2 : TypeId} {x y : Operand} {k : IntKind} {a b : Int} (p : Bool) (hx : ev s x = .int k a) (hy : ev s y = .int k b) (h : decide (a ≤ b) = p) : opEval T s H (.binOp .leq t x y t2) = some (.bool p, H) :=
  ev_bin hx hy (by decide) (by subst h; rfl)
end

def idx (xs : List Nm) (x : Nm) : Nat := (xs.idxOf? x).getD 0
theorem idx_val (xs : List Nm) (x : Nm) : ((xs.idxOf? x).map fun k => nat k).getD (nat 0) = nat (idx xs x) := by
  unfold idx
  cases xs.idxOf? x <;> rfl
theorem idx_some {xs : List Nm} {x : Nm} : (xs.idxOf? x).isSome = decide (x ∈ xs) := by
  by_cases h : x ∈ xs
  · have : xs.idxOf? x ≠ none := by rw [ne_eq, List.idxOf?_eq_none_iff]; simpa using h
    rw [Option.isSome_iff_ne_none.2 this]; simp [h]
  · rw [List.idxOf?_eq_none_iff.2 h]; simp [h]

def badRel (order : List Nm) (r : Rel) : Bool := decide (r.kind ≠ 4) && decide (idx order r.up ≤ idx order r.lo)

def keepsP (l : List Rel) (order : List Nm) : Nat × Bool × Nat :=
  if ¬ order.Nodup then (0, false, 9)
  else if ¬ (∀ u ∈ unitsP l, u ∈ order) then (0, false, 10)
  else match l.findIdx? (badRel order) with
    | some i => (i, false, 0)
    | none => (0, true, 0)

end Go.Proofs.Ytdhbclplondmjaa.C

end

section
/- The program's Keeps, run. -/
set_option linter.unusedVariables false
set_option maxRecDepth 100000
namespace Go.Proofs.Ytdhbclplondmjaa.C
open Go.RowKit Go.Sort

def triple (x : Nat × Bool × Nat) : Value := .tuple #[nat x.1, .bool x.2.1, nat x.2.2]

theorem sees_map {H : Heap} {M : Nat} {es es2 : List (Value × Value)} (h : H[M]? = some (.map es)) : Sees H (H.set M (.map es2)) := by
  intro b sz cs own e
  by_cases q : M = b
  · subst q; rw [h] at e; simp at e
  · exact ⟨own, by rw [List.getElem?_set_ne q]; exact e⟩

theorem keepsP_runs {H : Heap} {v w : Value} {l : List Rel} {order : List Nm} (h : Sl H 3 v (rels l)) (ho : Sl H 1 w (strs order)) (hl : l.length ≤ 200) (hol : order.length < 2 ^ 40) (hg : ∀ r ∈ l, Good r) (hu : (unitsP l).length ≤ 60) :
    ∃ r H1, big tab 26 [v, w] H = some (r, H1) ∧ r = triple (keepsP l order) ∧ Ext H H1 := by
  obtain ⟨rc, Hc, hck, rfl, hec⟩ := checkP_runs h hl hg hu
  have hslu := h
  obtain ⟨a, c, rfl, hc, hcs⟩ := h
  obtain ⟨oa, oc, rfl, hoc, hocs⟩ := ho
  rw [rels_len] at *
  simp only [strs_len] at *
  refine big_of_runs rfl rfl rfl ?_
  obtain ⟨z, hz⟩ := startC_mkS Try.f26 [.slice a l.length c, .slice oa order.length oc]
  rw [show startC (26, Try.f26).snd [Value.slice a l.length c, .slice oa order.length oc] = _ from hz]
  clear hz
  refine Runs.seq (Runs.region ?_)
  repeat refine Rg.opp rfl rfl rfl rfl rfl ?_
  refine Rg.nil ?_
  refine Runs.seq (Runs.seq (Runs.region ?_))
  refine Rg.opp rfl rfl rfl rfl rfl ?_
  refine Rg.calls rfl rfl rfl rfl rfl rfl hck ?_
  refine Rg.opp rfl rfl rfl rfl rfl ?_
  refine Rg.nil ?_
  refine Runs.seq (Runs.region ?_)
  refine Rg.opp rfl rfl rfl rfl rfl ?_
  refine Rg.opp rfl rfl rfl (ev_ne false rfl rfl (by decide)) rfl ?_
  refine Rg.nil ?_
  refine Runs.cond false rfl (fun h => by cases h) (fun _ => ?_)
  refine Runs.skip ?_
  refine Runs.seq (Runs.region ?_)
  refine Rg.opp rfl rfl rfl rfl rfl ?_
  refine Rg.opp rfl rfl rfl rfl rfl ?_
  refine Rg.nil ?_
  have heM : Ext H (Hc ++ [Blk.map []]) := hec.snoc rfl
  have hM0 : (Hc ++ [Blk.map []])[Hc.length]? = some (Blk.map (mapE 0 [])) := List.getElem?_concat_length
  have hMlo : H.length ≤ Hc.length := hec.len
  refine Runs.cut (n := 82) (l := [(0, .slice a l.length c), (1, .slice oa order.length oc), (8, .map (some Hc.length))]) (Is.of ⟨rfl, rfl, rfl, rfl, rfl, rfl, trivial⟩) (fun a0 => ?_)
  generalize Hc.length = M at hM0 hMlo
  generalize Hc ++ [Blk.map []] = H1 at heM hM0
  clear hck hec
  -- the names' places
  refine Runs.seq (Runs.seq (Runs.region ?_))
  repeat refine Rg.opp rfl rfl rfl rfl rfl ?_
  refine Rg.nil ?_
  refine Runs.block ?_
  refine Runs.loop (fun m s H2 => ∃ k, k ≤ order.length ∧ m = order.length - k ∧ Ext H H2 ∧ H2[M]? = some (Blk.map (mapE 0 (order.take k))) ∧ (order.take k).Nodup ∧
      Is s 82 [(0, .slice a l.length c), (1, .slice oa order.length oc), (8, .map (some M)), (25, .slice oa order.length oc), (26, nat order.length), (27, nat k)]) _
    ⟨0, Nat.zero_le _, rfl, heM, hM0, by simp, Is.of ⟨rfl, rfl, rfl, rfl, rfl, rfl, rfl, rfl, rfl, rfl, rfl, rfl, trivial⟩⟩ ?_
  rintro m s H2 ⟨k, hk, rfl, he, hM, hnd, hs⟩
  obtain ⟨a1, rfl⟩ := hs.mk1
  clear hs
  by_cases hlt : k < order.length
  · refine Runs.seq (Runs.region ?_)
    refine Rg.opp rfl rfl rfl (ev_lt true rfl rfl (by simp; omega)) rfl ?_
    refine Rg.nil ?_
    refine Runs.seq (Runs.cond true rfl (fun _ => ?_) (fun h => by cases h))
    refine Runs.skip ?_
    have hcs1 := hocs.sees he.sees
    obtain ⟨b, o, rfl, hsz, hr⟩ := hcs1.lt (i := k) (by rw [strs_len]; exact hlt)
    have hrk := hr k _ (strs_get hlt)
    refine Runs.seq (Runs.block ?_)
    refine Runs.seq (Runs.region ?_)
    refine Rg.opp rfl rfl rfl rfl rfl ?_
    refine Rg.opp rfl rfl rfl (ev_at rfl rfl rfl rfl (by decide) hlt) rfl ?_
    refine Rg.opp rfl rfl rfl (ev_load1 rfl rfl hrk rfl) rfl ?_
    refine Rg.opp rfl rfl rfl rfl rfl ?_
    refine Rg.opp rfl rfl rfl rfl rfl ?_
    refine Rg.nil ?_
    refine Runs.seq (Runs.seq (Runs.region ?_))
    refine Rg.opp rfl rfl rfl rfl rfl ?_
    refine Rg.opp rfl rfl rfl rfl rfl ?_
    refine Rg.opp rfl rfl rfl (ev_look true rfl rfl hM) rfl ?_
    rw [if_pos rfl, idx_some]
    refine Rg.opp rfl rfl rfl rfl rfl ?_
    refine Rg.opp rfl rfl rfl rfl rfl ?_
    refine Rg.opp rfl rfl rfl rfl rfl ?_
    refine Rg.opp rfl rfl rfl rfl rfl ?_
    refine Rg.opp rfl rfl rfl rfl rfl ?_
    refine Rg.nil ?_
    refine Runs.seq (Runs.region ?_)
    refine Rg.opp rfl rfl rfl rfl rfl ?_
    refine Rg.nil ?_
    refine Runs.cond (decide (order[k] ∈ order.take k)) rfl (fun hin => ?_) (fun hin => ?_)
    · refine Runs.seq (Runs.region ?_)
      repeat refine Rg.opp rfl rfl rfl rfl rfl ?_
      refine Rg.nil ?_
      refine Runs.ret ⟨_, rfl, ?_, he⟩
      have hnn : ¬ order.Nodup := by
        intro q
        have h1 : (order.take k ++ order.drop k).Nodup := by rw [List.take_append_drop]; exact q
        have h2 := (List.nodup_append.1 h1).2.2 order[k] (of_decide_eq_true hin) order[k] (List.mem_of_getElem? (i := 0) (by simp [hlt]))
        exact h2 rfl
      rw [keepsP, if_pos hnn]
      rfl
    · refine Runs.skip ?_
      have hin : order[k] ∉ order.take k := of_decide_eq_false hin
      refine Runs.region ?_
      refine Rg.opp rfl rfl rfl rfl rfl ?_
      refine Rg.opp rfl rfl rfl rfl rfl ?_
      refine Rg.opp rfl rfl rfl rfl rfl ?_
      refine Rg.opn rfl rfl rfl (ev_mapset rfl rfl rfl hM hin (by rw [List.length_take]; omega)) rfl ?_
      refine Rg.nil ?_
      refine Runs.region ?_
      refine Rg.opp rfl rfl rfl (ev_addn (b := 1) rfl rfl (by omega)) rfl ?_
      refine Rg.opp rfl rfl rfl rfl rfl ?_
      refine Rg.nil ?_
      have hMlt := (List.getElem?_eq_some_iff.1 hM).1
      refine ⟨order.length - (k + 1), by omega, k + 1, hlt, rfl, he.set rfl hMlo, ?_, ?_, Is.of ⟨rfl, rfl, rfl, rfl, rfl, rfl, rfl, rfl, rfl, rfl, rfl, rfl, trivial⟩⟩
      · rw [List.getElem?_set_self hMlt, List.take_append_getElem hlt]
      · rw [← List.take_append_getElem hlt, List.nodup_append]
        refine ⟨hnd, by simp, fun x hx y hy => ?_⟩
        simp only [List.mem_singleton] at hy
        subst hy
        rintro rfl
        exact hin hx
  · have hko : k = order.length := by omega
    subst hko
    rw [List.take_of_length_le (Nat.le_refl _)] at hM hnd
    refine Runs.seq (Runs.region ?_)
    refine Rg.opp rfl rfl rfl (ev_lt false rfl rfl (by simp)) rfl ?_
    refine Rg.nil ?_
    refine Runs.seq (Runs.cond false rfl (fun h => by cases h) (fun _ => ?_))
    refine Runs.exit ?_
    -- the units are known
    obtain ⟨ur, H3, hur, he3, hus⟩ := unitsP_runs (hslu.sees he.sees) (by omega)
    have heu := he.trans he3
    have hM3 : H3[M]? = some (Blk.map (mapE 0 order)) := by rw [he3.old M (List.getElem?_eq_some_iff.1 hM).1]; exact hM
    obtain ⟨ua, uc, rfl, huc, hucs⟩ := hus
    rw [strs_len] at *
    refine Runs.seq (Runs.seq (Runs.region ?_))
    refine Rg.opp rfl rfl rfl rfl rfl ?_
    refine Rg.calls rfl rfl rfl rfl rfl rfl hur ?_
    refine Rg.opp rfl rfl rfl rfl rfl ?_
    refine Rg.opp rfl rfl rfl rfl rfl ?_
    refine Rg.nil ?_
    refine Runs.block ?_
    refine Runs.loop (fun m s H4 => H3 = H4 ∧ ∃ k, k ≤ (unitsP l).length ∧ m = (unitsP l).length - k ∧ (∀ i (hi : i < (unitsP l).length), i < k → (unitsP l)[i] ∈ order) ∧
        Is s 82 [(0, .slice a l.length c), (1, .slice oa order.length oc), (8, .map (some M)), (44, .slice ua (unitsP l).length uc), (45, nat (unitsP l).length), (46, nat k)]) _
      ⟨rfl, 0, Nat.zero_le _, rfl, fun i _ h => by omega, Is.of ⟨rfl, rfl, rfl, rfl, rfl, rfl, rfl, rfl, rfl, rfl, rfl, rfl, trivial⟩⟩ ?_
    rintro m s H4 ⟨hH4, k, hk, rfl, hkn, hs⟩
    subst hH4
    obtain ⟨a2, rfl⟩ := hs.mk1
    clear hs
    by_cases hlt : k < (unitsP l).length
    · refine Runs.seq (Runs.region ?_)
      refine Rg.opp rfl rfl rfl (ev_lt true rfl rfl (by simp; omega)) rfl ?_
      refine Rg.nil ?_
      refine Runs.seq (Runs.cond true rfl (fun _ => ?_) (fun h => by cases h))
      refine Runs.skip ?_
      obtain ⟨b, o, rfl, hsz, hr⟩ := hucs.lt (i := k) (by rw [strs_len]; exact hlt)
      have hrk := hr k _ (strs_get hlt)
      refine Runs.seq (Runs.block ?_)
      refine Runs.seq (Runs.region ?_)
      refine Rg.opp rfl rfl rfl (ev_at rfl rfl rfl rfl (by decide) hlt) rfl ?_
      refine Rg.opp rfl rfl rfl (ev_load1 rfl rfl hrk rfl) rfl ?_
      refine Rg.opp rfl rfl rfl rfl rfl ?_
      refine Rg.nil ?_
      refine Runs.seq (Runs.region ?_)
      refine Rg.opp rfl rfl rfl rfl rfl ?_
      refine Rg.opp rfl rfl rfl rfl rfl ?_
      refine Rg.opp rfl rfl rfl (ev_look true rfl rfl hM3) rfl ?_
      rw [if_pos rfl, idx_some]
      refine Rg.opp rfl rfl rfl rfl rfl ?_
      refine Rg.opp rfl rfl rfl rfl rfl ?_
      refine Rg.opp rfl rfl rfl rfl rfl ?_
      refine Rg.opp rfl rfl rfl rfl rfl ?_
      refine Rg.opp rfl rfl rfl rfl rfl ?_
      refine Rg.nil ?_
      refine Runs.seq (Runs.region ?_)
      refine Rg.opp rfl rfl rfl rfl rfl ?_
      refine Rg.opp rfl rfl rfl rfl rfl ?_
      refine Rg.nil ?_
      refine Runs.cond (!decide ((unitsP l)[k] ∈ order)) rfl (fun hin => ?_) (fun hin => ?_)
      · refine Runs.seq (Runs.region ?_)
        repeat refine Rg.opp rfl rfl rfl rfl rfl ?_
        refine Rg.nil ?_
        refine Runs.ret ⟨_, rfl, ?_, heu⟩
        have hq : ¬ ∀ u ∈ unitsP l, u ∈ order := fun q => by
          have := q _ (List.getElem_mem hlt)
          simp [this] at hin
        rw [keepsP, if_neg (by simpa using hnd), if_pos hq]
        rfl
      · refine Runs.skip ?_
        refine Runs.region ?_
        refine Rg.opp rfl rfl rfl (ev_addn (b := 1) rfl rfl (by omega)) rfl ?_
        refine Rg.opp rfl rfl rfl rfl rfl ?_
        refine Rg.nil ?_
        refine ⟨(unitsP l).length - (k + 1), by omega, rfl, k + 1, hlt, rfl, fun i hi h => ?_, Is.of ⟨rfl, rfl, rfl, rfl, rfl, rfl, rfl, rfl, rfl, rfl, rfl, rfl, trivial⟩⟩
        rcases Nat.lt_or_ge i k with q | q
        · exact hkn i hi q
        · have : i = k := by omega
          subst this
          simpa using hin
    · refine Runs.seq (Runs.region ?_)
      refine Rg.opp rfl rfl rfl (ev_lt false rfl rfl (by simp; omega)) rfl ?_
      refine Rg.nil ?_
      refine Runs.seq (Runs.cond false rfl (fun h => by cases h) (fun _ => ?_))
      refine Runs.exit ?_
      have hknown : ∀ u ∈ unitsP l, u ∈ order := by
        intro u hu
        obtain ⟨i, hi, rfl⟩ := List.mem_iff_getElem.1 hu
        exact hkn i hi (by omega)
      have hkp : keepsP l order = match l.findIdx? (badRel order) with | some i => (i, false, 0) | none => (0, true, 0) := by
        rw [keepsP, if_neg (by simpa using hnd), if_neg (by simpa using hknown)]
        try rfl
      refine Runs.cut (n := 82) (l := [(0, .slice a l.length c), (8, .map (some M))]) (Is.of ⟨rfl, rfl, rfl, rfl, trivial⟩) (fun a3 => ?_)
      refine Runs.seq (Runs.seq (Runs.region ?_))
      repeat refine Rg.opp rfl rfl rfl rfl rfl ?_
      refine Rg.nil ?_
      refine Runs.block ?_
      refine Runs.loop (fun m s H4 => ∃ k, k ≤ l.length ∧ m = l.length - k ∧ Ext H H4 ∧ H4[M]? = some (Blk.map (mapE 0 order)) ∧ (∀ i (hi : i < l.length), i < k → badRel order l[i] = false) ∧
          Is s 82 [(8, .map (some M)), (59, .slice a l.length c), (60, nat l.length), (61, nat k)]) _
        ⟨0, Nat.zero_le _, rfl, heu, hM3, fun i _ h => by omega, Is.of ⟨rfl, rfl, rfl, rfl, rfl, rfl, rfl, rfl, trivial⟩⟩ ?_
      clear hk hkn hlt hur hucs hM3 heu he3 huc
      rintro m s H4 ⟨k, hk, rfl, he4, hM4, hgood, hs⟩
      obtain ⟨a4, rfl⟩ := hs.mk1
      clear hs
      by_cases hlt : k < l.length
      · refine Runs.seq (Runs.region ?_)
        refine Rg.opp rfl rfl rfl (ev_lt true rfl rfl (by simp; omega)) rfl ?_
        refine Rg.nil ?_
        refine Runs.seq (Runs.cond true rfl (fun _ => ?_) (fun h => by cases h))
        refine Runs.skip ?_
        have hcs1 := hcs.sees he4.sees
        obtain ⟨b, o, rfl, hsz, hr⟩ := hcs1.lt (i := k) (by rw [rels_len]; exact hlt)
        have hrk := hr k _ (rels_get hlt)
        refine Runs.seq (Runs.block ?_)
        refine Runs.seq (Runs.region ?_)
        refine Rg.opp rfl rfl rfl rfl rfl ?_
        refine Rg.opp rfl rfl rfl (ev_at rfl rfl rfl rfl (by decide) hlt) rfl ?_
        refine Rg.opp rfl rfl rfl (ev_loadA rfl rfl hrk rfl) rfl ?_
        refine Rg.opp rfl rfl rfl rfl rfl ?_
        refine Rg.opp rfl rfl rfl rfl rfl ?_
        refine Rg.opn rfl rfl rfl (ev_set (cs := relC l[k]) rfl rfl rfl rfl rfl rfl) rfl ?_
        refine Rg.nil ?_
        have hM5 : (H4 ++ [Blk.row 3 (relC l[k]) true true])[M]? = some (Blk.map (mapE 0 order)) := by rw [List.getElem?_append_left (List.getElem?_eq_some_iff.1 hM4).1]; exact hM4
        have he5 : Ext H (H4 ++ [Blk.row 3 (relC l[k]) true true]) := he4.row _ _
        have next : ∀ a5 : Nat → Value, badRel order l[k] = false → ∃ m1, m1 < l.length - k ∧ ∃ k1, k1 ≤ l.length ∧ m1 = l.length - k1 ∧ Ext H (H4 ++ [Blk.row 3 (relC l[k]) true true]) ∧ (H4 ++ [Blk.row 3 (relC l[k]) true true])[M]? = some (Blk.map (mapE 0 order)) ∧ (∀ i (hi : i < l.length), i < k1 → badRel order l[i] = false) ∧
            Is (mkS 82 a5 [(61, nat (k + 1)), (8, .map (some M)), (59, .slice (some ⟨b, o, none⟩) l.length c), (60, nat l.length)]) 82 [(8, .map (some M)), (59, .slice (some ⟨b, o, none⟩) l.length c), (60, nat l.length), (61, nat k1)] := by
          intro a5 hbad
          refine ⟨l.length - (k + 1), by omega, k + 1, hlt, rfl, he5, hM5, fun i hi h => ?_, Is.of ⟨rfl, rfl, rfl, rfl, rfl, rfl, rfl, rfl, trivial⟩⟩
          rcases Nat.lt_or_ge i k with q | q
          · exact hgood i hi q
          · have : i = k := by omega
            subst this; exact hbad
        refine Runs.seq (Runs.region ?_)
        refine Rg.opp rfl rfl rfl (ev_fld rfl rfl rfl rfl rfl (by decide)) rfl ?_
        refine Rg.opp rfl rfl rfl (ev_load1 rfl rfl (read_last (j := 0) rfl) rfl) rfl ?_
        by_cases h4 : l[k].kind = 4
        · refine Rg.opp rfl rfl rfl (ev_ne false rfl rfl (decide_eq_false (by omega))) rfl ?_
          refine Rg.opp rfl rfl rfl rfl rfl ?_
          refine Rg.guards false rfl rfl rfl (fun h => by cases h) (fun _ => ?_)
          refine Rg.guards false rfl rfl rfl (fun h => by cases h) (fun _ => ?_)
          refine Rg.guards false rfl rfl rfl (fun h => by cases h) (fun _ => ?_)
          refine Rg.guards false rfl rfl rfl (fun h => by cases h) (fun _ => ?_)
          refine Rg.guards false rfl rfl rfl (fun h => by cases h) (fun _ => ?_)
          refine Rg.guards false rfl rfl rfl (fun h => by cases h) (fun _ => ?_)
          refine Rg.guards false rfl rfl rfl (fun h => by cases h) (fun _ => ?_)
          refine Rg.guards false rfl rfl rfl (fun h => by cases h) (fun _ => ?_)
          refine Rg.guards false rfl rfl rfl (fun h => by cases h) (fun _ => ?_)
          refine Rg.opp rfl rfl rfl rfl rfl ?_
          refine Rg.nil ?_
          refine Runs.cond false rfl (fun h => by cases h) (fun _ => ?_)
          refine Runs.skip ?_
          refine Runs.region ?_
          refine Rg.opp rfl rfl rfl (ev_addn (b := 1) rfl rfl (by omega)) rfl ?_
          refine Rg.opp rfl rfl rfl rfl rfl ?_
          refine Rg.cut (n := 82) (l := [(61, nat (k + 1)), (8, .map (some M)), (59, .slice (some ⟨b, o, none⟩) l.length c), (60, nat l.length)]) (Is.of ⟨rfl, rfl, rfl, rfl, rfl, rfl, rfl, rfl, trivial⟩) (fun a5 => ?_)
          exact Rg.nil (next a5 (by simp [badRel, h4]))
        · refine Rg.opp rfl rfl rfl (ev_ne true rfl rfl (decide_eq_true (by omega))) rfl ?_
          refine Rg.opp rfl rfl rfl rfl rfl ?_
          refine Rg.guards true rfl rfl rfl (fun _ => ⟨_, _, evW_op rfl, rfl, ?_⟩) (fun h => by cases h)
          refine Rg.guards true rfl rfl rfl (fun _ => ⟨_, _, evW_op (ev_fld rfl rfl rfl rfl rfl (by decide)), rfl, ?_⟩) (fun h => by cases h)
          refine Rg.guards true rfl rfl rfl (fun _ => ⟨_, _, evW_op (ev_load1 rfl rfl (read_last (j := 1) rfl) rfl), rfl, ?_⟩) (fun h => by cases h)
          refine Rg.guards true rfl rfl rfl (fun _ => ⟨_, _, evW_op (ev_look false rfl rfl hM5), rfl, ?_⟩) (fun h => by cases h)
          refine Rg.guards true rfl rfl rfl (fun _ => ⟨_, _, evW_op rfl, rfl, ?_⟩) (fun h => by cases h)
          refine Rg.guards true rfl rfl rfl (fun _ => ⟨_, _, evW_op (ev_fld rfl rfl rfl rfl rfl (by decide)), rfl, ?_⟩) (fun h => by cases h)
          refine Rg.guards true rfl rfl rfl (fun _ => ⟨_, _, evW_op (ev_load1 rfl rfl (read_last (j := 2) rfl) rfl), rfl, ?_⟩) (fun h => by cases h)
          refine Rg.guards true rfl rfl rfl (fun _ => ⟨_, _, evW_op (ev_look false rfl rfl hM5), rfl, ?_⟩) (fun h => by cases h)
          simp only [Bool.false_eq_true, if_false, idx_val]
          refine Rg.guards true rfl rfl rfl (fun _ => ⟨_, _, evW_op (ev_leq (decide (idx order l[k].up ≤ idx order l[k].lo)) rfl rfl (by simp)), rfl, ?_⟩) (fun h => by cases h)
          refine Rg.opp rfl rfl rfl rfl rfl ?_
          refine Rg.nil ?_
          refine Runs.cond (decide (idx order l[k].up ≤ idx order l[k].lo)) rfl (fun hle => ?_) (fun hle => ?_)
          · refine Runs.seq (Runs.region ?_)
            repeat refine Rg.opp rfl rfl rfl rfl rfl ?_
            refine Rg.nil ?_
            refine Runs.ret ⟨_, rfl, ?_, he5⟩
            have hf : l.findIdx? (badRel order) = some k := by
              rw [List.findIdx?_eq_some_iff_getElem]
              exact ⟨hlt, by simp [badRel, h4]; exact of_decide_eq_true hle, fun i hi => by simpa using hgood i (by omega) hi⟩
            rw [hkp, hf]
            rfl
          · refine Runs.skip ?_
            refine Runs.region ?_
            refine Rg.opp rfl rfl rfl (ev_addn (b := 1) rfl rfl (by omega)) rfl ?_
            refine Rg.opp rfl rfl rfl rfl rfl ?_
            refine Rg.cut (n := 82) (l := [(61, nat (k + 1)), (8, .map (some M)), (59, .slice (some ⟨b, o, none⟩) l.length c), (60, nat l.length)]) (Is.of ⟨rfl, rfl, rfl, rfl, rfl, rfl, rfl, rfl, trivial⟩) (fun a5 => ?_)
            exact Rg.nil (next a5 (by simp [badRel, of_decide_eq_false hle]))
      · refine Runs.seq (Runs.region ?_)
        refine Rg.opp rfl rfl rfl (ev_lt false rfl rfl (by simp; omega)) rfl ?_
        refine Rg.nil ?_
        refine Runs.seq (Runs.cond false rfl (fun h => by cases h) (fun _ => ?_))
        refine Runs.exit ?_
        refine Runs.seq (Runs.region ?_)
        repeat refine Rg.opp rfl rfl rfl rfl rfl ?_
        refine Rg.nil ?_
        refine Runs.ret ⟨_, rfl, ?_, he4⟩
        have hf : l.findIdx? (badRel order) = none := by
          rw [List.findIdx?_eq_none_iff]
          intro r hr
          obtain ⟨i, hi, rfl⟩ := List.mem_iff_getElem.1 hr
          exact hgood i hi (by omega)
        rw [hkp, hf]
        rfl

end Go.Proofs.Ytdhbclplondmjaa.C

end

section
/- The end of the law on Keeps: its last loop. -/
set_option linter.unusedVariables false
set_option maxRecDepth 100000
namespace Go.Proofs.Ytdhbclplondmjaa.C
open Go.RowKit Go.Sort

def restOf : Code → Code
  | .seq _ b => b
  | c => c
def restN : Nat → Code → Code
  | 0, c => c
  | n + 1, c => restOf (restN n c)
def bodyOf (f : Func) : Code := match f.body with | some c => c | none => .skip

theorem evW_call {T : Tab} {call : CallF} {s : List Value} {H : Heap} {o : Op} {f : FuncId} {args : List Value} {r : Value × Heap} (hn : opEval T s H o = none) (hc : calleeOf T s H o = some (f, args)) (h : call f args H = some r) : evalOp T call s H o = some r := by
  unfold evalOp; rw [hn, hc]; exact h

theorem quiet_same {T : Tab} {f : FuncId} {args : List Value} {v : Value} {H : Heap} (h : big T f args (H.map Blk.freeze) = some (v, H.map Blk.freeze)) : quiet (big T) f args H = some (v, H) := by
  unfold quiet
  rw [h]
  simp

def lawArc (order : List Nm) (r : Rel) : Bool := decide (r.kind ≠ 4) && decide (indexOf order r.up < indexOf order r.lo)

set_option maxHeartbeats 4000000 in
theorem law_end {H4 : Heap} {order : List Nm} {L : List Rel} {f e oc lc : Nat} {al ans : Bool} {oa la : Option Addr} (hosl : Sl H4 1 (.slice oa order.length oc) (strs order)) (hol : order.length < 2 ^ 40) (hlcs : Cells H4 3 la (rels L)) (hL8 : L.length ≤ 8)
    (hlaw : (match L.findIdx? (lawArc order) with
      | some i => decide (e = 0) && decide (f = i) && !al
      | none => decide (e = 0) && decide (f = 0) && al) = ans) (a8 : Nat → Value) :
    Runs tab (restN 10 (bodyOf Try.f8)) (mkS 139 a8 [(1, .slice oa order.length oc), (6, .slice la L.length lc), (7, nat f), (8, .bool al), (9, nat e)]) H4 (fun s1 H1 => ∃ v, resultsC tab Try.f8 s1 H1 = some v ∧ v = .bool ans) (fun _ _ _ => False) (fun s1 H1 => ∃ v, resultsC tab Try.f8 s1 H1 = some v ∧ v = .bool ans) := by
  have hfin : ∀ r : Value, r = .bool ans → r = .bool ans := fun _ h => h
  refine Runs.seq (Runs.seq (Runs.region ?_))
  refine Rg.opp rfl rfl rfl rfl rfl ?_
  refine Rg.nil ?_
  refine Runs.block ?_
  refine Runs.loop (fun m s H5 => H4 = H5 ∧ ∃ k, k ≤ L.length ∧ m = L.length - k ∧ (∀ i (hi : i < L.length), i < k → lawArc order L[i] = false) ∧ Is s 139 [(1, .slice oa order.length oc), (6, .slice la L.length lc), (7, nat f), (8, .bool al), (9, nat e), (14, nat k)]) _ ⟨rfl, 0, Nat.zero_le _, rfl, fun i _ h => by omega, Is.of ⟨rfl, rfl, rfl, rfl, rfl, rfl, rfl, rfl, rfl, rfl, rfl, rfl, trivial⟩⟩ ?_
  rintro m s H5 ⟨hH5, k4, hk4, rfl, hgood, hs⟩
  subst hH5
  obtain ⟨a9, rfl⟩ := hs.mk1
  clear hs
  by_cases hlt4 : k4 < L.length
  · refine Runs.seq (Runs.seq (Runs.region ?_))
    refine Rg.opp rfl rfl rfl rfl rfl ?_
    refine Rg.opp rfl rfl rfl rfl rfl ?_
    refine Rg.opp rfl rfl rfl rfl rfl ?_
    refine Rg.opp rfl rfl rfl (ev_lt true rfl rfl (by simp; omega)) rfl ?_
    refine Rg.nil ?_
    refine Runs.cond true rfl (fun _ => ?_) (fun h => by cases h)
    refine Runs.skip ?_
    obtain ⟨b, o, rfl, hsz, hr⟩ := hlcs.lt (i := k4) (by rw [rels_len]; exact hlt4)
    have hrk := hr k4 _ (rels_get hlt4)
    have hix : ∀ x, quiet (big tab) 22 [.slice oa order.length oc, str x] H4 = some (.int .i64 (indexOf order x), H4) := fun x => quiet_same (index_runs x (hosl.sees (Sees.freeze _)) (by omega))
    have next : ∀ a5 : Nat → Value, lawArc order L[k4] = false → ∃ m1, m1 < L.length - k4 ∧ H4 = H4 ∧ ∃ k1, k1 ≤ L.length ∧ m1 = L.length - k1 ∧ (∀ i (hi : i < L.length), i < k1 → lawArc order L[i] = false) ∧ Is (mkS 139 a5 [(1, .slice oa order.length oc), (6, (.slice (some ⟨b, o, none⟩) L.length lc)), (7, nat f), (8, .bool al), (9, nat e), (14, nat (k4 + 1))]) 139 [(1, .slice oa order.length oc), (6, (.slice (some ⟨b, o, none⟩) L.length lc)), (7, nat f), (8, .bool al), (9, nat e), (14, nat k1)] := by
      intro a5 hbad
      refine ⟨L.length - (k4 + 1), by omega, rfl, k4 + 1, hlt4, rfl, fun i hi h => ?_, Is.of ⟨rfl, rfl, rfl, rfl, rfl, rfl, rfl, rfl, rfl, rfl, rfl, rfl, trivial⟩⟩
      rcases Nat.lt_or_ge i k4 with q | q
      · exact hgood i hi q
      · have : i = k4 := by omega
        subst this; exact hbad
    refine Runs.seq (Runs.block ?_)
    refine Runs.seq (Runs.drawn (is := List.range 22) (by decide +kernel) ?_)
    refine Rg.opp rfl rfl rfl rfl rfl ?_
    refine Rg.opp rfl rfl rfl rfl rfl ?_
    refine Rg.opp rfl rfl rfl (ev_at rfl rfl rfl rfl (by decide) hlt4) rfl ?_
    refine Rg.opp rfl rfl rfl (ev_loadA rfl rfl hrk rfl) rfl ?_
    refine Rg.calls rfl rfl rfl rfl rfl rfl (quiet_pure (fun K => arc_runs _ _ _ K) _) ?_
    by_cases hk : L[k4].kind = 4
    · rw [show decide (L[k4].kind ≠ 4) = false from decide_eq_false (by simp [hk])]
      refine Rg.opp rfl rfl rfl rfl rfl ?_
      refine Rg.guards false rfl rfl rfl (fun h => by cases h) (fun _ => ?_)
      refine Rg.guards false rfl rfl rfl (fun h => by cases h) (fun _ => ?_)
      refine Rg.guards false rfl rfl rfl (fun h => by cases h) (fun _ => ?_)
      refine Rg.guards false rfl rfl rfl (fun h => by cases h) (fun _ => ?_)
      refine Rg.guards false rfl rfl rfl (fun h => by cases h) (fun _ => ?_)
      refine Rg.guards false rfl rfl rfl (fun h => by cases h) (fun _ => ?_)
      refine Rg.guards false rfl rfl rfl (fun h => by cases h) (fun _ => ?_)
      refine Rg.guards false rfl rfl rfl (fun h => by cases h) (fun _ => ?_)
      refine Rg.guards false rfl rfl rfl (fun h => by cases h) (fun _ => ?_)
      refine Rg.guards false rfl rfl rfl (fun h => by cases h) (fun _ => ?_)
      refine Rg.guards false rfl rfl rfl (fun h => by cases h) (fun _ => ?_)
      refine Rg.guards false rfl rfl rfl (fun h => by cases h) (fun _ => ?_)
      refine Rg.guards false rfl rfl rfl (fun h => by cases h) (fun _ => ?_)
      refine Rg.guards false rfl rfl rfl (fun h => by cases h) (fun _ => ?_)
      refine Rg.guards false rfl rfl rfl (fun h => by cases h) (fun _ => ?_)
      refine Rg.opp rfl rfl rfl rfl rfl ?_
      refine Rg.nil ?_
      refine Runs.cond false rfl (fun h => by cases h) (fun _ => ?_)
      refine Runs.skip ?_
      refine Runs.region ?_
      refine Rg.opp rfl rfl rfl rfl rfl ?_
      refine Rg.opp rfl rfl rfl (ev_addn (b := 1) rfl rfl (by omega)) rfl ?_
      refine Rg.opp rfl rfl rfl rfl rfl ?_
      refine Rg.cut (n := 139) (l := [(1, .slice oa order.length oc), (6, (.slice (some ⟨b, o, none⟩) L.length lc)), (7, nat f), (8, .bool al), (9, nat e), (14, nat (k4 + 1))]) (Is.of ⟨rfl, rfl, rfl, rfl, rfl, rfl, rfl, rfl, rfl, rfl, rfl, rfl, trivial⟩) (fun a5 => ?_)
      exact Rg.nil (next a5 (by simp [lawArc, hk]))
    · rw [show decide (L[k4].kind ≠ 4) = true from decide_eq_true hk]
      refine Rg.opp rfl rfl rfl rfl rfl ?_
      refine Rg.guards true rfl rfl rfl (fun _ => ⟨_, _, evW_op rfl, rfl, ?_⟩) (fun h => by cases h)
      refine Rg.guards true rfl rfl rfl (fun _ => ⟨_, _, evW_op rfl, rfl, ?_⟩) (fun h => by cases h)
      refine Rg.guards true rfl rfl rfl (fun _ => ⟨_, _, evW_op rfl, rfl, ?_⟩) (fun h => by cases h)
      refine Rg.guards true rfl rfl rfl (fun _ => ⟨_, _, evW_op (ev_at rfl rfl rfl rfl (by decide) hlt4), rfl, ?_⟩) (fun h => by cases h)
      refine Rg.guards true rfl rfl rfl (fun _ => ⟨_, _, evW_op (ev_fld rfl rfl rfl rfl rfl (by decide)), rfl, ?_⟩) (fun h => by cases h)
      refine Rg.guards true rfl rfl rfl (fun _ => ⟨_, _, evW_op (ev_load1 rfl rfl (read_one hrk (j := 1) rfl) rfl), rfl, ?_⟩) (fun h => by cases h)
      refine Rg.guards true rfl rfl rfl (fun _ => ⟨_, _, evW_call rfl rfl (hix _), rfl, ?_⟩) (fun h => by cases h)
      refine Rg.guards true rfl rfl rfl (fun _ => ⟨_, _, evW_op rfl, rfl, ?_⟩) (fun h => by cases h)
      refine Rg.guards true rfl rfl rfl (fun _ => ⟨_, _, evW_op rfl, rfl, ?_⟩) (fun h => by cases h)
      refine Rg.guards true rfl rfl rfl (fun _ => ⟨_, _, evW_op rfl, rfl, ?_⟩) (fun h => by cases h)
      refine Rg.guards true rfl rfl rfl (fun _ => ⟨_, _, evW_op (ev_at rfl rfl rfl rfl (by decide) hlt4), rfl, ?_⟩) (fun h => by cases h)
      refine Rg.guards true rfl rfl rfl (fun _ => ⟨_, _, evW_op (ev_fld rfl rfl rfl rfl rfl (by decide)), rfl, ?_⟩) (fun h => by cases h)
      refine Rg.guards true rfl rfl rfl (fun _ => ⟨_, _, evW_op (ev_load1 rfl rfl (read_one hrk (j := 2) rfl) rfl), rfl, ?_⟩) (fun h => by cases h)
      refine Rg.guards true rfl rfl rfl (fun _ => ⟨_, _, evW_call rfl rfl (hix _), rfl, ?_⟩) (fun h => by cases h)
      refine Rg.guards true rfl rfl rfl (fun _ => ⟨_, _, evW_op (ev_lt (decide (indexOf order L[k4].up < indexOf order L[k4].lo)) rfl rfl rfl), rfl, ?_⟩) (fun h => by cases h)
      refine Rg.opp rfl rfl rfl rfl rfl ?_
      refine Rg.nil ?_
      refine Runs.cond (decide (indexOf order L[k4].up < indexOf order L[k4].lo)) rfl (fun q => ?_) (fun q => ?_)
      · have hfi : L.findIdx? (lawArc order) = some k4 := by
          rw [List.findIdx?_eq_some_iff_getElem]
          exact ⟨hlt4, by simp [lawArc, hk]; exact of_decide_eq_true q, fun i hi => by simpa using hgood i (by omega) hi⟩
        rw [hfi] at hlaw
        simp only at hlaw
        refine Runs.seq (Runs.region ?_)
        refine Rg.opp rfl rfl rfl rfl rfl ?_
        by_cases he0 : e = 0
        · refine Rg.opp rfl rfl rfl (ev_eq true rfl rfl (decide_eq_true (by omega))) rfl ?_
          refine Rg.opp rfl rfl rfl rfl rfl ?_
          refine Rg.guards true rfl rfl rfl (fun _ => ⟨_, _, evW_op rfl, rfl, ?_⟩) (fun h => by cases h)
          refine Rg.guards true rfl rfl rfl (fun _ => ⟨_, _, evW_op rfl, rfl, ?_⟩) (fun h => by cases h)
          by_cases hfk : f = k4
          · refine Rg.guards true rfl rfl rfl (fun _ => ⟨_, _, evW_op (ev_eq true rfl rfl (decide_eq_true (by omega))), rfl, ?_⟩) (fun h => by cases h)
            refine Rg.opp rfl rfl rfl rfl rfl ?_
            refine Rg.opp rfl rfl rfl rfl rfl ?_
            refine Rg.guards true rfl rfl rfl (fun _ => ⟨_, _, evW_op rfl, rfl, ?_⟩) (fun h => by cases h)
            refine Rg.guards true rfl rfl rfl (fun _ => ⟨_, _, evW_op rfl, rfl, ?_⟩) (fun h => by cases h)
            refine Rg.opp rfl rfl rfl rfl rfl ?_
            refine Rg.opp rfl rfl rfl rfl rfl ?_
            refine Rg.nil ?_
            refine Runs.ret ⟨_, rfl, hfin _ ?_⟩
            rw [← hlaw]
            simp [he0, hfk]
            try rfl
          · refine Rg.guards true rfl rfl rfl (fun _ => ⟨_, _, evW_op (ev_eq false rfl rfl (decide_eq_false (by omega))), rfl, ?_⟩) (fun h => by cases h)
            refine Rg.opp rfl rfl rfl rfl rfl ?_
            refine Rg.opp rfl rfl rfl rfl rfl ?_
            refine Rg.guards false rfl rfl rfl (fun h => by cases h) (fun _ => ?_)
            refine Rg.guards false rfl rfl rfl (fun h => by cases h) (fun _ => ?_)
            refine Rg.opp rfl rfl rfl rfl rfl ?_
            refine Rg.opp rfl rfl rfl rfl rfl ?_
            refine Rg.nil ?_
            refine Runs.ret ⟨_, rfl, hfin _ ?_⟩
            rw [← hlaw]
            simp [he0, hfk]
            try rfl
        · refine Rg.opp rfl rfl rfl (ev_eq false rfl rfl (decide_eq_false (by omega))) rfl ?_
          refine Rg.opp rfl rfl rfl rfl rfl ?_
          refine Rg.guards false rfl rfl rfl (fun h => by cases h) (fun _ => ?_)
          refine Rg.guards false rfl rfl rfl (fun h => by cases h) (fun _ => ?_)
          refine Rg.guards false rfl rfl rfl (fun h => by cases h) (fun _ => ?_)
          refine Rg.opp rfl rfl rfl rfl rfl ?_
          refine Rg.opp rfl rfl rfl rfl rfl ?_
          refine Rg.guards false rfl rfl rfl (fun h => by cases h) (fun _ => ?_)
          refine Rg.guards false rfl rfl rfl (fun h => by cases h) (fun _ => ?_)
          refine Rg.opp rfl rfl rfl rfl rfl ?_
          refine Rg.opp rfl rfl rfl rfl rfl ?_
          refine Rg.nil ?_
          refine Runs.ret ⟨_, rfl, hfin _ ?_⟩
          rw [← hlaw]
          simp [he0]
          try rfl
      · refine Runs.skip ?_
        refine Runs.region ?_
        refine Rg.opp rfl rfl rfl rfl rfl ?_
        refine Rg.opp rfl rfl rfl (ev_addn (b := 1) rfl rfl (by omega)) rfl ?_
        refine Rg.opp rfl rfl rfl rfl rfl ?_
        refine Rg.cut (n := 139) (l := [(1, .slice oa order.length oc), (6, (.slice (some ⟨b, o, none⟩) L.length lc)), (7, nat f), (8, .bool al), (9, nat e), (14, nat (k4 + 1))]) (Is.of ⟨rfl, rfl, rfl, rfl, rfl, rfl, rfl, rfl, rfl, rfl, rfl, rfl, trivial⟩) (fun a5 => ?_)
        exact Rg.nil (next a5 (by simp only [lawArc, of_decide_eq_false q, decide_false, Bool.and_false]))
  · refine Runs.seq (Runs.seq (Runs.region ?_))
    refine Rg.opp rfl rfl rfl rfl rfl ?_
    refine Rg.opp rfl rfl rfl rfl rfl ?_
    refine Rg.opp rfl rfl rfl rfl rfl ?_
    refine Rg.opp rfl rfl rfl (ev_lt false rfl rfl (by simp; omega)) rfl ?_
    refine Rg.nil ?_
    refine Runs.cond false rfl (fun h => by cases h) (fun _ => ?_)
    refine Runs.exit ?_
    have hfi : L.findIdx? (lawArc order) = none := by
      rw [List.findIdx?_eq_none_iff]
      intro r hr
      obtain ⟨i, hi, rfl⟩ := List.mem_iff_getElem.1 hr
      exact hgood i hi (by omega)
    rw [hfi] at hlaw
    simp only at hlaw
    refine Runs.seq (Runs.region ?_)
    refine Rg.opp rfl rfl rfl rfl rfl ?_
    by_cases he0 : e = 0
    · refine Rg.opp rfl rfl rfl (ev_eq true rfl rfl (decide_eq_true (by omega))) rfl ?_
      refine Rg.opp rfl rfl rfl rfl rfl ?_
      refine Rg.guards true rfl rfl rfl (fun _ => ⟨_, _, evW_op rfl, rfl, ?_⟩) (fun h => by cases h)
      by_cases hf0 : f = 0
      · refine Rg.guards true rfl rfl rfl (fun _ => ⟨_, _, evW_op (ev_eq true rfl rfl (decide_eq_true (by omega))), rfl, ?_⟩) (fun h => by cases h)
        refine Rg.opp rfl rfl rfl rfl rfl ?_
        refine Rg.opp rfl rfl rfl rfl rfl ?_
        refine Rg.guards true rfl rfl rfl (fun _ => ⟨_, _, evW_op rfl, rfl, ?_⟩) (fun h => by cases h)
        refine Rg.opp rfl rfl rfl rfl rfl ?_
        refine Rg.opp rfl rfl rfl rfl rfl ?_
        refine Rg.nil ?_
        refine Runs.ret ⟨_, rfl, hfin _ ?_⟩
        rw [← hlaw]
        simp [he0, hf0]
        try rfl
      · refine Rg.guards true rfl rfl rfl (fun _ => ⟨_, _, evW_op (ev_eq false rfl rfl (decide_eq_false (by omega))), rfl, ?_⟩) (fun h => by cases h)
        refine Rg.opp rfl rfl rfl rfl rfl ?_
        refine Rg.opp rfl rfl rfl rfl rfl ?_
        refine Rg.guards false rfl rfl rfl (fun h => by cases h) (fun _ => ?_)
        refine Rg.opp rfl rfl rfl rfl rfl ?_
        refine Rg.opp rfl rfl rfl rfl rfl ?_
        refine Rg.nil ?_
        refine Runs.ret ⟨_, rfl, hfin _ ?_⟩
        rw [← hlaw]
        simp [he0, hf0]
        try rfl
    · refine Rg.opp rfl rfl rfl (ev_eq false rfl rfl (decide_eq_false (by omega))) rfl ?_
      refine Rg.opp rfl rfl rfl rfl rfl ?_
      refine Rg.guards false rfl rfl rfl (fun h => by cases h) (fun _ => ?_)
      refine Rg.guards false rfl rfl rfl (fun h => by cases h) (fun _ => ?_)
      refine Rg.opp rfl rfl rfl rfl rfl ?_
      refine Rg.opp rfl rfl rfl rfl rfl ?_
      refine Rg.guards false rfl rfl rfl (fun h => by cases h) (fun _ => ?_)
      refine Rg.opp rfl rfl rfl rfl rfl ?_
      refine Rg.opp rfl rfl rfl rfl rfl ?_
      refine Rg.nil ?_
      refine Runs.ret ⟨_, rfl, hfin _ ?_⟩
      rw [← hlaw]
      simp [he0]
      try rfl

end Go.Proofs.Ytdhbclplondmjaa.C

end
