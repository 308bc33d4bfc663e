/- The operations on values alone: what the abstract machine says of them, the machine says too. -/
import Derived.Test.YtdhbclplondmjaaCTy
set_option linter.unusedVariables false
set_option linter.unusedSimpArgs false
namespace Go.Proofs.Ytdhbclplondmjaa.C
open Go.RowKit

variable {P : Program} {T : Tab} {μ : Mu}

theorem eqGuard_int (op : BinOp) (t : TypeId) (x y : Operand) (k k' : IntKind) (a b : Int) (w : World) : (eqGuard op t x y (.int k a) (.int k' b)).run P w = .ok () w := by
  unfold eqGuard; split <;> simp
theorem eqGuard_str (op : BinOp) (t : TypeId) (x y : Operand) (a b : ByteArray) (w : World) : (eqGuard op t x y (.string a) (.string b)).run P w = .ok () w := by
  unfold eqGuard; split <;> simp

theorem binInt_ok (op : BinOp) (k : IntKind) (a b : Int) (t : TypeId) {v : Value} (h1 : op ≠ .shl) (h2 : op ≠ .shr) (h : binInt op k a b = some v) (w : World) :
    (Go.binOp op t (.int k a) (.int k b)).run P w = .ok v w ∧ VR μ v v := by
  cases op <;> simp only [binInt, Option.some.injEq, reduceCtorEq, ne_eq, not_true_eq_false] at h h1 h2
  case quo => split at h <;> simp at h; subst h; rename_i hb; exact ⟨by simp [Go.binOp, Op.intDiv, hb], .int _ _⟩
  case rem => split at h <;> simp at h; subst h; rename_i hb; exact ⟨by simp [Go.binOp, Op.intDiv, hb], .int _ _⟩
  all_goals subst h; first | exact ⟨by simp [Go.binOp, Op.intArith, Op.intBits, Op.intCmp], .int _ _⟩ | exact ⟨by simp [Go.binOp, Op.intArith, Op.intBits, Op.intCmp], .bool _⟩

theorem binStr_ok (op : BinOp) (a b : ByteArray) (t : TypeId) {v : Value} (h : binStr op a b = some v) (w : World) :
    (Go.binOp op t (.string a) (.string b)).run P w = .ok v w ∧ VR μ v v := by
  have h3 : IntKind.i64.max = 9223372036854775807 := rfl
  cases op <;> simp only [binStr, Option.some.injEq, reduceCtorEq] at h
  case add =>
    split at h <;> simp at h
    subst h; rename_i hb
    rw [h3] at hb
    refine ⟨?_, .string _⟩
    simp [Go.binOp, Op.stringOp]
    omega
  all_goals subst h; exact ⟨by simp [Go.binOp, Op.stringOp], .bool _⟩

theorem equal_run {t : TypeId} {d : TypeDesc} (hd : P.underlying t = some d) (x y : Value) (w : World) (r : Bool)
    (h : ∀ n, (Op.equalIn (n + 1) t x y).run P w = .ok r w) : (Op.equal t x y).run P w = .ok r w := h 9999

/-- What a comparison comes to. -/
def EqRun (P : Program) (t : TypeId) (x y : Value) (r : Bool) (w : World) : Prop :=
  ∀ xo yo, (do eqGuard .eql t xo yo x y; Go.binOp .eql t x y).run P w = .ok (.bool r) w ∧ (do eqGuard .neq t xo yo x y; Go.binOp .neq t x y).run P w = .ok (.bool (!r)) w

theorem eqSliceL {t : TypeId} {e : TypeId} (n c m k : Nat) (a : Option Addr) (hd : P.underlying t = some (.slice e)) (w : World) : EqRun P t (.slice none n c) (.slice a m k) a.isNone w := by
  have he : (Op.equal t (.slice none n c) (.slice a m k)).run P w = .ok a.isNone w := equal_run hd _ _ w _ (fun n => by unfold Op.equalIn; simp [run_underlying hd])
  exact fun xo yo => ⟨by simp [eqGuard, Go.binOp, he], by simp [eqGuard, Go.binOp, he]⟩
theorem eqSliceR {t : TypeId} {e : TypeId} (n c m k : Nat) (a : Addr) (hd : P.underlying t = some (.slice e)) (w : World) : EqRun P t (.slice (some a) n c) (.slice none m k) false w := by
  have he : (Op.equal t (.slice (some a) n c) (.slice none m k)).run P w = .ok false w := equal_run hd _ _ w _ (fun n => by unfold Op.equalIn; simp [run_underlying hd])
  exact fun xo yo => ⟨by simp [eqGuard, Go.binOp, he], by simp [eqGuard, Go.binOp, he]⟩
theorem eqPtrL {t : TypeId} {e : TypeId} (a : Option Addr) (hd : P.underlying t = some (.pointer e)) (w : World) : EqRun P t (.pointer none) (.pointer a) a.isNone w := by
  have he : (Op.equal t (.pointer none) (.pointer a)).run P w = .ok a.isNone w := equal_run hd _ _ w _ (fun n => by unfold Op.equalIn; simp [run_underlying hd])
  exact fun xo yo => ⟨by simp [eqGuard, Go.binOp, he], by simp [eqGuard, Go.binOp, he]⟩
theorem eqPtrR {t : TypeId} {e : TypeId} (a : Addr) (hd : P.underlying t = some (.pointer e)) (w : World) : EqRun P t (.pointer (some a)) (.pointer none) false w := by
  have he : (Op.equal t (.pointer (some a)) (.pointer none)).run P w = .ok false w := equal_run hd _ _ w _ (fun n => by unfold Op.equalIn; simp [run_underlying hd])
  exact fun xo yo => ⟨by simp [eqGuard, Go.binOp, he], by simp [eqGuard, Go.binOp, he]⟩
theorem eqIfaceL {t : TypeId} {ms : Array (String × TypeId)} (u : TypeId) (v : Value) (hd : P.underlying t = some (.interface ms)) (w : World) : EqRun P t (.nilIface) (.iface u v) false w := by
  have he : (Op.equal t (.nilIface) (.iface u v)).run P w = .ok false w := equal_run hd _ _ w _ (fun n => by unfold Op.equalIn; simp [run_underlying hd])
  exact fun xo yo => ⟨by simp [eqGuard, Go.binOp, he], by simp [eqGuard, Go.binOp, he]⟩
theorem eqIfaceR {t : TypeId} {ms : Array (String × TypeId)} (u : TypeId) (v : Value) (hd : P.underlying t = some (.interface ms)) (w : World) : EqRun P t (.iface u v) (.nilIface) false w := by
  have he : (Op.equal t (.iface u v) (.nilIface)).run P w = .ok false w := equal_run hd _ _ w _ (fun n => by unfold Op.equalIn; simp [run_underlying hd])
  exact fun xo yo => ⟨by simp [eqGuard, Go.binOp, he], by simp [eqGuard, Go.binOp, he]⟩
theorem eqBool {t : TypeId} (a b : Bool) (hd : P.underlying t = some .bool) (w : World) : EqRun P t (.bool a) (.bool b) (a == b) w := by
  have he : (Op.equal t (.bool a) (.bool b)).run P w = .ok (a == b) w := equal_run hd _ _ w _ (fun n => by unfold Op.equalIn; simp [run_underlying hd])
  exact fun xo yo => ⟨by simp [eqGuard, Go.binOp, he], by simp [eqGuard, Go.binOp, he]⟩

theorem nilEq_ok {t : TypeId} {u : UD} {d : TypeDesc} (hd : P.underlying t = some d) (hu : DescOk d u) {x y x' y' : Value} (hx : VR μ x x') (hy : VR μ y y') {r : Bool} (h : nilEq u x y = some r) (w : World) :
    EqRun P t x' y' r w := by
  unfold nilEq at h
  split at h <;> simp only [Option.some.injEq, reduceCtorEq] at h <;> subst h <;> simp only [DescOk] at hu
  · subst hu; cases hx; cases hy <;> exact eqSliceL _ _ _ _ _ hd w
  · subst hu
    rename_i hne
    cases hy
    cases hx
    · exact (hne rfl).elim
    · exact eqSliceR _ _ _ _ _ hd w
    · exact eqSliceR _ _ _ _ _ hd w
    · exact eqSliceR _ _ _ _ _ hd w
  · subst hu; cases hx; cases hy <;> exact eqPtrL _ hd w
  · subst hu
    rename_i hne
    cases hy
    cases hx
    · exact (hne rfl).elim
    · exact eqPtrR _ hd w
  · obtain ⟨ms, rfl⟩ := hu; cases hx; cases hy; exact eqIfaceL _ _ hd w
  · obtain ⟨ms, rfl⟩ := hu; cases hx; cases hy; exact eqIfaceR _ _ hd w
  · subst hu; cases hx; cases hy; exact eqBool _ _ hd w

theorem binOp_ok (ag : Agree P T) {op : BinOp} {t : TypeId} {x y x' y' v : Value} (hx : VR μ x x') (hy : VR μ y y') (h : binOp T op t x y = some v) (xo yo : Operand) (w : World) :
    (do eqGuard op t xo yo x' y'; Go.binOp op t x' y').run P w = .ok v w ∧ VR μ v v := by
  unfold binOp at h
  split at h
  · cases hx; cases hy
    rename_i k a k' b
    simp only [Sem.run_bind, eqGuard_int, Result.andThen_ok]
    split at h
    · split at h <;> simp at h; subst h; rename_i hb; exact ⟨by simp [Go.binOp, Op.shift]; intro h2; exact absurd h2 hb, .int _ _⟩
    · split at h <;> simp at h; subst h; rename_i hb; exact ⟨by simp [Go.binOp, Op.shift]; intro h2; exact absurd h2 hb, .int _ _⟩
    · split at h
      · rename_i hk; subst hk; exact binInt_ok op k a b t (by assumption) (by assumption) h w
      · simp at h
  · cases hx; cases hy
    simp only [Sem.run_bind, eqGuard_str, Result.andThen_ok]
    exact binStr_ok op _ _ t h w
  · split at h
    · rename_i r hr
      simp at h; subst h
      rw [Option.bind_eq_some_iff] at hr
      obtain ⟨i, hi, hr⟩ := hr
      obtain ⟨d, hd, hu⟩ := (ag.ty t i hi).und
      exact ⟨(nilEq_ok hd hu hx hy hr w xo yo).1, .bool _⟩
    · rename_i r hr
      simp at h; subst h
      rw [Option.bind_eq_some_iff] at hr
      obtain ⟨i, hi, hr⟩ := hr
      obtain ⟨d, hd, hu⟩ := (ag.ty t i hi).und
      exact ⟨(nilEq_ok hd hu hx hy hr w xo yo).2, .bool _⟩
    · simp at h

theorem unOp_ok {op : UnOp} {x x' v : Value} (hx : VR μ x x') (h : unOp op x = some v) (w : World) : (Op.unary op x').run P w = .ok v w ∧ VR μ v v := by
  unfold unOp at h
  split at h <;> simp at h <;> subst h <;> cases hx
  · exact ⟨by simp [Op.unary, Op.intArith], .int _ _⟩
  · exact ⟨by simp [Op.unary], .bool _⟩
  · exact ⟨by simp [Op.unary, Op.intBits], .int _ _⟩

theorem vNilCheck_shape {x v : Value} (h : vNilCheck x = some v) : v = x := by
  unfold vNilCheck at h
  split at h <;> simp at h <;> exact h.symm

theorem vConvert_ok (ag : Agree P T) {src dst : TypeId} {x x' v : Value} (hx : VR μ x x') (h : vConvert T src dst x = some v) (w : World) : (Go.convert src dst x').run P w = .ok v w ∧ VR μ v v := by
  unfold vConvert at h
  split at h <;> simp at h
  · rename_i k0 k1 k2 n h1 h2
    obtain ⟨d1, e1, u1⟩ := ag.d h1
    obtain ⟨d2, e2, u2⟩ := ag.d h2
    simp only [DescOk] at u1 u2
    subst u1; subst u2; subst h; cases hx
    exact ⟨by simp [Go.convert, run_underlying e1, run_underlying e2, Conv.intToInt], .int _ _⟩
  · rename_i b h1 h2
    obtain ⟨d1, e1, u1⟩ := ag.d h1
    obtain ⟨d2, e2, u2⟩ := ag.d h2
    simp only [DescOk] at u1 u2
    subst u1; subst u2; subst h; cases hx
    exact ⟨by simp [Go.convert, run_underlying e1, run_underlying e2], .string _⟩

theorem vMakeIface_ok (ag : Agree P T) {t : TypeId} {x x' v : Value} (hx : VR μ x x') (h : vMakeIface T t x = some v) (w : World) : ∃ v', (Instr.makeInterface t x').run P w = .ok v' w ∧ VR μ v v' := by
  unfold vMakeIface at h
  split at h <;> simp at h
  rename_i u h1 h2 h3
  subst h
  obtain ⟨d, e, hu⟩ := ag.d h3
  refine ⟨.iface t x', ?_, .iface t hx⟩
  unfold Instr.makeInterface
  cases u <;> simp only [DescOk] at hu
  case iface => exact (h1 rfl).elim
  case other => exact (h2 rfl).elim
  case struct fs => obtain ⟨f, rfl, _⟩ := hu; simp [run_underlying e]
  case func => obtain ⟨a, b, c, rfl⟩ := hu; simp [run_underlying e]
  all_goals (subst hu; simp [run_underlying e])

theorem vFieldAddr_ok (ag : Agree P T) {t : TypeId} {x x' v : Value} {f : Nat} (hx : VR μ x x') (h : vFieldAddr T t x f = some v) (w : World) : ∃ v', (Instr.fieldAt t x' f).run P w = .ok v' w ∧ VR μ v v' := by
  unfold vFieldAddr at h
  simp only [Option.bind_eq_bind, Option.bind_eq_some_iff] at h
  obtain ⟨i, hi, h⟩ := h
  split at h
  · rename_i fs b o hdesc
    simp only [Option.bind_eq_some_iff] at h
    obtain ⟨g, hg, k, hk, h⟩ := h
    split at h <;> simp at h
    subst h
    rename_i hpos
    obtain ⟨d, hd, hu⟩ := (ag.ty t i hi).und
    rw [hdesc] at hu
    obtain ⟨fields, rfl, hfs⟩ := hu
    rw [← hfs, List.getElem?_map, Option.map_eq_some_iff] at hg
    obtain ⟨fl, hfl, rfl⟩ := hg
    have hfl' : fields[f]? = some fl := by simpa using hfl
    cases hx
    rename_i l hl
    refine ⟨.pointer (some ⟨l.blk, l.sh + (o + fl.offset), none⟩), ?_, .ptr hl⟩
    have hsz := (ag.ty _ k hk).sizeOf w
    have hadd : (⟨l.blk, l.sh + o, none⟩ : Addr).add fl.offset = ⟨l.blk, l.sh + (o + fl.offset), none⟩ := by unfold Addr.add; split <;> simp_all <;> omega
    simp [Instr.fieldAt, run_underlying hd, hfl', Instr.sureAddr, fieldPlace, hsz, hadd, Nat.pos_iff_ne_zero.1 hpos]
  · simp at h

theorem part_run (ag : Agree P T) {t : TypeId} {k : TI} (hk : T.T t = some k) {cs : List Value} {off : Nat} {v : Value}
    (h : (if k.agg = true then (if off + k.size ≤ cs.length then some (Value.agg ((cs.drop off).take k.size).toArray) else none) else cs[off]?) = some v) {cs' : List Value} (hcs : VRs μ cs cs') (w : World) :
    ∃ v', (part t cs'.toArray off).run P w = .ok v' w ∧ VR μ v v' := by
  unfold part
  by_cases ha : k.agg = true
  · rw [if_pos ha] at h
    split at h <;> simp at h
    subst h
    refine ⟨.agg ((cs'.drop off).take k.size).toArray, ?_, .agg ((hcs.drop off).take _)⟩
    have hz := (ag.ty t k hk)
    simp [hz.isAgg w, ha, hz.sizeOf w, List.extract_eq_take_drop]
  · rw [if_neg ha] at h
    obtain ⟨v', e, hv⟩ := hcs.get off v h
    refine ⟨v', ?_, hv⟩
    have hz := (ag.ty t k hk)
    simp [hz.isAgg w, ha, e]

theorem vField_ok (ag : Agree P T) {t : TypeId} {x x' v : Value} {f : Nat} (hx : VR μ x x') (h : vField T t x f = some v) (w : World) : ∃ v', (Instr.field t x' f).run P w = .ok v' w ∧ VR μ v v' := by
  unfold vField at h
  simp only [Option.bind_eq_bind, Option.bind_eq_some_iff] at h
  obtain ⟨i, hi, h⟩ := h
  split at h
  · rename_i fs cs hdesc
    simp only [Option.bind_eq_some_iff] at h
    obtain ⟨g, hg, k, hk, h⟩ := h
    obtain ⟨d, hd, hu⟩ := (ag.ty t i hi).und
    rw [hdesc] at hu
    obtain ⟨fields, rfl, hfs⟩ := hu
    rw [← hfs, List.getElem?_map, Option.map_eq_some_iff] at hg
    obtain ⟨fl, hfl, rfl⟩ := hg
    have hfl' : fields[f]? = some fl := by simpa using hfl
    cases hx
    rename_i c c' hc
    obtain ⟨v', hp, hv⟩ := part_run ag hk (by simpa using h) hc w
    exact ⟨v', by simp [Instr.field, run_underlying hd, hfl', asAgg, hp], hv⟩
  · simp at h

theorem vIndex_ok (ag : Agree P T) {t : TypeId} {x i x' i' v : Value} (hx : VR μ x x') (hi : VR μ i i') (h : vIndex T t x i = some v) (w : World) : (Instr.index t x' i').run P w = .ok v w ∧ VR μ v v := by
  unfold vIndex at h
  split at h
  · rename_i b k j h1
    split at h
    · rename_i hj
      rw [Option.map_eq_some_iff] at h
      obtain ⟨c, hc, rfl⟩ := h
      obtain ⟨d, e, u⟩ := ag.d h1
      simp only [DescOk] at u
      subst u; cases hx; cases hi
      have hb : b[j.toNat]? = some c := by
        have hlt : j.toNat < b.data.toList.length := (List.getElem?_eq_some_iff.1 hc).1
        have h2 : j.toNat < b.size := by simpa using hlt
        rw [getElem?_pos b j.toNat h2]
        simp only [Option.some.injEq]
        have := (List.getElem?_eq_some_iff.1 hc).2
        rw [← this]; simp; rfl
      exact ⟨by simp [Instr.index, asIntOf, run_underlying e, hj, hb], .int _ _⟩
    · simp at h
  · simp at h

theorem vExtract_ok {x x' v : Value} {i : Nat} (hx : VR μ x x') (h : vExtract x i = some v) (w : World) : ∃ v', (Instr.extract x' i).run P w = .ok v' w ∧ VR μ v v' := by
  unfold vExtract at h
  split at h
  · cases hx
    · simp at h
    · rename_i c c' hc
      obtain ⟨v', e, hv⟩ := hc.get i v (by simpa using h)
      exact ⟨v', by simp [Instr.extract, e], hv⟩
  · simp at h

theorem vAssert_ok (ag : Agree P T) {x x' v : Value} {t xt : TypeId} (hx : VR μ x x') (h : vAssert T x t = some v) (w : World) : ∃ v', (Instr.typeAssert x' xt t false).run P w = .ok v' w ∧ VR μ v v' := by
  unfold vAssert at h
  split at h <;> try simp at h
  rename_i ud u y h1 h2 h3
  obtain ⟨rfl, rfl⟩ := h
  obtain ⟨d, e, hu⟩ := ag.d h3
  cases hx
  rename_i y' hy
  refine ⟨y', ?_, hy⟩
  unfold Instr.typeAssert
  cases ud <;> simp only [DescOk] at hu
  all_goals first
    | exact (h1 rfl).elim
    | exact (h2 rfl).elim
    | (obtain ⟨f, rfl, _⟩ := hu; simp [run_underlying e])
    | (obtain ⟨a, b, c, rfl⟩ := hu; simp [run_underlying e])
    | (subst hu; simp [run_underlying e])

theorem vLen_ok (ag : Agree P T) {t : TypeId} {ts : Array TypeId} {x x' v : Value} {ty : TypeId} (ht : ts[0]? = some t) (hx : VR μ x x') (h : vLen T t x = some v) (w : World) : (Builtin.len_ ts ty #[x']).run P w = .ok v w ∧ VR μ v v := by
  unfold vLen at h
  split at h <;> simp at h <;> subst h
  · rename_i b h1
    obtain ⟨d, e, u⟩ := ag.d h1
    simp only [DescOk] at u
    subst u; cases hx
    exact ⟨by simp [Builtin.len_, ht, run_underlying e, goInt], .int _ _⟩
  · rename_i el a n c h1
    obtain ⟨d, e, u⟩ := ag.d h1
    simp only [DescOk] at u
    subst u
    cases hx <;> exact ⟨by simp [Builtin.len_, ht, run_underlying e, goInt], .int _ _⟩

end Go.Proofs.Ytdhbclplondmjaa.C
