/- Texts of one's own, laid together: CTab -/
import Derived.Test.YtdhbclplondmjaaQc08
import Derived.Test.YtdhbclplondmjaaProg
section
/- The table of types. -/
set_option maxRecDepth 100000
namespace Go.Proofs.Ytdhbclplondmjaa.C
open Go.RowKit

def types : List (Option TI) := [
  none,
  some ⟨.func, Value.nilFunc, 1, 8⟩,
  some ⟨.int .i64, (Value.int IntKind.i64 0), 1, 8⟩,
  some ⟨.int .i64, (Value.int IntKind.i64 0), 1, 8⟩,
  some ⟨.bool, (Value.bool false), 1, 1⟩,
  some ⟨.int .u8, (Value.int IntKind.u8 0), 1, 1⟩,
  some ⟨.int .u8, (Value.int IntKind.u8 0), 1, 1⟩,
  some ⟨.struct [(2, 0), (3, 1), (4, 2), (6, 3)], (Value.agg #[Value.int IntKind.i64 0, Value.int IntKind.i64 0, Value.bool false, Value.int IntKind.u8 0]), 4, 24⟩,
  some ⟨.struct [(2, 0), (3, 1), (4, 2), (6, 3)], (Value.agg #[Value.int IntKind.i64 0, Value.int IntKind.i64 0, Value.bool false, Value.int IntKind.u8 0]), 4, 24⟩,
  some ⟨.string, (Value.string { data := #[] }), 1, 16⟩,
  some ⟨.string, (Value.string { data := #[] }), 1, 16⟩,
  some ⟨.string, (Value.string { data := #[] }), 1, 16⟩,
  some ⟨.int .u64, (Value.int IntKind.u64 0), 1, 8⟩,
  some ⟨.struct [(9, 0), (12, 1)], (Value.agg #[Value.string { data := #[] }, Value.int IntKind.u64 0]), 2, 24⟩,
  some ⟨.struct [(9, 0), (12, 1)], (Value.agg #[Value.string { data := #[] }, Value.int IntKind.u64 0]), 2, 24⟩,
  some ⟨.pointer 147, (Value.pointer none), 1, 8⟩,
  some ⟨.pointer 150, (Value.pointer none), 1, 8⟩,
  some ⟨.pointer 158, (Value.pointer none), 1, 8⟩,
  some ⟨.struct [(17, 0)], (Value.agg #[Value.pointer none]), 1, 8⟩,
  some ⟨.struct [(17, 0)], (Value.agg #[Value.pointer none]), 1, 8⟩,
  some ⟨.iface, Value.nilIface, 1, 16⟩,
  some ⟨.int .i32, (Value.int IntKind.i32 0), 1, 4⟩,
  some ⟨.slice 66, (Value.slice none 0 0), 1, 24⟩,
  some ⟨.func, Value.nilFunc, 1, 8⟩,
  some ⟨.func, Value.nilFunc, 1, 8⟩,
  some ⟨.slice 41, (Value.slice none 0 0), 1, 24⟩,
  some ⟨.func, Value.nilFunc, 1, 8⟩,
  some ⟨.slice 3, (Value.slice none 0 0), 1, 24⟩,
  some ⟨.int .i64, (Value.int IntKind.i64 0), 1, 8⟩,
  none,
  some ⟨.func, Value.nilFunc, 1, 8⟩,
  some ⟨.func, Value.nilFunc, 1, 8⟩,
  some ⟨.slice 27, (Value.slice none 0 0), 1, 24⟩,
  some ⟨.func, Value.nilFunc, 1, 8⟩,
  some ⟨.func, Value.nilFunc, 1, 8⟩,
  none,
  some ⟨.func, Value.nilFunc, 1, 8⟩,
  some ⟨.slice 9, (Value.slice none 0 0), 1, 24⟩,
  none,
  some ⟨.func, Value.nilFunc, 1, 8⟩,
  some ⟨.struct [(3, 0), (9, 1), (9, 2)], (Value.agg #[Value.int IntKind.i64 0, Value.string { data := #[] }, Value.string { data := #[] }]), 3, 40⟩,
  some ⟨.struct [(3, 0), (9, 1), (9, 2)], (Value.agg #[Value.int IntKind.i64 0, Value.string { data := #[] }, Value.string { data := #[] }]), 3, 40⟩,
  none,
  some ⟨.func, Value.nilFunc, 1, 8⟩,
  some ⟨.func, Value.nilFunc, 1, 8⟩,
  some ⟨.func, Value.nilFunc, 1, 8⟩,
  none,
  some ⟨.func, Value.nilFunc, 1, 8⟩,
  some ⟨.func, Value.nilFunc, 1, 8⟩,
  some ⟨.func, Value.nilFunc, 1, 8⟩,
  some ⟨.slice 56, (Value.slice none 0 0), 1, 24⟩,
  none,
  some ⟨.func, Value.nilFunc, 1, 8⟩,
  none,
  some ⟨.func, Value.nilFunc, 1, 8⟩,
  some ⟨.struct [(9, 0), (9, 1)], (Value.agg #[Value.string { data := #[] }, Value.string { data := #[] }]), 2, 32⟩,
  some ⟨.struct [(9, 0), (9, 1)], (Value.agg #[Value.string { data := #[] }, Value.string { data := #[] }]), 2, 32⟩,
  some ⟨.func, Value.nilFunc, 1, 8⟩,
  some ⟨.func, Value.nilFunc, 1, 8⟩,
  some ⟨.func, Value.nilFunc, 1, 8⟩,
  some ⟨.func, Value.nilFunc, 1, 8⟩,
  some ⟨.slice 37, (Value.slice none 0 0), 1, 24⟩,
  none,
  some ⟨.func, Value.nilFunc, 1, 8⟩,
  some ⟨.func, Value.nilFunc, 1, 8⟩,
  some ⟨.struct [(5, 0), (5, 1), (5, 2)], (Value.agg #[Value.int IntKind.u8 0, Value.int IntKind.u8 0, Value.int IntKind.u8 0]), 3, 3⟩,
  some ⟨.struct [(5, 0), (5, 1), (5, 2)], (Value.agg #[Value.int IntKind.u8 0, Value.int IntKind.u8 0, Value.int IntKind.u8 0]), 3, 3⟩,
  some ⟨.func, Value.nilFunc, 1, 8⟩,
  some ⟨.func, Value.nilFunc, 1, 8⟩,
  some ⟨.pointer 77, (Value.pointer none), 1, 8⟩,
  some ⟨.func, Value.nilFunc, 1, 8⟩,
  none,
  some ⟨.func, Value.nilFunc, 1, 8⟩,
  some ⟨.slice 79, (Value.slice none 0 0), 1, 24⟩,
  some ⟨.map 9 3, (Value.map none), 1, 8⟩,
  some ⟨.slice 73, (Value.slice none 0 0), 1, 24⟩,
  some ⟨.struct [(37, 0), (74, 1), (73, 2), (75, 3)], (Value.agg #[Value.slice none 0 0, Value.map none, Value.slice none 0 0, Value.slice none 0 0]), 4, 80⟩,
  some ⟨.struct [(37, 0), (74, 1), (73, 2), (75, 3)], (Value.agg #[Value.slice none 0 0, Value.map none, Value.slice none 0 0, Value.slice none 0 0]), 4, 80⟩,
  some ⟨.struct [(3, 0), (3, 1), (3, 2)], (Value.agg #[Value.int IntKind.i64 0, Value.int IntKind.i64 0, Value.int IntKind.i64 0]), 3, 24⟩,
  some ⟨.struct [(3, 0), (3, 1), (3, 2)], (Value.agg #[Value.int IntKind.i64 0, Value.int IntKind.i64 0, Value.int IntKind.i64 0]), 3, 24⟩,
  some ⟨.func, Value.nilFunc, 1, 8⟩,
  some ⟨.func, Value.nilFunc, 1, 8⟩,
  some ⟨.func, Value.nilFunc, 1, 8⟩,
  some ⟨.func, Value.nilFunc, 1, 8⟩,
  some ⟨.func, Value.nilFunc, 1, 8⟩,
  some ⟨.func, Value.nilFunc, 1, 8⟩,
  none,
  some ⟨.slice 4, (Value.slice none 0 0), 1, 24⟩,
  some ⟨.func, Value.nilFunc, 1, 8⟩,
  some ⟨.func, Value.nilFunc, 1, 8⟩,
  some ⟨.func, Value.nilFunc, 1, 8⟩,
  some ⟨.pointer 61, (Value.pointer none), 1, 8⟩,
  some ⟨.slice 5, (Value.slice none 0 0), 1, 24⟩,
  some ⟨.func, Value.nilFunc, 1, 8⟩,
  some ⟨.pointer 95, (Value.pointer none), 1, 8⟩,
  some ⟨.slice 3, (Value.slice none 0 0), 1, 24⟩,
  some ⟨.func, Value.nilFunc, 1, 8⟩,
  some ⟨.func, Value.nilFunc, 1, 8⟩,
  some ⟨.func, Value.nilFunc, 1, 8⟩,
  some ⟨.func, Value.nilFunc, 1, 8⟩,
  some ⟨.func, Value.nilFunc, 1, 8⟩,
  some ⟨.func, Value.nilFunc, 1, 8⟩,
  some ⟨.func, Value.nilFunc, 1, 8⟩,
  some ⟨.func, Value.nilFunc, 1, 8⟩,
  some ⟨.func, Value.nilFunc, 1, 8⟩,
  some ⟨.func, Value.nilFunc, 1, 8⟩,
  some ⟨.iface, Value.nilIface, 1, 16⟩,
  some ⟨.iface, Value.nilIface, 1, 16⟩,
  some ⟨.func, Value.nilFunc, 1, 8⟩,
  some ⟨.func, Value.nilFunc, 1, 8⟩,
  some ⟨.func, Value.nilFunc, 1, 8⟩,
  some ⟨.func, Value.nilFunc, 1, 8⟩,
  some ⟨.func, Value.nilFunc, 1, 8⟩,
  some ⟨.func, Value.nilFunc, 1, 8⟩,
  some ⟨.func, Value.nilFunc, 1, 8⟩,
  some ⟨.func, Value.nilFunc, 1, 8⟩,
  some ⟨.int .u64, (Value.int IntKind.u64 0), 1, 8⟩,
  some ⟨.func, Value.nilFunc, 1, 8⟩,
  none,
  some ⟨.func, Value.nilFunc, 1, 8⟩,
  some ⟨.func, Value.nilFunc, 1, 8⟩,
  some ⟨.int .i64, (Value.int IntKind.i64 0), 1, 8⟩,
  none,
  some ⟨.func, Value.nilFunc, 1, 8⟩,
  some ⟨.func, Value.nilFunc, 1, 8⟩,
  some ⟨.func, Value.nilFunc, 1, 8⟩,
  some ⟨.func, Value.nilFunc, 1, 8⟩,
  some ⟨.func, Value.nilFunc, 1, 8⟩,
  some ⟨.func, Value.nilFunc, 1, 8⟩,
  some ⟨.int .u32, (Value.int IntKind.u32 0), 1, 4⟩,
  some ⟨.func, Value.nilFunc, 1, 8⟩,
  some ⟨.int .u64, (Value.int IntKind.u64 0), 1, 8⟩,
  none,
  some ⟨.func, Value.nilFunc, 1, 8⟩,
  none,
  some ⟨.func, Value.nilFunc, 1, 8⟩,
  some ⟨.int .u64, (Value.int IntKind.u64 0), 1, 8⟩,
  some ⟨.func, Value.nilFunc, 1, 8⟩,
  some ⟨.func, Value.nilFunc, 1, 8⟩,
  some ⟨.func, Value.nilFunc, 1, 8⟩,
  some ⟨.pointer 3, (Value.pointer none), 1, 8⟩,
  some ⟨.func, Value.nilFunc, 1, 8⟩,
  some ⟨.pointer 136, (Value.pointer none), 1, 8⟩,
  none,
  some ⟨.func, Value.nilFunc, 1, 8⟩,
  some ⟨.func, Value.nilFunc, 1, 8⟩,
  some ⟨.struct [(17, 0), (17, 1), (17, 2), (9, 3)], (Value.agg #[Value.pointer none, Value.pointer none, Value.pointer none, Value.string { data := #[] }]), 4, 40⟩,
  some ⟨.struct [(17, 0), (17, 1), (17, 2), (9, 3)], (Value.agg #[Value.pointer none, Value.pointer none, Value.pointer none, Value.string { data := #[] }]), 4, 40⟩,
  some ⟨.array 0 16, (Value.agg #[]), 0, 0⟩,
  some ⟨.struct [(148, 0)], (Value.agg #[]), 0, 0⟩,
  some ⟨.struct [(148, 0)], (Value.agg #[]), 0, 0⟩,
  some ⟨.int .u8, (Value.int IntKind.u8 0), 1, 1⟩,
  some ⟨.int .u8, (Value.int IntKind.u8 0), 1, 1⟩,
  some ⟨.func, Value.nilFunc, 1, 8⟩,
  some ⟨.pointer 5, (Value.pointer none), 1, 8⟩,
  some ⟨.int .i32, (Value.int IntKind.i32 0), 1, 4⟩,
  some ⟨.int .i32, (Value.int IntKind.i32 0), 1, 4⟩,
  some ⟨.struct [(12, 0), (12, 1), (129, 2), (151, 3), (5, 4), (5, 5), (152, 6), (153, 7), (154, 8), (155, 9), (156, 10)], (Value.agg #[Value.int IntKind.u64 0, Value.int IntKind.u64 0, Value.int IntKind.u32 0, Value.int IntKind.u8 0, Value.int IntKind.u8 0, Value.int IntKind.u8 0, Value.int IntKind.u8 0, Value.nilFunc, Value.pointer none, Value.int IntKind.i32 0, Value.int IntKind.i32 0]), 11, 48⟩,
  some ⟨.struct [(12, 0), (12, 1), (129, 2), (151, 3), (5, 4), (5, 5), (152, 6), (153, 7), (154, 8), (155, 9), (156, 10)], (Value.agg #[Value.int IntKind.u64 0, Value.int IntKind.u64 0, Value.int IntKind.u32 0, Value.int IntKind.u8 0, Value.int IntKind.u8 0, Value.int IntKind.u8 0, Value.int IntKind.u8 0, Value.nilFunc, Value.pointer none, Value.int IntKind.i32 0, Value.int IntKind.i32 0]), 11, 48⟩,
  none]

def AllTy (P : Program) : Nat → List (Option TI) → Prop
  | _, [] => True
  | k, some i :: l => TyOk P k i ∧ AllTy P (k + 1) l
  | k, none :: l => AllTy P (k + 1) l

theorem AllTy.get {P : Program} : ∀ {l : List (Option TI)} {k : Nat}, AllTy P k l → ∀ {j : Nat} {i : TI}, l[j]? = some (some i) → TyOk P (k + j) i
  | [], _, _, j, i, h => by simp at h
  | some a :: l, k, hh, 0, i, h => by simp at h; subst h; exact hh.1
  | none :: l, k, hh, 0, i, h => by simp at h
  | some a :: l, k, hh, j + 1, i, h => by
    have := AllTy.get (k := k + 1) hh.2 (j := j) (by simpa using h)
    rwa [show k + (j + 1) = k + 1 + j by omega]
  | none :: l, k, hh, j + 1, i, h => by
    have := AllTy.get (k := k + 1) hh (j := j) (by simpa using h)
    rwa [show k + (j + 1) = k + 1 + j by omega]

theorem ty1 : TyOk Try.prog 1 ((types.getD 1 none).getD ⟨.other, undef, 0, 0⟩) := ⟨⟨Try.t1, Try.type1, rfl, rfl, rfl⟩, ⟨_, Try.underlying1, ⟨_, _, _, rfl⟩⟩, rfl, by decide⟩
theorem ty2 : TyOk Try.prog 2 ((types.getD 2 none).getD ⟨.other, undef, 0, 0⟩) := ⟨⟨Try.t2, Try.type2, rfl, rfl, rfl⟩, ⟨_, Try.underlying2, rfl⟩, rfl, by decide⟩
theorem ty3 : TyOk Try.prog 3 ((types.getD 3 none).getD ⟨.other, undef, 0, 0⟩) := ⟨⟨Try.t3, Try.type3, rfl, rfl, rfl⟩, ⟨_, Try.underlying3, rfl⟩, rfl, by decide⟩
theorem ty4 : TyOk Try.prog 4 ((types.getD 4 none).getD ⟨.other, undef, 0, 0⟩) := ⟨⟨Try.t4, Try.type4, rfl, rfl, rfl⟩, ⟨_, Try.underlying4, rfl⟩, rfl, by decide⟩
theorem ty5 : TyOk Try.prog 5 ((types.getD 5 none).getD ⟨.other, undef, 0, 0⟩) := ⟨⟨Try.t5, Try.type5, rfl, rfl, rfl⟩, ⟨_, Try.underlying5, rfl⟩, rfl, by decide⟩
theorem ty6 : TyOk Try.prog 6 ((types.getD 6 none).getD ⟨.other, undef, 0, 0⟩) := ⟨⟨Try.t6, Try.type6, rfl, rfl, rfl⟩, ⟨_, Try.underlying6, rfl⟩, rfl, by decide⟩
theorem ty7 : TyOk Try.prog 7 ((types.getD 7 none).getD ⟨.other, undef, 0, 0⟩) := ⟨⟨Try.t7, Try.type7, rfl, rfl, rfl⟩, ⟨_, Try.underlying7, ⟨_, rfl, rfl⟩⟩, rfl, by decide⟩
theorem ty8 : TyOk Try.prog 8 ((types.getD 8 none).getD ⟨.other, undef, 0, 0⟩) := ⟨⟨Try.t8, Try.type8, rfl, rfl, rfl⟩, ⟨_, Try.underlying8, ⟨_, rfl, rfl⟩⟩, rfl, by decide⟩
theorem ty9 : TyOk Try.prog 9 ((types.getD 9 none).getD ⟨.other, undef, 0, 0⟩) := ⟨⟨Try.t9, Try.type9, rfl, rfl, rfl⟩, ⟨_, Try.underlying9, rfl⟩, rfl, by decide⟩
theorem ty10 : TyOk Try.prog 10 ((types.getD 10 none).getD ⟨.other, undef, 0, 0⟩) := ⟨⟨Try.t10, Try.type10, rfl, rfl, rfl⟩, ⟨_, Try.underlying10, rfl⟩, rfl, by decide⟩
theorem ty11 : TyOk Try.prog 11 ((types.getD 11 none).getD ⟨.other, undef, 0, 0⟩) := ⟨⟨Try.t11, Try.type11, rfl, rfl, rfl⟩, ⟨_, Try.underlying11, rfl⟩, rfl, by decide⟩
theorem ty12 : TyOk Try.prog 12 ((types.getD 12 none).getD ⟨.other, undef, 0, 0⟩) := ⟨⟨Try.t12, Try.type12, rfl, rfl, rfl⟩, ⟨_, Try.underlying12, rfl⟩, rfl, by decide⟩
theorem ty13 : TyOk Try.prog 13 ((types.getD 13 none).getD ⟨.other, undef, 0, 0⟩) := ⟨⟨Try.t13, Try.type13, rfl, rfl, rfl⟩, ⟨_, Try.underlying13, ⟨_, rfl, rfl⟩⟩, rfl, by decide⟩
theorem ty14 : TyOk Try.prog 14 ((types.getD 14 none).getD ⟨.other, undef, 0, 0⟩) := ⟨⟨Try.t14, Try.type14, rfl, rfl, rfl⟩, ⟨_, Try.underlying14, ⟨_, rfl, rfl⟩⟩, rfl, by decide⟩
theorem ty15 : TyOk Try.prog 15 ((types.getD 15 none).getD ⟨.other, undef, 0, 0⟩) := ⟨⟨Try.t15, Try.type15, rfl, rfl, rfl⟩, ⟨_, Try.underlying15, rfl⟩, rfl, by decide⟩
theorem ty16 : TyOk Try.prog 16 ((types.getD 16 none).getD ⟨.other, undef, 0, 0⟩) := ⟨⟨Try.t16, Try.type16, rfl, rfl, rfl⟩, ⟨_, Try.underlying16, rfl⟩, rfl, by decide⟩
theorem ty17 : TyOk Try.prog 17 ((types.getD 17 none).getD ⟨.other, undef, 0, 0⟩) := ⟨⟨Try.t17, Try.type17, rfl, rfl, rfl⟩, ⟨_, Try.underlying17, rfl⟩, rfl, by decide⟩
theorem ty18 : TyOk Try.prog 18 ((types.getD 18 none).getD ⟨.other, undef, 0, 0⟩) := ⟨⟨Try.t18, Try.type18, rfl, rfl, rfl⟩, ⟨_, Try.underlying18, ⟨_, rfl, rfl⟩⟩, rfl, by decide⟩
theorem ty19 : TyOk Try.prog 19 ((types.getD 19 none).getD ⟨.other, undef, 0, 0⟩) := ⟨⟨Try.t19, Try.type19, rfl, rfl, rfl⟩, ⟨_, Try.underlying19, ⟨_, rfl, rfl⟩⟩, rfl, by decide⟩
theorem ty20 : TyOk Try.prog 20 ((types.getD 20 none).getD ⟨.other, undef, 0, 0⟩) := ⟨⟨Try.t20, Try.type20, rfl, rfl, rfl⟩, ⟨_, Try.underlying20, ⟨_, rfl⟩⟩, rfl, by decide⟩
theorem ty21 : TyOk Try.prog 21 ((types.getD 21 none).getD ⟨.other, undef, 0, 0⟩) := ⟨⟨Try.t21, Try.type21, rfl, rfl, rfl⟩, ⟨_, Try.underlying21, rfl⟩, rfl, by decide⟩
theorem ty22 : TyOk Try.prog 22 ((types.getD 22 none).getD ⟨.other, undef, 0, 0⟩) := ⟨⟨Try.t22, Try.type22, rfl, rfl, rfl⟩, ⟨_, Try.underlying22, rfl⟩, rfl, by decide⟩
theorem ty23 : TyOk Try.prog 23 ((types.getD 23 none).getD ⟨.other, undef, 0, 0⟩) := ⟨⟨Try.t23, Try.type23, rfl, rfl, rfl⟩, ⟨_, Try.underlying23, ⟨_, _, _, rfl⟩⟩, rfl, by decide⟩
theorem ty24 : TyOk Try.prog 24 ((types.getD 24 none).getD ⟨.other, undef, 0, 0⟩) := ⟨⟨Try.t24, Try.type24, rfl, rfl, rfl⟩, ⟨_, Try.underlying24, ⟨_, _, _, rfl⟩⟩, rfl, by decide⟩
theorem ty25 : TyOk Try.prog 25 ((types.getD 25 none).getD ⟨.other, undef, 0, 0⟩) := ⟨⟨Try.t25, Try.type25, rfl, rfl, rfl⟩, ⟨_, Try.underlying25, rfl⟩, rfl, by decide⟩
theorem ty26 : TyOk Try.prog 26 ((types.getD 26 none).getD ⟨.other, undef, 0, 0⟩) := ⟨⟨Try.t26, Try.type26, rfl, rfl, rfl⟩, ⟨_, Try.underlying26, ⟨_, _, _, rfl⟩⟩, rfl, by decide⟩
theorem ty27 : TyOk Try.prog 27 ((types.getD 27 none).getD ⟨.other, undef, 0, 0⟩) := ⟨⟨Try.t27, Try.type27, rfl, rfl, rfl⟩, ⟨_, Try.underlying27, rfl⟩, rfl, by decide⟩
theorem ty28 : TyOk Try.prog 28 ((types.getD 28 none).getD ⟨.other, undef, 0, 0⟩) := ⟨⟨Try.t28, Try.type28, rfl, rfl, rfl⟩, ⟨_, Try.underlying28, rfl⟩, rfl, by decide⟩
theorem ty30 : TyOk Try.prog 30 ((types.getD 30 none).getD ⟨.other, undef, 0, 0⟩) := ⟨⟨Try.t30, Try.type30, rfl, rfl, rfl⟩, ⟨_, Try.underlying30, ⟨_, _, _, rfl⟩⟩, rfl, by decide⟩
theorem ty31 : TyOk Try.prog 31 ((types.getD 31 none).getD ⟨.other, undef, 0, 0⟩) := ⟨⟨Try.t31, Try.type31, rfl, rfl, rfl⟩, ⟨_, Try.underlying31, ⟨_, _, _, rfl⟩⟩, rfl, by decide⟩
theorem ty32 : TyOk Try.prog 32 ((types.getD 32 none).getD ⟨.other, undef, 0, 0⟩) := ⟨⟨Try.t32, Try.type32, rfl, rfl, rfl⟩, ⟨_, Try.underlying32, rfl⟩, rfl, by decide⟩
theorem ty33 : TyOk Try.prog 33 ((types.getD 33 none).getD ⟨.other, undef, 0, 0⟩) := ⟨⟨Try.t33, Try.type33, rfl, rfl, rfl⟩, ⟨_, Try.underlying33, ⟨_, _, _, rfl⟩⟩, rfl, by decide⟩
theorem ty34 : TyOk Try.prog 34 ((types.getD 34 none).getD ⟨.other, undef, 0, 0⟩) := ⟨⟨Try.t34, Try.type34, rfl, rfl, rfl⟩, ⟨_, Try.underlying34, ⟨_, _, _, rfl⟩⟩, rfl, by decide⟩
theorem ty36 : TyOk Try.prog 36 ((types.getD 36 none).getD ⟨.other, undef, 0, 0⟩) := ⟨⟨Try.t36, Try.type36, rfl, rfl, rfl⟩, ⟨_, Try.underlying36, ⟨_, _, _, rfl⟩⟩, rfl, by decide⟩
theorem ty37 : TyOk Try.prog 37 ((types.getD 37 none).getD ⟨.other, undef, 0, 0⟩) := ⟨⟨Try.t37, Try.type37, rfl, rfl, rfl⟩, ⟨_, Try.underlying37, rfl⟩, rfl, by decide⟩
theorem ty39 : TyOk Try.prog 39 ((types.getD 39 none).getD ⟨.other, undef, 0, 0⟩) := ⟨⟨Try.t39, Try.type39, rfl, rfl, rfl⟩, ⟨_, Try.underlying39, ⟨_, _, _, rfl⟩⟩, rfl, by decide⟩
theorem ty40 : TyOk Try.prog 40 ((types.getD 40 none).getD ⟨.other, undef, 0, 0⟩) := ⟨⟨Try.t40, Try.type40, rfl, rfl, rfl⟩, ⟨_, Try.underlying40, ⟨_, rfl, rfl⟩⟩, rfl, by decide⟩
theorem ty41 : TyOk Try.prog 41 ((types.getD 41 none).getD ⟨.other, undef, 0, 0⟩) := ⟨⟨Try.t41, Try.type41, rfl, rfl, rfl⟩, ⟨_, Try.underlying41, ⟨_, rfl, rfl⟩⟩, rfl, by decide⟩
theorem ty43 : TyOk Try.prog 43 ((types.getD 43 none).getD ⟨.other, undef, 0, 0⟩) := ⟨⟨Try.t43, Try.type43, rfl, rfl, rfl⟩, ⟨_, Try.underlying43, ⟨_, _, _, rfl⟩⟩, rfl, by decide⟩
theorem ty44 : TyOk Try.prog 44 ((types.getD 44 none).getD ⟨.other, undef, 0, 0⟩) := ⟨⟨Try.t44, Try.type44, rfl, rfl, rfl⟩, ⟨_, Try.underlying44, ⟨_, _, _, rfl⟩⟩, rfl, by decide⟩
theorem ty45 : TyOk Try.prog 45 ((types.getD 45 none).getD ⟨.other, undef, 0, 0⟩) := ⟨⟨Try.t45, Try.type45, rfl, rfl, rfl⟩, ⟨_, Try.underlying45, ⟨_, _, _, rfl⟩⟩, rfl, by decide⟩
theorem ty47 : TyOk Try.prog 47 ((types.getD 47 none).getD ⟨.other, undef, 0, 0⟩) := ⟨⟨Try.t47, Try.type47, rfl, rfl, rfl⟩, ⟨_, Try.underlying47, ⟨_, _, _, rfl⟩⟩, rfl, by decide⟩
theorem ty48 : TyOk Try.prog 48 ((types.getD 48 none).getD ⟨.other, undef, 0, 0⟩) := ⟨⟨Try.t48, Try.type48, rfl, rfl, rfl⟩, ⟨_, Try.underlying48, ⟨_, _, _, rfl⟩⟩, rfl, by decide⟩
theorem ty49 : TyOk Try.prog 49 ((types.getD 49 none).getD ⟨.other, undef, 0, 0⟩) := ⟨⟨Try.t49, Try.type49, rfl, rfl, rfl⟩, ⟨_, Try.underlying49, ⟨_, _, _, rfl⟩⟩, rfl, by decide⟩
theorem ty50 : TyOk Try.prog 50 ((types.getD 50 none).getD ⟨.other, undef, 0, 0⟩) := ⟨⟨Try.t50, Try.type50, rfl, rfl, rfl⟩, ⟨_, Try.underlying50, rfl⟩, rfl, by decide⟩
theorem ty52 : TyOk Try.prog 52 ((types.getD 52 none).getD ⟨.other, undef, 0, 0⟩) := ⟨⟨Try.t52, Try.type52, rfl, rfl, rfl⟩, ⟨_, Try.underlying52, ⟨_, _, _, rfl⟩⟩, rfl, by decide⟩
theorem ty54 : TyOk Try.prog 54 ((types.getD 54 none).getD ⟨.other, undef, 0, 0⟩) := ⟨⟨Try.t54, Try.type54, rfl, rfl, rfl⟩, ⟨_, Try.underlying54, ⟨_, _, _, rfl⟩⟩, rfl, by decide⟩
theorem ty55 : TyOk Try.prog 55 ((types.getD 55 none).getD ⟨.other, undef, 0, 0⟩) := ⟨⟨Try.t55, Try.type55, rfl, rfl, rfl⟩, ⟨_, Try.underlying55, ⟨_, rfl, rfl⟩⟩, rfl, by decide⟩
theorem ty56 : TyOk Try.prog 56 ((types.getD 56 none).getD ⟨.other, undef, 0, 0⟩) := ⟨⟨Try.t56, Try.type56, rfl, rfl, rfl⟩, ⟨_, Try.underlying56, ⟨_, rfl, rfl⟩⟩, rfl, by decide⟩
theorem ty57 : TyOk Try.prog 57 ((types.getD 57 none).getD ⟨.other, undef, 0, 0⟩) := ⟨⟨Try.t57, Try.type57, rfl, rfl, rfl⟩, ⟨_, Try.underlying57, ⟨_, _, _, rfl⟩⟩, rfl, by decide⟩
theorem ty58 : TyOk Try.prog 58 ((types.getD 58 none).getD ⟨.other, undef, 0, 0⟩) := ⟨⟨Try.t58, Try.type58, rfl, rfl, rfl⟩, ⟨_, Try.underlying58, ⟨_, _, _, rfl⟩⟩, rfl, by decide⟩
theorem ty59 : TyOk Try.prog 59 ((types.getD 59 none).getD ⟨.other, undef, 0, 0⟩) := ⟨⟨Try.t59, Try.type59, rfl, rfl, rfl⟩, ⟨_, Try.underlying59, ⟨_, _, _, rfl⟩⟩, rfl, by decide⟩
theorem ty60 : TyOk Try.prog 60 ((types.getD 60 none).getD ⟨.other, undef, 0, 0⟩) := ⟨⟨Try.t60, Try.type60, rfl, rfl, rfl⟩, ⟨_, Try.underlying60, ⟨_, _, _, rfl⟩⟩, rfl, by decide⟩
theorem ty61 : TyOk Try.prog 61 ((types.getD 61 none).getD ⟨.other, undef, 0, 0⟩) := ⟨⟨Try.t61, Try.type61, rfl, rfl, rfl⟩, ⟨_, Try.underlying61, rfl⟩, rfl, by decide⟩
theorem ty63 : TyOk Try.prog 63 ((types.getD 63 none).getD ⟨.other, undef, 0, 0⟩) := ⟨⟨Try.t63, Try.type63, rfl, rfl, rfl⟩, ⟨_, Try.underlying63, ⟨_, _, _, rfl⟩⟩, rfl, by decide⟩
theorem ty64 : TyOk Try.prog 64 ((types.getD 64 none).getD ⟨.other, undef, 0, 0⟩) := ⟨⟨Try.t64, Try.type64, rfl, rfl, rfl⟩, ⟨_, Try.underlying64, ⟨_, _, _, rfl⟩⟩, rfl, by decide⟩
theorem ty65 : TyOk Try.prog 65 ((types.getD 65 none).getD ⟨.other, undef, 0, 0⟩) := ⟨⟨Try.t65, Try.type65, rfl, rfl, rfl⟩, ⟨_, Try.underlying65, ⟨_, rfl, rfl⟩⟩, rfl, by decide⟩
theorem ty66 : TyOk Try.prog 66 ((types.getD 66 none).getD ⟨.other, undef, 0, 0⟩) := ⟨⟨Try.t66, Try.type66, rfl, rfl, rfl⟩, ⟨_, Try.underlying66, ⟨_, rfl, rfl⟩⟩, rfl, by decide⟩
theorem ty67 : TyOk Try.prog 67 ((types.getD 67 none).getD ⟨.other, undef, 0, 0⟩) := ⟨⟨Try.t67, Try.type67, rfl, rfl, rfl⟩, ⟨_, Try.underlying67, ⟨_, _, _, rfl⟩⟩, rfl, by decide⟩
theorem ty68 : TyOk Try.prog 68 ((types.getD 68 none).getD ⟨.other, undef, 0, 0⟩) := ⟨⟨Try.t68, Try.type68, rfl, rfl, rfl⟩, ⟨_, Try.underlying68, ⟨_, _, _, rfl⟩⟩, rfl, by decide⟩
theorem ty69 : TyOk Try.prog 69 ((types.getD 69 none).getD ⟨.other, undef, 0, 0⟩) := ⟨⟨Try.t69, Try.type69, rfl, rfl, rfl⟩, ⟨_, Try.underlying69, rfl⟩, rfl, by decide⟩
theorem ty70 : TyOk Try.prog 70 ((types.getD 70 none).getD ⟨.other, undef, 0, 0⟩) := ⟨⟨Try.t70, Try.type70, rfl, rfl, rfl⟩, ⟨_, Try.underlying70, ⟨_, _, _, rfl⟩⟩, rfl, by decide⟩
theorem ty72 : TyOk Try.prog 72 ((types.getD 72 none).getD ⟨.other, undef, 0, 0⟩) := ⟨⟨Try.t72, Try.type72, rfl, rfl, rfl⟩, ⟨_, Try.underlying72, ⟨_, _, _, rfl⟩⟩, rfl, by decide⟩
theorem ty73 : TyOk Try.prog 73 ((types.getD 73 none).getD ⟨.other, undef, 0, 0⟩) := ⟨⟨Try.t73, Try.type73, rfl, rfl, rfl⟩, ⟨_, Try.underlying73, rfl⟩, rfl, by decide⟩
theorem ty74 : TyOk Try.prog 74 ((types.getD 74 none).getD ⟨.other, undef, 0, 0⟩) := ⟨⟨Try.t74, Try.type74, rfl, rfl, rfl⟩, ⟨_, Try.underlying74, rfl⟩, rfl, by decide⟩
theorem ty75 : TyOk Try.prog 75 ((types.getD 75 none).getD ⟨.other, undef, 0, 0⟩) := ⟨⟨Try.t75, Try.type75, rfl, rfl, rfl⟩, ⟨_, Try.underlying75, rfl⟩, rfl, by decide⟩
theorem ty76 : TyOk Try.prog 76 ((types.getD 76 none).getD ⟨.other, undef, 0, 0⟩) := ⟨⟨Try.t76, Try.type76, rfl, rfl, rfl⟩, ⟨_, Try.underlying76, ⟨_, rfl, rfl⟩⟩, rfl, by decide⟩
theorem ty77 : TyOk Try.prog 77 ((types.getD 77 none).getD ⟨.other, undef, 0, 0⟩) := ⟨⟨Try.t77, Try.type77, rfl, rfl, rfl⟩, ⟨_, Try.underlying77, ⟨_, rfl, rfl⟩⟩, rfl, by decide⟩
theorem ty78 : TyOk Try.prog 78 ((types.getD 78 none).getD ⟨.other, undef, 0, 0⟩) := ⟨⟨Try.t78, Try.type78, rfl, rfl, rfl⟩, ⟨_, Try.underlying78, ⟨_, rfl, rfl⟩⟩, rfl, by decide⟩
theorem ty79 : TyOk Try.prog 79 ((types.getD 79 none).getD ⟨.other, undef, 0, 0⟩) := ⟨⟨Try.t79, Try.type79, rfl, rfl, rfl⟩, ⟨_, Try.underlying79, ⟨_, rfl, rfl⟩⟩, rfl, by decide⟩
theorem ty80 : TyOk Try.prog 80 ((types.getD 80 none).getD ⟨.other, undef, 0, 0⟩) := ⟨⟨Try.t80, Try.type80, rfl, rfl, rfl⟩, ⟨_, Try.underlying80, ⟨_, _, _, rfl⟩⟩, rfl, by decide⟩
theorem ty81 : TyOk Try.prog 81 ((types.getD 81 none).getD ⟨.other, undef, 0, 0⟩) := ⟨⟨Try.t81, Try.type81, rfl, rfl, rfl⟩, ⟨_, Try.underlying81, ⟨_, _, _, rfl⟩⟩, rfl, by decide⟩
theorem ty82 : TyOk Try.prog 82 ((types.getD 82 none).getD ⟨.other, undef, 0, 0⟩) := ⟨⟨Try.t82, Try.type82, rfl, rfl, rfl⟩, ⟨_, Try.underlying82, ⟨_, _, _, rfl⟩⟩, rfl, by decide⟩
theorem ty83 : TyOk Try.prog 83 ((types.getD 83 none).getD ⟨.other, undef, 0, 0⟩) := ⟨⟨Try.t83, Try.type83, rfl, rfl, rfl⟩, ⟨_, Try.underlying83, ⟨_, _, _, rfl⟩⟩, rfl, by decide⟩
theorem ty84 : TyOk Try.prog 84 ((types.getD 84 none).getD ⟨.other, undef, 0, 0⟩) := ⟨⟨Try.t84, Try.type84, rfl, rfl, rfl⟩, ⟨_, Try.underlying84, ⟨_, _, _, rfl⟩⟩, rfl, by decide⟩
theorem ty85 : TyOk Try.prog 85 ((types.getD 85 none).getD ⟨.other, undef, 0, 0⟩) := ⟨⟨Try.t85, Try.type85, rfl, rfl, rfl⟩, ⟨_, Try.underlying85, ⟨_, _, _, rfl⟩⟩, rfl, by decide⟩
theorem ty87 : TyOk Try.prog 87 ((types.getD 87 none).getD ⟨.other, undef, 0, 0⟩) := ⟨⟨Try.t87, Try.type87, rfl, rfl, rfl⟩, ⟨_, Try.underlying87, rfl⟩, rfl, by decide⟩
theorem ty88 : TyOk Try.prog 88 ((types.getD 88 none).getD ⟨.other, undef, 0, 0⟩) := ⟨⟨Try.t88, Try.type88, rfl, rfl, rfl⟩, ⟨_, Try.underlying88, ⟨_, _, _, rfl⟩⟩, rfl, by decide⟩
theorem ty89 : TyOk Try.prog 89 ((types.getD 89 none).getD ⟨.other, undef, 0, 0⟩) := ⟨⟨Try.t89, Try.type89, rfl, rfl, rfl⟩, ⟨_, Try.underlying89, ⟨_, _, _, rfl⟩⟩, rfl, by decide⟩
theorem ty90 : TyOk Try.prog 90 ((types.getD 90 none).getD ⟨.other, undef, 0, 0⟩) := ⟨⟨Try.t90, Try.type90, rfl, rfl, rfl⟩, ⟨_, Try.underlying90, ⟨_, _, _, rfl⟩⟩, rfl, by decide⟩
theorem ty91 : TyOk Try.prog 91 ((types.getD 91 none).getD ⟨.other, undef, 0, 0⟩) := ⟨⟨Try.t91, Try.type91, rfl, rfl, rfl⟩, ⟨_, Try.underlying91, rfl⟩, rfl, by decide⟩
theorem ty92 : TyOk Try.prog 92 ((types.getD 92 none).getD ⟨.other, undef, 0, 0⟩) := ⟨⟨Try.t92, Try.type92, rfl, rfl, rfl⟩, ⟨_, Try.underlying92, rfl⟩, rfl, by decide⟩
theorem ty93 : TyOk Try.prog 93 ((types.getD 93 none).getD ⟨.other, undef, 0, 0⟩) := ⟨⟨Try.t93, Try.type93, rfl, rfl, rfl⟩, ⟨_, Try.underlying93, ⟨_, _, _, rfl⟩⟩, rfl, by decide⟩
theorem ty94 : TyOk Try.prog 94 ((types.getD 94 none).getD ⟨.other, undef, 0, 0⟩) := ⟨⟨Try.t94, Try.type94, rfl, rfl, rfl⟩, ⟨_, Try.underlying94, rfl⟩, rfl, by decide⟩
theorem ty95 : TyOk Try.prog 95 ((types.getD 95 none).getD ⟨.other, undef, 0, 0⟩) := ⟨⟨Try.t95, Try.type95, rfl, rfl, rfl⟩, ⟨_, Try.underlying95, rfl⟩, rfl, by decide⟩
theorem ty96 : TyOk Try.prog 96 ((types.getD 96 none).getD ⟨.other, undef, 0, 0⟩) := ⟨⟨Try.t96, Try.type96, rfl, rfl, rfl⟩, ⟨_, Try.underlying96, ⟨_, _, _, rfl⟩⟩, rfl, by decide⟩
theorem ty97 : TyOk Try.prog 97 ((types.getD 97 none).getD ⟨.other, undef, 0, 0⟩) := ⟨⟨Try.t97, Try.type97, rfl, rfl, rfl⟩, ⟨_, Try.underlying97, ⟨_, _, _, rfl⟩⟩, rfl, by decide⟩
theorem ty98 : TyOk Try.prog 98 ((types.getD 98 none).getD ⟨.other, undef, 0, 0⟩) := ⟨⟨Try.t98, Try.type98, rfl, rfl, rfl⟩, ⟨_, Try.underlying98, ⟨_, _, _, rfl⟩⟩, rfl, by decide⟩
theorem ty99 : TyOk Try.prog 99 ((types.getD 99 none).getD ⟨.other, undef, 0, 0⟩) := ⟨⟨Try.t99, Try.type99, rfl, rfl, rfl⟩, ⟨_, Try.underlying99, ⟨_, _, _, rfl⟩⟩, rfl, by decide⟩
theorem ty100 : TyOk Try.prog 100 ((types.getD 100 none).getD ⟨.other, undef, 0, 0⟩) := ⟨⟨Try.t100, Try.type100, rfl, rfl, rfl⟩, ⟨_, Try.underlying100, ⟨_, _, _, rfl⟩⟩, rfl, by decide⟩
theorem ty101 : TyOk Try.prog 101 ((types.getD 101 none).getD ⟨.other, undef, 0, 0⟩) := ⟨⟨Try.t101, Try.type101, rfl, rfl, rfl⟩, ⟨_, Try.underlying101, ⟨_, _, _, rfl⟩⟩, rfl, by decide⟩
theorem ty102 : TyOk Try.prog 102 ((types.getD 102 none).getD ⟨.other, undef, 0, 0⟩) := ⟨⟨Try.t102, Try.type102, rfl, rfl, rfl⟩, ⟨_, Try.underlying102, ⟨_, _, _, rfl⟩⟩, rfl, by decide⟩
theorem ty103 : TyOk Try.prog 103 ((types.getD 103 none).getD ⟨.other, undef, 0, 0⟩) := ⟨⟨Try.t103, Try.type103, rfl, rfl, rfl⟩, ⟨_, Try.underlying103, ⟨_, _, _, rfl⟩⟩, rfl, by decide⟩
theorem ty104 : TyOk Try.prog 104 ((types.getD 104 none).getD ⟨.other, undef, 0, 0⟩) := ⟨⟨Try.t104, Try.type104, rfl, rfl, rfl⟩, ⟨_, Try.underlying104, ⟨_, _, _, rfl⟩⟩, rfl, by decide⟩
theorem ty105 : TyOk Try.prog 105 ((types.getD 105 none).getD ⟨.other, undef, 0, 0⟩) := ⟨⟨Try.t105, Try.type105, rfl, rfl, rfl⟩, ⟨_, Try.underlying105, ⟨_, _, _, rfl⟩⟩, rfl, by decide⟩
theorem ty106 : TyOk Try.prog 106 ((types.getD 106 none).getD ⟨.other, undef, 0, 0⟩) := ⟨⟨Try.t106, Try.type106, rfl, rfl, rfl⟩, ⟨_, Try.underlying106, ⟨_, rfl⟩⟩, rfl, by decide⟩
theorem ty107 : TyOk Try.prog 107 ((types.getD 107 none).getD ⟨.other, undef, 0, 0⟩) := ⟨⟨Try.t107, Try.type107, rfl, rfl, rfl⟩, ⟨_, Try.underlying107, ⟨_, rfl⟩⟩, rfl, by decide⟩
theorem ty108 : TyOk Try.prog 108 ((types.getD 108 none).getD ⟨.other, undef, 0, 0⟩) := ⟨⟨Try.t108, Try.type108, rfl, rfl, rfl⟩, ⟨_, Try.underlying108, ⟨_, _, _, rfl⟩⟩, rfl, by decide⟩
theorem ty109 : TyOk Try.prog 109 ((types.getD 109 none).getD ⟨.other, undef, 0, 0⟩) := ⟨⟨Try.t109, Try.type109, rfl, rfl, rfl⟩, ⟨_, Try.underlying109, ⟨_, _, _, rfl⟩⟩, rfl, by decide⟩
theorem ty110 : TyOk Try.prog 110 ((types.getD 110 none).getD ⟨.other, undef, 0, 0⟩) := ⟨⟨Try.t110, Try.type110, rfl, rfl, rfl⟩, ⟨_, Try.underlying110, ⟨_, _, _, rfl⟩⟩, rfl, by decide⟩
theorem ty111 : TyOk Try.prog 111 ((types.getD 111 none).getD ⟨.other, undef, 0, 0⟩) := ⟨⟨Try.t111, Try.type111, rfl, rfl, rfl⟩, ⟨_, Try.underlying111, ⟨_, _, _, rfl⟩⟩, rfl, by decide⟩
theorem ty112 : TyOk Try.prog 112 ((types.getD 112 none).getD ⟨.other, undef, 0, 0⟩) := ⟨⟨Try.t112, Try.type112, rfl, rfl, rfl⟩, ⟨_, Try.underlying112, ⟨_, _, _, rfl⟩⟩, rfl, by decide⟩
theorem ty113 : TyOk Try.prog 113 ((types.getD 113 none).getD ⟨.other, undef, 0, 0⟩) := ⟨⟨Try.t113, Try.type113, rfl, rfl, rfl⟩, ⟨_, Try.underlying113, ⟨_, _, _, rfl⟩⟩, rfl, by decide⟩
theorem ty114 : TyOk Try.prog 114 ((types.getD 114 none).getD ⟨.other, undef, 0, 0⟩) := ⟨⟨Try.t114, Try.type114, rfl, rfl, rfl⟩, ⟨_, Try.underlying114, ⟨_, _, _, rfl⟩⟩, rfl, by decide⟩
theorem ty115 : TyOk Try.prog 115 ((types.getD 115 none).getD ⟨.other, undef, 0, 0⟩) := ⟨⟨Try.t115, Try.type115, rfl, rfl, rfl⟩, ⟨_, Try.underlying115, ⟨_, _, _, rfl⟩⟩, rfl, by decide⟩
theorem ty116 : TyOk Try.prog 116 ((types.getD 116 none).getD ⟨.other, undef, 0, 0⟩) := ⟨⟨Try.t116, Try.type116, rfl, rfl, rfl⟩, ⟨_, Try.underlying116, rfl⟩, rfl, by decide⟩
theorem ty117 : TyOk Try.prog 117 ((types.getD 117 none).getD ⟨.other, undef, 0, 0⟩) := ⟨⟨Try.t117, Try.type117, rfl, rfl, rfl⟩, ⟨_, Try.underlying117, ⟨_, _, _, rfl⟩⟩, rfl, by decide⟩
theorem ty119 : TyOk Try.prog 119 ((types.getD 119 none).getD ⟨.other, undef, 0, 0⟩) := ⟨⟨Try.t119, Try.type119, rfl, rfl, rfl⟩, ⟨_, Try.underlying119, ⟨_, _, _, rfl⟩⟩, rfl, by decide⟩
theorem ty120 : TyOk Try.prog 120 ((types.getD 120 none).getD ⟨.other, undef, 0, 0⟩) := ⟨⟨Try.t120, Try.type120, rfl, rfl, rfl⟩, ⟨_, Try.underlying120, ⟨_, _, _, rfl⟩⟩, rfl, by decide⟩
theorem ty121 : TyOk Try.prog 121 ((types.getD 121 none).getD ⟨.other, undef, 0, 0⟩) := ⟨⟨Try.t121, Try.type121, rfl, rfl, rfl⟩, ⟨_, Try.underlying121, rfl⟩, rfl, by decide⟩
theorem ty123 : TyOk Try.prog 123 ((types.getD 123 none).getD ⟨.other, undef, 0, 0⟩) := ⟨⟨Try.t123, Try.type123, rfl, rfl, rfl⟩, ⟨_, Try.underlying123, ⟨_, _, _, rfl⟩⟩, rfl, by decide⟩
theorem ty124 : TyOk Try.prog 124 ((types.getD 124 none).getD ⟨.other, undef, 0, 0⟩) := ⟨⟨Try.t124, Try.type124, rfl, rfl, rfl⟩, ⟨_, Try.underlying124, ⟨_, _, _, rfl⟩⟩, rfl, by decide⟩
theorem ty125 : TyOk Try.prog 125 ((types.getD 125 none).getD ⟨.other, undef, 0, 0⟩) := ⟨⟨Try.t125, Try.type125, rfl, rfl, rfl⟩, ⟨_, Try.underlying125, ⟨_, _, _, rfl⟩⟩, rfl, by decide⟩
theorem ty126 : TyOk Try.prog 126 ((types.getD 126 none).getD ⟨.other, undef, 0, 0⟩) := ⟨⟨Try.t126, Try.type126, rfl, rfl, rfl⟩, ⟨_, Try.underlying126, ⟨_, _, _, rfl⟩⟩, rfl, by decide⟩
theorem ty127 : TyOk Try.prog 127 ((types.getD 127 none).getD ⟨.other, undef, 0, 0⟩) := ⟨⟨Try.t127, Try.type127, rfl, rfl, rfl⟩, ⟨_, Try.underlying127, ⟨_, _, _, rfl⟩⟩, rfl, by decide⟩
theorem ty128 : TyOk Try.prog 128 ((types.getD 128 none).getD ⟨.other, undef, 0, 0⟩) := ⟨⟨Try.t128, Try.type128, rfl, rfl, rfl⟩, ⟨_, Try.underlying128, ⟨_, _, _, rfl⟩⟩, rfl, by decide⟩
theorem ty129 : TyOk Try.prog 129 ((types.getD 129 none).getD ⟨.other, undef, 0, 0⟩) := ⟨⟨Try.t129, Try.type129, rfl, rfl, rfl⟩, ⟨_, Try.underlying129, rfl⟩, rfl, by decide⟩
theorem ty130 : TyOk Try.prog 130 ((types.getD 130 none).getD ⟨.other, undef, 0, 0⟩) := ⟨⟨Try.t130, Try.type130, rfl, rfl, rfl⟩, ⟨_, Try.underlying130, ⟨_, _, _, rfl⟩⟩, rfl, by decide⟩
theorem ty131 : TyOk Try.prog 131 ((types.getD 131 none).getD ⟨.other, undef, 0, 0⟩) := ⟨⟨Try.t131, Try.type131, rfl, rfl, rfl⟩, ⟨_, Try.underlying131, rfl⟩, rfl, by decide⟩
theorem ty133 : TyOk Try.prog 133 ((types.getD 133 none).getD ⟨.other, undef, 0, 0⟩) := ⟨⟨Try.t133, Try.type133, rfl, rfl, rfl⟩, ⟨_, Try.underlying133, ⟨_, _, _, rfl⟩⟩, rfl, by decide⟩
theorem ty135 : TyOk Try.prog 135 ((types.getD 135 none).getD ⟨.other, undef, 0, 0⟩) := ⟨⟨Try.t135, Try.type135, rfl, rfl, rfl⟩, ⟨_, Try.underlying135, ⟨_, _, _, rfl⟩⟩, rfl, by decide⟩
theorem ty136 : TyOk Try.prog 136 ((types.getD 136 none).getD ⟨.other, undef, 0, 0⟩) := ⟨⟨Try.t136, Try.type136, rfl, rfl, rfl⟩, ⟨_, Try.underlying136, rfl⟩, rfl, by decide⟩
theorem ty137 : TyOk Try.prog 137 ((types.getD 137 none).getD ⟨.other, undef, 0, 0⟩) := ⟨⟨Try.t137, Try.type137, rfl, rfl, rfl⟩, ⟨_, Try.underlying137, ⟨_, _, _, rfl⟩⟩, rfl, by decide⟩
theorem ty138 : TyOk Try.prog 138 ((types.getD 138 none).getD ⟨.other, undef, 0, 0⟩) := ⟨⟨Try.t138, Try.type138, rfl, rfl, rfl⟩, ⟨_, Try.underlying138, ⟨_, _, _, rfl⟩⟩, rfl, by decide⟩
theorem ty139 : TyOk Try.prog 139 ((types.getD 139 none).getD ⟨.other, undef, 0, 0⟩) := ⟨⟨Try.t139, Try.type139, rfl, rfl, rfl⟩, ⟨_, Try.underlying139, ⟨_, _, _, rfl⟩⟩, rfl, by decide⟩
theorem ty140 : TyOk Try.prog 140 ((types.getD 140 none).getD ⟨.other, undef, 0, 0⟩) := ⟨⟨Try.t140, Try.type140, rfl, rfl, rfl⟩, ⟨_, Try.underlying140, rfl⟩, rfl, by decide⟩
theorem ty141 : TyOk Try.prog 141 ((types.getD 141 none).getD ⟨.other, undef, 0, 0⟩) := ⟨⟨Try.t141, Try.type141, rfl, rfl, rfl⟩, ⟨_, Try.underlying141, ⟨_, _, _, rfl⟩⟩, rfl, by decide⟩
theorem ty142 : TyOk Try.prog 142 ((types.getD 142 none).getD ⟨.other, undef, 0, 0⟩) := ⟨⟨Try.t142, Try.type142, rfl, rfl, rfl⟩, ⟨_, Try.underlying142, rfl⟩, rfl, by decide⟩
theorem ty144 : TyOk Try.prog 144 ((types.getD 144 none).getD ⟨.other, undef, 0, 0⟩) := ⟨⟨Try.t144, Try.type144, rfl, rfl, rfl⟩, ⟨_, Try.underlying144, ⟨_, _, _, rfl⟩⟩, rfl, by decide⟩
theorem ty145 : TyOk Try.prog 145 ((types.getD 145 none).getD ⟨.other, undef, 0, 0⟩) := ⟨⟨Try.t145, Try.type145, rfl, rfl, rfl⟩, ⟨_, Try.underlying145, ⟨_, _, _, rfl⟩⟩, rfl, by decide⟩
theorem ty146 : TyOk Try.prog 146 ((types.getD 146 none).getD ⟨.other, undef, 0, 0⟩) := ⟨⟨Try.t146, Try.type146, rfl, rfl, rfl⟩, ⟨_, Try.underlying146, ⟨_, rfl, rfl⟩⟩, rfl, by decide⟩
theorem ty147 : TyOk Try.prog 147 ((types.getD 147 none).getD ⟨.other, undef, 0, 0⟩) := ⟨⟨Try.t147, Try.type147, rfl, rfl, rfl⟩, ⟨_, Try.underlying147, ⟨_, rfl, rfl⟩⟩, rfl, by decide⟩
theorem ty148 : TyOk Try.prog 148 ((types.getD 148 none).getD ⟨.other, undef, 0, 0⟩) := ⟨⟨Try.t148, Try.type148, rfl, rfl, rfl⟩, ⟨_, Try.underlying148, rfl⟩, rfl, by decide⟩
theorem ty149 : TyOk Try.prog 149 ((types.getD 149 none).getD ⟨.other, undef, 0, 0⟩) := ⟨⟨Try.t149, Try.type149, rfl, rfl, rfl⟩, ⟨_, Try.underlying149, ⟨_, rfl, rfl⟩⟩, rfl, by decide⟩
theorem ty150 : TyOk Try.prog 150 ((types.getD 150 none).getD ⟨.other, undef, 0, 0⟩) := ⟨⟨Try.t150, Try.type150, rfl, rfl, rfl⟩, ⟨_, Try.underlying150, ⟨_, rfl, rfl⟩⟩, rfl, by decide⟩
theorem ty151 : TyOk Try.prog 151 ((types.getD 151 none).getD ⟨.other, undef, 0, 0⟩) := ⟨⟨Try.t151, Try.type151, rfl, rfl, rfl⟩, ⟨_, Try.underlying151, rfl⟩, rfl, by decide⟩
theorem ty152 : TyOk Try.prog 152 ((types.getD 152 none).getD ⟨.other, undef, 0, 0⟩) := ⟨⟨Try.t152, Try.type152, rfl, rfl, rfl⟩, ⟨_, Try.underlying152, rfl⟩, rfl, by decide⟩
theorem ty153 : TyOk Try.prog 153 ((types.getD 153 none).getD ⟨.other, undef, 0, 0⟩) := ⟨⟨Try.t153, Try.type153, rfl, rfl, rfl⟩, ⟨_, Try.underlying153, ⟨_, _, _, rfl⟩⟩, rfl, by decide⟩
theorem ty154 : TyOk Try.prog 154 ((types.getD 154 none).getD ⟨.other, undef, 0, 0⟩) := ⟨⟨Try.t154, Try.type154, rfl, rfl, rfl⟩, ⟨_, Try.underlying154, rfl⟩, rfl, by decide⟩
theorem ty155 : TyOk Try.prog 155 ((types.getD 155 none).getD ⟨.other, undef, 0, 0⟩) := ⟨⟨Try.t155, Try.type155, rfl, rfl, rfl⟩, ⟨_, Try.underlying155, rfl⟩, rfl, by decide⟩
theorem ty156 : TyOk Try.prog 156 ((types.getD 156 none).getD ⟨.other, undef, 0, 0⟩) := ⟨⟨Try.t156, Try.type156, rfl, rfl, rfl⟩, ⟨_, Try.underlying156, rfl⟩, rfl, by decide⟩
theorem ty157 : TyOk Try.prog 157 ((types.getD 157 none).getD ⟨.other, undef, 0, 0⟩) := ⟨⟨Try.t157, Try.type157, rfl, rfl, rfl⟩, ⟨_, Try.underlying157, ⟨_, rfl, rfl⟩⟩, rfl, by decide⟩
theorem ty158 : TyOk Try.prog 158 ((types.getD 158 none).getD ⟨.other, undef, 0, 0⟩) := ⟨⟨Try.t158, Try.type158, rfl, rfl, rfl⟩, ⟨_, Try.underlying158, ⟨_, rfl, rfl⟩⟩, rfl, by decide⟩

theorem types_ok : AllTy Try.prog 0 types :=
  ⟨ty1, ty2, ty3, ty4, ty5, ty6, ty7, ty8, ty9, ty10, ty11, ty12, ty13, ty14, ty15, ty16, ty17, ty18, ty19, ty20, ty21, ty22, ty23, ty24, ty25, ty26, ty27, ty28, ty30, ty31, ty32, ty33, ty34, ty36, ty37, ty39, ty40, ty41, ty43, ty44, ty45, ty47, ty48, ty49, ty50, ty52, ty54, ty55, ty56, ty57, ty58, ty59, ty60, ty61, ty63, ty64, ty65, ty66, ty67, ty68, ty69, ty70, ty72, ty73, ty74, ty75, ty76, ty77, ty78, ty79, ty80, ty81, ty82, ty83, ty84, ty85, ty87, ty88, ty89, ty90, ty91, ty92, ty93, ty94, ty95, ty96, ty97, ty98, ty99, ty100, ty101, ty102, ty103, ty104, ty105, ty106, ty107, ty108, ty109, ty110, ty111, ty112, ty113, ty114, ty115, ty116, ty117, ty119, ty120, ty121, ty123, ty124, ty125, ty126, ty127, ty128, ty129, ty130, ty131, ty133, ty135, ty136, ty137, ty138, ty139, ty140, ty141, ty142, ty144, ty145, ty146, ty147, ty148, ty149, ty150, ty151, ty152, ty153, ty154, ty155, ty156, ty157, ty158, trivial⟩

end Go.Proofs.Ytdhbclplondmjaa.C

end
