/- Texts of one's own, laid together: CFn -/
import Derived.Test.YtdhbclplondmjaaQc09
import Derived.Test.YtdhbclplondmjaaQc10
section
/- The table of functions. -/
set_option maxRecDepth 1000000
namespace Go.Proofs.Ytdhbclplondmjaa.C
open Go.RowKit

theorem chk3 : funcChk Try.f3 = true := by decide +kernel
theorem chk4 : funcChk Try.f4 = true := by decide +kernel
theorem chk5 : funcChk Try.f5 = true := by decide +kernel
theorem chk6 : funcChk Try.f6 = true := by decide +kernel
theorem chk7 : funcChk Try.f7 = true := by decide +kernel
theorem chk8 : funcChk Try.f8 = true := by decide +kernel
theorem chk9 : funcChk Try.f9 = true := by decide +kernel
theorem chk10 : funcChk Try.f10 = true := by decide +kernel
theorem chk11 : funcChk Try.f11 = true := by decide +kernel
theorem chk12 : funcChk Try.f12 = true := by decide +kernel
theorem chk13 : funcChk Try.f13 = true := by decide +kernel
theorem chk14 : funcChk Try.f14 = true := by decide +kernel
theorem chk15 : funcChk Try.f15 = true := by decide +kernel
theorem chk16 : funcChk Try.f16 = true := by decide +kernel
theorem chk17 : funcChk Try.f17 = true := by decide +kernel
theorem chk18 : funcChk Try.f18 = true := by decide +kernel
theorem chk19 : funcChk Try.f19 = true := by decide +kernel
theorem chk20 : funcChk Try.f20 = true := by decide +kernel
theorem chk21 : funcChk Try.f21 = true := by decide +kernel
theorem chk22 : funcChk Try.f22 = true := by decide +kernel
theorem chk23 : funcChk Try.f23 = true := by decide +kernel
theorem chk24 : funcChk Try.f24 = true := by decide +kernel
theorem chk25 : funcChk Try.f25 = true := by decide +kernel
theorem chk26 : funcChk Try.f26 = true := by decide +kernel
theorem chk27 : funcChk Try.f27 = true := by decide +kernel
theorem chk28 : funcChk Try.f28 = true := by decide +kernel
theorem chk29 : funcChk Try.f29 = true := by decide +kernel
theorem chk30 : funcChk Try.f30 = true := by decide +kernel
theorem chk31 : funcChk Try.f31 = true := by decide +kernel
theorem chk32 : funcChk Try.f32 = true := by decide +kernel
theorem chk33 : funcChk Try.f33 = true := by decide +kernel
theorem chk34 : funcChk Try.f34 = true := by decide +kernel
theorem chk35 : funcChk Try.f35 = true := by decide +kernel
theorem chk36 : funcChk Try.f36 = true := by decide +kernel
theorem chk37 : funcChk Try.f37 = true := by decide +kernel
theorem chk38 : funcChk Try.f38 = true := by decide +kernel
theorem chk39 : funcChk Try.f39 = true := by decide +kernel
theorem chk40 : funcChk Try.f40 = true := by decide +kernel
theorem chk41 : funcChk Try.f41 = true := by decide +kernel
theorem chk42 : funcChk Try.f42 = true := by decide +kernel
theorem chk43 : funcChk Try.f43 = true := by decide +kernel
theorem chk44 : funcChk Try.f44 = true := by decide +kernel
theorem chk45 : funcChk Try.f45 = true := by decide +kernel
theorem chk46 : funcChk Try.f46 = true := by decide +kernel
theorem chk47 : funcChk Try.f47 = true := by decide +kernel
theorem chk48 : funcChk Try.f48 = true := by decide +kernel
theorem chk49 : funcChk Try.f49 = true := by decide +kernel
theorem chk50 : funcChk Try.f50 = true := by decide +kernel
theorem chk51 : funcChk Try.f51 = true := by decide +kernel
theorem chk52 : funcChk Try.f52 = true := by decide +kernel
theorem chk53 : funcChk Try.f53 = true := by decide +kernel
theorem chk54 : funcChk Try.f54 = true := by decide +kernel
theorem chk55 : funcChk Try.f55 = true := by decide +kernel
theorem chk56 : funcChk Try.f56 = true := by decide +kernel
theorem chk57 : funcChk Try.f57 = true := by decide +kernel
theorem chk58 : funcChk Try.f58 = true := by decide +kernel
theorem chk59 : funcChk Try.f59 = true := by decide +kernel
theorem chk60 : funcChk Try.f60 = true := by decide +kernel
theorem chk61 : funcChk Try.f61 = true := by decide +kernel
theorem chk62 : funcChk Try.f62 = true := by decide +kernel
theorem chk63 : funcChk Try.f63 = true := by decide +kernel
theorem chk64 : funcChk Try.f64 = true := by decide +kernel
theorem chk65 : funcChk Try.f65 = true := by decide +kernel
theorem chk66 : funcChk Try.f66 = true := by decide +kernel
theorem chk67 : funcChk Try.f67 = true := by decide +kernel
theorem chk68 : funcChk Try.f68 = true := by decide +kernel
theorem chk69 : funcChk Try.f69 = true := by decide +kernel
theorem chk70 : funcChk Try.f70 = true := by decide +kernel
theorem chk71 : funcChk Try.f71 = true := by decide +kernel
theorem chk72 : funcChk Try.f72 = true := by decide +kernel
theorem chk73 : funcChk Try.f73 = true := by decide +kernel
theorem chk74 : funcChk Try.f74 = true := by decide +kernel
theorem chk75 : funcChk Try.f75 = true := by decide +kernel
theorem chk76 : funcChk Try.f76 = true := by decide +kernel
theorem chk77 : funcChk Try.f77 = true := by decide +kernel
theorem chk78 : funcChk Try.f78 = true := by decide +kernel
theorem chk79 : funcChk Try.f79 = true := by decide +kernel
theorem chk80 : funcChk Try.f80 = true := by decide +kernel
theorem chk81 : funcChk Try.f81 = true := by decide +kernel
theorem chk98 : funcChk Try.f98 = true := by decide +kernel
theorem chk99 : funcChk Try.f99 = true := by decide +kernel
theorem chk100 : funcChk Try.f100 = true := by decide +kernel
theorem chk101 : funcChk Try.f101 = true := by decide +kernel
noncomputable def fns : List (FuncId × Func) := [(3, Try.f3), (4, Try.f4), (5, Try.f5), (6, Try.f6), (7, Try.f7), (8, Try.f8), (9, Try.f9), (10, Try.f10), (11, Try.f11), (12, Try.f12), (13, Try.f13), (14, Try.f14), (15, Try.f15), (16, Try.f16), (17, Try.f17), (18, Try.f18), (19, Try.f19), (20, Try.f20), (21, Try.f21), (22, Try.f22), (23, Try.f23), (24, Try.f24), (25, Try.f25), (26, Try.f26), (27, Try.f27), (28, Try.f28), (29, Try.f29), (30, Try.f30), (31, Try.f31), (32, Try.f32), (33, Try.f33), (34, Try.f34), (35, Try.f35), (36, Try.f36), (37, Try.f37), (38, Try.f38), (39, Try.f39), (40, Try.f40), (41, Try.f41), (42, Try.f42), (43, Try.f43), (44, Try.f44), (45, Try.f45), (46, Try.f46), (47, Try.f47), (48, Try.f48), (49, Try.f49), (50, Try.f50), (51, Try.f51), (52, Try.f52), (53, Try.f53), (54, Try.f54), (55, Try.f55), (56, Try.f56), (57, Try.f57), (58, Try.f58), (59, Try.f59), (60, Try.f60), (61, Try.f61), (62, Try.f62), (63, Try.f63), (64, Try.f64), (65, Try.f65), (66, Try.f66), (67, Try.f67), (68, Try.f68), (69, Try.f69), (70, Try.f70), (71, Try.f71), (72, Try.f72), (73, Try.f73), (74, Try.f74), (75, Try.f75), (76, Try.f76), (77, Try.f77), (78, Try.f78), (79, Try.f79), (80, Try.f80), (81, Try.f81), (98, Try.f98), (99, Try.f99), (100, Try.f100), (101, Try.f101)]

theorem fns_ok : AllFn Try.prog fns :=
  ⟨⟨Try.func3, Try.call3, chk3⟩, ⟨Try.func4, Try.call4, chk4⟩, ⟨Try.func5, Try.call5, chk5⟩, ⟨Try.func6, Try.call6, chk6⟩, ⟨Try.func7, Try.call7, chk7⟩, ⟨Try.func8, Try.call8, chk8⟩, ⟨Try.func9, Try.call9, chk9⟩, ⟨Try.func10, Try.call10, chk10⟩, ⟨Try.func11, Try.call11, chk11⟩, ⟨Try.func12, Try.call12, chk12⟩, ⟨Try.func13, Try.call13, chk13⟩, ⟨Try.func14, Try.call14, chk14⟩, ⟨Try.func15, Try.call15, chk15⟩, ⟨Try.func16, Try.call16, chk16⟩, ⟨Try.func17, Try.call17, chk17⟩, ⟨Try.func18, Try.call18, chk18⟩, ⟨Try.func19, Try.call19, chk19⟩, ⟨Try.func20, Try.call20, chk20⟩, ⟨Try.func21, Try.call21, chk21⟩, ⟨Try.func22, Try.call22, chk22⟩, ⟨Try.func23, Try.call23, chk23⟩, ⟨Try.func24, Try.call24, chk24⟩, ⟨Try.func25, Try.call25, chk25⟩, ⟨Try.func26, Try.call26, chk26⟩, ⟨Try.func27, Try.call27, chk27⟩, ⟨Try.func28, Try.call28, chk28⟩, ⟨Try.func29, Try.call29, chk29⟩, ⟨Try.func30, Try.call30, chk30⟩, ⟨Try.func31, Try.call31, chk31⟩, ⟨Try.func32, Try.call32, chk32⟩, ⟨Try.func33, Try.call33, chk33⟩, ⟨Try.func34, Try.call34, chk34⟩, ⟨Try.func35, Try.call35, chk35⟩, ⟨Try.func36, Try.call36, chk36⟩, ⟨Try.func37, Try.call37, chk37⟩, ⟨Try.func38, Try.call38, chk38⟩, ⟨Try.func39, Try.call39, chk39⟩, ⟨Try.func40, Try.call40, chk40⟩, ⟨Try.func41, Try.call41, chk41⟩, ⟨Try.func42, Try.call42, chk42⟩, ⟨Try.func43, Try.call43, chk43⟩, ⟨Try.func44, Try.call44, chk44⟩, ⟨Try.func45, Try.call45, chk45⟩, ⟨Try.func46, Try.call46, chk46⟩, ⟨Try.func47, Try.call47, chk47⟩, ⟨Try.func48, Try.call48, chk48⟩, ⟨Try.func49, Try.call49, chk49⟩, ⟨Try.func50, Try.call50, chk50⟩, ⟨Try.func51, Try.call51, chk51⟩, ⟨Try.func52, Try.call52, chk52⟩, ⟨Try.func53, Try.call53, chk53⟩, ⟨Try.func54, Try.call54, chk54⟩, ⟨Try.func55, Try.call55, chk55⟩, ⟨Try.func56, Try.call56, chk56⟩, ⟨Try.func57, Try.call57, chk57⟩, ⟨Try.func58, Try.call58, chk58⟩, ⟨Try.func59, Try.call59, chk59⟩, ⟨Try.func60, Try.call60, chk60⟩, ⟨Try.func61, Try.call61, chk61⟩, ⟨Try.func62, Try.call62, chk62⟩, ⟨Try.func63, Try.call63, chk63⟩, ⟨Try.func64, Try.call64, chk64⟩, ⟨Try.func65, Try.call65, chk65⟩, ⟨Try.func66, Try.call66, chk66⟩, ⟨Try.func67, Try.call67, chk67⟩, ⟨Try.func68, Try.call68, chk68⟩, ⟨Try.func69, Try.call69, chk69⟩, ⟨Try.func70, Try.call70, chk70⟩, ⟨Try.func71, Try.call71, chk71⟩, ⟨Try.func72, Try.call72, chk72⟩, ⟨Try.func73, Try.call73, chk73⟩, ⟨Try.func74, Try.call74, chk74⟩, ⟨Try.func75, Try.call75, chk75⟩, ⟨Try.func76, Try.call76, chk76⟩, ⟨Try.func77, Try.call77, chk77⟩, ⟨Try.func78, Try.call78, chk78⟩, ⟨Try.func79, Try.call79, chk79⟩, ⟨Try.func80, Try.call80, chk80⟩, ⟨Try.func81, Try.call81, chk81⟩, ⟨Try.func98, Try.call98, chk98⟩, ⟨Try.func99, Try.call99, chk99⟩, ⟨Try.func100, Try.call100, chk100⟩, ⟨Try.func101, Try.call101, chk101⟩, trivial⟩

def meths : List (TypeId × String × FuncId × Option TypeId) := [(94, "Len", 45, some 95), (94, "Less", 98, some 95), (94, "Swap", 101, some 95), (94, "Pop", 99, none), (94, "Push", 100, none)]

theorem meths_ok : AllM Try.prog meths :=
  ⟨⟨⟨_, _, _, _, Try.type94, rfl, rfl, rfl, Try.underlying94, rfl, rfl⟩⟩, ⟨⟨_, _, _, _, Try.type94, rfl, rfl, rfl, Try.underlying94, rfl, rfl⟩⟩, ⟨⟨_, _, _, _, Try.type94, rfl, rfl, rfl, Try.underlying94, rfl, rfl⟩⟩, ⟨⟨_, _, _, _, Try.type94, rfl, rfl, rfl, Try.underlying94, Or.inl ⟨_, rfl, rfl⟩⟩⟩, ⟨⟨_, _, _, _, Try.type94, rfl, rfl, rfl, Try.underlying94, Or.inl ⟨_, rfl, rfl⟩⟩⟩, trivial⟩

end Go.Proofs.Ytdhbclplondmjaa.C

end
