/-
  Each printed form of a function is what 'compile' gives of it.
  The iterator of a size's terms: its contract.
  A size's quick bounds: the walk.
  Contracts of layers 1 to 3, level by level.
-/
import Derived.Test.YtkccoijckckhmaaGreatDoorM3
import Derived.Test.YtkccoijckckhmaaGreatDoorM1
import Derived.Test.YtkccoijckckhmaaGreatDoorProg
import Derived.KernelRfl
import Derived.Test.YtkccoijckckhmaaGreatDoorM7
import Derived.RangeFuncNested
import Derived.RangeFuncBound
import Derived.RangeFuncCalls
import Derived.RangeFuncLeaves
import Derived.Shelf.Abstract
import Derived.Shelf.RegionOpen
import Derived.WalkKit
import Derived.OwnWalkIn
import Derived.TacticsInMore
import Derived.LoopNIn
import Derived.LoopIn
import Derived.Test.YtkccoijckckhmaaGreatDoorM6
import Derived.Lib.Hide
set_option linter.all false

namespace Go.Proofs.YtkccoijckckhmaaGreatDoor.Ev
open Go

def inB (l : List Nat) (f : Nat) : Bool := match l with
  | [] => false
  | x :: xs => bif Nat.beq x f then true else inB xs f

def BT.All {α : Type} (p : Nat → α → Prop) : BT α → Prop
  | .nil => True
  | .node l k v r => l.All p ∧ p k v ∧ r.All p

theorem BT.get_all {α : Type} {p : Nat → α → Prop} : ∀ {t : BT α} {f : Nat} {v : α}, t.All p → t.get f = some v → p f v
  | .nil, _, _, _, h => by cases h
  | .node l k v r, f, u, ha, h => by
    unfold BT.get at h
    cases hb : Nat.beq f k with
    | true => rw [hb] at h; cases h; rw [Nat.eq_of_beq_eq_true hb]; exact ha.2.1
    | false =>
      rw [hb, cond_false] at h
      cases hl : Nat.blt f k with
      | true => rw [hl] at h; exact BT.get_all ha.1 h
      | false => rw [hl] at h; exact BT.get_all ha.2.2 h

def Ok (f : Nat) (s : SFunc) : Prop := ∃ fn rc, Tryz.prog.funcs[f]? = some fn ∧ (fn.name == "runtime.NumGoroutine") = false ∧ compile Tryz.prog rc fn = some s

def rcs : List Nat := [3, 4, 5, 6, 7, 8, 9, 10, 11, 12, 13, 14, 15, 16, 17, 18, 19, 20, 21, 22, 23, 24, 25, 26, 27, 28, 29, 30, 31, 32, 33, 34, 35, 36, 37, 38, 39, 40, 41, 42, 43, 44, 45, 46, 47, 48, 51, 53, 54, 55, 56, 57, 58, 59, 60, 61, 62, 63, 64, 65, 66, 67, 68, 69, 70, 71, 72, 73, 74, 75, 76, 77, 78, 79, 80, 83, 84, 85, 88, 89, 90, 91, 92, 93, 94, 95, 96, 97, 98, 99, 100, 101, 102, 103, 104, 106, 107, 108, 109, 110, 111, 112, 113, 114, 115, 116, 119, 120, 121, 122, 123, 124, 125, 129, 131, 132, 133, 134, 135, 136, 137, 138, 139, 140, 141, 143, 144, 145, 147, 148, 149, 150, 151, 152, 153, 154, 158, 159, 160, 161, 162, 163, 168, 171, 172, 175, 176, 178, 179, 180, 181, 182, 185, 186, 187, 188, 189, 195, 197, 198, 200, 202, 203, 204, 207, 211, 212, 213, 214, 216, 217, 221, 222, 223, 225, 226, 230, 231, 240, 244, 245, 246, 258, 259, 260, 261, 262, 263, 264, 265, 266, 267, 268, 269, 270, 271, 272, 273, 274, 275, 276, 277, 278, 279, 280, 281, 282, 283, 284, 285, 286, 287]
def rc0 (f : Nat) : Bool := inB rcs f

def rc89 (f : Nat) : Bool := (inB rcs f || inB [126, 130, 128] f) && !(inB [] f)

def rc90 (f : Nat) : Bool := (inB rcs f || inB [126, 130, 128] f) && !(inB [] f)

def rc64 (f : Nat) : Bool := (inB rcs f || inB [1000000, 1000001, 1000002, 1000003, 1000004, 1000005, 1000006, 1000007, 1000008, 1000009, 1000010, 1000011, 1000012, 1000013, 1000014, 1000015, 1000016, 1000017, 1000018, 1000019, 1000020, 1000021, 1000022, 1000023, 1000024, 1000025, 1000026, 1000027, 1000028, 1000029, 1000030, 1000031, 1000032, 1000033, 1000034, 1000035, 1000036, 1000037, 1000038, 1000039, 1000040, 1000041, 1000042, 1000043, 1000044, 1000045, 1000046, 1000047, 1000048, 1000049, 1000050, 1000051, 1000052, 1000053, 1000054, 1000055, 1000056, 1000057, 1000058, 1000059, 1000060, 1000061, 1000062, 1000063, 1000064, 1000065, 1000066, 1000067, 1000068, 1000069, 1000070, 1000071, 1000072, 1000073, 1000074, 1000075, 1000076, 1000077, 1000078, 1000079, 1000080, 1000081, 1000082, 1000083, 1000084, 1000085, 1000086, 1000087, 1000088, 1000089, 1000090, 1000091, 1000092, 1000093, 1000094, 1000095, 1000096, 1000097, 1000098, 1000099] f) && !(inB [] f)

def rc35 (f : Nat) : Bool := (inB rcs f || inB [] f) && !(inB [68, 70] f)

def rc68 (f : Nat) : Bool := (inB rcs f || inB [] f) && !(inB [109] f)

theorem ok3 : Ok 3 s3 := ⟨Tryz.f3, rc0, Tryz.func3, by kernel_rfl, by kernel_rfl⟩

theorem ok8 : Ok 8 s8 := ⟨Tryz.f8, rc0, Tryz.func8, by kernel_rfl, by kernel_rfl⟩

theorem ok9 : Ok 9 s9 := ⟨Tryz.f9, rc0, Tryz.func9, by kernel_rfl, by kernel_rfl⟩

theorem ok10 : Ok 10 s10 := ⟨Tryz.f10, rc0, Tryz.func10, by kernel_rfl, by kernel_rfl⟩

theorem ok11 : Ok 11 s11 := ⟨Tryz.f11, rc0, Tryz.func11, by kernel_rfl, by kernel_rfl⟩

theorem ok12 : Ok 12 s12 := ⟨Tryz.f12, rc0, Tryz.func12, by kernel_rfl, by kernel_rfl⟩

theorem ok13 : Ok 13 s13 := ⟨Tryz.f13, rc0, Tryz.func13, by kernel_rfl, by kernel_rfl⟩

theorem ok14 : Ok 14 s14 := ⟨Tryz.f14, rc0, Tryz.func14, by kernel_rfl, by kernel_rfl⟩

theorem ok15 : Ok 15 s15 := ⟨Tryz.f15, rc0, Tryz.func15, by kernel_rfl, by kernel_rfl⟩

theorem ok16 : Ok 16 s16 := ⟨Tryz.f16, rc0, Tryz.func16, by kernel_rfl, by kernel_rfl⟩

theorem ok17 : Ok 17 s17 := ⟨Tryz.f17, rc0, Tryz.func17, by kernel_rfl, by kernel_rfl⟩

theorem ok18 : Ok 18 s18 := ⟨Tryz.f18, rc0, Tryz.func18, by kernel_rfl, by kernel_rfl⟩

theorem ok19 : Ok 19 s19 := ⟨Tryz.f19, rc0, Tryz.func19, by kernel_rfl, by kernel_rfl⟩

theorem ok20 : Ok 20 s20 := ⟨Tryz.f20, rc0, Tryz.func20, by kernel_rfl, by kernel_rfl⟩

theorem ok21 : Ok 21 s21 := ⟨Tryz.f21, rc0, Tryz.func21, by kernel_rfl, by kernel_rfl⟩

theorem ok23 : Ok 23 s23 := ⟨Tryz.f23, rc0, Tryz.func23, by kernel_rfl, by kernel_rfl⟩

theorem ok24 : Ok 24 s24 := ⟨Tryz.f24, rc0, Tryz.func24, by kernel_rfl, by kernel_rfl⟩

theorem ok33 : Ok 33 s33 := ⟨Tryz.f33, rc0, Tryz.func33, by kernel_rfl, by kernel_rfl⟩

theorem ok35 : Ok 35 s35 := ⟨Tryz.f35, rc35, Tryz.func35, by kernel_rfl, by kernel_rfl⟩

theorem ok36 : Ok 36 s36 := ⟨Tryz.f36, rc0, Tryz.func36, by kernel_rfl, by kernel_rfl⟩

theorem ok37 : Ok 37 s37 := ⟨Tryz.f37, rc0, Tryz.func37, by kernel_rfl, by kernel_rfl⟩

theorem ok38 : Ok 38 s38 := ⟨Tryz.f38, rc0, Tryz.func38, by kernel_rfl, by kernel_rfl⟩

theorem ok39 : Ok 39 s39 := ⟨Tryz.f39, rc0, Tryz.func39, by kernel_rfl, by kernel_rfl⟩

theorem ok40 : Ok 40 s40 := ⟨Tryz.f40, rc0, Tryz.func40, by kernel_rfl, by kernel_rfl⟩

theorem ok41 : Ok 41 s41 := ⟨Tryz.f41, rc0, Tryz.func41, by kernel_rfl, by kernel_rfl⟩

theorem ok42 : Ok 42 s42 := ⟨Tryz.f42, rc0, Tryz.func42, by kernel_rfl, by kernel_rfl⟩

theorem ok43 : Ok 43 s43 := ⟨Tryz.f43, rc0, Tryz.func43, by kernel_rfl, by kernel_rfl⟩

theorem ok44 : Ok 44 s44 := ⟨Tryz.f44, rc0, Tryz.func44, by kernel_rfl, by kernel_rfl⟩

theorem ok45 : Ok 45 s45 := ⟨Tryz.f45, rc0, Tryz.func45, by kernel_rfl, by kernel_rfl⟩

theorem ok46 : Ok 46 s46 := ⟨Tryz.f46, rc0, Tryz.func46, by kernel_rfl, by kernel_rfl⟩

theorem ok47 : Ok 47 s47 := ⟨Tryz.f47, rc0, Tryz.func47, by kernel_rfl, by kernel_rfl⟩

theorem ok48 : Ok 48 s48 := ⟨Tryz.f48, rc0, Tryz.func48, by kernel_rfl, by kernel_rfl⟩

theorem ok49 : Ok 49 s49 := ⟨Tryz.f49, rc0, Tryz.func49, by kernel_rfl, by kernel_rfl⟩

theorem ok50 : Ok 50 s50 := ⟨Tryz.f50, rc0, Tryz.func50, by kernel_rfl, by kernel_rfl⟩

theorem ok51 : Ok 51 s51 := ⟨Tryz.f51, rc0, Tryz.func51, by kernel_rfl, by kernel_rfl⟩

theorem ok52 : Ok 52 s52 := ⟨Tryz.f52, rc0, Tryz.func52, by kernel_rfl, by kernel_rfl⟩

theorem ok53 : Ok 53 s53 := ⟨Tryz.f53, rc0, Tryz.func53, by kernel_rfl, by kernel_rfl⟩

theorem ok54 : Ok 54 s54 := ⟨Tryz.f54, rc0, Tryz.func54, by kernel_rfl, by kernel_rfl⟩

theorem ok55 : Ok 55 s55 := ⟨Tryz.f55, rc0, Tryz.func55, by kernel_rfl, by kernel_rfl⟩

theorem ok56 : Ok 56 s56 := ⟨Tryz.f56, rc0, Tryz.func56, by kernel_rfl, by kernel_rfl⟩

theorem ok57 : Ok 57 s57 := ⟨Tryz.f57, rc0, Tryz.func57, by kernel_rfl, by kernel_rfl⟩

theorem ok58 : Ok 58 s58 := ⟨Tryz.f58, rc0, Tryz.func58, by kernel_rfl, by kernel_rfl⟩

theorem ok59 : Ok 59 s59 := ⟨Tryz.f59, rc0, Tryz.func59, by kernel_rfl, by kernel_rfl⟩

theorem ok60 : Ok 60 s60 := ⟨Tryz.f60, rc0, Tryz.func60, by kernel_rfl, by kernel_rfl⟩

theorem ok62 : Ok 62 s62 := ⟨Tryz.f62, rc0, Tryz.func62, by kernel_rfl, by kernel_rfl⟩

theorem ok63 : Ok 63 s63 := ⟨Tryz.f63, rc0, Tryz.func63, by kernel_rfl, by kernel_rfl⟩

theorem ok64 : Ok 64 s64 := ⟨Tryz.f64, rc64, Tryz.func64, by kernel_rfl, by kernel_rfl⟩

theorem ok68 : Ok 68 s68 := ⟨Tryz.f68, rc68, Tryz.func68, by kernel_rfl, by kernel_rfl⟩

theorem ok69 : Ok 69 s69 := ⟨Tryz.f69, rc0, Tryz.func69, by kernel_rfl, by kernel_rfl⟩

theorem ok70 : Ok 70 s70 := ⟨Tryz.f70, rc0, Tryz.func70, by kernel_rfl, by kernel_rfl⟩

theorem ok71 : Ok 71 s71 := ⟨Tryz.f71, rc0, Tryz.func71, by kernel_rfl, by kernel_rfl⟩

theorem ok72 : Ok 72 s72 := ⟨Tryz.f72, rc0, Tryz.func72, by kernel_rfl, by kernel_rfl⟩

theorem ok73 : Ok 73 s73 := ⟨Tryz.f73, rc0, Tryz.func73, by kernel_rfl, by kernel_rfl⟩

theorem ok74 : Ok 74 s74 := ⟨Tryz.f74, rc0, Tryz.func74, by kernel_rfl, by kernel_rfl⟩

theorem ok75 : Ok 75 s75 := ⟨Tryz.f75, rc0, Tryz.func75, by kernel_rfl, by kernel_rfl⟩

theorem ok76 : Ok 76 s76 := ⟨Tryz.f76, rc0, Tryz.func76, by kernel_rfl, by kernel_rfl⟩

theorem ok77 : Ok 77 s77 := ⟨Tryz.f77, rc0, Tryz.func77, by kernel_rfl, by kernel_rfl⟩

theorem ok78 : Ok 78 s78 := ⟨Tryz.f78, rc0, Tryz.func78, by kernel_rfl, by kernel_rfl⟩

theorem ok79 : Ok 79 s79 := ⟨Tryz.f79, rc0, Tryz.func79, by kernel_rfl, by kernel_rfl⟩

theorem ok80 : Ok 80 s80 := ⟨Tryz.f80, rc0, Tryz.func80, by kernel_rfl, by kernel_rfl⟩

theorem ok81 : Ok 81 s81 := ⟨Tryz.f81, rc0, Tryz.func81, by kernel_rfl, by kernel_rfl⟩

theorem ok82 : Ok 82 s82 := ⟨Tryz.f82, rc0, Tryz.func82, by kernel_rfl, by kernel_rfl⟩

theorem ok83 : Ok 83 s83 := ⟨Tryz.f83, rc0, Tryz.func83, by kernel_rfl, by kernel_rfl⟩

theorem ok84 : Ok 84 s84 := ⟨Tryz.f84, rc0, Tryz.func84, by kernel_rfl, by kernel_rfl⟩

theorem ok85 : Ok 85 s85 := ⟨Tryz.f85, rc0, Tryz.func85, by kernel_rfl, by kernel_rfl⟩

theorem ok86 : Ok 86 s86 := ⟨Tryz.f86, rc0, Tryz.func86, by kernel_rfl, by kernel_rfl⟩

theorem ok87 : Ok 87 s87 := ⟨Tryz.f87, rc0, Tryz.func87, by kernel_rfl, by kernel_rfl⟩

theorem ok88 : Ok 88 s88 := ⟨Tryz.f88, rc0, Tryz.func88, by kernel_rfl, by kernel_rfl⟩

theorem ok89 : Ok 89 s89 := ⟨Tryz.f89, rc89, Tryz.func89, by kernel_rfl, by kernel_rfl⟩

theorem ok90 : Ok 90 s90 := ⟨Tryz.f90, rc90, Tryz.func90, by kernel_rfl, by kernel_rfl⟩

theorem ok91 : Ok 91 s91 := ⟨Tryz.f91, rc0, Tryz.func91, by kernel_rfl, by kernel_rfl⟩

theorem ok92 : Ok 92 s92 := ⟨Tryz.f92, rc0, Tryz.func92, by kernel_rfl, by kernel_rfl⟩

theorem ok93 : Ok 93 s93 := ⟨Tryz.f93, rc0, Tryz.func93, by kernel_rfl, by kernel_rfl⟩

theorem ok94 : Ok 94 s94 := ⟨Tryz.f94, rc0, Tryz.func94, by kernel_rfl, by kernel_rfl⟩

theorem ok95 : Ok 95 s95 := ⟨Tryz.f95, rc0, Tryz.func95, by kernel_rfl, by kernel_rfl⟩

theorem ok96 : Ok 96 s96 := ⟨Tryz.f96, rc0, Tryz.func96, by kernel_rfl, by kernel_rfl⟩

theorem ok97 : Ok 97 s97 := ⟨Tryz.f97, rc0, Tryz.func97, by kernel_rfl, by kernel_rfl⟩

theorem ok98 : Ok 98 s98 := ⟨Tryz.f98, rc0, Tryz.func98, by kernel_rfl, by kernel_rfl⟩

theorem ok99 : Ok 99 s99 := ⟨Tryz.f99, rc0, Tryz.func99, by kernel_rfl, by kernel_rfl⟩

theorem ok100 : Ok 100 s100 := ⟨Tryz.f100, rc0, Tryz.func100, by kernel_rfl, by kernel_rfl⟩

theorem ok101 : Ok 101 s101 := ⟨Tryz.f101, rc0, Tryz.func101, by kernel_rfl, by kernel_rfl⟩

theorem ok103 : Ok 103 s103 := ⟨Tryz.f103, rc0, Tryz.func103, by kernel_rfl, by kernel_rfl⟩

theorem ok104 : Ok 104 s104 := ⟨Tryz.f104, rc0, Tryz.func104, by kernel_rfl, by kernel_rfl⟩

theorem ok105 : Ok 105 s105 := ⟨Tryz.f105, rc0, Tryz.func105, by kernel_rfl, by kernel_rfl⟩

theorem ok106 : Ok 106 s106 := ⟨Tryz.f106, rc0, Tryz.func106, by kernel_rfl, by kernel_rfl⟩

theorem ok108 : Ok 108 s108 := ⟨Tryz.f108, rc0, Tryz.func108, by kernel_rfl, by kernel_rfl⟩

theorem ok109 : Ok 109 s109 := ⟨Tryz.f109, rc0, Tryz.func109, by kernel_rfl, by kernel_rfl⟩

theorem ok110 : Ok 110 s110 := ⟨Tryz.f110, rc0, Tryz.func110, by kernel_rfl, by kernel_rfl⟩

theorem ok111 : Ok 111 s111 := ⟨Tryz.f111, rc0, Tryz.func111, by kernel_rfl, by kernel_rfl⟩

theorem ok112 : Ok 112 s112 := ⟨Tryz.f112, rc0, Tryz.func112, by kernel_rfl, by kernel_rfl⟩

theorem ok114 : Ok 114 s114 := ⟨Tryz.f114, rc0, Tryz.func114, by kernel_rfl, by kernel_rfl⟩

theorem ok115 : Ok 115 s115 := ⟨Tryz.f115, rc0, Tryz.func115, by kernel_rfl, by kernel_rfl⟩

theorem ok116 : Ok 116 s116 := ⟨Tryz.f116, rc0, Tryz.func116, by kernel_rfl, by kernel_rfl⟩

theorem ok117 : Ok 117 s117 := ⟨Tryz.f117, rc0, Tryz.func117, by kernel_rfl, by kernel_rfl⟩

theorem ok118 : Ok 118 s118 := ⟨Tryz.f118, rc0, Tryz.func118, by kernel_rfl, by kernel_rfl⟩

theorem ok119 : Ok 119 s119 := ⟨Tryz.f119, rc0, Tryz.func119, by kernel_rfl, by kernel_rfl⟩

theorem ok120 : Ok 120 s120 := ⟨Tryz.f120, rc0, Tryz.func120, by kernel_rfl, by kernel_rfl⟩

theorem ok121 : Ok 121 s121 := ⟨Tryz.f121, rc0, Tryz.func121, by kernel_rfl, by kernel_rfl⟩

theorem ok122 : Ok 122 s122 := ⟨Tryz.f122, rc0, Tryz.func122, by kernel_rfl, by kernel_rfl⟩

theorem ok123 : Ok 123 s123 := ⟨Tryz.f123, rc0, Tryz.func123, by kernel_rfl, by kernel_rfl⟩

theorem ok124 : Ok 124 s124 := ⟨Tryz.f124, rc0, Tryz.func124, by kernel_rfl, by kernel_rfl⟩

theorem ok125 : Ok 125 s125 := ⟨Tryz.f125, rc0, Tryz.func125, by kernel_rfl, by kernel_rfl⟩

theorem ok126 : Ok 126 s126 := ⟨Tryz.f126, rc0, Tryz.func126, by kernel_rfl, by kernel_rfl⟩

theorem ok127 : Ok 127 s127 := ⟨Tryz.f127, rc0, Tryz.func127, by kernel_rfl, by kernel_rfl⟩

theorem ok128 : Ok 128 s128 := ⟨Tryz.f128, rc0, Tryz.func128, by kernel_rfl, by kernel_rfl⟩

theorem ok129 : Ok 129 s129 := ⟨Tryz.f129, rc0, Tryz.func129, by kernel_rfl, by kernel_rfl⟩

theorem ok130 : Ok 130 s130 := ⟨Tryz.f130, rc0, Tryz.func130, by kernel_rfl, by kernel_rfl⟩

theorem ok131 : Ok 131 s131 := ⟨Tryz.f131, rc0, Tryz.func131, by kernel_rfl, by kernel_rfl⟩

theorem ok132 : Ok 132 s132 := ⟨Tryz.f132, rc0, Tryz.func132, by kernel_rfl, by kernel_rfl⟩

theorem ok133 : Ok 133 s133 := ⟨Tryz.f133, rc0, Tryz.func133, by kernel_rfl, by kernel_rfl⟩

theorem ok135 : Ok 135 s135 := ⟨Tryz.f135, rc0, Tryz.func135, by kernel_rfl, by kernel_rfl⟩

theorem ok136 : Ok 136 s136 := ⟨Tryz.f136, rc0, Tryz.func136, by kernel_rfl, by kernel_rfl⟩

theorem ok137 : Ok 137 s137 := ⟨Tryz.f137, rc0, Tryz.func137, by kernel_rfl, by kernel_rfl⟩

theorem ok138 : Ok 138 s138 := ⟨Tryz.f138, rc0, Tryz.func138, by kernel_rfl, by kernel_rfl⟩

theorem ok139 : Ok 139 s139 := ⟨Tryz.f139, rc0, Tryz.func139, by kernel_rfl, by kernel_rfl⟩

theorem ok140 : Ok 140 s140 := ⟨Tryz.f140, rc0, Tryz.func140, by kernel_rfl, by kernel_rfl⟩

theorem ok141 : Ok 141 s141 := ⟨Tryz.f141, rc0, Tryz.func141, by kernel_rfl, by kernel_rfl⟩

theorem ok142 : Ok 142 s142 := ⟨Tryz.f142, rc0, Tryz.func142, by kernel_rfl, by kernel_rfl⟩

theorem ok143 : Ok 143 s143 := ⟨Tryz.f143, rc0, Tryz.func143, by kernel_rfl, by kernel_rfl⟩

theorem ok144 : Ok 144 s144 := ⟨Tryz.f144, rc0, Tryz.func144, by kernel_rfl, by kernel_rfl⟩

theorem ok145 : Ok 145 s145 := ⟨Tryz.f145, rc0, Tryz.func145, by kernel_rfl, by kernel_rfl⟩

theorem ok146 : Ok 146 s146 := ⟨Tryz.f146, rc0, Tryz.func146, by kernel_rfl, by kernel_rfl⟩

theorem ok147 : Ok 147 s147 := ⟨Tryz.f147, rc0, Tryz.func147, by kernel_rfl, by kernel_rfl⟩

theorem ok148 : Ok 148 s148 := ⟨Tryz.f148, rc0, Tryz.func148, by kernel_rfl, by kernel_rfl⟩

theorem ok149 : Ok 149 s149 := ⟨Tryz.f149, rc0, Tryz.func149, by kernel_rfl, by kernel_rfl⟩

theorem ok150 : Ok 150 s150 := ⟨Tryz.f150, rc0, Tryz.func150, by kernel_rfl, by kernel_rfl⟩

theorem ok154 : Ok 154 s154 := ⟨Tryz.f154, rc0, Tryz.func154, by kernel_rfl, by kernel_rfl⟩

theorem ok155 : Ok 155 s155 := ⟨Tryz.f155, rc0, Tryz.func155, by kernel_rfl, by kernel_rfl⟩

theorem ok156 : Ok 156 s156 := ⟨Tryz.f156, rc0, Tryz.func156, by kernel_rfl, by kernel_rfl⟩

theorem ok157 : Ok 157 s157 := ⟨Tryz.f157, rc0, Tryz.func157, by kernel_rfl, by kernel_rfl⟩

theorem ok158 : Ok 158 s158 := ⟨Tryz.f158, rc0, Tryz.func158, by kernel_rfl, by kernel_rfl⟩

theorem ok159 : Ok 159 s159 := ⟨Tryz.f159, rc0, Tryz.func159, by kernel_rfl, by kernel_rfl⟩

theorem ok160 : Ok 160 s160 := ⟨Tryz.f160, rc0, Tryz.func160, by kernel_rfl, by kernel_rfl⟩

theorem ok162 : Ok 162 s162 := ⟨Tryz.f162, rc0, Tryz.func162, by kernel_rfl, by kernel_rfl⟩

theorem ok163 : Ok 163 s163 := ⟨Tryz.f163, rc0, Tryz.func163, by kernel_rfl, by kernel_rfl⟩

theorem ok164 : Ok 164 s164 := ⟨Tryz.f164, rc0, Tryz.func164, by kernel_rfl, by kernel_rfl⟩

theorem ok165 : Ok 165 s165 := ⟨Tryz.f165, rc0, Tryz.func165, by kernel_rfl, by kernel_rfl⟩

theorem ok166 : Ok 166 s166 := ⟨Tryz.f166, rc0, Tryz.func166, by kernel_rfl, by kernel_rfl⟩

theorem ok167 : Ok 167 s167 := ⟨Tryz.f167, rc0, Tryz.func167, by kernel_rfl, by kernel_rfl⟩

theorem ok168 : Ok 168 s168 := ⟨Tryz.f168, rc0, Tryz.func168, by kernel_rfl, by kernel_rfl⟩

theorem ok169 : Ok 169 s169 := ⟨Tryz.f169, rc0, Tryz.func169, by kernel_rfl, by kernel_rfl⟩

theorem ok170 : Ok 170 s170 := ⟨Tryz.f170, rc0, Tryz.func170, by kernel_rfl, by kernel_rfl⟩

theorem ok171 : Ok 171 s171 := ⟨Tryz.f171, rc0, Tryz.func171, by kernel_rfl, by kernel_rfl⟩

theorem ok172 : Ok 172 s172 := ⟨Tryz.f172, rc0, Tryz.func172, by kernel_rfl, by kernel_rfl⟩

theorem ok173 : Ok 173 s173 := ⟨Tryz.f173, rc0, Tryz.func173, by kernel_rfl, by kernel_rfl⟩

theorem ok174 : Ok 174 s174 := ⟨Tryz.f174, rc0, Tryz.func174, by kernel_rfl, by kernel_rfl⟩

theorem ok175 : Ok 175 s175 := ⟨Tryz.f175, rc0, Tryz.func175, by kernel_rfl, by kernel_rfl⟩

theorem ok176 : Ok 176 s176 := ⟨Tryz.f176, rc0, Tryz.func176, by kernel_rfl, by kernel_rfl⟩

theorem ok179 : Ok 179 s179 := ⟨Tryz.f179, rc0, Tryz.func179, by kernel_rfl, by kernel_rfl⟩

theorem ok181 : Ok 181 s181 := ⟨Tryz.f181, rc0, Tryz.func181, by kernel_rfl, by kernel_rfl⟩

theorem ok182 : Ok 182 s182 := ⟨Tryz.f182, rc0, Tryz.func182, by kernel_rfl, by kernel_rfl⟩

theorem ok183 : Ok 183 s183 := ⟨Tryz.f183, rc0, Tryz.func183, by kernel_rfl, by kernel_rfl⟩

theorem ok184 : Ok 184 s184 := ⟨Tryz.f184, rc0, Tryz.func184, by kernel_rfl, by kernel_rfl⟩

theorem ok185 : Ok 185 s185 := ⟨Tryz.f185, rc0, Tryz.func185, by kernel_rfl, by kernel_rfl⟩

theorem ok186 : Ok 186 s186 := ⟨Tryz.f186, rc0, Tryz.func186, by kernel_rfl, by kernel_rfl⟩

theorem ok187 : Ok 187 s187 := ⟨Tryz.f187, rc0, Tryz.func187, by kernel_rfl, by kernel_rfl⟩

theorem ok188 : Ok 188 s188 := ⟨Tryz.f188, rc0, Tryz.func188, by kernel_rfl, by kernel_rfl⟩

theorem ok189 : Ok 189 s189 := ⟨Tryz.f189, rc0, Tryz.func189, by kernel_rfl, by kernel_rfl⟩

theorem ok190 : Ok 190 s190 := ⟨Tryz.f190, rc0, Tryz.func190, by kernel_rfl, by kernel_rfl⟩

theorem ok191 : Ok 191 s191 := ⟨Tryz.f191, rc0, Tryz.func191, by kernel_rfl, by kernel_rfl⟩

theorem ok192 : Ok 192 s192 := ⟨Tryz.f192, rc0, Tryz.func192, by kernel_rfl, by kernel_rfl⟩

theorem ok193 : Ok 193 s193 := ⟨Tryz.f193, rc0, Tryz.func193, by kernel_rfl, by kernel_rfl⟩

theorem ok194 : Ok 194 s194 := ⟨Tryz.f194, rc0, Tryz.func194, by kernel_rfl, by kernel_rfl⟩

theorem ok195 : Ok 195 s195 := ⟨Tryz.f195, rc0, Tryz.func195, by kernel_rfl, by kernel_rfl⟩

theorem ok199 : Ok 199 s199 := ⟨Tryz.f199, rc0, Tryz.func199, by kernel_rfl, by kernel_rfl⟩

theorem ok200 : Ok 200 s200 := ⟨Tryz.f200, rc0, Tryz.func200, by kernel_rfl, by kernel_rfl⟩

theorem ok202 : Ok 202 s202 := ⟨Tryz.f202, rc0, Tryz.func202, by kernel_rfl, by kernel_rfl⟩

theorem ok203 : Ok 203 s203 := ⟨Tryz.f203, rc0, Tryz.func203, by kernel_rfl, by kernel_rfl⟩

theorem ok204 : Ok 204 s204 := ⟨Tryz.f204, rc0, Tryz.func204, by kernel_rfl, by kernel_rfl⟩

theorem ok205 : Ok 205 s205 := ⟨Tryz.f205, rc0, Tryz.func205, by kernel_rfl, by kernel_rfl⟩

theorem ok206 : Ok 206 s206 := ⟨Tryz.f206, rc0, Tryz.func206, by kernel_rfl, by kernel_rfl⟩

theorem ok207 : Ok 207 s207 := ⟨Tryz.f207, rc0, Tryz.func207, by kernel_rfl, by kernel_rfl⟩

theorem ok208 : Ok 208 s208 := ⟨Tryz.f208, rc0, Tryz.func208, by kernel_rfl, by kernel_rfl⟩

theorem ok209 : Ok 209 s209 := ⟨Tryz.f209, rc0, Tryz.func209, by kernel_rfl, by kernel_rfl⟩

theorem ok216 : Ok 216 s216 := ⟨Tryz.f216, rc0, Tryz.func216, by kernel_rfl, by kernel_rfl⟩

theorem ok218 : Ok 218 s218 := ⟨Tryz.f218, rc0, Tryz.func218, by kernel_rfl, by kernel_rfl⟩

theorem ok219 : Ok 219 s219 := ⟨Tryz.f219, rc0, Tryz.func219, by kernel_rfl, by kernel_rfl⟩

theorem ok220 : Ok 220 s220 := ⟨Tryz.f220, rc0, Tryz.func220, by kernel_rfl, by kernel_rfl⟩

theorem ok221 : Ok 221 s221 := ⟨Tryz.f221, rc0, Tryz.func221, by kernel_rfl, by kernel_rfl⟩

theorem ok222 : Ok 222 s222 := ⟨Tryz.f222, rc0, Tryz.func222, by kernel_rfl, by kernel_rfl⟩

theorem ok223 : Ok 223 s223 := ⟨Tryz.f223, rc0, Tryz.func223, by kernel_rfl, by kernel_rfl⟩

theorem ok224 : Ok 224 s224 := ⟨Tryz.f224, rc0, Tryz.func224, by kernel_rfl, by kernel_rfl⟩

theorem ok225 : Ok 225 s225 := ⟨Tryz.f225, rc0, Tryz.func225, by kernel_rfl, by kernel_rfl⟩

theorem ok227 : Ok 227 s227 := ⟨Tryz.f227, rc0, Tryz.func227, by kernel_rfl, by kernel_rfl⟩

theorem ok228 : Ok 228 s228 := ⟨Tryz.f228, rc0, Tryz.func228, by kernel_rfl, by kernel_rfl⟩

theorem ok230 : Ok 230 s230 := ⟨Tryz.f230, rc0, Tryz.func230, by kernel_rfl, by kernel_rfl⟩

theorem ok231 : Ok 231 s231 := ⟨Tryz.f231, rc0, Tryz.func231, by kernel_rfl, by kernel_rfl⟩

theorem ok232 : Ok 232 s232 := ⟨Tryz.f232, rc0, Tryz.func232, by kernel_rfl, by kernel_rfl⟩

theorem ok233 : Ok 233 s233 := ⟨Tryz.f233, rc0, Tryz.func233, by kernel_rfl, by kernel_rfl⟩

theorem ok234 : Ok 234 s234 := ⟨Tryz.f234, rc0, Tryz.func234, by kernel_rfl, by kernel_rfl⟩

theorem ok235 : Ok 235 s235 := ⟨Tryz.f235, rc0, Tryz.func235, by kernel_rfl, by kernel_rfl⟩

theorem ok242 : Ok 242 s242 := ⟨Tryz.f242, rc0, Tryz.func242, by kernel_rfl, by kernel_rfl⟩

theorem ok243 : Ok 243 s243 := ⟨Tryz.f243, rc0, Tryz.func243, by kernel_rfl, by kernel_rfl⟩

theorem ok244 : Ok 244 s244 := ⟨Tryz.f244, rc0, Tryz.func244, by kernel_rfl, by kernel_rfl⟩

theorem ok245 : Ok 245 s245 := ⟨Tryz.f245, rc0, Tryz.func245, by kernel_rfl, by kernel_rfl⟩

theorem ok247 : Ok 247 s247 := ⟨Tryz.f247, rc0, Tryz.func247, by kernel_rfl, by kernel_rfl⟩

theorem ok252 : Ok 252 s252 := ⟨Tryz.f252, rc0, Tryz.func252, by kernel_rfl, by kernel_rfl⟩

theorem ok253 : Ok 253 s253 := ⟨Tryz.f253, rc0, Tryz.func253, by kernel_rfl, by kernel_rfl⟩

theorem ok254 : Ok 254 s254 := ⟨Tryz.f254, rc0, Tryz.func254, by kernel_rfl, by kernel_rfl⟩

theorem bodies_all : bodies.All Ok := ⟨⟨⟨⟨⟨⟨⟨⟨trivial, ok3, trivial⟩, ok8, ⟨trivial, ok9, trivial⟩⟩, ok10, ⟨⟨trivial, ok11, trivial⟩, ok12, trivial⟩⟩, ok13, ⟨⟨⟨trivial, ok14, trivial⟩,
  ok15, trivial⟩, ok16, ⟨⟨trivial, ok17, trivial⟩, ok18, trivial⟩⟩⟩, ok19, ⟨⟨⟨⟨trivial, ok20, trivial⟩, ok21, trivial⟩, ok23, ⟨⟨trivial, ok24,
  trivial⟩, ok33, trivial⟩⟩, ok35, ⟨⟨⟨trivial, ok36, trivial⟩, ok37, trivial⟩, ok38, ⟨⟨trivial, ok39, trivial⟩, ok40, trivial⟩⟩⟩⟩, ok41, ⟨⟨⟨⟨⟨trivial,
  ok42, trivial⟩, ok43, ⟨trivial, ok44, trivial⟩⟩, ok45, ⟨⟨trivial, ok46, trivial⟩, ok47, trivial⟩⟩, ok48, ⟨⟨⟨trivial, ok49, trivial⟩, ok50, trivial⟩,
  ok51, ⟨⟨trivial, ok52, trivial⟩, ok53, trivial⟩⟩⟩, ok54, ⟨⟨⟨⟨trivial, ok55, trivial⟩, ok56, trivial⟩, ok57, ⟨⟨trivial, ok58, trivial⟩, ok59,
  trivial⟩⟩, ok60, ⟨⟨⟨trivial, ok62, trivial⟩, ok63, trivial⟩, ok64, ⟨⟨trivial, ok68, trivial⟩, ok69, trivial⟩⟩⟩⟩⟩, ok70, ⟨⟨⟨⟨⟨⟨trivial, ok71,
  trivial⟩, ok72, ⟨trivial, ok73, trivial⟩⟩, ok74, ⟨⟨trivial, ok75, trivial⟩, ok76, trivial⟩⟩, ok77, ⟨⟨⟨trivial, ok78, trivial⟩, ok79, trivial⟩, ok80,
  ⟨⟨trivial, ok81, trivial⟩, ok82, trivial⟩⟩⟩, ok83, ⟨⟨⟨⟨trivial, ok84, trivial⟩, ok85, trivial⟩, ok86, ⟨⟨trivial, ok87, trivial⟩, ok88, trivial⟩⟩,
  ok89, ⟨⟨⟨trivial, ok90, trivial⟩, ok91, trivial⟩, ok92, ⟨⟨trivial, ok93, trivial⟩, ok94, trivial⟩⟩⟩⟩, ok95, ⟨⟨⟨⟨⟨trivial, ok96, trivial⟩, ok97,
  ⟨trivial, ok98, trivial⟩⟩, ok99, ⟨⟨trivial, ok100, trivial⟩, ok101, trivial⟩⟩, ok103, ⟨⟨⟨trivial, ok104, trivial⟩, ok105, trivial⟩, ok106,
  ⟨⟨trivial, ok108, trivial⟩, ok109, trivial⟩⟩⟩, ok110, ⟨⟨⟨⟨trivial, ok111, trivial⟩, ok112, trivial⟩, ok114, ⟨⟨trivial, ok115, trivial⟩, ok116,
  trivial⟩⟩, ok117, ⟨⟨⟨trivial, ok118, trivial⟩, ok119, trivial⟩, ok120, ⟨⟨trivial, ok121, trivial⟩, ok122, trivial⟩⟩⟩⟩⟩⟩, ok123, ⟨⟨⟨⟨⟨⟨⟨trivial,
  ok124, trivial⟩, ok125, ⟨trivial, ok126, trivial⟩⟩, ok127, ⟨⟨trivial, ok128, trivial⟩, ok129, trivial⟩⟩, ok130, ⟨⟨⟨trivial, ok131, trivial⟩, ok132,
  trivial⟩, ok133, ⟨⟨trivial, ok135, trivial⟩, ok136, trivial⟩⟩⟩, ok137, ⟨⟨⟨⟨trivial, ok138, trivial⟩, ok139, trivial⟩, ok140, ⟨⟨trivial, ok141,
  trivial⟩, ok142, trivial⟩⟩, ok143, ⟨⟨⟨trivial, ok144, trivial⟩, ok145, trivial⟩, ok146, ⟨⟨trivial, ok147, trivial⟩, ok148, trivial⟩⟩⟩⟩, ok149,
  ⟨⟨⟨⟨⟨trivial, ok150, trivial⟩, ok154, ⟨trivial, ok155, trivial⟩⟩, ok156, ⟨⟨trivial, ok157, trivial⟩, ok158, trivial⟩⟩, ok159, ⟨⟨⟨trivial, ok160,
  trivial⟩, ok162, trivial⟩, ok163, ⟨⟨trivial, ok164, trivial⟩, ok165, trivial⟩⟩⟩, ok166, ⟨⟨⟨⟨trivial, ok167, trivial⟩, ok168, trivial⟩, ok169,
  ⟨⟨trivial, ok170, trivial⟩, ok171, trivial⟩⟩, ok172, ⟨⟨⟨trivial, ok173, trivial⟩, ok174, trivial⟩, ok175, ⟨⟨trivial, ok176, trivial⟩, ok179,
  trivial⟩⟩⟩⟩⟩, ok181, ⟨⟨⟨⟨⟨⟨trivial, ok182, trivial⟩, ok183, ⟨trivial, ok184, trivial⟩⟩, ok185, ⟨⟨trivial, ok186, trivial⟩, ok187, trivial⟩⟩, ok188,
  ⟨⟨⟨trivial, ok189, trivial⟩, ok190, trivial⟩, ok191, ⟨⟨trivial, ok192, trivial⟩, ok193, trivial⟩⟩⟩, ok194, ⟨⟨⟨⟨trivial, ok195, trivial⟩, ok199,
  trivial⟩, ok200, ⟨⟨trivial, ok202, trivial⟩, ok203, trivial⟩⟩, ok204, ⟨⟨⟨trivial, ok205, trivial⟩, ok206, trivial⟩, ok207, ⟨⟨trivial, ok208,
  trivial⟩, ok209, trivial⟩⟩⟩⟩, ok216, ⟨⟨⟨⟨⟨trivial, ok218, trivial⟩, ok219, ⟨trivial, ok220, trivial⟩⟩, ok221, ⟨⟨trivial, ok222, trivial⟩, ok223,
  trivial⟩⟩, ok224, ⟨⟨⟨trivial, ok225, trivial⟩, ok227, trivial⟩, ok228, ⟨⟨trivial, ok230, trivial⟩, ok231, trivial⟩⟩⟩, ok232, ⟨⟨⟨⟨trivial, ok233,
  trivial⟩, ok234, trivial⟩, ok235, ⟨⟨trivial, ok242, trivial⟩, ok243, trivial⟩⟩, ok244, ⟨⟨⟨trivial, ok245, trivial⟩, ok247, trivial⟩, ok252,
  ⟨⟨trivial, ok253, trivial⟩, ok254, trivial⟩⟩⟩⟩⟩⟩⟩

theorem bodies_ok {T : Tab} (h : T.body = bodies.get) : Bodies Tryz.prog T := fun f s hs => by
  rw [h] at hs
  exact BT.get_all bodies_all hs

end Go.Proofs.YtkccoijckckhmaaGreatDoor.Ev

namespace Go.Proofs
open Go.RowKit Go.Shelf

attribute [local go_sem] Oper.semAt_some

def Tryz.upto {α : Type} (f : Nat → α) (k : Nat) : List α := (List.range k).map f
theorem Tryz.upto_succ {α : Type} (f : Nat → α) (k : Nat) : Tryz.upto f (k + 1) = Tryz.upto f k ++ [f k] := by simp [Tryz.upto, List.range_succ]
theorem Tryz.upto_length {α : Type} (f : Nat → α) (k : Nat) : (Tryz.upto f k).length = k := by simp [Tryz.upto]

/-- What a round that goes on keeps: what lay below n₀, and the cells of the iterator's own box. -/
def Tryz.Kp (n₀ Bs : Nat) (A B : World) : Prop := Below n₀ A B ∧ ∀ o v, A.cell? ⟨Bs, o, none⟩ = some v → B.cell? ⟨Bs, o, none⟩ = some v
theorem Tryz.Kp.refl (n₀ Bs : Nat) (A : World) : Tryz.Kp n₀ Bs A A := ⟨Below.refl _ _, fun _ _ h => h⟩
theorem Tryz.Kp.trans {n₀ Bs : Nat} {A B C : World} (h : Tryz.Kp n₀ Bs A B) (k : Tryz.Kp n₀ Bs B C) : Tryz.Kp n₀ Bs A C := ⟨h.1.trans k.1, fun o v e => k.2 o v (h.2 o v e)⟩

set_option maxHeartbeats 1000000 in
theorem Tryz.all_in (F : Fence) (n : Nat) (h : F.fn 152) (hro : F.round = none) (a b c : Value) (w : World) :
    CallsIn F n Tryz.prog 152 #[.agg #[a, b, c]] w fun e w' => e = .returned (.func (.func 196) #[] #[.pointer (some ⟨w.heap.size, 0, none⟩)]) ∧ w' = w.alloc (.cells #[a, b, c] 134) := by
  refine callsIn_of_wp Tryz.func152 rfl h ?_ hro
  simp only [Tryz.ntmps152, List.size_toArray, List.length_cons, List.length_nil, Nat.reduceAdd, Nat.reduceSub, Array.replicate_succ, Array.replicate_zero, List.push_toArray, List.append_toArray, List.nil_append, List.cons_append]
  gi_wp2
  go_ret
  exact ⟨rfl, rfl⟩

set_option maxRecDepth 100000 in
set_option maxHeartbeats 4000000 in
theorem Tryz.all1_in {α : Type} (e1 : α → Int) (e2 : α → ByteArray) (z : Nat → α) (F : Fence) (n : Nat) (h8 : F.fn 196) (hro : F.round = none) (hn : 1 ≤ n) (l Bs n₀ b off cap b2 off2 len2 cap2 len : Nat) (hreach : len ≤ 1000000) (hlen2 : len ≤ len2) (hb : b < n₀) (hb2 : b2 < n₀) (J Jx : List α → World → Prop)
    (hY : ∀ pre x W, J pre W → pre.length < len → YieldAt F (n - 1) Tryz.prog l #[.int .i64 (e1 x), .string (e2 x)] W fun e W' =>
      (e = .returned (.bool true) ∧ J (pre ++ [x]) W' ∧ Tryz.Kp n₀ Bs W W') ∨ (e = .returned (.bool false) ∧ Jx (pre ++ [x]) W'))
    (W : World) (hB0 : W.cell? ⟨Bs, 0, none⟩ = some (.slice (some ⟨b, off, none⟩) len cap)) (hB1 : W.cell? ⟨Bs, 1, none⟩ = some (.slice (some ⟨b2, off2, none⟩) len2 cap2)) (hc : ∀ j, j < len → W.cell? ⟨b, off + j, none⟩ = some (.int .i64 (e1 (z j)))) (hc2 : ∀ j, j < len → W.cell? ⟨b2, off2 + j, none⟩ = some (.string (e2 (z j)))) (h0 : J [] W) :
    CallsIn F n Tryz.prog 196 #[.func (.yield l) #[] #[], .pointer (some ⟨Bs, 0, none⟩)] W fun e W' => (∃ v, e = .returned v) ∧
      ((∃ ys, ys = Tryz.upto z len ∧ J ys W') ∨ (∃ pre, (∃ k, k ≤ len ∧ pre = Tryz.upto z k) ∧ Jx pre W')) := by
  refine callsIn_of_wp Tryz.func196 rfl h8 ?_ hro
  simp only [Tryz.ntmps196, List.size_toArray, List.length_cons, List.length_nil, Nat.reduceAdd, Nat.reduceSub, Array.replicate_succ, Array.replicate_zero, List.push_toArray, List.append_toArray, List.nil_append, List.cons_append]
  gi_wp2
  gi_loopw [8] (fun i wr => ∃ k : Nat, k ≤ len ∧ i = .int .i64 k ∧ J (Tryz.upto z k) wr ∧ Tryz.Kp n₀ Bs W wr)
    (fun i _ => len - (intOf i).toNat)
  case atStart => exact ⟨0, Nat.zero_le _, rfl, h0, Tryz.Kp.refl _ _ _⟩
  case round =>
    obtain ⟨k, hk, rfl, hJs, hnx⟩ := hrel
    by_cases hlt : k < len
    · have hcx : wr.cell? ⟨b, off + k, none⟩ = some (.int .i64 (e1 (z k))) := (hnx.1.cell (p := ⟨b, off + k, none⟩) hb).trans (hc k hlt)
      have hcx2 : wr.cell? ⟨b2, off2 + k, none⟩ = some (.string (e2 (z k))) := (hnx.1.cell (p := ⟨b2, off2 + k, none⟩) hb2).trans (hc2 k hlt)
      have hB1' : wr.cell? ⟨Bs, 1, none⟩ = some (.slice (some ⟨b2, off2, none⟩) len2 cap2) := hnx.2 _ _ hB1
      have hk2 : (k : Int) < len2 := by omega
      obtain ⟨fn, tmps, assign, body, hy, hR⟩ := hY _ (z k) wr hJs (by rw [Tryz.upto_length]; exact hlt)
      gi_wp2
      refine hR.mono ?_
      rintro e W3 (⟨rfl, hJ3, hk3⟩ | ⟨rfl, hJx3⟩)
      · gi_wp2
        go_roundw
        case rel => exact ⟨k + 1, by omega, by simp, by rw [Tryz.upto_succ]; exact hJ3, hnx.trans hk3⟩
        case measure => simp [intOf]; omega
      · gi_wp2
        refine bodyPost_ret (results_none rfl _ _ _) rfl ?_
        exact ⟨⟨_, rfl⟩, .inr ⟨_, ⟨k + 1, by omega, (Tryz.upto_succ _ _).symm⟩, hJx3⟩⟩
    · obtain rfl : k = len := by omega
      gi_wp2
      go_end0
      exact ⟨⟨_, rfl⟩, .inl ⟨_, rfl, hJs⟩⟩

end Go.Proofs

namespace Go.Proofs
open Go.RowKit Go.Shelf

attribute [local go_sem] Oper.semAt_some

/-- One term: its prime and its factor, and what the two calls of a round give back. -/
structure Tryz.Term (most : Int) where
  p : Int
  k : ByteArray
  n : Int
  a : Int
  small : ∀ W, YtkccoijckckhmaaGreatDoor.Ev.Laid W → Calls Tryz.prog 93 #[.string k] W fun e W' => e = .returned (.tuple #[.int .i64 n, .bool true]) ∧ Below W.heap.size W W'
  fast : ∀ W, YtkccoijckckhmaaGreatDoor.Ev.Laid W → Calls Tryz.prog 195 #[.int .i64 p] W fun e W' => e = .returned (.tuple #[.int .i64 a, .bool true]) ∧ Below W.heap.size W W'
  le : n ≤ most
  ge : -most ≤ n

def Tryz.Term.b {most : Int} (t : Tryz.Term most) : Int := if t.p = 2 then t.a else wrap64 (t.a + 1)
def Tryz.lowW {most : Int} : List (Tryz.Term most) → Int := List.foldl (fun s t => IntKind.i64.wrap (s + min (IntKind.i64.wrap (t.n * t.a)) (IntKind.i64.wrap (t.n * t.b)))) 0
def Tryz.highW {most : Int} : List (Tryz.Term most) → Int := List.foldl (fun s t => IntKind.i64.wrap (s + max (IntKind.i64.wrap (t.n * t.a)) (IntKind.i64.wrap (t.n * t.b)))) 0
theorem Tryz.lowW_snoc {most : Int} (pre : List (Tryz.Term most)) (t : Tryz.Term most) : Tryz.lowW (pre ++ [t]) = IntKind.i64.wrap (Tryz.lowW pre + min (IntKind.i64.wrap (t.n * t.a)) (IntKind.i64.wrap (t.n * t.b))) := by simp [Tryz.lowW]
theorem Tryz.highW_snoc {most : Int} (pre : List (Tryz.Term most)) (t : Tryz.Term most) : Tryz.highW (pre ++ [t]) = IntKind.i64.wrap (Tryz.highW pre + max (IntKind.i64.wrap (t.n * t.a)) (IntKind.i64.wrap (t.n * t.b))) := by simp [Tryz.highW]

theorem Tryz.stop13 {F : Fence} {n : Nat} {P : Program} {ops : Array Oper} {Q : Exit → Act → World → Prop} {a : Act} {w : World} (h : Hid ((Code.region 13 ops true).wpIn F n P Q a w)) : (Code.region 13 ops true).wpIn F n P Q a w := h.out

theorem Tryz.keepsFrom_below {B : Nat} {W W' : World} (h : Below W.heap.size W W') : KeepsFrom B W W' := ⟨h.size, fun k o _ hk _ => (h.block k (Array.getElem?_eq_some_iff.1 hk).1).trans hk⟩

theorem Tryz.blk_kept {W W' : World} {row : Option Nat} {k : Nat} {arr : Array Value} {fr : Nat × Nat} (h : ∃ el, W.heap[k]? = some (.cells arr el fr)) (hg : W.grownBy W' row) (hrow : ∀ r, row = some r → ∃ o : Obj, W.heap[r]? = some o ∧ o.isCells = false) : ∃ el, W'.heap[k]? = some (.cells arr el fr) := by
  obtain ⟨el, h⟩ := h
  exact ⟨el, (grownBy_keeps_cells hg hrow h rfl).trans h⟩

set_option maxRecDepth 100000 in
set_option maxHeartbeats 8000000 in
theorem Tryz.near_in (most : Int) (hm0 : 0 ≤ most) (hm1 : most ≤ 1000000000) (z : Nat → Tryz.Term most) (len cap b off b2 off2 len2 cap2 : Nat) (s3 : Value) (w : World) (hreach : len ≤ 1000000) (hlen2 : len ≤ len2) (hb : b < w.heap.size) (hb2 : b2 < w.heap.size) (hl : YtkccoijckckhmaaGreatDoor.Ev.Laid w)
    (hc : ∀ j, j < len → w.cell? ⟨b, off + j, none⟩ = some (.int .i64 (z j).p)) (hc2 : ∀ j, j < len → w.cell? ⟨b2, off2 + j, none⟩ = some (.string (z j).k)) :
    CallsIn Fence.wide 3 Tryz.prog 151 #[.agg #[.slice (some ⟨b, off, none⟩) len cap, .slice (some ⟨b2, off2, none⟩) len2 cap2, s3], .int .i64 most] w fun e W' => e = .returned (.tuple #[.int .i64 (Tryz.lowW (Tryz.upto z len)), .int .i64 (Tryz.highW (Tryz.upto z len)), .bool true]) ∧ Below w.heap.size w W' := by
  have hro : Fence.wide.round = none := rfl
  refine callsIn_of_wp_marks Tryz.func151 rfl trivial ?_ hro
  simp only [Tryz.ntmps151, List.size_toArray, List.length_cons, List.length_nil, Nat.reduceAdd, Nat.reduceSub, Array.replicate_succ, Array.replicate_zero, List.push_toArray, List.append_toArray, List.nil_append, List.cons_append]
  gi_wp2_with (refine ⟨trivial, ?_⟩; gi_at_call 152; refine (Tryz.all_in Fence.wide 2 trivial hro _ _ _ _).mono ?_; rintro e w' ⟨rfl, rfl⟩)
  have bM := Boxed.new (w.alloc (.cells #[.slice (some ⟨b, off, none⟩) len cap, .slice (some ⟨b2, off2, none⟩) len2 cap2, s3] 134)) 3 (.int .i64 most)
  have hW6 : ∃ w6, w6 = ((((((w.alloc (.cells #[.slice (some ⟨b, off, none⟩) len cap, .slice (some ⟨b2, off2, none⟩) len2 cap2, s3] 134)).alloc (.cells #[.int .i64 most] 3)).alloc (.cells #[.int .i64 0] 3)).alloc (.cells #[.int .i64 0] 3)).alloc (.cells #[.bool false] 4)).alloc (.cells #[.slice (some ⟨b, off, none⟩) len cap, .slice (some ⟨b2, off2, none⟩) len2 cap2, s3] 134)) := ⟨_, rfl⟩
  obtain ⟨w6, hW6⟩ := hW6
  rw [← hW6]
  have hsz : w6.heap.size = w.heap.size + 6 := by rw [hW6]; simp
  have hB6 : Below w.heap.size w w6 := by
    rw [hW6]
    exact (((((((Below.refl _ w).alloc (Nat.le_refl _) _).alloc (by simp) _).alloc (by simp; omega) _).alloc (by simp; omega) _).alloc (by simp; omega) _).alloc (by simp; omega) _)
  have c1 : w6.cell? ⟨w.heap.size + 1, 0, none⟩ = some (.int .i64 most) := by rw [hW6]; rw [World.cell?_alloc_past _ _ _ (by simp only [World.size_alloc]; omega)]; rw [World.cell?_alloc_past _ _ _ (by simp only [World.size_alloc]; omega)]; rw [World.cell?_alloc_past _ _ _ (by simp only [World.size_alloc]; omega)]; rw [World.cell?_alloc_past _ _ _ (by simp only [World.size_alloc]; omega)]; rw [World.cell?_alloc_at _ _ _ _ (by simp only [World.size_alloc])]; rfl
  have c5 : w6.cell? ⟨w.heap.size + 1 + 1 + 1 + 1 + 1, 0, none⟩ = some (.slice (some ⟨b, off, none⟩) len cap) := by rw [hW6]; rw [World.cell?_alloc_at _ _ _ _ (by simp only [World.size_alloc])]; rfl
  have c51 : w6.cell? ⟨w.heap.size + 1 + 1 + 1 + 1 + 1, 1, none⟩ = some (.slice (some ⟨b2, off2, none⟩) len2 cap2) := by rw [hW6]; rw [World.cell?_alloc_at _ _ _ _ (by simp only [World.size_alloc])]; rfl
  have g2 : ∃ el, w6.heap[w.heap.size + 1 + 1]? = some (.cells #[.int .i64 0] el (0, 0)) := by
    refine ⟨3, ?_⟩
    rw [hW6]; rw [Below.heap_alloc _ _ _ (by simp only [World.size_alloc]; omega)]; rw [Below.heap_alloc _ _ _ (by simp only [World.size_alloc]; omega)]; rw [Below.heap_alloc _ _ _ (by simp only [World.size_alloc]; omega)]; have h := World.alloc_heap_new ((w.alloc (.cells #[.slice (some ⟨b, off, none⟩) len cap, .slice (some ⟨b2, off2, none⟩) len2 cap2, s3] 134)).alloc (.cells #[.int .i64 most] 3)) (.cells #[.int .i64 0] 3); simp only [World.size_alloc] at h; exact h
  have g3 : ∃ el, w6.heap[w.heap.size + 1 + 1 + 1]? = some (.cells #[.int .i64 0] el (0, 0)) := by
    refine ⟨3, ?_⟩
    rw [hW6]; rw [Below.heap_alloc _ _ _ (by simp only [World.size_alloc]; omega)]; rw [Below.heap_alloc _ _ _ (by simp only [World.size_alloc]; omega)]; have h := World.alloc_heap_new (((w.alloc (.cells #[.slice (some ⟨b, off, none⟩) len cap, .slice (some ⟨b2, off2, none⟩) len2 cap2, s3] 134)).alloc (.cells #[.int .i64 most] 3)).alloc (.cells #[.int .i64 0] 3)) (.cells #[.int .i64 0] 3); simp only [World.size_alloc] at h; exact h
  have g4 : ∃ el, w6.heap[w.heap.size + 1 + 1 + 1 + 1]? = some (.cells #[.bool false] el (0, 0)) := by
    refine ⟨4, ?_⟩
    rw [hW6]; rw [Below.heap_alloc _ _ _ (by simp only [World.size_alloc]; omega)]; have h := World.alloc_heap_new ((((w.alloc (.cells #[.slice (some ⟨b, off, none⟩) len cap, .slice (some ⟨b2, off2, none⟩) len2 cap2, s3] 134)).alloc (.cells #[.int .i64 most] 3)).alloc (.cells #[.int .i64 0] 3)).alloc (.cells #[.int .i64 0] 3)) (.cells #[.bool false] 4); simp only [World.size_alloc] at h; exact h
  clear hW6 bM
  have hKpb : ∀ (W : World) (l : Nat) (o o' : Obj), w6.heap.size ≤ l → W.heap[l]? = some o → o.isCells = false → o.isWalk = false → Tryz.Kp w.heap.size (w.heap.size + 1 + 1 + 1 + 1 + 1) W (W.putObj l o') := by
    intro W l o o' h1 h2 h3 h4
    refine ⟨belowK_b (w := w) (Nat.le_refl _) W l o o' (by omega) h2 h3 h4, fun i v hv => ?_⟩
    exact (Below.cell (B := w.heap.size + 1 + 1 + 1 + 1 + 1 + 1) ((Below.refl _ W).grown (grownBy_putObj' W l o') (by have := (Array.getElem?_eq_some_iff.1 h2).1; omega) (fun k e => by cases e; omega)) (p := ⟨w.heap.size + 1 + 1 + 1 + 1 + 1, i, none⟩) (by simp)).trans hv
  have hseq : SeqStopsK Fence.wide 2 Tryz.prog 196 #[.pointer (some ⟨w.heap.size + 1 + 1 + 1 + 1 + 1, 0, none⟩)] (fun x : Tryz.Term most => #[Value.int .i64 x.p, Value.string x.k]) (Tryz.Kp w.heap.size (w.heap.size + 1 + 1 + 1 + 1 + 1)) (fun ys => ys = Tryz.upto z len) (fun pre => ∃ k, k ≤ len ∧ pre = Tryz.upto z k) len w6 := fun l J Jx W hW _ _ hY h0 => by
    have k5 := (hW.cell (p := ⟨w.heap.size + 1 + 1 + 1 + 1 + 1, 0, none⟩) (by simp only; omega)).trans c5
    have k51 := (hW.cell (p := ⟨w.heap.size + 1 + 1 + 1 + 1 + 1, 1, none⟩) (by simp only; omega)).trans c51
    have hWw : Below w.heap.size w W := hB6.trans (hW.mono (by omega))
    exact Tryz.all1_in (fun x : Tryz.Term most => x.p) (fun x => x.k) z Fence.wide 2 trivial hro (by omega) l (w.heap.size + 1 + 1 + 1 + 1 + 1) w.heap.size b off cap b2 off2 len2 cap2 len hreach hlen2 hb hb2 J Jx hY W k5 k51 (fun j hj => (hWw.cell (p := ⟨b, off + j, none⟩) hb).trans (hc j hj)) (fun j hj => (hWw.cell (p := ⟨b2, off2 + j, none⟩) hb2).trans (hc2 j hj)) h0
  refine wpIn_rangeFunc_ownG hro (by omega) (gf := 196) (lb := #[.pointer (some ⟨w.heap.size + 1 + 1 + 1 + 1 + 1, 0, none⟩)]) rfl trivial (enters_of Tryz.func196 (by kernel_rfl) rfl) hseq (fun h k => h.trans k) hKpb (Below.refl _ _) (fun _ => rfl)
    (fun pre W => ((∃ el, W.heap[w.heap.size + 1 + 1]? = some (.cells #[.int .i64 (Tryz.lowW pre)] el (0, 0))) ∧ (∃ el, W.heap[w.heap.size + 1 + 1 + 1]? = some (.cells #[.int .i64 (Tryz.highW pre)] el (0, 0))) ∧ (∃ el, W.heap[w.heap.size + 1 + 1 + 1 + 1]? = some (.cells #[.bool false] el (0, 0))) ∧ W.cell? ⟨w.heap.size + 1, 0, none⟩ = some (.int .i64 most)) ∧ Below w.heap.size w W)
    (fun _ _ _ => False)
    (OwnFrom.and (Own.from (fun s A B row hs hg hr => ⟨Tryz.blk_kept hs.1 hg hr, Tryz.blk_kept hs.2.1 hg hr, Tryz.blk_kept hs.2.2.1 hg hr, cell_kept hs.2.2.2 hg hr⟩) _) (ownFrom_below (Nat.le_refl _) (by omega)))
    (fun _ _ _ _ _ hs _ _ => hs)
    ⟨⟨g2, g3, g4, c1⟩, hB6⟩
    (fun x => { tmps := #[.agg #[.slice (some ⟨b, off, none⟩) len cap, .slice (some ⟨b2, off2, none⟩) len2 cap2, s3], .int .i64 most, .pointer (some ⟨w.heap.size, 0, none⟩), .pointer (some ⟨w.heap.size + 1, 0, none⟩), .pointer (some ⟨w.heap.size + 1 + 1, 0, none⟩), .pointer (some ⟨w.heap.size + 1 + 1 + 1, 0, none⟩), .pointer (some ⟨w.heap.size + 1 + 1 + 1 + 1, 0, none⟩), .int .i64 x.p, .string x.k, undef, undef, undef, undef, undef, .agg #[.slice (some ⟨b, off, none⟩) len cap, .slice (some ⟨b2, off2, none⟩) len2 cap2, s3], .func (.func 196) #[] #[.pointer (some ⟨w.heap.size + 1 + 1 + 1 + 1 + 1, 0, none⟩)], .int .i64 x.p, .string x.k, undef, undef, undef, undef, undef, undef, undef, undef, undef, undef, undef, undef, undef, undef, undef, undef, undef, undef, undef, undef, undef, undef, undef, undef, undef, undef, undef, undef, undef, undef, undef, undef, undef, undef, undef, undef, undef, undef, undef, undef, undef, undef, undef, undef, undef, undef, undef, undef, undef, undef], defers := [] }) ?assign ?body ?done ?stop
  case assign =>
    intro l x W K hK
    gi_wp2
    exact hK
  case body =>
    rintro l pre x W ⟨⟨d2, d3, d4, d1⟩, hB⟩ _
    have hlt : w.heap.size + 1 + 1 + 1 + 1 < W.heap.size := by
      obtain ⟨el, h⟩ := d4
      exact (Array.getElem?_eq_some_iff.1 h).1
    have D2 := Lib.hid d2
    have D3 := Lib.hid d3
    have D4 := Lib.hid d4
    clear d2 d3 d4
    have hx1 := x.le
    have hx2 := x.ge
    by_cases hp2 : x.p = 2
    · have H2 := Lib.hid hp2
      clear hp2
      gi_wp2_with (refine ⟨trivial, ?_⟩; gi_at_call 93; refine (CallsIn.inRound l (callsIn_wide.2 (x.small _ (hl.below hl.size hB)))).mono ?_; rintro e w1 ⟨rfl, hw1⟩; have hs1 := hw1.size; have e1 := (hw1.cell (p := ⟨w.heap.size + 1, 0, none⟩) (by simp only; omega)).trans d1)
      refine ⟨trivial, ?_⟩
      refine (CallsIn.inRound l (callsIn_wide.2 (x.fast _ (hl.below hl.size (hB.trans (hw1.mono hB.size)))))).mono ?_
      rintro e w2 ⟨rfl, hw2⟩
      have hs2 := hw2.size
      have hp2 := H2.out
      dsimp only
      iterate 85 (first | refine Tryz.stop13 ?_ | go_values | gi_guarded | gi_step | gi_upon | gi_back)
      have hWW : Below W.heap.size W w2 := hw1.trans (hw2.mono hs1)
      have hb2' := D2.out
      have hb3' := D3.out
      have hb4' := D4.out
      obtain ⟨el2, k2⟩ := hb2'
      obtain ⟨el3, k3⟩ := hb3'
      obtain ⟨el4, k4⟩ := hb4'
      have m2 := (hWW.block _ (by omega)).trans k2
      have m3 := (hWW.block _ (by omega)).trans k3
      have m4 := (hWW.block _ (by omega)).trans k4
      refine Lib.hid ?_
      refine YtkccoijckckhmaaGreatDoor.Ev.minmax_in l _ (by kernel_rfl) (by kernel_rfl) (by kernel_rfl) (by kernel_rfl) (B := w.heap.size) (L := w.heap.size + 1 + 1) (H := w.heap.size + 1 + 1 + 1) (S := w.heap.size + 1 + 1 + 1 + 1) (low := Tryz.lowW pre) (high := Tryz.highW pre) (k := x.n) (x := x.a) (y := x.b) (hl.below hl.size (hB.trans (hWW.mono hB.size))) hl.size (by omega) (by omega) (by omega) (by omega) (by omega) (by omega) (by omega) m2 m3 m4 rfl rfl rfl rfl rfl rfl (by unfold Tryz.Term.b; rw [if_pos H2.out]; rfl) ?_ ?_
      · rintro ⟨a, w, h⟩
        exact h
      · intro a' w' f2 f3 f4 o2 o3 o4 hcl hbel hrest
        have hBel : Below w.heap.size W w' := (hWW.mono hB.size).trans hbel
        have hKF : KeepsFrom w6.heap.size W w' := (Tryz.keepsFrom_below hWW).trans ⟨hbel.size, fun k o _ hk ho => hrest k o hk ho⟩
        have hKp : Tryz.Kp w.heap.size (w.heap.size + 1 + 1 + 1 + 1 + 1) W w' := ⟨hBel, fun o v hv => hcl _ (by omega) (by omega) (by omega) o v ((hWW.cell (p := ⟨w.heap.size + 1 + 1 + 1 + 1 + 1, o, none⟩) (World.block_lt_of_cell? W _ hv)).trans hv)⟩
        have hM : w'.cell? ⟨w.heap.size + 1, 0, none⟩ = some (.int .i64 most) := hcl _ (by omega) (by omega) (by omega) _ _ ((hWW.cell (p := ⟨w.heap.size + 1, 0, none⟩) (by simp only; omega)).trans d1)
        exact ⟨hKF, hKp, ⟨⟨f2, by rw [Tryz.lowW_snoc]; exact o2⟩, ⟨f3, by rw [Tryz.highW_snoc]; exact o3⟩, ⟨f4, o4⟩, hM⟩, hB.trans hBel⟩
    · have H2 := Lib.hid hp2
      clear hp2
      gi_wp2_with (refine ⟨trivial, ?_⟩; gi_at_call 93; refine (CallsIn.inRound l (callsIn_wide.2 (x.small _ (hl.below hl.size hB)))).mono ?_; rintro e w1 ⟨rfl, hw1⟩; have hs1 := hw1.size; have e1 := (hw1.cell (p := ⟨w.heap.size + 1, 0, none⟩) (by simp only; omega)).trans d1)
      refine ⟨trivial, ?_⟩
      refine (CallsIn.inRound l (callsIn_wide.2 (x.fast _ (hl.below hl.size (hB.trans (hw1.mono hB.size)))))).mono ?_
      rintro e w2 ⟨rfl, hw2⟩
      have hs2 := hw2.size
      have hp2 := H2.out
      dsimp only
      iterate 85 (first | refine Tryz.stop13 ?_ | go_values | gi_guarded | gi_step | gi_upon | gi_back)
      have hWW : Below W.heap.size W w2 := hw1.trans (hw2.mono hs1)
      have hb2' := D2.out
      have hb3' := D3.out
      have hb4' := D4.out
      obtain ⟨el2, k2⟩ := hb2'
      obtain ⟨el3, k3⟩ := hb3'
      obtain ⟨el4, k4⟩ := hb4'
      have m2 := (hWW.block _ (by omega)).trans k2
      have m3 := (hWW.block _ (by omega)).trans k3
      have m4 := (hWW.block _ (by omega)).trans k4
      refine Lib.hid ?_
      refine YtkccoijckckhmaaGreatDoor.Ev.minmax_in l _ (by kernel_rfl) (by kernel_rfl) (by kernel_rfl) (by kernel_rfl) (B := w.heap.size) (L := w.heap.size + 1 + 1) (H := w.heap.size + 1 + 1 + 1) (S := w.heap.size + 1 + 1 + 1 + 1) (low := Tryz.lowW pre) (high := Tryz.highW pre) (k := x.n) (x := x.a) (y := x.b) (hl.below hl.size (hB.trans (hWW.mono hB.size))) hl.size (by omega) (by omega) (by omega) (by omega) (by omega) (by omega) (by omega) m2 m3 m4 rfl rfl rfl rfl rfl rfl (by unfold Tryz.Term.b; rw [if_neg H2.out]; rfl) ?_ ?_
      · rintro ⟨a, w, h⟩
        exact h
      · intro a' w' f2 f3 f4 o2 o3 o4 hcl hbel hrest
        have hBel : Below w.heap.size W w' := (hWW.mono hB.size).trans hbel
        have hKF : KeepsFrom w6.heap.size W w' := (Tryz.keepsFrom_below hWW).trans ⟨hbel.size, fun k o _ hk ho => hrest k o hk ho⟩
        have hKp : Tryz.Kp w.heap.size (w.heap.size + 1 + 1 + 1 + 1 + 1) W w' := ⟨hBel, fun o v hv => hcl _ (by omega) (by omega) (by omega) o v ((hWW.cell (p := ⟨w.heap.size + 1 + 1 + 1 + 1 + 1, o, none⟩) (World.block_lt_of_cell? W _ hv)).trans hv)⟩
        have hM : w'.cell? ⟨w.heap.size + 1, 0, none⟩ = some (.int .i64 most) := hcl _ (by omega) (by omega) (by omega) _ _ ((hWW.cell (p := ⟨w.heap.size + 1, 0, none⟩) (by simp only; omega)).trans d1)
        exact ⟨hKF, hKp, ⟨⟨f2, by rw [Tryz.lowW_snoc]; exact o2⟩, ⟨f3, by rw [Tryz.highW_snoc]; exact o3⟩, ⟨f4, o4⟩, hM⟩, hB.trans hBel⟩
  case done =>
    rintro D ys W hD rfl ⟨⟨⟨el2, d2⟩, ⟨el3, d3⟩, ⟨el4, d4⟩, d1⟩, hB⟩ hK
    have hlt : w.heap.size + 1 + 1 + 1 + 1 < W.heap.size := (Array.getElem?_eq_some_iff.1 d4).1
    have v2 : W.cell? ⟨w.heap.size + 1 + 1, 0, none⟩ = some (.int .i64 (Tryz.lowW (Tryz.upto z len))) := by unfold World.cell?; simp only [d2]; rfl
    have v3 : W.cell? ⟨w.heap.size + 1 + 1 + 1, 0, none⟩ = some (.int .i64 (Tryz.highW (Tryz.upto z len))) := by unfold World.cell?; simp only [d3]; rfl
    have v4 : W.cell? ⟨w.heap.size + 1 + 1 + 1 + 1, 0, none⟩ = some (.bool false) := by unfold World.cell?; simp only [d4]; rfl
    have y2 : W.frozen? ⟨w.heap.size + 1 + 1, 0, none⟩ = false := by unfold World.frozen?; simp only [d2]; rfl
    have y3 : W.frozen? ⟨w.heap.size + 1 + 1 + 1, 0, none⟩ = false := by unfold World.frozen?; simp only [d3]; rfl
    have y4 : W.frozen? ⟨w.heap.size + 1 + 1 + 1 + 1, 0, none⟩ = false := by unfold World.frozen?; simp only [d4]; rfl
    clear d2 d3 d4
    gi_wp2
    gi_region
    all_goals gi_wp2
    have hK' := (((KeepsOthers.setCell W ⟨w.heap.size + 1 + 1, 0, none⟩ (.int .i64 (Tryz.lowW (Tryz.upto z len)))).trans (KeepsOthers.setCell _ ⟨w.heap.size + 1 + 1 + 1, 0, none⟩ (.int .i64 (Tryz.highW (Tryz.upto z len))))).trans (KeepsOthers.setCell _ ⟨w.heap.size + 1 + 1 + 1 + 1, 0, none⟩ (.bool true))).same D _ hK rfl
    have z4 : (((W.setCell ⟨w.heap.size + 1 + 1, 0, none⟩ (.int .i64 (Tryz.lowW (Tryz.upto z len)))).setCell ⟨w.heap.size + 1 + 1 + 1, 0, none⟩ (.int .i64 (Tryz.highW (Tryz.upto z len)))).setCell ⟨w.heap.size + 1 + 1 + 1 + 1, 0, none⟩ (.bool true)).cell? ⟨w.heap.size + 1 + 1 + 1 + 1, 0, none⟩ = some (.bool true) := World.cell?_setCell_same' _ _ _ (by rw [World.cell?_setCell_other _ _ _ _ (by simp), World.cell?_setCell_other _ _ _ _ (by simp), v4]; rfl)
    have z3 : (((W.setCell ⟨w.heap.size + 1 + 1, 0, none⟩ (.int .i64 (Tryz.lowW (Tryz.upto z len)))).setCell ⟨w.heap.size + 1 + 1 + 1, 0, none⟩ (.int .i64 (Tryz.highW (Tryz.upto z len)))).setCell ⟨w.heap.size + 1 + 1 + 1 + 1, 0, none⟩ (.bool true)).cell? ⟨w.heap.size + 1 + 1 + 1, 0, none⟩ = some (.int .i64 (Tryz.highW (Tryz.upto z len))) := by
      rw [World.cell?_setCell_other _ _ _ _ (by simp)]
      exact World.cell?_setCell_same' _ _ _ (by rw [World.cell?_setCell_other _ _ _ _ (by simp), v3]; rfl)
    have z2 : (((W.setCell ⟨w.heap.size + 1 + 1, 0, none⟩ (.int .i64 (Tryz.lowW (Tryz.upto z len)))).setCell ⟨w.heap.size + 1 + 1 + 1, 0, none⟩ (.int .i64 (Tryz.highW (Tryz.upto z len)))).setCell ⟨w.heap.size + 1 + 1 + 1 + 1, 0, none⟩ (.bool true)).cell? ⟨w.heap.size + 1 + 1, 0, none⟩ = some (.int .i64 (Tryz.lowW (Tryz.upto z len))) := by
      rw [World.cell?_setCell_other _ _ _ _ (by simp), World.cell?_setCell_other _ _ _ _ (by simp)]
      exact World.cell?_setCell_same' _ _ _ (by rw [v2]; rfl)
    have u4 := cell_kept z4 (grownBy_putObj' _ D (.deferred none)) (fun r e => by cases e; exact ⟨_, hK', rfl⟩)
    have u3 := cell_kept z3 (grownBy_putObj' _ D (.deferred none)) (fun r e => by cases e; exact ⟨_, hK', rfl⟩)
    have u2 := cell_kept z2 (grownBy_putObj' _ D (.deferred none)) (fun r e => by cases e; exact ⟨_, hK', rfl⟩)
    have hB3 : Below w.heap.size w (((W.setCell ⟨w.heap.size + 1 + 1, 0, none⟩ (.int .i64 (Tryz.lowW (Tryz.upto z len)))).setCell ⟨w.heap.size + 1 + 1 + 1, 0, none⟩ (.int .i64 (Tryz.highW (Tryz.upto z len)))).setCell ⟨w.heap.size + 1 + 1 + 1 + 1, 0, none⟩ (.bool true)) := ((hB.setCell (p := ⟨w.heap.size + 1 + 1, 0, none⟩) (by simp only; omega) _).setCell (p := ⟨w.heap.size + 1 + 1 + 1, 0, none⟩) (by simp only; omega) _).setCell (p := ⟨w.heap.size + 1 + 1 + 1 + 1, 0, none⟩) (by simp only; omega) _
    refine ⟨by simp, .inl ⟨_, _, rfl, run_takeDeferred (w := (((W.setCell ⟨w.heap.size + 1 + 1, 0, none⟩ (.int .i64 (Tryz.lowW (Tryz.upto z len)))).setCell ⟨w.heap.size + 1 + 1 + 1, 0, none⟩ (.int .i64 (Tryz.highW (Tryz.upto z len)))).setCell ⟨w.heap.size + 1 + 1 + 1 + 1, 0, none⟩ (.bool true)).drew) hK', ?_⟩⟩
    refine ⟨.tuple #[(.int .i64 (Tryz.lowW (Tryz.upto z len))), (.int .i64 (Tryz.highW (Tryz.upto z len))), .bool true], ?_, rfl, hB3.drew.trans (belowK_b (w := w) (Nat.le_refl _) _ D _ _ (by omega) hK' rfl rfl)⟩
    have p2 : ((((W.setCell ⟨w.heap.size + 1 + 1, 0, none⟩ (.int .i64 (Tryz.lowW (Tryz.upto z len)))).setCell ⟨w.heap.size + 1 + 1 + 1, 0, none⟩ (.int .i64 (Tryz.highW (Tryz.upto z len)))).setCell ⟨w.heap.size + 1 + 1 + 1 + 1, 0, none⟩ (.bool true)).drew.putObj D (.deferred none)).cell? ⟨w.heap.size + 1 + 1, 0, none⟩ = some (.int .i64 (Tryz.lowW (Tryz.upto z len))) := u2
    have p3 : ((((W.setCell ⟨w.heap.size + 1 + 1, 0, none⟩ (.int .i64 (Tryz.lowW (Tryz.upto z len)))).setCell ⟨w.heap.size + 1 + 1 + 1, 0, none⟩ (.int .i64 (Tryz.highW (Tryz.upto z len)))).setCell ⟨w.heap.size + 1 + 1 + 1 + 1, 0, none⟩ (.bool true)).drew.putObj D (.deferred none)).cell? ⟨w.heap.size + 1 + 1 + 1, 0, none⟩ = some (.int .i64 (Tryz.highW (Tryz.upto z len))) := u3
    have p4 : ((((W.setCell ⟨w.heap.size + 1 + 1, 0, none⟩ (.int .i64 (Tryz.lowW (Tryz.upto z len)))).setCell ⟨w.heap.size + 1 + 1 + 1, 0, none⟩ (.int .i64 (Tryz.highW (Tryz.upto z len)))).setCell ⟨w.heap.size + 1 + 1 + 1 + 1, 0, none⟩ (.bool true)).drew.putObj D (.deferred none)).cell? ⟨w.heap.size + 1 + 1 + 1 + 1, 0, none⟩ = some (.bool true) := u4
    generalize ((((W.setCell ⟨w.heap.size + 1 + 1, 0, none⟩ (.int .i64 (Tryz.lowW (Tryz.upto z len)))).setCell ⟨w.heap.size + 1 + 1 + 1, 0, none⟩ (.int .i64 (Tryz.highW (Tryz.upto z len)))).setCell ⟨w.heap.size + 1 + 1 + 1 + 1, 0, none⟩ (.bool true)).drew.putObj D (.deferred none)) = WW at p2 p3 p4 ⊢
    simp [results, Tryz.f151, go_sem, p2, p3, p4]
  case stop =>
    rintro D c pre W _ _ h _
    exact h.elim

end Go.Proofs

namespace Go.Proofs.YtkccoijckckhmaaGreatDoor.Ev
open Go Go.RowKit

abbrev G := List PV → Option PV

def tabB (b : BT G) : Tab := ⟨b.get, bodies.get⟩

theorem mixed : Tryz.prog.follows .mixedOrders = true := by kernel_rfl

theorem level {b : BT G} (hb : b.All (Contract Tryz.prog)) {f : FuncId} {g : G} (hen : Enterable Tryz.prog f) (hp : ∀ args r, g args = some r → ∀ p, p ∈ args → Pure p) (hok : ∀ args r, g args = some r → ∃ L d n, evPure (tabB b) L d n f args = some r) : Contract Tryz.prog f g :=
  contract_of (T := tabB b) mixed (fun _ _ h => BT.get_all hb h) (bodies_ok rfl) hen hp hok

theorem pure1 {a : PV} (h : Pure a) : ∀ p, p ∈ [a] → Pure p := fun p hp => by rw [List.mem_singleton.1 hp]; exact h
theorem pure2 {a b : PV} (h : Pure a) (k : Pure b) : ∀ p, p ∈ [a, b] → Pure p := fun p hp => by
  rcases List.mem_cons.1 hp with rfl | hp
  · exact h
  · rw [List.mem_singleton.1 hp]; exact k
theorem pure_dec1 {f : Nat → PV} : ∀ args r, dec1 f args = some r → ∀ p, p ∈ args → Pure p := fun args r h => by
  obtain ⟨s, n, rfl, _⟩ := dec1_some h; exact pure1 (.str _)
theorem pure_dec2 {f : Nat → Nat → PV} : ∀ args r, dec2 f args = some r → ∀ p, p ∈ args → Pure p := fun args r h => by
  obtain ⟨s, t, m, n, rfl, _⟩ := dec2_some h; exact pure2 (.str _) (.str _)
theorem pure_int1 {f : Int → PV} : ∀ args r, int1 f args = some r → ∀ p, p ∈ args → Pure p := fun args r h => by
  obtain ⟨s, n, rfl, _⟩ := int1_some h; exact pure1 (.str _)
theorem pure_int2 {f : Int → Int → PV} : ∀ args r, int2 f args = some r → ∀ p, p ∈ args → Pure p := fun args r h => by
  obtain ⟨s, t, m, n, rfl, _⟩ := int2_some h; exact pure2 (.str _) (.str _)
theorem pure_nums (k : IntKind) (l : List Nat) : Pure (.sl 1 (nums k l)) := .sl _ _ fun cs hc x hx => by
  obtain ⟨d, _, rfl⟩ := List.mem_map.1 hc
  rw [List.mem_singleton.1 hx]; exact .int _ _
theorem pure_of1 : ∀ args r, gdOf args = some r → ∀ p, p ∈ args → Pure p := fun args r h => by
  unfold gdOf at h; split at h
  · exact pure1 (.int _ _)
  · cases h
theorem pure_both : ∀ args r, gdBoth args = some r → ∀ p, p ∈ args → Pure p := fun args r h => by
  unfold gdBoth at h; split at h
  · exact pure2 (.str _) (.str _)
  · cases h
theorem pure_canon : ∀ args r, gdCanonical args = some r → ∀ p, p ∈ args → Pure p := fun args r h => by
  unfold gdCanonical at h; split at h
  · exact pure1 (.str _)
  · cases h
theorem pure_check : ∀ args r, gdCheck args = some r → ∀ p, p ∈ args → Pure p := fun args r h => by
  unfold gdCheck at h; split at h
  · exact pure1 (.str _)
  · cases h
theorem pure_text : ∀ args r, gText args = some r → ∀ p, p ∈ args → Pure p := fun args r h => by
  unfold gText at h; split at h
  · split at h
    · rename_i hn; rw [numsOf_some hn]; exact pure1 (pure_nums _ _)
    · cases h
  · cases h
theorem pure_pcompare : ∀ args r, gPCompare args = some r → ∀ p, p ∈ args → Pure p := fun args r h => by
  unfold gPCompare at h; split at h
  · split at h
    · rename_i h1 h2; rw [numsOf_some h1, numsOf_some h2]; exact pure2 (pure_nums _ _) (pure_nums _ _)
    · cases h
  · cases h
theorem pure_split : ∀ args r, gSplit args = some r → ∀ p, p ∈ args → Pure p := fun args r h => by
  unfold gSplit at h; split at h
  · exact pure1 (.str _)
  · cases h
theorem pure_wcheck : ∀ args r, gwCheck args = some r → ∀ p, p ∈ args → Pure p := fun args r h => by
  unfold gwCheck at h; split at h
  · exact pure1 (.str _)
  · cases h
theorem pure_little : ∀ args r, gLittle args = some r → ∀ p, p ∈ args → Pure p := fun args r h => by
  unfold gLittle at h; split at h
  · exact pure2 (.str _) (.int _ _)
  · cases h
theorem pure_wof : ∀ args r, gwOf args = some r → ∀ p, p ∈ args → Pure p := fun args r h => by
  unfold gwOf at h; split at h
  · exact pure1 (.int _ _)
  · cases h
theorem pure_gcd : ∀ args r, ggcd args = some r → ∀ p, p ∈ args → Pure p := fun args r h => by
  unfold ggcd at h; split at h
  · exact pure2 (.int _ _) (.int _ _)
  · cases h
theorem pure_agg2 (a b : ByteArray) : Pure (.agg [.str a, .str b]) := .agg _ (pure2 (.str _) (.str _))
theorem pure_fcheck : ∀ args r, gfCheck args = some r → ∀ p, p ∈ args → Pure p := fun args r h => by
  unfold gfCheck at h; split at h
  · exact pure1 (pure_agg2 _ _)
  · cases h
theorem pure_fsign : ∀ args r, gfSign' args = some r → ∀ p, p ∈ args → Pure p := fun args r h => by
  unfold gfSign' at h; split at h
  · exact pure1 (pure_agg2 _ _)
  · cases h

def base0 : BT G :=
  (.node (.node (.node .nil 134 gParseInt .nil) 161 gItoa .nil) 180 gAtoi (.node (.node .nil 217 gFormatUint .nil) 240 gParseUint .nil))
theorem base0_ok : base0.All (Contract Tryz.prog) :=
  ⟨⟨⟨trivial, parseInt_contract, trivial⟩, itoa_contract, trivial⟩, atoi_contract, ⟨⟨trivial, formatUint_contract, trivial⟩, parseUint_contract, trivial⟩⟩

theorem k216 : Contract Tryz.prog 216 gdSmall := level base0_ok (enter _ Tryz.func216 (by kernel_rfl) rfl) pure_dec1 (dSmall_ok rfl rfl)
theorem k182 : Contract Tryz.prog 182 gdOf := level base0_ok (enter _ Tryz.func182 (by kernel_rfl) rfl) pure_of1 (dOf_ok rfl rfl)
theorem k200 : Contract Tryz.prog 200 gdCanonical := level base0_ok (enter _ Tryz.func200 (by kernel_rfl) rfl) pure_canon (dCanonical_ok rfl)
theorem k185 : Contract Tryz.prog 185 gText := level base0_ok (enter _ Tryz.func185 (by kernel_rfl) rfl) pure_text (text_ok rfl)
theorem k189 : Contract Tryz.prog 189 gPCompare := level base0_ok (enter _ Tryz.func189 (by kernel_rfl) rfl) pure_pcompare (pcompare_ok rfl)
theorem k176 : Contract Tryz.prog 176 gdCompare := level base0_ok (enter _ Tryz.func176 (by kernel_rfl) rfl) pure_dec2 (dCompare_ok rfl)
theorem k121 : Contract Tryz.prog 121 gSplit := level base0_ok (enter _ Tryz.func121 (by kernel_rfl) rfl) pure_split (split_ok rfl)
theorem k114 : Contract Tryz.prog 114 gwSign := level base0_ok (enter _ Tryz.func114 (by kernel_rfl) rfl) pure_int1 (wSign_ok rfl)
theorem k123 : Contract Tryz.prog 123 gwOf := level base0_ok (enter _ Tryz.func123 (by kernel_rfl) rfl) pure_wof (wOf_ok rfl rfl)
theorem k159 : Contract Tryz.prog 159 ggcd := level base0_ok (enter _ Tryz.func159 (by kernel_rfl) rfl) pure_gcd (gcd_ok rfl)
theorem k138 : Contract Tryz.prog 138 gLittle := level base0_ok (enter _ Tryz.func138 (by kernel_rfl) rfl) pure_little (little_ok rfl rfl)
def base1 : BT G :=
  (.node (.node (.node (.node (.node .nil 114 gwSign .nil) 121 gSplit .nil) 123 gwOf (.node .nil 134 gParseInt .nil)) 138 gLittle (.node (.node .nil 159 ggcd .nil) 161 gItoa (.node .nil 176 gdCompare .nil))) 180 gAtoi (.node (.node (.node .nil 182 gdOf .nil) 185 gText (.node .nil 189 gPCompare .nil)) 200 gdCanonical (.node (.node .nil 216 gdSmall .nil) 217 gFormatUint (.node .nil 240 gParseUint .nil))))
theorem base1_ok : base1.All (Contract Tryz.prog) :=
  ⟨⟨⟨⟨⟨trivial, k114, trivial⟩, k121, trivial⟩, k123, ⟨trivial, parseInt_contract, trivial⟩⟩, k138, ⟨⟨trivial, k159, trivial⟩, itoa_contract, ⟨trivial, k176, trivial⟩⟩⟩, atoi_contract, ⟨⟨⟨trivial, k182, trivial⟩, k185, ⟨trivial, k189, trivial⟩⟩, k200, ⟨⟨trivial, k216, trivial⟩, formatUint_contract, ⟨trivial, parseUint_contract, trivial⟩⟩⟩⟩

theorem k181 : Contract Tryz.prog 181 gdBoth := level base1_ok (enter _ Tryz.func181 (by kernel_rfl) rfl) pure_both (dBoth_ok rfl rfl)
theorem k158 : Contract Tryz.prog 158 gdCheck := level base1_ok (enter _ Tryz.func158 (by kernel_rfl) rfl) pure_check (dCheck_ok rfl rfl)
theorem k80 : Contract Tryz.prog 80 gwAbs := level base1_ok (enter _ Tryz.func80 (by kernel_rfl) rfl) pure_int1 (wAbs_ok rfl rfl)
theorem k79 : Contract Tryz.prog 79 gfSign' := level base1_ok (enter _ Tryz.func79 (by kernel_rfl) rfl) pure_fsign (fSign_ok rfl rfl)
def base2 : BT G :=
  (.node (.node (.node (.node (.node .nil 79 gfSign' .nil) 80 gwAbs .nil) 114 gwSign (.node (.node .nil 121 gSplit .nil) 123 gwOf .nil)) 134 gParseInt (.node (.node (.node .nil 138 gLittle .nil) 158 gdCheck .nil) 159 ggcd (.node .nil 161 gItoa .nil))) 176 gdCompare (.node (.node (.node (.node .nil 180 gAtoi .nil) 181 gdBoth .nil) 182 gdOf (.node .nil 185 gText .nil)) 189 gPCompare (.node (.node (.node .nil 200 gdCanonical .nil) 216 gdSmall .nil) 217 gFormatUint (.node .nil 240 gParseUint .nil))))
theorem base2_ok : base2.All (Contract Tryz.prog) :=
  ⟨⟨⟨⟨⟨trivial, k79, trivial⟩, k80, trivial⟩, k114, ⟨⟨trivial, k121, trivial⟩, k123, trivial⟩⟩, parseInt_contract, ⟨⟨⟨trivial, k138, trivial⟩, k158, trivial⟩, k159, ⟨trivial, itoa_contract, trivial⟩⟩⟩, k176, ⟨⟨⟨⟨trivial, atoi_contract, trivial⟩, k181, trivial⟩, k182, ⟨trivial, k185, trivial⟩⟩, k189, ⟨⟨⟨trivial, k200, trivial⟩, k216, trivial⟩, formatUint_contract, ⟨trivial, parseUint_contract, trivial⟩⟩⟩⟩

theorem decT2 : DecT (tabB base2) := ⟨rfl, rfl, rfl, rfl, rfl, rfl⟩

theorem k149 : Contract Tryz.prog 149 gdAdd := level base2_ok (enter _ Tryz.func149 (by kernel_rfl) rfl) pure_dec2 (dAdd_ok decT2)
theorem k150 : Contract Tryz.prog 150 gdSub := level base2_ok (enter _ Tryz.func150 (by kernel_rfl) rfl) pure_dec2 (dSub_ok decT2)
theorem k140 : Contract Tryz.prog 140 gdMul := level base2_ok (enter _ Tryz.func140 (by kernel_rfl) rfl) pure_dec2 (dMul_ok decT2)
theorem k148 : Contract Tryz.prog 148 gdDivMod := level base2_ok (enter _ Tryz.func148 (by kernel_rfl) rfl) pure_dec2 (dDivMod_ok decT2)
theorem k119 : Contract Tryz.prog 119 gwCheck := level base2_ok (enter _ Tryz.func119 (by kernel_rfl) rfl) pure_wcheck (wCheck_ok rfl rfl rfl)
def base3 : BT G :=
  (.node (.node (.node (.node (.node .nil 79 gfSign' .nil) 80 gwAbs (.node .nil 114 gwSign .nil)) 119 gwCheck (.node (.node .nil 121 gSplit .nil) 123 gwOf .nil)) 134 gParseInt (.node (.node (.node .nil 138 gLittle .nil) 140 gdMul .nil) 148 gdDivMod (.node (.node .nil 149 gdAdd .nil) 150 gdSub .nil))) 158 gdCheck (.node (.node (.node (.node .nil 159 ggcd .nil) 161 gItoa (.node .nil 176 gdCompare .nil)) 180 gAtoi (.node (.node .nil 181 gdBoth .nil) 182 gdOf .nil)) 185 gText (.node (.node (.node .nil 189 gPCompare .nil) 200 gdCanonical .nil) 216 gdSmall (.node (.node .nil 217 gFormatUint .nil) 240 gParseUint .nil))))
theorem base3_ok : base3.All (Contract Tryz.prog) :=
  ⟨⟨⟨⟨⟨trivial, k79, trivial⟩, k80, ⟨trivial, k114, trivial⟩⟩, k119, ⟨⟨trivial, k121, trivial⟩, k123, trivial⟩⟩, parseInt_contract, ⟨⟨⟨trivial, k138, trivial⟩, k140, trivial⟩, k148, ⟨⟨trivial, k149, trivial⟩, k150, trivial⟩⟩⟩, k158, ⟨⟨⟨⟨trivial, k159, trivial⟩, itoa_contract, ⟨trivial, k176, trivial⟩⟩, atoi_contract, ⟨⟨trivial, k181, trivial⟩, k182, trivial⟩⟩, k185, ⟨⟨⟨trivial, k189, trivial⟩, k200, trivial⟩, k216, ⟨⟨trivial, formatUint_contract, trivial⟩, parseUint_contract, trivial⟩⟩⟩⟩

theorem decT3 : DecT (tabB base3) := ⟨rfl, rfl, rfl, rfl, rfl, rfl⟩

theorem k160 : Contract Tryz.prog 160 gdGcd := level base3_ok (enter _ Tryz.func160 (by kernel_rfl) rfl) pure_dec2 (dGcd_ok decT3 rfl)
def base4 : BT G :=
  (.node (.node (.node (.node (.node .nil 79 gfSign' .nil) 80 gwAbs (.node .nil 114 gwSign .nil)) 119 gwCheck (.node (.node .nil 121 gSplit .nil) 123 gwOf .nil)) 134 gParseInt (.node (.node (.node .nil 138 gLittle .nil) 140 gdMul (.node .nil 148 gdDivMod .nil)) 149 gdAdd (.node (.node .nil 150 gdSub .nil) 158 gdCheck .nil))) 159 ggcd (.node (.node (.node (.node .nil 160 gdGcd .nil) 161 gItoa (.node .nil 176 gdCompare .nil)) 180 gAtoi (.node (.node .nil 181 gdBoth .nil) 182 gdOf .nil)) 185 gText (.node (.node (.node .nil 189 gPCompare .nil) 200 gdCanonical .nil) 216 gdSmall (.node (.node .nil 217 gFormatUint .nil) 240 gParseUint .nil))))
theorem base4_ok : base4.All (Contract Tryz.prog) :=
  ⟨⟨⟨⟨⟨trivial, k79, trivial⟩, k80, ⟨trivial, k114, trivial⟩⟩, k119, ⟨⟨trivial, k121, trivial⟩, k123, trivial⟩⟩, parseInt_contract, ⟨⟨⟨trivial, k138, trivial⟩, k140, ⟨trivial, k148, trivial⟩⟩, k149, ⟨⟨trivial, k150, trivial⟩, k158, trivial⟩⟩⟩, k159, ⟨⟨⟨⟨trivial, k160, trivial⟩, itoa_contract, ⟨trivial, k176, trivial⟩⟩, atoi_contract, ⟨⟨trivial, k181, trivial⟩, k182, trivial⟩⟩, k185, ⟨⟨⟨trivial, k189, trivial⟩, k200, trivial⟩, k216, ⟨⟨trivial, formatUint_contract, trivial⟩, parseUint_contract, trivial⟩⟩⟩⟩

theorem decT4 : DecT (tabB base4) := ⟨rfl, rfl, rfl, rfl, rfl, rfl⟩

theorem k147 : Contract Tryz.prog 147 gdLcm := level base4_ok (enter _ Tryz.func147 (by kernel_rfl) rfl) pure_dec2 (dLcm_ok decT4 rfl rfl rfl)
theorem k120 : Contract Tryz.prog 120 gwGcd := level base4_ok (enter _ Tryz.func120 (by kernel_rfl) rfl) pure_int2 (wGcd_ok rfl rfl rfl rfl rfl rfl)
def base5 : BT G :=
  (.node (.node (.node (.node (.node .nil 79 gfSign' .nil) 80 gwAbs (.node .nil 114 gwSign .nil)) 119 gwCheck (.node (.node .nil 120 gwGcd .nil) 121 gSplit (.node .nil 123 gwOf .nil))) 134 gParseInt (.node (.node (.node .nil 138 gLittle .nil) 140 gdMul (.node .nil 147 gdLcm .nil)) 148 gdDivMod (.node (.node .nil 149 gdAdd .nil) 150 gdSub .nil))) 158 gdCheck (.node (.node (.node (.node .nil 159 ggcd .nil) 160 gdGcd (.node .nil 161 gItoa .nil)) 176 gdCompare (.node (.node .nil 180 gAtoi .nil) 181 gdBoth .nil)) 182 gdOf (.node (.node (.node .nil 185 gText .nil) 189 gPCompare (.node .nil 200 gdCanonical .nil)) 216 gdSmall (.node (.node .nil 217 gFormatUint .nil) 240 gParseUint .nil))))
theorem base5_ok : base5.All (Contract Tryz.prog) :=
  ⟨⟨⟨⟨⟨trivial, k79, trivial⟩, k80, ⟨trivial, k114, trivial⟩⟩, k119, ⟨⟨trivial, k120, trivial⟩, k121, ⟨trivial, k123, trivial⟩⟩⟩, parseInt_contract, ⟨⟨⟨trivial, k138, trivial⟩, k140, ⟨trivial, k147, trivial⟩⟩, k148, ⟨⟨trivial, k149, trivial⟩, k150, trivial⟩⟩⟩, k158, ⟨⟨⟨⟨trivial, k159, trivial⟩, k160, ⟨trivial, itoa_contract, trivial⟩⟩, k176, ⟨⟨trivial, atoi_contract, trivial⟩, k181, trivial⟩⟩, k182, ⟨⟨⟨trivial, k185, trivial⟩, k189, ⟨trivial, k200, trivial⟩⟩, k216, ⟨⟨trivial, formatUint_contract, trivial⟩, parseUint_contract, trivial⟩⟩⟩⟩

theorem decT5 : DecT (tabB base5) := ⟨rfl, rfl, rfl, rfl, rfl, rfl⟩

theorem k78 : Contract Tryz.prog 78 gfCheck := level base5_ok (enter _ Tryz.func78 (by kernel_rfl) rfl) pure_fcheck (fCheck_ok rfl rfl rfl rfl)
def base6 : BT G :=
  (.node (.node (.node (.node (.node .nil 78 gfCheck .nil) 79 gfSign' (.node .nil 80 gwAbs .nil)) 114 gwSign (.node (.node .nil 119 gwCheck .nil) 120 gwGcd (.node .nil 121 gSplit .nil))) 123 gwOf (.node (.node (.node .nil 134 gParseInt .nil) 138 gLittle (.node .nil 140 gdMul .nil)) 147 gdLcm (.node (.node .nil 148 gdDivMod .nil) 149 gdAdd .nil))) 150 gdSub (.node (.node (.node (.node .nil 158 gdCheck .nil) 159 ggcd (.node .nil 160 gdGcd .nil)) 161 gItoa (.node (.node .nil 176 gdCompare .nil) 180 gAtoi (.node .nil 181 gdBoth .nil))) 182 gdOf (.node (.node (.node .nil 185 gText .nil) 189 gPCompare (.node .nil 200 gdCanonical .nil)) 216 gdSmall (.node (.node .nil 217 gFormatUint .nil) 240 gParseUint .nil))))
theorem base6_ok : base6.All (Contract Tryz.prog) :=
  ⟨⟨⟨⟨⟨trivial, k78, trivial⟩, k79, ⟨trivial, k80, trivial⟩⟩, k114, ⟨⟨trivial, k119, trivial⟩, k120, ⟨trivial, k121, trivial⟩⟩⟩, k123, ⟨⟨⟨trivial, parseInt_contract, trivial⟩, k138, ⟨trivial, k140, trivial⟩⟩, k147, ⟨⟨trivial, k148, trivial⟩, k149, trivial⟩⟩⟩, k150, ⟨⟨⟨⟨trivial, k158, trivial⟩, k159, ⟨trivial, k160, trivial⟩⟩, itoa_contract, ⟨⟨trivial, k176, trivial⟩, atoi_contract, ⟨trivial, k181, trivial⟩⟩⟩, k182, ⟨⟨⟨trivial, k185, trivial⟩, k189, ⟨trivial, k200, trivial⟩⟩, k216, ⟨⟨trivial, formatUint_contract, trivial⟩, parseUint_contract, trivial⟩⟩⟩⟩

theorem decT6 : DecT (tabB base6) := ⟨rfl, rfl, rfl, rfl, rfl, rfl⟩

end Go.Proofs.YtkccoijckckhmaaGreatDoor.Ev
