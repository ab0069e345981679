/-
  The evaluator's form of the translated functions, the second part.
  Tables of functions in levels: every level takes the one below it for what it calls by contract.
  Running the evaluator on values that are not known: the laws that a proof unfolds by, and loops.
  Long division, a digit's guess: plain arithmetic.
-/
import Derived.Test.YtkccoijckckhmaaGreatDoorM2
import Derived.Test.YtkccoijckckhmaaGreatDoorM1
set_option linter.all false

namespace Go.Proofs.YtkccoijckckhmaaGreatDoor.Ev
open Go

def s127_2 : SCode :=
  .seq (.seq (.reg [⟨(some 30), (.mv (.t 8)), none⟩, ⟨(some 31), (.mv (.t 0)), none⟩, ⟨(some 32), (.len (.t 31)), none⟩, ⟨(some 33), (.bin .lss (.t 30) (.t 32)),
  none⟩]) (.cond (.t 33) .skip (.exit 4))) (.seq (.blk 5 (.seq (.reg [⟨(some 36), (.mv (.t 0)), none⟩, ⟨(some 37), (.mv (.t 8)), none⟩, ⟨(some 38), (.iad 1 (.t
  36) (.t 37)), none⟩, ⟨(some 39), (.ld 1 false (.t 38)), none⟩, ⟨(some 40), (.mv (.t 6)), none⟩, ⟨(some 41), (.iad 1 (.t 39) (.t 40)), none⟩, ⟨(some 42), (.ld
  1 false (.t 41)), none⟩, ⟨(some 43), (.bin .neq (.t 42) (.k (.str (bytes [48])))), none⟩, ⟨(some 44), (.mv (.t 43)), none⟩, ⟨(some 45), (.mv (.t 7)), (some
  (44, true))⟩, ⟨(some 46), (.bin .lss (.t 45) (.k (.int .i64 0))), (some (44, true))⟩, ⟨(some 47), (.mv (.t 46)), (some (44, true))⟩, ⟨(some 48), (.mv (.t 0)),
  (some (47, false))⟩, ⟨(some 49), (.mv (.t 8)), (some (47, false))⟩, ⟨(some 50), (.iad 1 (.t 48) (.t 49)), (some (47, false))⟩, ⟨(some 51), (.ld 1 false (.t
  50)), (some (47, false))⟩, ⟨(some 52), (.mv (.t 6)), (some (47, false))⟩, ⟨(some 53), (.iad 1 (.t 51) (.t 52)), (some (47, false))⟩, ⟨(some 54), (.ld 1 false
  (.t 53)), (some (47, false))⟩, ⟨(some 55), (.callR (.k (.fn 80 [])) [(.t 54)]), (some (47, false))⟩, ⟨(some 56), (.mv (.t 0)), (some (47, false))⟩, ⟨(some
  57), (.mv (.t 7)), (some (47, false))⟩, ⟨(some 58), (.iad 1 (.t 56) (.t 57)), (some (47, false))⟩, ⟨(some 59), (.ld 1 false (.t 58)), (some (47, false))⟩,
  ⟨(some 60), (.mv (.t 6)), (some (47, false))⟩, ⟨(some 61), (.iad 1 (.t 59) (.t 60)), (some (47, false))⟩, ⟨(some 62), (.ld 1 false (.t 61)), (some (47,
  false))⟩, ⟨(some 63), (.callR (.k (.fn 80 [])) [(.t 62)]), (some (47, false))⟩, ⟨(some 64), (.callR (.k (.fn 162 [])) [(.t 55), (.t 63)]), (some (47,
  false))⟩, ⟨(some 65), (.bin .lss (.t 64) (.k (.int .i64 0))), (some (47, false))⟩, ⟨(some 66), (.pick (.t 47) (.k (.bool true)) (.t 65)), (some (44, true))⟩,
  ⟨(some 67), (.pick (.t 44) (.t 66) (.k (.bool false))), none⟩]) (.cond (.t 67) (.reg [⟨(some 68), (.mv (.t 8)), none⟩, ⟨(some 7), (.mv (.t 68)), none⟩])
  .skip))) (.reg [⟨(some 34), (.mv (.t 8)), none⟩, ⟨(some 35), (.bin .add (.t 34) (.k (.int .i64 1))), none⟩, ⟨(some 8), (.mv (.t 35)), none⟩]))

def s127_3 : SCode :=
  .seq (.seq (.reg [⟨(some 87), (.mv (.t 10)), none⟩, ⟨(some 88), (.mv (.t 0)), none⟩, ⟨(some 89), (.len (.t 88)), none⟩, ⟨(some 90), (.bin .lss (.t 87) (.t 89)),
  none⟩]) (.cond (.t 90) .skip (.exit 6))) (.seq (.blk 7 (.seq (.reg [⟨(some 94), (.mv (.t 0)), none⟩, ⟨(some 95), (.mv (.t 10)), none⟩, ⟨(some 96), (.iad 1 (.t
  94) (.t 95)), none⟩, ⟨(some 97), (.ld 1 false (.t 96)), none⟩, ⟨(some 98), (.mv (.t 6)), none⟩, ⟨(some 99), (.iad 1 (.t 97) (.t 98)), none⟩, ⟨(some 100), (.ld
  1 false (.t 99)), none⟩, ⟨(some 101), (.mv (.t 0)), none⟩, ⟨(some 102), (.mv (.t 5)), none⟩, ⟨(some 103), (.iad 1 (.t 101) (.t 102)), none⟩, ⟨(some 104), (.ld
  1 false (.t 103)), none⟩, ⟨(some 105), (.mv (.t 6)), none⟩, ⟨(some 106), (.iad 1 (.t 104) (.t 105)), none⟩, ⟨(some 107), (.ld 1 false (.t 106)), none⟩, ⟨(some
  108), (.callR (.k (.fn 111 [])) [(.t 100), (.t 107)]), none⟩, ⟨(some 93), (.mv (.t 108)), none⟩, ⟨(some 109), (.ext 0 (.t 93)), none⟩, ⟨(some 110), (.ext 1
  (.t 93)), none⟩, ⟨(some 111), (.ext 2 (.t 93)), none⟩, ⟨(some 11), (.mv (.t 109)), none⟩, ⟨(some 12), (.mv (.t 110)), none⟩, ⟨(some 13), (.mv (.t 111)),
  none⟩]) (.seq (.reg [⟨(some 112), (.mv (.t 0)), none⟩, ⟨(some 113), (.mv (.t 10)), none⟩, ⟨(some 114), (.iad 1 (.t 112) (.t 113)), none⟩, ⟨(some 115), (.ld 1
  false (.t 114)), none⟩, ⟨(some 116), (.mv (.t 11)), none⟩, ⟨(some 117), (.mv (.t 0)), none⟩, ⟨(some 118), (.mv (.t 5)), none⟩, ⟨(some 119), (.iad 1 (.t 117)
  (.t 118)), none⟩, ⟨(some 120), (.ld 1 false (.t 119)), none⟩, ⟨(some 121), (.callW (.k (.fn 165 [])) [(.t 115), (.t 116), (.t 120)]), none⟩]) (.reg [⟨(some
  122), (.mv (.t 9)), none⟩, ⟨(some 123), (.mv (.t 122)), none⟩, ⟨(some 124), (.mv (.t 12)), (some (123, false))⟩, ⟨(some 125), (.bin .neq (.t 124) (.k (.str
  (bytes [48])))), (some (123, false))⟩, ⟨(some 126), (.pick (.t 123) (.k (.bool true)) (.t 125)), none⟩, ⟨(some 9), (.mv (.t 126)), none⟩])))) (.reg [⟨(some
  91), (.mv (.t 10)), none⟩, ⟨(some 92), (.bin .add (.t 91) (.k (.int .i64 1))), none⟩, ⟨(some 10), (.mv (.t 92)), none⟩]))

def s127_4 : SCode :=
  .seq (.reg [⟨(some 144), (.bin .lss (.t 143) (.t 142)), none⟩]) (.seq (.cond (.t 144) .skip (.exit 8)) (.seq (.blk 9 (.seq (.reg [⟨(some 145), (.mv (.t 143)),
  none⟩, ⟨(some 14), (.mv (.t 145)), none⟩]) (.seq (.reg [⟨(some 147), (.mv (.t 0)), none⟩, ⟨(some 148), (.mv (.t 14)), none⟩, ⟨(some 149), (.iad 1 (.t 147) (.t
  148)), none⟩, ⟨(some 150), (.ld 1 false (.t 149)), none⟩, ⟨(some 151), (.mv (.t 6)), none⟩, ⟨(some 152), (.iad 1 (.t 150) (.t 151)), none⟩, ⟨(some 153), (.ld
  1 false (.t 152)), none⟩, ⟨(some 154), (.mv (.t 0)), none⟩, ⟨(some 155), (.mv (.t 5)), none⟩, ⟨(some 156), (.iad 1 (.t 154) (.t 155)), none⟩, ⟨(some 157),
  (.ld 1 false (.t 156)), none⟩, ⟨(some 158), (.mv (.t 6)), none⟩, ⟨(some 159), (.iad 1 (.t 157) (.t 158)), none⟩, ⟨(some 160), (.ld 1 false (.t 159)), none⟩,
  ⟨(some 161), (.callR (.k (.fn 111 [])) [(.t 153), (.t 160)]), none⟩, ⟨(some 146), (.mv (.t 161)), none⟩, ⟨(some 162), (.ext 0 (.t 146)), none⟩, ⟨(some 163),
  (.ext 1 (.t 146)), none⟩, ⟨(some 164), (.ext 2 (.t 146)), none⟩, ⟨(some 15), (.mv (.t 162)), none⟩, ⟨(some 16), (.mv (.t 163)), none⟩, ⟨(some 17), (.mv (.t
  164)), none⟩]) (.reg [⟨(some 165), (.mv (.t 0)), none⟩, ⟨(some 166), (.mv (.t 14)), none⟩, ⟨(some 167), (.iad 1 (.t 165) (.t 166)), none⟩, ⟨(some 168), (.ld 1
  false (.t 167)), none⟩, ⟨(some 169), (.mv (.t 15)), none⟩, ⟨(some 170), (.mv (.t 0)), none⟩, ⟨(some 171), (.mv (.t 5)), none⟩, ⟨(some 172), (.iad 1 (.t 170)
  (.t 171)), none⟩, ⟨(some 173), (.ld 1 false (.t 172)), none⟩, ⟨(some 174), (.callW (.k (.fn 165 [])) [(.t 168), (.t 169), (.t 173)]), none⟩])))) (.reg [⟨(some
  175), (.bin .add (.t 143) (.k (.int .i64 1))), none⟩, ⟨(some 143), (.mv (.t 175)), none⟩])))

def s127_1 : SCode :=
  .blk 3 (.seq (.reg [⟨(some 7), (.mv (.k (.int .i64 (-1)))), none⟩]) (.seq (.seq (.reg [⟨(some 29), (.mv (.t 5)), none⟩, ⟨(some 8), (.mv (.t 29)), none⟩]) (.blk
  4 (.loop s127_2))) (.seq (.seq (.reg [⟨(some 69), (.mv (.t 7)), none⟩, ⟨(some 70), (.bin .lss (.t 69) (.k (.int .i64 0))), none⟩]) (.cond (.t 70) (.exit 2)
  .skip)) (.seq (.reg [⟨(some 71), (.mv (.t 0)), none⟩, ⟨(some 72), (.mv (.t 5)), none⟩, ⟨(some 73), (.mv (.t 0)), none⟩, ⟨(some 74), (.mv (.t 7)), none⟩,
  ⟨(some 75), (.mv (.t 0)), none⟩, ⟨(some 76), (.mv (.t 7)), none⟩, ⟨(some 77), (.iad 1 (.t 75) (.t 76)), none⟩, ⟨(some 78), (.ld 1 false (.t 77)), none⟩,
  ⟨(some 79), (.mv (.t 0)), none⟩, ⟨(some 80), (.mv (.t 5)), none⟩, ⟨(some 81), (.iad 1 (.t 79) (.t 80)), none⟩, ⟨(some 82), (.ld 1 false (.t 81)), none⟩,
  ⟨(some 83), (.iad 1 (.t 71) (.t 72)), none⟩, ⟨none, (.st 1 (.t 83) (.t 78)), none⟩, ⟨(some 84), (.iad 1 (.t 73) (.t 74)), none⟩, ⟨none, (.st 1 (.t 84) (.t
  82)), none⟩]) (.seq (.reg [⟨(some 9), (.mv (.k (.bool false))), none⟩]) (.seq (.seq (.reg [⟨(some 85), (.mv (.t 5)), none⟩, ⟨(some 86), (.bin .add (.t 85) (.k
  (.int .i64 1))), none⟩, ⟨(some 10), (.mv (.t 86)), none⟩]) (.blk 6 (.loop s127_3))) (.seq (.seq (.reg [⟨(some 127), (.mv (.t 9)), none⟩]) (.cond (.t 127)
  (.exit 3) .skip)) (.seq (.seq (.reg [⟨(some 128), (.mv (.t 0)), none⟩, ⟨(some 129), (.mv (.t 5)), none⟩, ⟨(some 130), (.iad 1 (.t 128) (.t 129)), none⟩,
  ⟨(some 131), (.ld 1 false (.t 130)), none⟩, ⟨(some 132), (.mv (.t 6)), none⟩, ⟨(some 133), (.iad 1 (.t 131) (.t 132)), none⟩, ⟨(some 134), (.ld 1 false (.t
  133)), none⟩, ⟨(some 135), (.callR (.k (.fn 114 [])) [(.t 134)]), none⟩, ⟨(some 136), (.bin .lss (.t 135) (.k (.int .i64 0))), none⟩]) (.cond (.t 136) (.reg
  [⟨(some 137), (.mv (.t 0)), none⟩, ⟨(some 138), (.mv (.t 5)), none⟩, ⟨(some 139), (.iad 1 (.t 137) (.t 138)), none⟩, ⟨(some 140), (.ld 1 false (.t 139)),
  none⟩, ⟨(some 141), (.callW (.k (.fn 166 [])) [(.t 140)]), none⟩]) .skip)) (.seq (.seq (.reg [⟨(some 142), (.mv (.t 5)), none⟩, ⟨(some 143), (.mv (.k (.int
  .i64 0))), none⟩]) (.blk 8 (.loop s127_4))) (.seq (.reg [⟨(some 176), (.mv (.t 5)), none⟩, ⟨(some 177), (.bin .add (.t 176) (.k (.int .i64 1))), none⟩, ⟨(some
  5), (.mv (.t 177)), none⟩]) (.exit 2)))))))))))

def s127_0 : SCode :=
  .seq (.seq (.reg [⟨(some 18), (.mv (.t 6)), none⟩, ⟨(some 19), (.mv (.t 1)), none⟩, ⟨(some 20), (.bin .lss (.t 18) (.t 19)), none⟩, ⟨(some 21), (.mv (.t 20)),
  none⟩, ⟨(some 22), (.mv (.t 5)), (some (21, true))⟩, ⟨(some 23), (.mv (.t 0)), (some (21, true))⟩, ⟨(some 24), (.len (.t 23)), (some (21, true))⟩, ⟨(some 25),
  (.bin .lss (.t 22) (.t 24)), (some (21, true))⟩, ⟨(some 26), (.pick (.t 21) (.t 25) (.k (.bool false))), none⟩]) (.cond (.t 26) .skip (.exit 0))) (.seq (.blk
  1 (.blk 2 (.loop s127_1))) (.reg [⟨(some 27), (.mv (.t 6)), none⟩, ⟨(some 28), (.bin .add (.t 27) (.k (.int .i64 1))), none⟩, ⟨(some 6), (.mv (.t 28)),
  none⟩]))

/- (schisma/lattice.longs).form -/
def s127 : SFunc :=
  ⟨2, [(.t 4)], (.seq (.reg [⟨(some 4), (.mv (.k (.z true))), none⟩]) (.seq (.reg [⟨(some 5), (.mv (.k (.int .i64 0))), none⟩]) (.seq (.seq (.reg [⟨(some 6), (.mv
  (.k (.int .i64 0))), none⟩]) (.blk 0 (.loop s127_0))) (.seq (.reg [⟨(some 178), (.mv (.t 0)), none⟩, ⟨(some 179), (.mv (.t 5)), none⟩, ⟨(some 180), (.slc 1
  (.t 178) none (some (.t 179))), none⟩, ⟨(some 4), (.mv (.t 180)), none⟩]) .ret))))⟩

def s128_0 : SCode :=
  .seq (.reg [⟨(some 16), (.bin .lss (.t 15) (.t 14)), none⟩]) (.seq (.cond (.t 16) .skip (.exit 0)) (.seq (.blk 1 (.seq (.reg [⟨(some 17), (.iad 1 (.t 13) (.t
  15)), none⟩, ⟨(some 18), (.ld 1 false (.t 17)), none⟩, ⟨(some 8), (.mv (.t 18)), none⟩]) (.seq (.reg [⟨(some 20), (.mv (.t 8)), none⟩, ⟨(some 21), (.callW (.k
  (.fn 167 [])) [(.t 20)]), none⟩, ⟨(some 19), (.mv (.t 21)), none⟩, ⟨(some 22), (.ext 0 (.t 19)), none⟩, ⟨(some 23), (.ext 1 (.t 19)), none⟩, ⟨(some 9), (.mv
  (.t 22)), none⟩, ⟨(some 10), (.mv (.t 23)), none⟩]) (.seq (.seq (.reg [⟨(some 24), (.mv (.t 10)), none⟩, ⟨(some 25), (.bin .neq (.t 24) (.k (.int .i64 0))),
  none⟩]) (.cond (.t 25) (.seq (.reg [⟨(some 26), (.bld [(.int .i64 0), (.z true)] []), none⟩, ⟨(some 27), (.mv (.t 10)), none⟩, ⟨none, (.st 2 (.t 4) (.t 26)),
  none⟩, ⟨(some 5), (.mv (.t 27)), none⟩]) .ret) .skip)) (.reg [⟨(some 28), (.fad 1 (.t 6)), none⟩, ⟨(some 29), (.ld 1 false (.t 28)), none⟩, ⟨(some 30), (.mv
  (.t 9)), none⟩, ⟨(some 31), (.bsl 1 [(.z true)] 1 [(0, (.t 30))]), none⟩, ⟨(some 32), (.app 1 (.t 29) (.t 31)), none⟩, ⟨(some 33), (.fad 1 (.t 6)), none⟩,
  ⟨none, (.st 1 (.t 33) (.t 32)), none⟩]))))) (.reg [⟨(some 34), (.bin .add (.t 15) (.k (.int .i64 1))), none⟩, ⟨(some 15), (.mv (.t 34)), none⟩])))

/- (schisma/lattice.longs).short -/
def s128 : SFunc :=
  ⟨2, [(.c 4 2 true), (.t 5)], (.seq (.reg [⟨(some 4), (.alc [(.int .i64 0), (.z true)]), none⟩, ⟨(some 5), (.mv (.k (.int .i64 0))), none⟩]) (.seq (.reg [⟨(some
  11), (.mv (.t 1)), none⟩, ⟨(some 12), (.bld [(.int .i64 0), (.z true)] [(0, (1, (.t 11)))]), none⟩, ⟨(some 6), (.alc [(.int .i64 0), (.z true)]), none⟩,
  ⟨none, (.st 2 (.t 6) (.t 12)), none⟩]) (.seq (.seq (.reg [⟨(some 13), (.mv (.t 0)), none⟩, ⟨(some 14), (.len (.t 13)), none⟩, ⟨(some 15), (.mv (.k (.int .i64
  0))), none⟩]) (.blk 0 (.loop s128_0))) (.seq (.reg [⟨(some 35), (.ld 2 true (.t 6)), none⟩, ⟨none, (.st 2 (.t 4) (.t 35)), none⟩, ⟨(some 5), (.mv (.k (.int
  .i64 0))), none⟩]) .ret))))⟩

/- schisma/lattice.Check -/
def s129 : SFunc :=
  ⟨1, [(.t 2)], (.seq (.reg [⟨(some 1), (.box 2 (.t 0)), none⟩, ⟨(some 2), (.mv (.k (.int .i64 0))), none⟩]) (.seq (.seq (.reg [⟨(some 6), (.fad 0 (.t 1)), none⟩,
  ⟨(some 7), (.ld 1 false (.t 6)), none⟩, ⟨(some 8), (.fad 1 (.t 1)), none⟩, ⟨(some 9), (.ld 1 false (.t 8)), none⟩, ⟨(some 10), (.callR (.k (.fn 125 [])) [(.t
  7), (.t 9)]), none⟩, ⟨(some 3), (.mv (.t 10)), none⟩]) (.seq (.reg [⟨(some 11), (.mv (.t 3)), none⟩, ⟨(some 12), (.bin .neq (.t 11) (.k (.int .i64 0))),
  none⟩]) (.cond (.t 12) (.seq (.reg [⟨(some 13), (.mv (.t 3)), none⟩, ⟨(some 2), (.mv (.t 13)), none⟩]) .ret) .skip))) (.seq (.seq (.reg [⟨(some 15), (.fad 1
  (.t 1)), none⟩, ⟨(some 16), (.ld 1 false (.t 15)), none⟩, ⟨(some 17), (.callR (.k (.fn 168 [])) [(.t 16)]), none⟩, ⟨(some 14), (.mv (.t 17)), none⟩, ⟨(some
  18), (.ext 0 (.t 14)), none⟩, ⟨(some 19), (.ext 1 (.t 14)), none⟩, ⟨(some 4), (.mv (.t 18)), none⟩, ⟨(some 5), (.mv (.t 19)), none⟩]) (.seq (.reg [⟨(some 20),
  (.mv (.t 5)), none⟩, ⟨(some 21), (.bin .neq (.t 20) (.k (.int .i64 0))), none⟩, ⟨(some 22), (.mv (.t 21)), none⟩, ⟨(some 23), (.mv (.t 4)), (some (22,
  false))⟩, ⟨(some 24), (.un .not (.t 23)), (some (22, false))⟩, ⟨(some 25), (.pick (.t 22) (.k (.bool true)) (.t 24)), none⟩]) (.cond (.t 25) (.seq (.reg
  [⟨(some 2), (.mv (.k (.int .i64 7))), none⟩]) .ret) .skip))) (.seq (.reg [⟨(some 2), (.mv (.k (.int .i64 0))), none⟩]) .ret))))⟩

def s130_1 : SCode :=
  .seq (.reg [⟨(some 18), (.bin .lss (.t 17) (.t 16)), none⟩]) (.seq (.cond (.t 18) .skip (.exit 2)) (.seq (.blk 3 (.seq (.reg [⟨(some 19), (.iad 1 (.t 15) (.t
  17)), none⟩, ⟨(some 20), (.ld 1 false (.t 19)), none⟩, ⟨(some 9), (.mv (.t 20)), none⟩]) (.reg [⟨(some 21), (.mv (.t 7)), none⟩, ⟨(some 22), (.mv (.t 9)),
  none⟩, ⟨(some 23), (.mv (.t 6)), none⟩, ⟨(some 24), (.iad 1 (.t 22) (.t 23)), none⟩, ⟨(some 25), (.ld 1 false (.t 24)), none⟩, ⟨(some 26), (.bsl 1 [(.str
  (bytes []))] 1 [(0, (.t 25))]), none⟩, ⟨(some 27), (.app 1 (.t 21) (.t 26)), none⟩, ⟨(some 7), (.mv (.t 27)), none⟩]))) (.reg [⟨(some 28), (.bin .add (.t 17)
  (.k (.int .i64 1))), none⟩, ⟨(some 17), (.mv (.t 28)), none⟩])))

def s130_0 : SCode :=
  .seq (.reg [⟨(some 13), (.bin .lss (.t 12) (.t 11)), none⟩]) (.seq (.cond (.t 13) .skip (.exit 0)) (.seq (.blk 1 (.seq (.reg [⟨(some 14), (.mv (.t 12)), none⟩,
  ⟨(some 6), (.mv (.t 14)), none⟩]) (.seq (.reg [⟨(some 7), (.mv (.k (.z true))), none⟩]) (.seq (.seq (.reg [⟨(some 15), (.mv (.t 0)), none⟩, ⟨(some 16), (.len
  (.t 15)), none⟩, ⟨(some 17), (.mv (.k (.int .i64 0))), none⟩]) (.blk 2 (.loop s130_1))) (.seq (.reg [⟨(some 29), (.mv (.t 1)), none⟩, ⟨(some 30), (.callW (.k
  (.fn 169 [])) [(.t 29)]), none⟩, ⟨(some 10), (.mv (.t 30)), none⟩]) (.seq (.reg [⟨(some 31), (.mv (.t 10)), none⟩, ⟨(some 32), (.mv (.t 6)), none⟩, ⟨(some
  33), (.iad 1 (.t 31) (.t 32)), none⟩, ⟨none, (.st 1 (.t 33) (.k (.str (bytes [49])))), none⟩]) (.reg [⟨(some 34), (.mv (.t 5)), none⟩, ⟨(some 35), (.mv (.t
  7)), none⟩, ⟨(some 36), (.mv (.t 10)), none⟩, ⟨(some 37), (.app 1 (.t 35) (.t 36)), none⟩, ⟨(some 38), (.bsl 1 [(.z true)] 1 [(0, (.t 37))]), none⟩, ⟨(some
  39), (.app 1 (.t 34) (.t 38)), none⟩, ⟨(some 5), (.mv (.t 39)), none⟩]))))))) (.reg [⟨(some 40), (.bin .add (.t 12) (.k (.int .i64 1))), none⟩, ⟨(some 12),
  (.mv (.t 40)), none⟩])))

/- (schisma/lattice.longs).kernel -/
def s130 : SFunc :=
  ⟨2, [(.t 4)], (.seq (.reg [⟨(some 4), (.mv (.k (.z true))), none⟩]) (.seq (.reg [⟨(some 5), (.mv (.k (.z true))), none⟩]) (.seq (.seq (.reg [⟨(some 11), (.mv
  (.t 1)), none⟩, ⟨(some 12), (.mv (.k (.int .i64 0))), none⟩]) (.blk 0 (.loop s130_0))) (.seq (.reg [⟨(some 41), (.mv (.t 5)), none⟩, ⟨(some 42), (.mv (.t 0)),
  none⟩, ⟨(some 43), (.len (.t 42)), none⟩, ⟨(some 44), (.mv (.t 1)), none⟩, ⟨(some 45), (.bin .add (.t 43) (.t 44)), none⟩, ⟨(some 46), (.callW (.k (.fn 127
  [])) [(.t 41), (.t 45)]), none⟩, ⟨(some 47), (.mv (.t 0)), none⟩, ⟨(some 48), (.len (.t 47)), none⟩, ⟨(some 49), (.mv (.t 1)), none⟩, ⟨(some 50), (.callW (.k
  (.fn 170 [])) [(.t 46), (.t 48), (.t 49)]), none⟩, ⟨(some 4), (.mv (.t 50)), none⟩]) .ret))))⟩

/- schisma/temperament.Check -/
def s131 : SFunc :=
  ⟨1, [(.t 2)], (.seq (.reg [⟨(some 1), (.box 3 (.t 0)), none⟩, ⟨(some 2), (.mv (.k (.int .i64 0))), none⟩]) (.seq (.seq (.reg [⟨(some 9), (.fad 0 (.t 1)), none⟩,
  ⟨(some 10), (.ld 1 false (.t 9)), none⟩, ⟨(some 11), (.callR (.k (.fn 59 [])) [(.t 10)]), none⟩, ⟨(some 3), (.mv (.t 11)), none⟩]) (.seq (.reg [⟨(some 12),
  (.mv (.t 3)), none⟩, ⟨(some 13), (.bin .neq (.t 12) (.k (.int .i64 0))), none⟩]) (.cond (.t 13) (.seq (.reg [⟨(some 14), (.mv (.t 3)), none⟩, ⟨(some 2), (.mv
  (.t 14)), none⟩]) .ret) .skip))) (.seq (.reg [⟨(some 15), (.fad 0 (.t 1)), none⟩, ⟨(some 16), (.ld 1 false (.t 15)), none⟩, ⟨(some 17), (.len (.t 16)), none⟩,
  ⟨(some 18), (.fad 1 (.t 1)), none⟩, ⟨(some 19), (.ld 1 false (.t 18)), none⟩, ⟨(some 20), (.bld [(.int .i64 0), (.z true)] [(0, (1, (.t 17))), (1, (1, (.t
  19)))]), none⟩, ⟨(some 4), (.alc [(.int .i64 0), (.z true)]), none⟩, ⟨none, (.st 2 (.t 4) (.t 20)), none⟩]) (.seq (.seq (.reg [⟨(some 21), (.ld 2 true (.t
  4)), none⟩, ⟨(some 22), (.callR (.k (.fn 129 [])) [(.t 21)]), none⟩, ⟨(some 5), (.mv (.t 22)), none⟩]) (.seq (.reg [⟨(some 23), (.mv (.t 5)), none⟩, ⟨(some
  24), (.bin .neq (.t 23) (.k (.int .i64 0))), none⟩]) (.cond (.t 24) (.seq (.reg [⟨(some 25), (.mv (.t 5)), none⟩, ⟨(some 2), (.mv (.t 25)), none⟩]) .ret)
  .skip))) (.seq (.reg [⟨(some 27), (.ld 2 true (.t 4)), none⟩, ⟨(some 28), (.callR (.k (.fn 89 [])) [(.t 27)]), none⟩, ⟨(some 26), (.mv (.t 28)), none⟩, ⟨(some
  29), (.ext 0 (.t 26)), none⟩, ⟨(some 30), (.ext 1 (.t 26)), none⟩, ⟨(some 6), (.alc [(.int .i64 0), (.z true)]), none⟩, ⟨none, (.st 2 (.t 6) (.t 29)), none⟩,
  ⟨(some 7), (.mv (.t 30)), none⟩]) (.seq (.seq (.reg [⟨(some 31), (.mv (.t 7)), none⟩, ⟨(some 32), (.bin .neq (.t 31) (.k (.int .i64 0))), none⟩, ⟨(some 33),
  (.mv (.t 32)), none⟩, ⟨(some 34), (.ld 2 true (.t 6)), (some (33, false))⟩, ⟨(some 35), (.ld 2 true (.t 4)), (some (33, false))⟩, ⟨(some 36), (.callR (.k (.fn
  171 [])) [(.t 34), (.t 35)]), (some (33, false))⟩, ⟨(some 37), (.un .not (.t 36)), (some (33, false))⟩, ⟨(some 38), (.pick (.t 33) (.k (.bool true)) (.t 37)),
  none⟩]) (.cond (.t 38) (.seq (.reg [⟨(some 2), (.mv (.k (.int .i64 7))), none⟩]) .ret) .skip)) (.seq (.reg [⟨(some 40), (.ld 2 true (.t 4)), none⟩, ⟨(some
  41), (.callR (.k (.fn 90 [])) [(.t 40)]), none⟩, ⟨(some 39), (.mv (.t 41)), none⟩, ⟨(some 42), (.ext 0 (.t 39)), none⟩, ⟨(some 43), (.ext 1 (.t 39)), none⟩,
  ⟨(some 8), (.alc [(.int .i64 0), (.z true)]), none⟩, ⟨none, (.st 2 (.t 8) (.t 42)), none⟩, ⟨(some 7), (.mv (.t 43)), none⟩]) (.seq (.seq (.reg [⟨(some 44),
  (.mv (.t 7)), none⟩, ⟨(some 45), (.bin .neq (.t 44) (.k (.int .i64 0))), none⟩, ⟨(some 46), (.mv (.t 45)), none⟩, ⟨(some 47), (.fad 1 (.t 8)), (some (46,
  false))⟩, ⟨(some 48), (.ld 1 false (.t 47)), (some (46, false))⟩, ⟨(some 49), (.fad 2 (.t 1)), (some (46, false))⟩, ⟨(some 50), (.ld 1 false (.t 49)), (some
  (46, false))⟩, ⟨(some 51), (.callR (.k (.fn 172 [])) [(.t 48), (.t 50)]), (some (46, false))⟩, ⟨(some 52), (.un .not (.t 51)), (some (46, false))⟩, ⟨(some
  53), (.pick (.t 46) (.k (.bool true)) (.t 52)), none⟩]) (.cond (.t 53) (.seq (.reg [⟨(some 2), (.mv (.k (.int .i64 14))), none⟩]) .ret) .skip)) (.seq (.reg
  [⟨(some 2), (.mv (.k (.int .i64 0))), none⟩]) .ret)))))))))⟩

/- schisma/row.Check -/
def s132 : SFunc :=
  ⟨1, [(.t 2)], (.seq (.reg [⟨(some 2), (.mv (.k (.int .i64 0))), none⟩]) (.seq (.seq (.reg [⟨(some 3), (.mv (.t 0)), none⟩, ⟨(some 4), (.len (.t 3)), none⟩,
  ⟨(some 5), (.bin .gtr (.t 4) (.k (.int .i64 64))), none⟩, ⟨(some 6), (.mv (.t 5)), none⟩, ⟨(some 7), (.mv (.t 0)), (some (6, false))⟩, ⟨(some 8), (.callW (.k
  (.fn 173 [])) [(.t 7), (.k (.fn 174 []))]), (some (6, false))⟩, ⟨(some 9), (.pick (.t 6) (.k (.bool true)) (.t 8)), none⟩]) (.cond (.t 9) (.seq (.reg [⟨(some
  2), (.mv (.k (.int .i64 4))), none⟩]) .ret) .skip)) (.seq (.reg [⟨(some 2), (.mv (.k (.int .i64 0))), none⟩]) .ret)))⟩

/- schisma/whole.Add -/
def s133 : SFunc :=
  ⟨2, [(.t 4)], (.seq (.reg [⟨(some 4), (.mv (.k (.str (bytes [])))), none⟩]) (.seq (.seq (.reg [⟨(some 16), (.mv (.t 0)), none⟩, ⟨(some 17), (.callR (.k (.fn 138
  [])) [(.t 16), (.k (.int .i64 18))]), none⟩, ⟨(some 15), (.mv (.t 17)), none⟩, ⟨(some 18), (.ext 0 (.t 15)), none⟩, ⟨(some 19), (.ext 1 (.t 15)), none⟩,
  ⟨(some 5), (.mv (.t 18)), none⟩, ⟨(some 6), (.mv (.t 19)), none⟩]) (.seq (.reg [⟨(some 20), (.mv (.t 6)), none⟩]) (.cond (.t 20) (.seq (.reg [⟨(some 22), (.mv
  (.t 1)), none⟩, ⟨(some 23), (.callR (.k (.fn 138 [])) [(.t 22), (.k (.int .i64 18))]), none⟩, ⟨(some 21), (.mv (.t 23)), none⟩, ⟨(some 24), (.ext 0 (.t 21)),
  none⟩, ⟨(some 25), (.ext 1 (.t 21)), none⟩, ⟨(some 7), (.mv (.t 24)), none⟩, ⟨(some 8), (.mv (.t 25)), none⟩]) (.seq (.reg [⟨(some 26), (.mv (.t 8)), none⟩])
  (.cond (.t 26) (.seq (.reg [⟨(some 27), (.mv (.t 5)), none⟩, ⟨(some 28), (.mv (.t 7)), none⟩, ⟨(some 29), (.bin .add (.t 27) (.t 28)), none⟩, ⟨(some 30),
  (.callR (.k (.fn 123 [])) [(.t 29)]), none⟩, ⟨(some 4), (.mv (.t 30)), none⟩]) .ret) .skip))) .skip))) (.seq (.reg [⟨(some 32), (.mv (.t 0)), none⟩, ⟨(some
  33), (.callR (.k (.fn 121 [])) [(.t 32)]), none⟩, ⟨(some 31), (.mv (.t 33)), none⟩, ⟨(some 34), (.ext 0 (.t 31)), none⟩, ⟨(some 35), (.ext 1 (.t 31)), none⟩,
  ⟨(some 9), (.mv (.t 34)), none⟩, ⟨(some 10), (.mv (.t 35)), none⟩]) (.seq (.reg [⟨(some 37), (.mv (.t 1)), none⟩, ⟨(some 38), (.callR (.k (.fn 121 [])) [(.t
  37)]), none⟩, ⟨(some 36), (.mv (.t 38)), none⟩, ⟨(some 39), (.ext 0 (.t 36)), none⟩, ⟨(some 40), (.ext 1 (.t 36)), none⟩, ⟨(some 11), (.mv (.t 39)), none⟩,
  ⟨(some 12), (.mv (.t 40)), none⟩]) (.seq (.seq (.reg [⟨(some 41), (.mv (.t 9)), none⟩, ⟨(some 42), (.mv (.t 11)), none⟩, ⟨(some 43), (.beq false (.t 41) (.t
  42)), none⟩]) (.cond (.t 43) (.seq (.reg [⟨(some 44), (.mv (.t 9)), none⟩, ⟨(some 45), (.mv (.t 10)), none⟩, ⟨(some 46), (.mv (.t 12)), none⟩, ⟨(some 47),
  (.callR (.k (.fn 149 [])) [(.t 45), (.t 46)]), none⟩, ⟨(some 48), (.callR (.k (.fn 139 [])) [(.t 44), (.t 47)]), none⟩, ⟨(some 4), (.mv (.t 48)), none⟩])
  .ret) .skip)) (.seq (.seq (.reg [⟨(some 49), (.mv (.t 10)), none⟩, ⟨(some 50), (.mv (.t 12)), none⟩, ⟨(some 51), (.callR (.k (.fn 176 [])) [(.t 49), (.t
  50)]), none⟩, ⟨(some 52), (.bin .lss (.t 51) (.k (.int .i64 0))), none⟩]) (.cond (.t 52) (.reg [⟨(some 53), (.mv (.t 11)), none⟩, ⟨(some 54), (.mv (.t 12)),
  none⟩, ⟨(some 55), (.mv (.t 10)), none⟩, ⟨(some 9), (.mv (.t 53)), none⟩, ⟨(some 10), (.mv (.t 54)), none⟩, ⟨(some 12), (.mv (.t 55)), none⟩]) .skip)) (.seq
  (.reg [⟨(some 57), (.mv (.t 10)), none⟩, ⟨(some 58), (.mv (.t 12)), none⟩, ⟨(some 59), (.callR (.k (.fn 150 [])) [(.t 57), (.t 58)]), none⟩, ⟨(some 56), (.mv
  (.t 59)), none⟩, ⟨(some 60), (.ext 0 (.t 56)), none⟩, ⟨(some 61), (.ext 1 (.t 56)), none⟩, ⟨(some 13), (.mv (.t 60)), none⟩, ⟨(some 14), (.mv (.t 61)),
  none⟩]) (.seq (.reg [⟨(some 62), (.mv (.t 9)), none⟩, ⟨(some 63), (.mv (.t 13)), none⟩, ⟨(some 64), (.callR (.k (.fn 139 [])) [(.t 62), (.t 63)]), none⟩,
  ⟨(some 4), (.mv (.t 64)), none⟩]) .ret))))))))⟩

/- schisma/fraction.both -/
def s135 : SFunc :=
  ⟨1, [(.t 2), (.t 3), (.t 4)], (.seq (.reg [⟨(some 1), (.box 2 (.t 0)), none⟩, ⟨(some 2), (.mv (.k (.int .i64 0))), none⟩, ⟨(some 3), (.mv (.k (.int .i64 0))),
  none⟩, ⟨(some 4), (.mv (.k (.bool false))), none⟩]) (.seq (.reg [⟨(some 8), (.fad 0 (.t 1)), none⟩, ⟨(some 9), (.ld 1 false (.t 8)), none⟩, ⟨(some 10),
  (.callR (.k (.fn 179 [])) [(.t 9)]), none⟩, ⟨(some 7), (.mv (.t 10)), none⟩, ⟨(some 11), (.ext 0 (.t 7)), none⟩, ⟨(some 12), (.ext 1 (.t 7)), none⟩, ⟨(some
  2), (.mv (.t 11)), none⟩, ⟨(some 5), (.mv (.t 12)), none⟩]) (.seq (.reg [⟨(some 14), (.fad 1 (.t 1)), none⟩, ⟨(some 15), (.ld 1 false (.t 14)), none⟩, ⟨(some
  16), (.callR (.k (.fn 179 [])) [(.t 15)]), none⟩, ⟨(some 13), (.mv (.t 16)), none⟩, ⟨(some 17), (.ext 0 (.t 13)), none⟩, ⟨(some 18), (.ext 1 (.t 13)), none⟩,
  ⟨(some 3), (.mv (.t 17)), none⟩, ⟨(some 6), (.mv (.t 18)), none⟩]) (.seq (.reg [⟨(some 19), (.mv (.t 2)), none⟩, ⟨(some 20), (.mv (.t 3)), none⟩, ⟨(some 21),
  (.mv (.t 5)), none⟩, ⟨(some 22), (.mv (.t 21)), none⟩, ⟨(some 23), (.mv (.t 6)), (some (22, true))⟩, ⟨(some 24), (.pick (.t 22) (.t 23) (.k (.bool false))),
  none⟩, ⟨(some 2), (.mv (.t 19)), none⟩, ⟨(some 3), (.mv (.t 20)), none⟩, ⟨(some 4), (.mv (.t 24)), none⟩]) .ret))))⟩

def s136_0 : SCode :=
  .seq (.seq (.reg [⟨(some 9), (.mv (.t 6)), none⟩, ⟨(some 10), (.bin .neq (.t 9) (.k (.int .i64 0))), none⟩]) (.cond (.t 10) .skip (.exit 0))) (.blk 1 (.reg
  [⟨(some 11), (.mv (.t 6)), none⟩, ⟨(some 12), (.mv (.t 5)), none⟩, ⟨(some 13), (.mv (.t 6)), none⟩, ⟨(some 14), (.bin .rem (.t 12) (.t 13)), none⟩, ⟨(some 5),
  (.mv (.t 11)), none⟩, ⟨(some 6), (.mv (.t 14)), none⟩]))

/- schisma/fraction.of -/
def s136 : SFunc :=
  ⟨2, [(.c 4 2 true)], (.seq (.reg [⟨(some 4), (.alc [(.str (bytes [])), (.str (bytes []))]), none⟩]) (.seq (.reg [⟨(some 7), (.mv (.t 0)), none⟩, ⟨(some 8), (.mv
  (.t 1)), none⟩, ⟨(some 5), (.mv (.t 7)), none⟩, ⟨(some 6), (.mv (.t 8)), none⟩]) (.seq (.blk 0 (.loop s136_0)) (.seq (.seq (.reg [⟨(some 15), (.mv (.t 5)),
  none⟩, ⟨(some 16), (.bin .lss (.t 15) (.k (.int .i64 0))), none⟩]) (.cond (.t 16) (.reg [⟨(some 17), (.mv (.t 5)), none⟩, ⟨(some 18), (.un .neg (.t 17)),
  none⟩, ⟨(some 5), (.mv (.t 18)), none⟩]) .skip)) (.seq (.reg [⟨(some 19), (.mv (.t 0)), none⟩, ⟨(some 20), (.mv (.t 5)), none⟩, ⟨(some 21), (.bin .quo (.t 19)
  (.t 20)), none⟩, ⟨(some 22), (.callR (.k (.fn 161 [])) [(.t 21)]), none⟩, ⟨(some 23), (.mv (.t 1)), none⟩, ⟨(some 24), (.mv (.t 5)), none⟩, ⟨(some 25), (.bin
  .quo (.t 23) (.t 24)), none⟩, ⟨(some 26), (.callR (.k (.fn 161 [])) [(.t 25)]), none⟩, ⟨(some 27), (.bld [(.str (bytes [])), (.str (bytes []))] [(0, (1, (.t
  22))), (1, (1, (.t 26)))]), none⟩, ⟨none, (.st 2 (.t 4) (.t 27)), none⟩]) .ret)))))⟩

/- schisma/whole.Neg -/
def s137 : SFunc :=
  ⟨1, [(.t 2)], (.seq (.reg [⟨(some 2), (.mv (.k (.str (bytes [])))), none⟩]) (.seq (.reg [⟨(some 6), (.mv (.t 0)), none⟩, ⟨(some 7), (.callR (.k (.fn 121 []))
  [(.t 6)]), none⟩, ⟨(some 5), (.mv (.t 7)), none⟩, ⟨(some 8), (.ext 0 (.t 5)), none⟩, ⟨(some 9), (.ext 1 (.t 5)), none⟩, ⟨(some 3), (.mv (.t 8)), none⟩, ⟨(some
  4), (.mv (.t 9)), none⟩]) (.seq (.reg [⟨(some 10), (.mv (.t 3)), none⟩, ⟨(some 11), (.un .not (.t 10)), none⟩, ⟨(some 12), (.mv (.t 4)), none⟩, ⟨(some 13),
  (.callR (.k (.fn 139 [])) [(.t 11), (.t 12)]), none⟩, ⟨(some 2), (.mv (.t 13)), none⟩]) .ret)))⟩

/- schisma/whole.little -/
def s138 : SFunc :=
  ⟨2, [(.t 4), (.t 5)], (.seq (.reg [⟨(some 4), (.mv (.k (.int .i64 0))), none⟩, ⟨(some 5), (.mv (.k (.bool false))), none⟩]) (.seq (.seq (.reg [⟨(some 8), (.mv
  (.t 0)), none⟩, ⟨(some 9), (.lens (.t 8)), none⟩, ⟨(some 10), (.mv (.t 1)), none⟩, ⟨(some 11), (.bin .gtr (.t 9) (.t 10)), none⟩]) (.cond (.t 11) (.seq (.reg
  [⟨(some 4), (.mv (.k (.int .i64 0))), none⟩, ⟨(some 5), (.mv (.k (.bool false))), none⟩]) .ret) .skip)) (.seq (.reg [⟨(some 13), (.mv (.t 0)), none⟩, ⟨(some
  14), (.callR (.k (.fn 180 [])) [(.t 13)]), none⟩, ⟨(some 12), (.mv (.t 14)), none⟩, ⟨(some 15), (.ext 0 (.t 12)), none⟩, ⟨(some 16), (.ext 1 (.t 12)), none⟩,
  ⟨(some 6), (.mv (.t 15)), none⟩, ⟨(some 7), (.mv (.t 16)), none⟩]) (.seq (.reg [⟨(some 17), (.mv (.t 6)), none⟩, ⟨(some 18), (.mv (.t 7)), none⟩, ⟨(some 19),
  (.nilq 0 false (.t 18)), none⟩, ⟨(some 4), (.mv (.t 17)), none⟩, ⟨(some 5), (.mv (.t 19)), none⟩]) .ret))))⟩

/- schisma/whole.join -/
def s139 : SFunc :=
  ⟨2, [(.t 4)], (.seq (.reg [⟨(some 4), (.mv (.k (.str (bytes [])))), none⟩]) (.seq (.seq (.reg [⟨(some 5), (.mv (.t 0)), none⟩, ⟨(some 6), (.mv (.t 5)), none⟩,
  ⟨(some 7), (.mv (.t 1)), (some (6, true))⟩, ⟨(some 8), (.bin .neq (.t 7) (.k (.str (bytes [48])))), (some (6, true))⟩, ⟨(some 9), (.pick (.t 6) (.t 8) (.k
  (.bool false))), none⟩]) (.cond (.t 9) (.seq (.reg [⟨(some 10), (.mv (.t 1)), none⟩, ⟨(some 11), (.bin .add (.k (.str (bytes [45]))) (.t 10)), none⟩, ⟨(some
  4), (.mv (.t 11)), none⟩]) .ret) .skip)) (.seq (.reg [⟨(some 12), (.mv (.t 1)), none⟩, ⟨(some 4), (.mv (.t 12)), none⟩]) .ret)))⟩

/- schisma/decimal.Mul -/
def s140 : SFunc :=
  ⟨2, [(.t 4)], (.seq (.reg [⟨(some 4), (.mv (.k (.str (bytes [])))), none⟩]) (.seq (.seq (.reg [⟨(some 8), (.mv (.t 0)), none⟩, ⟨(some 9), (.lens (.t 8)), none⟩,
  ⟨(some 10), (.mv (.t 1)), none⟩, ⟨(some 11), (.lens (.t 10)), none⟩, ⟨(some 12), (.bin .add (.t 9) (.t 11)), none⟩, ⟨(some 13), (.bin .leq (.t 12) (.k (.int
  .i64 18))), none⟩]) (.cond (.t 13) (.seq (.reg [⟨(some 15), (.mv (.t 0)), none⟩, ⟨(some 16), (.mv (.t 1)), none⟩, ⟨(some 17), (.callR (.k (.fn 181 [])) [(.t
  15), (.t 16)]), none⟩, ⟨(some 14), (.mv (.t 17)), none⟩, ⟨(some 18), (.ext 0 (.t 14)), none⟩, ⟨(some 19), (.ext 1 (.t 14)), none⟩, ⟨(some 20), (.ext 2 (.t
  14)), none⟩, ⟨(some 5), (.mv (.t 18)), none⟩, ⟨(some 6), (.mv (.t 19)), none⟩, ⟨(some 7), (.mv (.t 20)), none⟩]) (.seq (.reg [⟨(some 21), (.mv (.t 5)), none⟩,
  ⟨(some 22), (.mv (.t 6)), none⟩, ⟨(some 23), (.bin .mul (.t 21) (.t 22)), none⟩, ⟨(some 24), (.callR (.k (.fn 182 [])) [(.t 23)]), none⟩, ⟨(some 4), (.mv (.t
  24)), none⟩]) .ret)) .skip)) (.seq (.reg [⟨(some 25), (.mv (.t 0)), none⟩, ⟨(some 26), (.callW (.k (.fn 183 [])) [(.t 25)]), none⟩, ⟨(some 27), (.mv (.t 1)),
  none⟩, ⟨(some 28), (.callW (.k (.fn 183 [])) [(.t 27)]), none⟩, ⟨(some 29), (.callW (.k (.fn 184 [])) [(.t 26), (.t 28)]), none⟩, ⟨(some 30), (.callR (.k (.fn
  185 [])) [(.t 29)]), none⟩, ⟨(some 4), (.mv (.t 30)), none⟩]) .ret)))⟩

/- schisma/size.short -/
def s141 : SFunc :=
  ⟨1, [(.t 2)], (.seq (.reg [⟨(some 1), (.box 2 (.t 0)), none⟩, ⟨(some 2), (.mv (.k (.bool false))), none⟩]) (.seq (.reg [⟨(some 3), (.fad 0 (.t 1)), none⟩,
  ⟨(some 4), (.ld 1 false (.t 3)), none⟩, ⟨(some 5), (.callR (.k (.fn 80 [])) [(.t 4)]), none⟩, ⟨(some 6), (.lens (.t 5)), none⟩, ⟨(some 7), (.bin .leq (.t 6)
  (.k (.int .i64 30))), none⟩, ⟨(some 8), (.mv (.t 7)), none⟩, ⟨(some 9), (.fad 1 (.t 1)), (some (8, true))⟩, ⟨(some 10), (.ld 1 false (.t 9)), (some (8,
  true))⟩, ⟨(some 11), (.lens (.t 10)), (some (8, true))⟩, ⟨(some 12), (.bin .leq (.t 11) (.k (.int .i64 30))), (some (8, true))⟩, ⟨(some 13), (.pick (.t 8) (.t
  12) (.k (.bool false))), none⟩, ⟨(some 2), (.mv (.t 13)), none⟩]) .ret))⟩

def s142_0 : SCode :=
  .seq (.reg [⟨(some 10), (.bin .lss (.t 9) (.t 8)), none⟩]) (.seq (.cond (.t 10) .skip (.exit 0)) (.seq (.blk 1 (.seq (.reg [⟨(some 11), (.mv (.t 9)), none⟩,
  ⟨(some 4), (.mv (.t 11)), none⟩]) (.reg [⟨(some 12), (.mv (.t 3)), none⟩, ⟨(some 13), (.mv (.t 4)), none⟩, ⟨(some 14), (.callR (.k (.fn 100 [])) [(.k (.int
  .i64 0))]), none⟩, ⟨(some 15), (.iad 2 (.t 12) (.t 13)), none⟩, ⟨none, (.st 2 (.t 15) (.t 14)), none⟩]))) (.reg [⟨(some 16), (.bin .add (.t 9) (.k (.int .i64
  1))), none⟩, ⟨(some 9), (.mv (.t 16)), none⟩])))

/- schisma/size.zero -/
def s142 : SFunc :=
  ⟨1, [(.t 2)], (.seq (.reg [⟨(some 2), (.mv (.k (.z true))), none⟩]) (.seq (.reg [⟨(some 5), (.mv (.t 0)), none⟩, ⟨(some 6), (.mks 2 [(.str (bytes [])), (.str
  (bytes []))] (.t 5) (.t 5)), none⟩, ⟨(some 3), (.mv (.t 6)), none⟩]) (.seq (.seq (.reg [⟨(some 7), (.mv (.t 3)), none⟩, ⟨(some 8), (.len (.t 7)), none⟩,
  ⟨(some 9), (.mv (.k (.int .i64 0))), none⟩]) (.blk 0 (.loop s142_0))) (.seq (.reg [⟨(some 17), (.mv (.t 3)), none⟩, ⟨(some 2), (.mv (.t 17)), none⟩])
  .ret))))⟩

/- schisma/fraction.Mul -/
def s143 : SFunc :=
  ⟨2, [(.c 4 2 true)], (.seq (.reg [⟨(some 2), (.box 2 (.t 0)), none⟩, ⟨(some 3), (.box 2 (.t 1)), none⟩, ⟨(some 4), (.alc [(.str (bytes [])), (.str (bytes
  []))]), none⟩]) (.seq (.seq (.reg [⟨(some 12), (.ld 2 true (.t 2)), none⟩, ⟨(some 13), (.callR (.k (.fn 135 [])) [(.t 12)]), none⟩, ⟨(some 11), (.mv (.t 13)),
  none⟩, ⟨(some 14), (.ext 0 (.t 11)), none⟩, ⟨(some 15), (.ext 1 (.t 11)), none⟩, ⟨(some 16), (.ext 2 (.t 11)), none⟩, ⟨(some 5), (.mv (.t 14)), none⟩, ⟨(some
  6), (.mv (.t 15)), none⟩, ⟨(some 7), (.mv (.t 16)), none⟩]) (.seq (.reg [⟨(some 17), (.mv (.t 7)), none⟩]) (.cond (.t 17) (.seq (.reg [⟨(some 19), (.ld 2 true
  (.t 3)), none⟩, ⟨(some 20), (.callR (.k (.fn 135 [])) [(.t 19)]), none⟩, ⟨(some 18), (.mv (.t 20)), none⟩, ⟨(some 21), (.ext 0 (.t 18)), none⟩, ⟨(some 22),
  (.ext 1 (.t 18)), none⟩, ⟨(some 23), (.ext 2 (.t 18)), none⟩, ⟨(some 8), (.mv (.t 21)), none⟩, ⟨(some 9), (.mv (.t 22)), none⟩, ⟨(some 10), (.mv (.t 23)),
  none⟩]) (.seq (.reg [⟨(some 24), (.mv (.t 10)), none⟩]) (.cond (.t 24) (.seq (.reg [⟨(some 25), (.mv (.t 5)), none⟩, ⟨(some 26), (.mv (.t 8)), none⟩, ⟨(some
  27), (.bin .mul (.t 25) (.t 26)), none⟩, ⟨(some 28), (.mv (.t 6)), none⟩, ⟨(some 29), (.mv (.t 9)), none⟩, ⟨(some 30), (.bin .mul (.t 28) (.t 29)), none⟩,
  ⟨(some 31), (.callR (.k (.fn 136 [])) [(.t 27), (.t 30)]), none⟩, ⟨none, (.st 2 (.t 4) (.t 31)), none⟩]) .ret) .skip))) .skip))) (.seq (.reg [⟨(some 32),
  (.fad 0 (.t 2)), none⟩, ⟨(some 33), (.ld 1 false (.t 32)), none⟩, ⟨(some 34), (.fad 0 (.t 3)), none⟩, ⟨(some 35), (.ld 1 false (.t 34)), none⟩, ⟨(some 36),
  (.callR (.k (.fn 97 [])) [(.t 33), (.t 35)]), none⟩, ⟨(some 37), (.fad 1 (.t 2)), none⟩, ⟨(some 38), (.ld 1 false (.t 37)), none⟩, ⟨(some 39), (.fad 1 (.t
  3)), none⟩, ⟨(some 40), (.ld 1 false (.t 39)), none⟩, ⟨(some 41), (.callR (.k (.fn 97 [])) [(.t 38), (.t 40)]), none⟩, ⟨(some 42), (.callR (.k (.fn 96 []))
  [(.t 36), (.t 41)]), none⟩, ⟨none, (.st 2 (.t 4) (.t 42)), none⟩]) .ret)))⟩

/- schisma/size.Equave -/
def s144 : SFunc :=
  ⟨1, [(.t 2), (.t 3)], (.seq (.reg [⟨(some 2), (.mv (.k (.z true))), none⟩, ⟨(some 3), (.mv (.k (.int .i64 0))), none⟩]) (.seq (.reg [⟨(some 7), (.mv (.t 0)),
  none⟩, ⟨(some 8), (.callR (.k (.fn 186 [])) [(.t 7)]), none⟩, ⟨(some 6), (.mv (.t 8)), none⟩, ⟨(some 9), (.ext 0 (.t 6)), none⟩, ⟨(some 10), (.ext 1 (.t 6)),
  none⟩, ⟨(some 4), (.mv (.t 9)), none⟩, ⟨(some 5), (.mv (.t 10)), none⟩]) (.seq (.seq (.reg [⟨(some 11), (.mv (.t 5)), none⟩, ⟨(some 12), (.bin .neq (.t 11)
  (.k (.int .i64 0))), none⟩]) (.cond (.t 12) (.seq (.reg [⟨(some 13), (.mv (.t 5)), none⟩, ⟨(some 2), (.mv (.k (.z true))), none⟩, ⟨(some 3), (.mv (.t 13)),
  none⟩]) .ret) .skip)) (.seq (.reg [⟨(some 14), (.mv (.t 4)), none⟩, ⟨(some 15), (.callR (.k (.fn 100 [])) [(.k (.int .i64 1))]), none⟩, ⟨(some 16), (.iad 2
  (.t 14) (.k (.int .i64 0))), none⟩, ⟨none, (.st 2 (.t 16) (.t 15)), none⟩]) (.seq (.reg [⟨(some 17), (.mv (.t 4)), none⟩, ⟨(some 2), (.mv (.t 17)), none⟩,
  ⟨(some 3), (.mv (.k (.int .i64 0))), none⟩]) .ret)))))⟩

/- schisma/size.Scale -/
def s145 : SFunc :=
  ⟨3, [(.t 6), (.t 7)], (.seq (.reg [⟨(some 5), (.box 2 (.t 2)), none⟩, ⟨(some 6), (.mv (.k (.z true))), none⟩, ⟨(some 7), (.mv (.k (.int .i64 0))), none⟩]) (.seq
  (.reg [⟨(some 8), (.mv (.t 0)), none⟩, ⟨(some 9), (.mv (.t 1)), none⟩, ⟨(some 10), (.bsl 1 [(.z true)] 1 [(0, (.t 9))]), none⟩, ⟨(some 11), (.ld 2 true (.t
  5)), none⟩, ⟨(some 12), (.bsl 2 [(.str (bytes [])), (.str (bytes []))] 1 [(0, (.t 11))]), none⟩, ⟨(some 13), (.callR (.k (.fn 187 [])) [(.t 8), (.t 10), (.t
  12)]), none⟩, ⟨(some 14), (.ext 0 (.t 13)), none⟩, ⟨(some 15), (.ext 1 (.t 13)), none⟩, ⟨(some 6), (.mv (.t 14)), none⟩, ⟨(some 7), (.mv (.t 15)), none⟩])
  .ret))⟩

def s146_0 : SCode :=
  .seq (.seq (.reg [⟨(some 34), (.mv (.t 8)), none⟩, ⟨(some 35), (.mv (.t 7)), none⟩, ⟨(some 36), (.len (.t 35)), none⟩, ⟨(some 37), (.bin .lss (.t 34) (.t 36)),
  none⟩]) (.cond (.t 37) .skip (.exit 0))) (.blk 1 (.reg [⟨(some 38), (.mv (.t 8)), none⟩, ⟨(some 39), (.mv (.t 7)), none⟩, ⟨(some 40), (.mv (.t 8)), none⟩,
  ⟨(some 41), (.slc 2 (.t 39) (some (.t 40)) none), none⟩, ⟨(some 42), (.mv (.t 7)), none⟩, ⟨(some 43), (.mv (.t 8)), none⟩, ⟨(some 44), (.slc 2 (.t 42) none
  (some (.t 43))), none⟩, ⟨(some 45), (.cpy 2 (.t 41) (.t 44)), none⟩, ⟨(some 46), (.bin .add (.t 38) (.t 45)), none⟩, ⟨(some 8), (.mv (.t 46)), none⟩]))

/- slices.Repeat[schisma/api.Size,schisma/api.Rational] -/
def s146 : SFunc :=
  ⟨2, [(.t 4)], (.seq (.reg [⟨(some 4), (.mv (.k (.z true))), none⟩]) (.seq (.seq (.reg [⟨(some 9), (.mv (.t 1)), none⟩, ⟨(some 10), (.bin .lss (.t 9) (.k (.int
  .i64 0))), none⟩]) (.cond (.t 10) (.reg [⟨(some 11), (.mki (.k (.str (bytes [99, 97, 110, 110, 111, 116, 32, 98, 101, 32, 110, 101, 103, 97, 116, 105, 118,
  101])))), none⟩, ⟨none, .pan, none⟩]) .skip)) (.seq (.reg [⟨(some 13), (.mv (.t 0)), none⟩, ⟨(some 14), (.len (.t 13)), none⟩, ⟨(some 15), (.conv .u64 (.t
  14)), none⟩, ⟨(some 16), (.mv (.t 1)), none⟩, ⟨(some 17), (.conv .u64 (.t 16)), none⟩, ⟨(some 18), (.callR (.k (.fn 188 [])) [(.t 15), (.t 17)]), none⟩,
  ⟨(some 12), (.mv (.t 18)), none⟩, ⟨(some 19), (.ext 0 (.t 12)), none⟩, ⟨(some 20), (.ext 1 (.t 12)), none⟩, ⟨(some 5), (.mv (.t 19)), none⟩, ⟨(some 6), (.mv
  (.t 20)), none⟩]) (.seq (.seq (.reg [⟨(some 21), (.mv (.t 5)), none⟩, ⟨(some 22), (.bin .gtr (.t 21) (.k (.int .u64 0))), none⟩, ⟨(some 23), (.mv (.t 22)),
  none⟩, ⟨(some 24), (.mv (.t 6)), (some (23, false))⟩, ⟨(some 25), (.bin .gtr (.t 24) (.k (.int .u64 9223372036854775807))), (some (23, false))⟩, ⟨(some 26),
  (.pick (.t 23) (.k (.bool true)) (.t 25)), none⟩]) (.cond (.t 26) (.reg [⟨(some 27), (.mki (.k (.str (bytes [116, 104, 101, 32, 114, 101, 115, 117, 108, 116,
  32, 111, 102, 32, 40, 108, 101, 110, 40, 120, 41, 32, 42, 32, 99, 111, 117, 110, 116, 41, 32, 111, 118, 101, 114, 102, 108, 111, 119, 115])))), none⟩, ⟨none,
  .pan, none⟩]) .skip)) (.seq (.reg [⟨(some 28), (.mv (.t 6)), none⟩, ⟨(some 29), (.conv .i64 (.t 28)), none⟩, ⟨(some 30), (.mks 2 [(.str (bytes [])), (.str
  (bytes []))] (.t 29) (.t 29)), none⟩, ⟨(some 7), (.mv (.t 30)), none⟩]) (.seq (.reg [⟨(some 31), (.mv (.t 7)), none⟩, ⟨(some 32), (.mv (.t 0)), none⟩, ⟨(some
  33), (.cpy 2 (.t 31) (.t 32)), none⟩, ⟨(some 8), (.mv (.t 33)), none⟩]) (.seq (.blk 0 (.loop s146_0)) (.seq (.reg [⟨(some 47), (.mv (.t 7)), none⟩, ⟨(some 4),
  (.mv (.t 47)), none⟩]) .ret))))))))⟩

/- schisma/decimal.Lcm -/
def s147 : SFunc :=
  ⟨2, [(.t 4)], (.seq (.reg [⟨(some 4), (.mv (.k (.str (bytes [])))), none⟩]) (.seq (.seq (.reg [⟨(some 8), (.mv (.t 0)), none⟩, ⟨(some 9), (.bin .eql (.t 8) (.k
  (.str (bytes [48])))), none⟩, ⟨(some 10), (.mv (.t 9)), none⟩, ⟨(some 11), (.mv (.t 1)), (some (10, false))⟩, ⟨(some 12), (.bin .eql (.t 11) (.k (.str (bytes
  [48])))), (some (10, false))⟩, ⟨(some 13), (.pick (.t 10) (.k (.bool true)) (.t 12)), none⟩]) (.cond (.t 13) (.seq (.reg [⟨(some 4), (.mv (.k (.str (bytes
  [48])))), none⟩]) .ret) .skip)) (.seq (.reg [⟨(some 15), (.mv (.t 0)), none⟩, ⟨(some 16), (.mv (.t 0)), none⟩, ⟨(some 17), (.mv (.t 1)), none⟩, ⟨(some 18),
  (.callR (.k (.fn 160 [])) [(.t 16), (.t 17)]), none⟩, ⟨(some 19), (.callR (.k (.fn 148 [])) [(.t 15), (.t 18)]), none⟩, ⟨(some 14), (.mv (.t 19)), none⟩,
  ⟨(some 20), (.ext 0 (.t 14)), none⟩, ⟨(some 21), (.ext 1 (.t 14)), none⟩, ⟨(some 22), (.ext 2 (.t 14)), none⟩, ⟨(some 5), (.mv (.t 20)), none⟩, ⟨(some 6),
  (.mv (.t 21)), none⟩, ⟨(some 7), (.mv (.t 22)), none⟩]) (.seq (.seq (.reg [⟨(some 23), (.mv (.t 7)), none⟩, ⟨(some 24), (.bin .neq (.t 23) (.k (.int .i64
  0))), none⟩]) (.cond (.t 24) (.seq (.reg [⟨(some 4), (.mv (.k (.str (bytes [])))), none⟩]) .ret) .skip)) (.seq (.reg [⟨(some 25), (.mv (.t 5)), none⟩, ⟨(some
  26), (.mv (.t 1)), none⟩, ⟨(some 27), (.callR (.k (.fn 140 [])) [(.t 25), (.t 26)]), none⟩, ⟨(some 4), (.mv (.t 27)), none⟩]) .ret)))))⟩

/- schisma/decimal.DivMod -/
def s148 : SFunc :=
  ⟨2, [(.t 4), (.t 5), (.t 6)], (.seq (.reg [⟨(some 4), (.mv (.k (.str (bytes [])))), none⟩, ⟨(some 5), (.mv (.k (.str (bytes [])))), none⟩, ⟨(some 6), (.mv (.k
  (.int .i64 0))), none⟩]) (.seq (.seq (.reg [⟨(some 16), (.mv (.t 1)), none⟩, ⟨(some 17), (.bin .eql (.t 16) (.k (.str (bytes [48])))), none⟩]) (.cond (.t 17)
  (.seq (.reg [⟨(some 4), (.mv (.k (.str (bytes [])))), none⟩, ⟨(some 5), (.mv (.k (.str (bytes [])))), none⟩, ⟨(some 6), (.mv (.k (.int .i64 17))), none⟩])
  .ret) .skip)) (.seq (.seq (.reg [⟨(some 19), (.mv (.t 0)), none⟩, ⟨(some 20), (.mv (.t 1)), none⟩, ⟨(some 21), (.callR (.k (.fn 181 [])) [(.t 19), (.t 20)]),
  none⟩, ⟨(some 18), (.mv (.t 21)), none⟩, ⟨(some 22), (.ext 0 (.t 18)), none⟩, ⟨(some 23), (.ext 1 (.t 18)), none⟩, ⟨(some 24), (.ext 2 (.t 18)), none⟩, ⟨(some
  7), (.mv (.t 22)), none⟩, ⟨(some 8), (.mv (.t 23)), none⟩, ⟨(some 9), (.mv (.t 24)), none⟩]) (.seq (.reg [⟨(some 25), (.mv (.t 9)), none⟩]) (.cond (.t 25)
  (.seq (.reg [⟨(some 26), (.mv (.t 7)), none⟩, ⟨(some 27), (.mv (.t 8)), none⟩, ⟨(some 28), (.bin .quo (.t 26) (.t 27)), none⟩, ⟨(some 29), (.callR (.k (.fn
  182 [])) [(.t 28)]), none⟩, ⟨(some 30), (.mv (.t 7)), none⟩, ⟨(some 31), (.mv (.t 8)), none⟩, ⟨(some 32), (.bin .rem (.t 30) (.t 31)), none⟩, ⟨(some 33),
  (.callR (.k (.fn 182 [])) [(.t 32)]), none⟩, ⟨(some 4), (.mv (.t 29)), none⟩, ⟨(some 5), (.mv (.t 33)), none⟩, ⟨(some 6), (.mv (.k (.int .i64 0))), none⟩])
  .ret) .skip))) (.seq (.reg [⟨(some 34), (.mv (.t 0)), none⟩, ⟨(some 35), (.callW (.k (.fn 183 [])) [(.t 34)]), none⟩, ⟨(some 36), (.mv (.t 1)), none⟩, ⟨(some
  37), (.callW (.k (.fn 183 [])) [(.t 36)]), none⟩, ⟨(some 10), (.mv (.t 35)), none⟩, ⟨(some 11), (.mv (.t 37)), none⟩]) (.seq (.seq (.reg [⟨(some 38), (.mv (.t
  10)), none⟩, ⟨(some 39), (.mv (.t 11)), none⟩, ⟨(some 40), (.callR (.k (.fn 189 [])) [(.t 38), (.t 39)]), none⟩, ⟨(some 41), (.bin .lss (.t 40) (.k (.int .i64
  0))), none⟩]) (.cond (.t 41) (.seq (.reg [⟨(some 42), (.mv (.t 0)), none⟩, ⟨(some 4), (.mv (.k (.str (bytes [48])))), none⟩, ⟨(some 5), (.mv (.t 42)), none⟩,
  ⟨(some 6), (.mv (.k (.int .i64 0))), none⟩]) .ret) .skip)) (.seq (.seq (.reg [⟨(some 43), (.mv (.t 11)), none⟩, ⟨(some 44), (.len (.t 43)), none⟩, ⟨(some 45),
  (.bin .eql (.t 44) (.k (.int .i64 1))), none⟩]) (.cond (.t 45) (.seq (.reg [⟨(some 47), (.mv (.t 10)), none⟩, ⟨(some 48), (.mv (.t 11)), none⟩, ⟨(some 49),
  (.iad 1 (.t 48) (.k (.int .i64 0))), none⟩, ⟨(some 50), (.ld 1 false (.t 49)), none⟩, ⟨(some 51), (.callW (.k (.fn 190 [])) [(.t 47), (.t 50)]), none⟩, ⟨(some
  46), (.mv (.t 51)), none⟩, ⟨(some 52), (.ext 0 (.t 46)), none⟩, ⟨(some 53), (.ext 1 (.t 46)), none⟩, ⟨(some 12), (.mv (.t 52)), none⟩, ⟨(some 13), (.mv (.t
  53)), none⟩]) (.seq (.reg [⟨(some 54), (.mv (.t 12)), none⟩, ⟨(some 55), (.callR (.k (.fn 185 [])) [(.t 54)]), none⟩, ⟨(some 56), (.mv (.t 13)), none⟩, ⟨(some
  57), (.callR (.k (.fn 182 [])) [(.t 56)]), none⟩, ⟨(some 4), (.mv (.t 55)), none⟩, ⟨(some 5), (.mv (.t 57)), none⟩, ⟨(some 6), (.mv (.k (.int .i64 0))),
  none⟩]) .ret)) .skip)) (.seq (.reg [⟨(some 59), (.mv (.t 10)), none⟩, ⟨(some 60), (.mv (.t 11)), none⟩, ⟨(some 61), (.callW (.k (.fn 191 [])) [(.t 59), (.t
  60)]), none⟩, ⟨(some 58), (.mv (.t 61)), none⟩, ⟨(some 62), (.ext 0 (.t 58)), none⟩, ⟨(some 63), (.ext 1 (.t 58)), none⟩, ⟨(some 14), (.mv (.t 62)), none⟩,
  ⟨(some 15), (.mv (.t 63)), none⟩]) (.seq (.reg [⟨(some 64), (.mv (.t 14)), none⟩, ⟨(some 65), (.callR (.k (.fn 185 [])) [(.t 64)]), none⟩, ⟨(some 66), (.mv
  (.t 15)), none⟩, ⟨(some 67), (.callR (.k (.fn 185 [])) [(.t 66)]), none⟩, ⟨(some 4), (.mv (.t 65)), none⟩, ⟨(some 5), (.mv (.t 67)), none⟩, ⟨(some 6), (.mv
  (.k (.int .i64 0))), none⟩]) .ret))))))))⟩

/- schisma/decimal.Add -/
def s149 : SFunc :=
  ⟨2, [(.t 4)], (.seq (.reg [⟨(some 4), (.mv (.k (.str (bytes [])))), none⟩]) (.seq (.seq (.reg [⟨(some 11), (.mv (.t 0)), none⟩, ⟨(some 12), (.mv (.t 1)), none⟩,
  ⟨(some 13), (.callR (.k (.fn 181 [])) [(.t 11), (.t 12)]), none⟩, ⟨(some 10), (.mv (.t 13)), none⟩, ⟨(some 14), (.ext 0 (.t 10)), none⟩, ⟨(some 15), (.ext 1
  (.t 10)), none⟩, ⟨(some 16), (.ext 2 (.t 10)), none⟩, ⟨(some 5), (.mv (.t 14)), none⟩, ⟨(some 6), (.mv (.t 15)), none⟩, ⟨(some 7), (.mv (.t 16)), none⟩])
  (.seq (.reg [⟨(some 17), (.mv (.t 7)), none⟩]) (.cond (.t 17) (.seq (.reg [⟨(some 18), (.mv (.t 5)), none⟩, ⟨(some 19), (.mv (.t 6)), none⟩, ⟨(some 20), (.bin
  .add (.t 18) (.t 19)), none⟩, ⟨(some 21), (.callR (.k (.fn 182 [])) [(.t 20)]), none⟩, ⟨(some 4), (.mv (.t 21)), none⟩]) .ret) .skip))) (.seq (.reg [⟨(some
  22), (.mv (.t 0)), none⟩, ⟨(some 23), (.callW (.k (.fn 183 [])) [(.t 22)]), none⟩, ⟨(some 24), (.mv (.t 1)), none⟩, ⟨(some 25), (.callW (.k (.fn 183 [])) [(.t
  24)]), none⟩, ⟨(some 8), (.mv (.t 23)), none⟩, ⟨(some 9), (.mv (.t 25)), none⟩]) (.seq (.seq (.reg [⟨(some 26), (.mv (.t 8)), none⟩, ⟨(some 27), (.len (.t
  26)), none⟩, ⟨(some 28), (.mv (.t 9)), none⟩, ⟨(some 29), (.len (.t 28)), none⟩, ⟨(some 30), (.bin .lss (.t 27) (.t 29)), none⟩]) (.cond (.t 30) (.reg [⟨(some
  31), (.mv (.t 9)), none⟩, ⟨(some 32), (.mv (.t 8)), none⟩, ⟨(some 8), (.mv (.t 31)), none⟩, ⟨(some 9), (.mv (.t 32)), none⟩]) .skip)) (.seq (.reg [⟨(some 33),
  (.mv (.t 8)), none⟩, ⟨(some 34), (.bsl 1 [(.int .u64 0)] 1 [(0, (.k (.int .u64 0)))]), none⟩, ⟨(some 35), (.app 1 (.t 33) (.t 34)), none⟩, ⟨(some 8), (.mv (.t
  35)), none⟩]) (.seq (.reg [⟨(some 36), (.mv (.t 8)), none⟩, ⟨(some 37), (.mv (.t 9)), none⟩, ⟨(some 38), (.mv (.t 8)), none⟩, ⟨(some 39), (.len (.t 38)),
  none⟩, ⟨(some 40), (.bin .sub (.t 39) (.k (.int .i64 1))), none⟩, ⟨(some 41), (.mv (.t 9)), none⟩, ⟨(some 42), (.len (.t 41)), none⟩, ⟨(some 43), (.bin .sub
  (.t 40) (.t 42)), none⟩, ⟨(some 44), (.appz 1 [(.int .u64 0)] (.t 37) (.t 43)), none⟩, ⟨(some 45), (.callW (.k (.fn 192 [])) [(.t 36), (.t 44), (.k (.int .i64
  0))]), none⟩]) (.seq (.reg [⟨(some 46), (.mv (.t 8)), none⟩, ⟨(some 47), (.callW (.k (.fn 193 [])) [(.t 46)]), none⟩, ⟨(some 48), (.callR (.k (.fn 185 []))
  [(.t 47)]), none⟩, ⟨(some 4), (.mv (.t 48)), none⟩]) .ret)))))))⟩

/- schisma/decimal.Sub -/
def s150 : SFunc :=
  ⟨2, [(.t 4), (.t 5)], (.seq (.reg [⟨(some 4), (.mv (.k (.str (bytes [])))), none⟩, ⟨(some 5), (.mv (.k (.int .i64 0))), none⟩]) (.seq (.seq (.reg [⟨(some 10),
  (.mv (.t 0)), none⟩, ⟨(some 11), (.mv (.t 1)), none⟩, ⟨(some 12), (.callR (.k (.fn 176 [])) [(.t 10), (.t 11)]), none⟩, ⟨(some 13), (.bin .lss (.t 12) (.k
  (.int .i64 0))), none⟩]) (.cond (.t 13) (.seq (.reg [⟨(some 4), (.mv (.k (.str (bytes [])))), none⟩, ⟨(some 5), (.mv (.k (.int .i64 3))), none⟩]) .ret)
  .skip)) (.seq (.seq (.reg [⟨(some 15), (.mv (.t 0)), none⟩, ⟨(some 16), (.mv (.t 1)), none⟩, ⟨(some 17), (.callR (.k (.fn 181 [])) [(.t 15), (.t 16)]), none⟩,
  ⟨(some 14), (.mv (.t 17)), none⟩, ⟨(some 18), (.ext 0 (.t 14)), none⟩, ⟨(some 19), (.ext 1 (.t 14)), none⟩, ⟨(some 20), (.ext 2 (.t 14)), none⟩, ⟨(some 6),
  (.mv (.t 18)), none⟩, ⟨(some 7), (.mv (.t 19)), none⟩, ⟨(some 8), (.mv (.t 20)), none⟩]) (.seq (.reg [⟨(some 21), (.mv (.t 8)), none⟩]) (.cond (.t 21) (.seq
  (.reg [⟨(some 22), (.mv (.t 6)), none⟩, ⟨(some 23), (.mv (.t 7)), none⟩, ⟨(some 24), (.bin .sub (.t 22) (.t 23)), none⟩, ⟨(some 25), (.callR (.k (.fn 182 []))
  [(.t 24)]), none⟩, ⟨(some 4), (.mv (.t 25)), none⟩, ⟨(some 5), (.mv (.k (.int .i64 0))), none⟩]) .ret) .skip))) (.seq (.reg [⟨(some 26), (.mv (.t 0)), none⟩,
  ⟨(some 27), (.callW (.k (.fn 183 [])) [(.t 26)]), none⟩, ⟨(some 28), (.bsl 1 [(.int .u64 0)] 1 [(0, (.k (.int .u64 0)))]), none⟩, ⟨(some 29), (.app 1 (.t 27)
  (.t 28)), none⟩, ⟨(some 9), (.mv (.t 29)), none⟩]) (.seq (.reg [⟨(some 30), (.mv (.t 9)), none⟩, ⟨(some 31), (.mv (.t 1)), none⟩, ⟨(some 32), (.callW (.k (.fn
  183 [])) [(.t 31)]), none⟩, ⟨(some 33), (.mv (.t 9)), none⟩, ⟨(some 34), (.len (.t 33)), none⟩, ⟨(some 35), (.bin .sub (.t 34) (.k (.int .i64 1))), none⟩,
  ⟨(some 36), (.mv (.t 1)), none⟩, ⟨(some 37), (.callW (.k (.fn 183 [])) [(.t 36)]), none⟩, ⟨(some 38), (.len (.t 37)), none⟩, ⟨(some 39), (.bin .sub (.t 35)
  (.t 38)), none⟩, ⟨(some 40), (.appz 1 [(.int .u64 0)] (.t 32) (.t 39)), none⟩, ⟨(some 41), (.callW (.k (.fn 194 [])) [(.t 30), (.t 40), (.k (.int .u64 1)),
  (.k (.int .i64 0))]), none⟩]) (.seq (.reg [⟨(some 42), (.mv (.t 9)), none⟩, ⟨(some 43), (.callW (.k (.fn 193 [])) [(.t 42)]), none⟩, ⟨(some 44), (.callR (.k
  (.fn 185 [])) [(.t 43)]), none⟩, ⟨(some 4), (.mv (.t 44)), none⟩, ⟨(some 5), (.mv (.k (.int .i64 0))), none⟩]) .ret))))))⟩

/- schisma/size.Abs -/
def s154 : SFunc :=
  ⟨2, [(.t 4), (.t 5)], (.seq (.reg [⟨(some 4), (.mv (.k (.z true))), none⟩, ⟨(some 5), (.mv (.k (.int .i64 0))), none⟩]) (.seq (.reg [⟨(some 9), (.mv (.t 0)),
  none⟩, ⟨(some 10), (.mv (.t 1)), none⟩, ⟨(some 11), (.callR (.k (.fn 36 [])) [(.t 9), (.t 10)]), none⟩, ⟨(some 8), (.mv (.t 11)), none⟩, ⟨(some 12), (.ext 0
  (.t 8)), none⟩, ⟨(some 13), (.ext 1 (.t 8)), none⟩, ⟨(some 6), (.mv (.t 12)), none⟩, ⟨(some 7), (.mv (.t 13)), none⟩]) (.seq (.seq (.reg [⟨(some 14), (.mv (.t
  7)), none⟩, ⟨(some 15), (.bin .neq (.t 14) (.k (.int .i64 0))), none⟩]) (.cond (.t 15) (.seq (.reg [⟨(some 16), (.mv (.t 7)), none⟩, ⟨(some 4), (.mv (.k (.z
  true))), none⟩, ⟨(some 5), (.mv (.t 16)), none⟩]) .ret) .skip)) (.seq (.reg [⟨(some 17), (.mv (.t 0)), none⟩, ⟨(some 18), (.len (.t 17)), none⟩, ⟨(some 19),
  (.mv (.t 1)), none⟩, ⟨(some 20), (.bsl 1 [(.z true)] 1 [(0, (.t 19))]), none⟩, ⟨(some 21), (.mv (.t 6)), none⟩, ⟨(some 22), (.mv (.t 6)), none⟩, ⟨(some 23),
  (.un .neg (.t 22)), none⟩, ⟨(some 24), (.mm true [(.t 21), (.t 23)]), none⟩, ⟨(some 25), (.mv (.t 6)), none⟩, ⟨(some 26), (.mm true [(.t 25), (.k (.int .i64
  0))]), none⟩, ⟨(some 27), (.bin .mul (.k (.int .i64 2)) (.t 26)), none⟩, ⟨(some 28), (.bin .sub (.t 27) (.k (.int .i64 1))), none⟩, ⟨(some 29), (.bin .mul (.t
  24) (.t 28)), none⟩, ⟨(some 30), (.callR (.k (.fn 100 [])) [(.t 29)]), none⟩, ⟨(some 31), (.bsl 2 [(.str (bytes [])), (.str (bytes []))] 1 [(0, (.t 30))]),
  none⟩, ⟨(some 32), (.callR (.k (.fn 99 [])) [(.t 18), (.t 20), (.t 31)]), none⟩, ⟨(some 4), (.mv (.t 32)), none⟩, ⟨(some 5), (.mv (.k (.int .i64 0))), none⟩])
  .ret))))⟩

/- slices.SortStableFunc[[]schisma/damage.measured,schisma/damage.measured] -/
def s155 : SFunc :=
  ⟨2, [], (.reg [⟨(some 4), (.mv (.t 0)), none⟩, ⟨(some 5), (.mv (.t 0)), none⟩, ⟨(some 6), (.len (.t 5)), none⟩, ⟨(some 7), (.mv (.t 1)), none⟩, ⟨(some 8),
  (.callW (.k (.fn 199 [])) [(.t 4), (.t 6), (.t 7)]), none⟩])⟩

/- schisma/damage.sorted$1 -/
def s156 : SFunc :=
  ⟨3, [(.t 5)], (.seq (.reg [⟨(some 3), (.box 5 (.t 0)), none⟩, ⟨(some 4), (.box 5 (.t 1)), none⟩, ⟨(some 5), (.mv (.k (.int .i64 0))), none⟩]) (.seq (.reg
  [⟨(some 9), (.fad 0 (.t 2)), none⟩, ⟨(some 10), (.fad 0 (.t 9)), none⟩, ⟨(some 11), (.ld 1 false (.t 10)), none⟩, ⟨(some 12), (.fad 3 (.t 4)), none⟩, ⟨(some
  13), (.ld 1 false (.t 12)), none⟩, ⟨(some 14), (.fad 3 (.t 3)), none⟩, ⟨(some 15), (.ld 1 false (.t 14)), none⟩, ⟨(some 16), (.callR (.k (.fn 19 [])) [(.t
  11), (.t 13), (.t 15)]), none⟩, ⟨(some 8), (.mv (.t 16)), none⟩, ⟨(some 17), (.ext 0 (.t 8)), none⟩, ⟨(some 18), (.ext 1 (.t 8)), none⟩, ⟨(some 6), (.mv (.t
  17)), none⟩, ⟨(some 7), (.mv (.t 18)), none⟩]) (.seq (.reg [⟨(some 19), (.mv (.t 6)), none⟩, ⟨(some 5), (.mv (.t 19)), none⟩]) .ret)))⟩

def s157_0 : SCode :=
  .seq (.reg [⟨(some 9), (.bin .lss (.t 8) (.t 7)), none⟩]) (.seq (.cond (.t 9) .skip (.exit 0)) (.seq (.blk 1 (.seq (.reg [⟨(some 10), (.mv (.t 8)), none⟩,
  ⟨(some 5), (.mv (.t 10)), none⟩]) (.seq (.reg [⟨(some 11), (.mv (.t 1)), none⟩, ⟨(some 12), (.mv (.t 0)), none⟩, ⟨(some 13), (.mv (.t 5)), none⟩, ⟨(some 14),
  (.iad 2 (.t 12) (.t 13)), none⟩, ⟨(some 15), (.ld 2 true (.t 14)), none⟩, ⟨(some 16), (.callW (.t 11) [(.t 15)]), none⟩]) (.cond (.t 16) (.seq (.reg [⟨(some
  17), (.mv (.t 5)), none⟩, ⟨(some 4), (.mv (.t 17)), none⟩]) .ret) .skip)))) (.reg [⟨(some 18), (.bin .add (.t 8) (.k (.int .i64 1))), none⟩, ⟨(some 8), (.mv
  (.t 18)), none⟩])))

/- slices.IndexFunc[schisma/api.Size,schisma/api.Rational] -/
def s157 : SFunc :=
  ⟨2, [(.t 4)], (.seq (.reg [⟨(some 4), (.mv (.k (.int .i64 0))), none⟩]) (.seq (.seq (.reg [⟨(some 6), (.mv (.t 0)), none⟩, ⟨(some 7), (.len (.t 6)), none⟩,
  ⟨(some 8), (.mv (.k (.int .i64 0))), none⟩]) (.blk 0 (.loop s157_0))) (.seq (.reg [⟨(some 4), (.mv (.k (.int .i64 (-1)))), none⟩]) .ret)))⟩

/- schisma/decimal.Check -/
def s158 : SFunc :=
  ⟨1, [(.t 2)], (.seq (.reg [⟨(some 2), (.mv (.k (.int .i64 0))), none⟩]) (.seq (.seq (.reg [⟨(some 3), (.mv (.t 0)), none⟩, ⟨(some 4), (.callR (.k (.fn 200 []))
  [(.t 3)]), none⟩, ⟨(some 5), (.un .not (.t 4)), none⟩, ⟨(some 6), (.mv (.t 5)), none⟩, ⟨(some 7), (.mv (.t 0)), (some (6, false))⟩, ⟨(some 8), (.lens (.t 7)),
  (some (6, false))⟩, ⟨(some 9), (.bin .gtr (.t 8) (.k (.int .i64 400))), (some (6, false))⟩, ⟨(some 10), (.pick (.t 6) (.k (.bool true)) (.t 9)), none⟩])
  (.cond (.t 10) (.seq (.reg [⟨(some 2), (.mv (.k (.int .i64 2))), none⟩]) .ret) .skip)) (.seq (.reg [⟨(some 2), (.mv (.k (.int .i64 0))), none⟩]) .ret)))⟩

def s159_0 : SCode :=
  .seq (.seq (.reg [⟨(some 5), (.mv (.t 1)), none⟩, ⟨(some 6), (.bin .neq (.t 5) (.k (.int .i64 0))), none⟩]) (.cond (.t 6) .skip (.exit 0))) (.blk 1 (.reg
  [⟨(some 7), (.mv (.t 1)), none⟩, ⟨(some 8), (.mv (.t 0)), none⟩, ⟨(some 9), (.mv (.t 1)), none⟩, ⟨(some 10), (.bin .rem (.t 8) (.t 9)), none⟩, ⟨(some 0), (.mv
  (.t 7)), none⟩, ⟨(some 1), (.mv (.t 10)), none⟩]))

/- schisma/whole.gcd -/
def s159 : SFunc :=
  ⟨2, [(.t 4)], (.seq (.reg [⟨(some 4), (.mv (.k (.int .i64 0))), none⟩]) (.seq (.blk 0 (.loop s159_0)) (.seq (.reg [⟨(some 11), (.mv (.t 0)), none⟩, ⟨(some 4),
  (.mv (.t 11)), none⟩]) .ret)))⟩

def s160_0 : SCode :=
  .seq (.seq (.reg [⟨(some 8), (.mv (.t 1)), none⟩, ⟨(some 9), (.bin .neq (.t 8) (.k (.str (bytes [48])))), none⟩]) (.cond (.t 9) .skip (.exit 0))) (.blk 1 (.seq
  (.reg [⟨(some 11), (.mv (.t 0)), none⟩, ⟨(some 12), (.mv (.t 1)), none⟩, ⟨(some 13), (.callR (.k (.fn 148 [])) [(.t 11), (.t 12)]), none⟩, ⟨(some 10), (.mv
  (.t 13)), none⟩, ⟨(some 14), (.ext 0 (.t 10)), none⟩, ⟨(some 15), (.ext 1 (.t 10)), none⟩, ⟨(some 16), (.ext 2 (.t 10)), none⟩, ⟨(some 5), (.mv (.t 14)),
  none⟩, ⟨(some 6), (.mv (.t 15)), none⟩, ⟨(some 7), (.mv (.t 16)), none⟩]) (.seq (.seq (.reg [⟨(some 17), (.mv (.t 7)), none⟩, ⟨(some 18), (.bin .neq (.t 17)
  (.k (.int .i64 0))), none⟩]) (.cond (.t 18) (.seq (.reg [⟨(some 4), (.mv (.k (.str (bytes [])))), none⟩]) .ret) .skip)) (.reg [⟨(some 19), (.mv (.t 1)),
  none⟩, ⟨(some 20), (.mv (.t 6)), none⟩, ⟨(some 0), (.mv (.t 19)), none⟩, ⟨(some 1), (.mv (.t 20)), none⟩]))))

/- schisma/decimal.Gcd -/
def s160 : SFunc :=
  ⟨2, [(.t 4)], (.seq (.reg [⟨(some 4), (.mv (.k (.str (bytes [])))), none⟩]) (.seq (.blk 0 (.loop s160_0)) (.seq (.reg [⟨(some 21), (.mv (.t 0)), none⟩, ⟨(some
  4), (.mv (.t 21)), none⟩]) .ret)))⟩

/- schisma/whole.Compare -/
def s162 : SFunc :=
  ⟨2, [(.t 4)], (.seq (.reg [⟨(some 4), (.mv (.k (.int .i64 0))), none⟩]) (.seq (.seq (.reg [⟨(some 11), (.mv (.t 0)), none⟩, ⟨(some 12), (.callR (.k (.fn 114
  [])) [(.t 11)]), none⟩, ⟨(some 13), (.mv (.t 1)), none⟩, ⟨(some 14), (.callR (.k (.fn 114 [])) [(.t 13)]), none⟩, ⟨(some 5), (.mv (.t 12)), none⟩, ⟨(some 6),
  (.mv (.t 14)), none⟩]) (.seq (.reg [⟨(some 15), (.mv (.t 5)), none⟩, ⟨(some 16), (.mv (.t 6)), none⟩, ⟨(some 17), (.bin .neq (.t 15) (.t 16)), none⟩]) (.cond
  (.t 17) (.seq (.seq (.reg [⟨(some 18), (.mv (.t 5)), none⟩, ⟨(some 19), (.mv (.t 6)), none⟩, ⟨(some 20), (.bin .lss (.t 18) (.t 19)), none⟩]) (.cond (.t 20)
  (.seq (.reg [⟨(some 4), (.mv (.k (.int .i64 (-1)))), none⟩]) .ret) .skip)) (.seq (.reg [⟨(some 4), (.mv (.k (.int .i64 1))), none⟩]) .ret)) .skip))) (.seq
  (.reg [⟨(some 22), (.mv (.t 0)), none⟩, ⟨(some 23), (.callR (.k (.fn 121 [])) [(.t 22)]), none⟩, ⟨(some 21), (.mv (.t 23)), none⟩, ⟨(some 24), (.ext 0 (.t
  21)), none⟩, ⟨(some 25), (.ext 1 (.t 21)), none⟩, ⟨(some 7), (.mv (.t 24)), none⟩, ⟨(some 8), (.mv (.t 25)), none⟩]) (.seq (.reg [⟨(some 27), (.mv (.t 1)),
  none⟩, ⟨(some 28), (.callR (.k (.fn 121 [])) [(.t 27)]), none⟩, ⟨(some 26), (.mv (.t 28)), none⟩, ⟨(some 29), (.ext 0 (.t 26)), none⟩, ⟨(some 30), (.ext 1 (.t
  26)), none⟩, ⟨(some 9), (.mv (.t 29)), none⟩, ⟨(some 10), (.mv (.t 30)), none⟩]) (.seq (.seq (.reg [⟨(some 31), (.mv (.t 7)), none⟩]) (.cond (.t 31) (.reg
  [⟨(some 32), (.mv (.t 10)), none⟩, ⟨(some 33), (.mv (.t 8)), none⟩, ⟨(some 8), (.mv (.t 32)), none⟩, ⟨(some 10), (.mv (.t 33)), none⟩]) .skip)) (.seq (.reg
  [⟨(some 34), (.mv (.t 8)), none⟩, ⟨(some 35), (.mv (.t 10)), none⟩, ⟨(some 36), (.callR (.k (.fn 176 [])) [(.t 34), (.t 35)]), none⟩, ⟨(some 4), (.mv (.t
  36)), none⟩]) .ret))))))⟩

def s163_0 : SCode :=
  .seq (.reg [⟨(some 11), (.bin .lss (.t 10) (.t 9)), none⟩]) (.seq (.cond (.t 11) .skip (.exit 0)) (.seq (.blk 1 (.seq (.reg [⟨(some 12), (.iad 1 (.t 8) (.t
  10)), none⟩, ⟨(some 13), (.ld 1 false (.t 12)), none⟩, ⟨(some 6), (.mv (.t 13)), none⟩]) (.seq (.seq (.reg [⟨(some 14), (.mv (.t 6)), none⟩, ⟨(some 15),
  (.callR (.k (.fn 132 [])) [(.t 14)]), none⟩, ⟨(some 7), (.mv (.t 15)), none⟩]) (.seq (.reg [⟨(some 16), (.mv (.t 7)), none⟩, ⟨(some 17), (.bin .neq (.t 16)
  (.k (.int .i64 0))), none⟩]) (.cond (.t 17) (.seq (.reg [⟨(some 18), (.mv (.t 7)), none⟩, ⟨(some 4), (.mv (.t 18)), none⟩]) .ret) .skip))) (.seq (.reg [⟨(some
  19), (.mv (.t 6)), none⟩, ⟨(some 20), (.len (.t 19)), none⟩, ⟨(some 21), (.mv (.t 1)), none⟩, ⟨(some 22), (.bin .neq (.t 20) (.t 21)), none⟩]) (.cond (.t 22)
  (.seq (.reg [⟨(some 4), (.mv (.k (.int .i64 5))), none⟩]) .ret) .skip))))) (.reg [⟨(some 23), (.bin .add (.t 10) (.k (.int .i64 1))), none⟩, ⟨(some 10), (.mv
  (.t 23)), none⟩])))

/- schisma/row.CheckAll -/
def s163 : SFunc :=
  ⟨2, [(.t 4)], (.seq (.reg [⟨(some 4), (.mv (.k (.int .i64 0))), none⟩]) (.seq (.seq (.reg [⟨(some 8), (.mv (.t 0)), none⟩, ⟨(some 9), (.len (.t 8)), none⟩,
  ⟨(some 10), (.mv (.k (.int .i64 0))), none⟩]) (.blk 0 (.loop s163_0))) (.seq (.reg [⟨(some 4), (.mv (.k (.int .i64 0))), none⟩]) .ret)))⟩

def s164_0 : SCode :=
  .seq (.reg [⟨(some 12), (.bin .lss (.t 11) (.t 10)), none⟩]) (.seq (.cond (.t 12) .skip (.exit 0)) (.seq (.blk 1 (.seq (.reg [⟨(some 13), (.iad 1 (.t 9) (.t
  11)), none⟩, ⟨(some 14), (.ld 1 false (.t 13)), none⟩, ⟨(some 5), (.mv (.t 14)), none⟩]) (.reg [⟨(some 15), (.mv (.t 3)), none⟩, ⟨(some 16), (.mv (.t 5)),
  none⟩, ⟨(some 17), (.callR (.k (.fn 123 [])) [(.t 16)]), none⟩, ⟨(some 18), (.bsl 1 [(.str (bytes []))] 1 [(0, (.t 17))]), none⟩, ⟨(some 19), (.app 1 (.t 15)
  (.t 18)), none⟩, ⟨(some 3), (.mv (.t 19)), none⟩]))) (.reg [⟨(some 20), (.bin .add (.t 11) (.k (.int .i64 1))), none⟩, ⟨(some 11), (.mv (.t 20)), none⟩])))

/- schisma/lattice.longOf -/
def s164 : SFunc :=
  ⟨1, [(.t 2)], (.seq (.reg [⟨(some 2), (.mv (.k (.z true))), none⟩]) (.seq (.reg [⟨(some 6), (.mv (.t 0)), none⟩, ⟨(some 7), (.len (.t 6)), none⟩, ⟨(some 8),
  (.mks 1 [(.str (bytes []))] (.k (.int .i64 0)) (.t 7)), none⟩, ⟨(some 3), (.mv (.t 8)), none⟩]) (.seq (.seq (.reg [⟨(some 9), (.mv (.t 0)), none⟩, ⟨(some 10),
  (.len (.t 9)), none⟩, ⟨(some 11), (.mv (.k (.int .i64 0))), none⟩]) (.blk 0 (.loop s164_0))) (.seq (.reg [⟨(some 21), (.mv (.t 3)), none⟩, ⟨(some 2), (.mv (.t
  21)), none⟩]) .ret))))⟩

def s165_0 : SCode :=
  .seq (.reg [⟨(some 13), (.bin .lss (.t 12) (.t 11)), none⟩]) (.seq (.cond (.t 13) .skip (.exit 0)) (.seq (.blk 1 (.seq (.reg [⟨(some 14), (.mv (.t 12)), none⟩,
  ⟨(some 15), (.iad 1 (.t 10) (.t 12)), none⟩, ⟨(some 16), (.ld 1 false (.t 15)), none⟩, ⟨(some 6), (.mv (.t 14)), none⟩, ⟨(some 7), (.mv (.t 16)), none⟩])
  (.reg [⟨(some 17), (.mv (.t 0)), none⟩, ⟨(some 18), (.mv (.t 6)), none⟩, ⟨(some 19), (.mv (.t 0)), none⟩, ⟨(some 20), (.mv (.t 6)), none⟩, ⟨(some 21), (.iad 1
  (.t 19) (.t 20)), none⟩, ⟨(some 22), (.ld 1 false (.t 21)), none⟩, ⟨(some 23), (.mv (.t 1)), none⟩, ⟨(some 24), (.mv (.t 7)), none⟩, ⟨(some 25), (.callR (.k
  (.fn 97 [])) [(.t 23), (.t 24)]), none⟩, ⟨(some 26), (.callR (.k (.fn 202 [])) [(.t 22), (.t 25)]), none⟩, ⟨(some 27), (.iad 1 (.t 17) (.t 18)), none⟩, ⟨none,
  (.st 1 (.t 27) (.t 26)), none⟩]))) (.reg [⟨(some 28), (.bin .add (.t 12) (.k (.int .i64 1))), none⟩, ⟨(some 12), (.mv (.t 28)), none⟩])))

/- (schisma/lattice.long).less -/
def s165 : SFunc :=
  ⟨3, [], (.seq (.seq (.reg [⟨(some 8), (.mv (.t 1)), none⟩, ⟨(some 9), (.bin .eql (.t 8) (.k (.str (bytes [48])))), none⟩]) (.cond (.t 9) .ret .skip)) (.seq
  (.reg [⟨(some 10), (.mv (.t 2)), none⟩, ⟨(some 11), (.len (.t 10)), none⟩, ⟨(some 12), (.mv (.k (.int .i64 0))), none⟩]) (.blk 0 (.loop s165_0))))⟩

def s166_0 : SCode :=
  .seq (.reg [⟨(some 7), (.bin .lss (.t 6) (.t 5)), none⟩]) (.seq (.cond (.t 7) .skip (.exit 0)) (.seq (.blk 1 (.seq (.reg [⟨(some 8), (.mv (.t 6)), none⟩, ⟨(some
  9), (.iad 1 (.t 4) (.t 6)), none⟩, ⟨(some 10), (.ld 1 false (.t 9)), none⟩, ⟨(some 2), (.mv (.t 8)), none⟩, ⟨(some 3), (.mv (.t 10)), none⟩]) (.reg [⟨(some
  11), (.mv (.t 0)), none⟩, ⟨(some 12), (.mv (.t 2)), none⟩, ⟨(some 13), (.mv (.t 3)), none⟩, ⟨(some 14), (.callR (.k (.fn 137 [])) [(.t 13)]), none⟩, ⟨(some
  15), (.iad 1 (.t 11) (.t 12)), none⟩, ⟨none, (.st 1 (.t 15) (.t 14)), none⟩]))) (.reg [⟨(some 16), (.bin .add (.t 6) (.k (.int .i64 1))), none⟩, ⟨(some 6),
  (.mv (.t 16)), none⟩])))

/- (schisma/lattice.long).negate -/
def s166 : SFunc :=
  ⟨1, [], (.seq (.reg [⟨(some 4), (.mv (.t 0)), none⟩, ⟨(some 5), (.len (.t 4)), none⟩, ⟨(some 6), (.mv (.k (.int .i64 0))), none⟩]) (.blk 0 (.loop s166_0)))⟩

def s167_0 : SCode :=
  .seq (.reg [⟨(some 15), (.bin .lss (.t 14) (.t 13)), none⟩]) (.seq (.cond (.t 15) .skip (.exit 0)) (.seq (.blk 1 (.seq (.reg [⟨(some 16), (.iad 1 (.t 12) (.t
  14)), none⟩, ⟨(some 17), (.ld 1 false (.t 16)), none⟩, ⟨(some 6), (.mv (.t 17)), none⟩]) (.seq (.reg [⟨(some 19), (.mv (.t 6)), none⟩, ⟨(some 20), (.callR (.k
  (.fn 93 [])) [(.t 19)]), none⟩, ⟨(some 18), (.mv (.t 20)), none⟩, ⟨(some 21), (.ext 0 (.t 18)), none⟩, ⟨(some 22), (.ext 1 (.t 18)), none⟩, ⟨(some 7), (.mv
  (.t 21)), none⟩, ⟨(some 8), (.mv (.t 22)), none⟩]) (.seq (.seq (.reg [⟨(some 23), (.mv (.t 8)), none⟩, ⟨(some 24), (.un .not (.t 23)), none⟩, ⟨(some 25), (.mv
  (.t 24)), none⟩, ⟨(some 26), (.mv (.t 7)), (some (25, false))⟩, ⟨(some 27), (.bin .gtr (.t 26) (.k (.int .i64 1000000000))), (some (25, false))⟩, ⟨(some 28),
  (.pick (.t 25) (.k (.bool true)) (.t 27)), none⟩, ⟨(some 29), (.mv (.t 28)), none⟩, ⟨(some 30), (.mv (.t 7)), (some (29, false))⟩, ⟨(some 31), (.bin .lss (.t
  30) (.k (.int .i64 (-1000000000)))), (some (29, false))⟩, ⟨(some 32), (.pick (.t 29) (.k (.bool true)) (.t 31)), none⟩]) (.cond (.t 32) (.seq (.reg [⟨(some
  2), (.mv (.k (.z true))), none⟩, ⟨(some 3), (.mv (.k (.int .i64 4))), none⟩]) .ret) .skip)) (.reg [⟨(some 33), (.mv (.t 4)), none⟩, ⟨(some 34), (.mv (.t 7)),
  none⟩, ⟨(some 35), (.bsl 1 [(.int .i64 0)] 1 [(0, (.t 34))]), none⟩, ⟨(some 36), (.app 1 (.t 33) (.t 35)), none⟩, ⟨(some 4), (.mv (.t 36)), none⟩]))))) (.reg
  [⟨(some 37), (.bin .add (.t 14) (.k (.int .i64 1))), none⟩, ⟨(some 14), (.mv (.t 37)), none⟩])))

/- (schisma/lattice.long).short -/
def s167 : SFunc :=
  ⟨1, [(.t 2), (.t 3)], (.seq (.reg [⟨(some 2), (.mv (.k (.z true))), none⟩, ⟨(some 3), (.mv (.k (.int .i64 0))), none⟩]) (.seq (.reg [⟨(some 9), (.mv (.t 0)),
  none⟩, ⟨(some 10), (.len (.t 9)), none⟩, ⟨(some 11), (.mks 1 [(.int .i64 0)] (.k (.int .i64 0)) (.t 10)), none⟩, ⟨(some 4), (.mv (.t 11)), none⟩]) (.seq (.seq
  (.reg [⟨(some 12), (.mv (.t 0)), none⟩, ⟨(some 13), (.len (.t 12)), none⟩, ⟨(some 14), (.mv (.k (.int .i64 0))), none⟩]) (.blk 0 (.loop s167_0))) (.seq (.reg
  [⟨(some 38), (.mv (.t 4)), none⟩, ⟨(some 2), (.mv (.t 38)), none⟩, ⟨(some 3), (.mv (.k (.int .i64 0))), none⟩]) .ret))))⟩

/- schisma/hermite.IsForm -/
def s168 : SFunc :=
  ⟨1, [(.t 2), (.t 3)], (.seq (.reg [⟨(some 2), (.mv (.k (.bool false))), none⟩, ⟨(some 3), (.mv (.k (.int .i64 0))), none⟩]) (.seq (.seq (.reg [⟨(some 5), (.mv
  (.t 0)), none⟩, ⟨(some 6), (.callR (.k (.fn 203 [])) [(.t 5)]), none⟩, ⟨(some 4), (.mv (.t 6)), none⟩]) (.seq (.reg [⟨(some 7), (.mv (.t 4)), none⟩, ⟨(some
  8), (.bin .neq (.t 7) (.k (.int .i64 0))), none⟩]) (.cond (.t 8) (.seq (.reg [⟨(some 9), (.mv (.t 4)), none⟩, ⟨(some 2), (.mv (.k (.bool false))), none⟩,
  ⟨(some 3), (.mv (.t 9)), none⟩]) .ret) .skip))) (.seq (.reg [⟨(some 10), (.mv (.t 0)), none⟩, ⟨(some 11), (.callR (.k (.fn 204 [])) [(.t 10)]), none⟩, ⟨(some
  2), (.mv (.t 11)), none⟩, ⟨(some 3), (.mv (.k (.int .i64 0))), none⟩]) .ret)))⟩

/- schisma/lattice.zeros -/
def s169 : SFunc :=
  ⟨1, [(.t 2)], (.seq (.reg [⟨(some 2), (.mv (.k (.z true))), none⟩]) (.seq (.reg [⟨(some 3), (.mv (.t 0)), none⟩, ⟨(some 4), (.mks 1 [(.int .i64 0)] (.t 3) (.t
  3)), none⟩, ⟨(some 5), (.callW (.k (.fn 164 [])) [(.t 4)]), none⟩, ⟨(some 2), (.mv (.t 5)), none⟩]) .ret))⟩

def s170_0 : SCode :=
  .seq (.reg [⟨(some 13), (.bin .lss (.t 12) (.t 11)), none⟩]) (.seq (.cond (.t 13) .skip (.exit 0)) (.seq (.blk 1 (.seq (.reg [⟨(some 14), (.iad 1 (.t 10) (.t
  12)), none⟩, ⟨(some 15), (.ld 1 false (.t 14)), none⟩, ⟨(some 9), (.mv (.t 15)), none⟩]) (.seq (.reg [⟨(some 16), (.mv (.t 9)), none⟩, ⟨(some 17), (.callW (.k
  (.fn 205 [])) [(.t 16)]), none⟩, ⟨(some 18), (.mv (.t 1)), none⟩, ⟨(some 19), (.bin .geq (.t 17) (.t 18)), none⟩]) (.cond (.t 19) (.reg [⟨(some 20), (.mv (.t
  7)), none⟩, ⟨(some 21), (.mv (.t 9)), none⟩, ⟨(some 22), (.mv (.t 1)), none⟩, ⟨(some 23), (.slc 1 (.t 21) (some (.t 22)) none), none⟩, ⟨(some 24), (.bsl 1
  [(.z true)] 1 [(0, (.t 23))]), none⟩, ⟨(some 25), (.app 1 (.t 20) (.t 24)), none⟩, ⟨(some 7), (.mv (.t 25)), none⟩]) .skip)))) (.reg [⟨(some 26), (.bin .add
  (.t 12) (.k (.int .i64 1))), none⟩, ⟨(some 12), (.mv (.t 26)), none⟩])))

/- (schisma/lattice.longs).behind -/
def s170 : SFunc :=
  ⟨3, [(.t 6)], (.seq (.reg [⟨(some 6), (.mv (.k (.z true))), none⟩]) (.seq (.reg [⟨(some 7), (.mv (.k (.z true))), none⟩]) (.seq (.seq (.reg [⟨(some 10), (.mv
  (.t 0)), none⟩, ⟨(some 11), (.len (.t 10)), none⟩, ⟨(some 12), (.mv (.k (.int .i64 0))), none⟩]) (.blk 0 (.loop s170_0))) (.seq (.reg [⟨(some 27), (.mv (.t
  7)), none⟩, ⟨(some 28), (.mv (.t 2)), none⟩, ⟨(some 29), (.callW (.k (.fn 127 [])) [(.t 27), (.t 28)]), none⟩, ⟨(some 6), (.mv (.t 29)), none⟩]) .ret))))⟩

/- schisma/lattice.Equal -/
def s171 : SFunc :=
  ⟨2, [(.t 4)], (.seq (.reg [⟨(some 2), (.box 2 (.t 0)), none⟩, ⟨(some 3), (.box 2 (.t 1)), none⟩, ⟨(some 4), (.mv (.k (.bool false))), none⟩]) (.seq (.reg
  [⟨(some 5), (.fad 0 (.t 2)), none⟩, ⟨(some 6), (.ld 1 false (.t 5)), none⟩, ⟨(some 7), (.fad 0 (.t 3)), none⟩, ⟨(some 8), (.ld 1 false (.t 7)), none⟩, ⟨(some
  9), (.bin .eql (.t 6) (.t 8)), none⟩, ⟨(some 10), (.mv (.t 9)), none⟩, ⟨(some 11), (.fad 1 (.t 2)), (some (10, true))⟩, ⟨(some 12), (.ld 1 false (.t 11)),
  (some (10, true))⟩, ⟨(some 13), (.fad 1 (.t 3)), (some (10, true))⟩, ⟨(some 14), (.ld 1 false (.t 13)), (some (10, true))⟩, ⟨(some 15), (.callW (.k (.fn 206
  [])) [(.t 12), (.t 14), (.k (.fn 207 []))]), (some (10, true))⟩, ⟨(some 16), (.pick (.t 10) (.t 15) (.k (.bool false))), none⟩, ⟨(some 4), (.mv (.t 16)),
  none⟩]) .ret))⟩

/- schisma/temperament.same -/
def s172 : SFunc :=
  ⟨2, [(.t 4)], (.seq (.reg [⟨(some 4), (.mv (.k (.bool false))), none⟩]) (.seq (.reg [⟨(some 5), (.mv (.t 0)), none⟩, ⟨(some 6), (.mv (.t 1)), none⟩, ⟨(some 7),
  (.callW (.k (.fn 206 [])) [(.t 5), (.t 6), (.k (.fn 208 []))]), none⟩, ⟨(some 4), (.mv (.t 7)), none⟩]) .ret))⟩

/- slices.ContainsFunc[schisma/api.Row,int] -/
def s173 : SFunc :=
  ⟨2, [(.t 4)], (.seq (.reg [⟨(some 4), (.mv (.k (.bool false))), none⟩]) (.seq (.reg [⟨(some 5), (.mv (.t 0)), none⟩, ⟨(some 6), (.mv (.t 1)), none⟩, ⟨(some 7),
  (.callW (.k (.fn 209 [])) [(.t 5), (.t 6)]), none⟩, ⟨(some 8), (.bin .geq (.t 7) (.k (.int .i64 0))), none⟩, ⟨(some 4), (.mv (.t 8)), none⟩]) .ret))⟩

/- schisma/row.Check$1 -/
def s174 : SFunc :=
  ⟨1, [(.t 2)], (.seq (.reg [⟨(some 2), (.mv (.k (.bool false))), none⟩]) (.seq (.reg [⟨(some 3), (.mv (.t 0)), none⟩, ⟨(some 4), (.callR (.k (.fn 175 [])) [(.t
  3)]), none⟩, ⟨(some 5), (.un .not (.t 4)), none⟩, ⟨(some 2), (.mv (.t 5)), none⟩]) .ret))⟩

/- schisma/row.fits -/
def s175 : SFunc :=
  ⟨1, [(.t 2)], (.seq (.reg [⟨(some 2), (.mv (.k (.bool false))), none⟩]) (.seq (.reg [⟨(some 3), (.mv (.t 0)), none⟩, ⟨(some 4), (.bin .geq (.t 3) (.k (.int .i64
  (-1000000000)))), none⟩, ⟨(some 5), (.mv (.t 4)), none⟩, ⟨(some 6), (.mv (.t 0)), (some (5, true))⟩, ⟨(some 7), (.bin .leq (.t 6) (.k (.int .i64
  1000000000))), (some (5, true))⟩, ⟨(some 8), (.pick (.t 5) (.t 7) (.k (.bool false))), none⟩, ⟨(some 2), (.mv (.t 8)), none⟩]) .ret))⟩

/- schisma/decimal.Compare -/
def s176 : SFunc :=
  ⟨2, [(.t 4)], (.seq (.reg [⟨(some 4), (.mv (.k (.int .i64 0))), none⟩]) (.seq (.blk 0 (.seq (.reg [⟨(some 6), (.mv (.t 0)), none⟩, ⟨(some 7), (.lens (.t 6)),
  none⟩, ⟨(some 8), (.mv (.t 1)), none⟩, ⟨(some 9), (.lens (.t 8)), none⟩, ⟨(some 10), (.bin .neq (.t 7) (.t 9)), none⟩, ⟨(some 5), (.mv (.t 10)), none⟩])
  (.cond (.t 5) (.seq (.reg [⟨(some 11), (.mv (.t 0)), none⟩, ⟨(some 12), (.lens (.t 11)), none⟩, ⟨(some 13), (.mv (.t 1)), none⟩, ⟨(some 14), (.lens (.t 13)),
  none⟩, ⟨(some 15), (.bin .sub (.t 12) (.t 14)), none⟩, ⟨(some 16), (.mm true [(.k (.int .i64 (-1))), (.t 15)]), none⟩, ⟨(some 17), (.mm false [(.k (.int .i64
  1)), (.t 16)]), none⟩, ⟨(some 4), (.mv (.t 17)), none⟩]) .ret) (.seq (.reg [⟨(some 19), (.mv (.t 0)), none⟩, ⟨(some 20), (.mv (.t 1)), none⟩, ⟨(some 21),
  (.bin .lss (.t 19) (.t 20)), none⟩, ⟨(some 18), (.mv (.t 21)), none⟩]) (.cond (.t 18) (.seq (.reg [⟨(some 4), (.mv (.k (.int .i64 (-1)))), none⟩]) .ret) (.seq
  (.reg [⟨(some 23), (.mv (.t 0)), none⟩, ⟨(some 24), (.mv (.t 1)), none⟩, ⟨(some 25), (.bin .gtr (.t 23) (.t 24)), none⟩, ⟨(some 22), (.mv (.t 25)), none⟩])
  (.cond (.t 22) (.seq (.reg [⟨(some 4), (.mv (.k (.int .i64 1))), none⟩]) .ret) .skip))))))) (.seq (.reg [⟨(some 4), (.mv (.k (.int .i64 0))), none⟩]) .ret)))⟩

/- schisma/fraction.little -/
def s179 : SFunc :=
  ⟨1, [(.t 2), (.t 3)], (.seq (.reg [⟨(some 2), (.mv (.k (.int .i64 0))), none⟩, ⟨(some 3), (.mv (.k (.bool false))), none⟩]) (.seq (.seq (.reg [⟨(some 6), (.mv
  (.t 0)), none⟩, ⟨(some 7), (.lens (.t 6)), none⟩, ⟨(some 8), (.bin .gtr (.t 7) (.k (.int .i64 9))), none⟩]) (.cond (.t 8) (.seq (.reg [⟨(some 2), (.mv (.k
  (.int .i64 0))), none⟩, ⟨(some 3), (.mv (.k (.bool false))), none⟩]) .ret) .skip)) (.seq (.reg [⟨(some 10), (.mv (.t 0)), none⟩, ⟨(some 11), (.callR (.k (.fn
  180 [])) [(.t 10)]), none⟩, ⟨(some 9), (.mv (.t 11)), none⟩, ⟨(some 12), (.ext 0 (.t 9)), none⟩, ⟨(some 13), (.ext 1 (.t 9)), none⟩, ⟨(some 4), (.mv (.t 12)),
  none⟩, ⟨(some 5), (.mv (.t 13)), none⟩]) (.seq (.reg [⟨(some 14), (.mv (.t 4)), none⟩, ⟨(some 15), (.mv (.t 5)), none⟩, ⟨(some 16), (.nilq 0 false (.t 15)),
  none⟩, ⟨(some 2), (.mv (.t 14)), none⟩, ⟨(some 3), (.mv (.t 16)), none⟩]) .ret))))⟩

/- schisma/decimal.both -/
def s181 : SFunc :=
  ⟨2, [(.t 4), (.t 5), (.t 6)], (.seq (.reg [⟨(some 4), (.mv (.k (.int .u64 0))), none⟩, ⟨(some 5), (.mv (.k (.int .u64 0))), none⟩, ⟨(some 6), (.mv (.k (.bool
  false))), none⟩]) (.seq (.seq (.reg [⟨(some 7), (.mv (.t 0)), none⟩, ⟨(some 8), (.lens (.t 7)), none⟩, ⟨(some 9), (.bin .gtr (.t 8) (.k (.int .i64 18))),
  none⟩, ⟨(some 10), (.mv (.t 9)), none⟩, ⟨(some 11), (.mv (.t 1)), (some (10, false))⟩, ⟨(some 12), (.lens (.t 11)), (some (10, false))⟩, ⟨(some 13), (.bin
  .gtr (.t 12) (.k (.int .i64 18))), (some (10, false))⟩, ⟨(some 14), (.pick (.t 10) (.k (.bool true)) (.t 13)), none⟩]) (.cond (.t 14) (.seq (.reg [⟨(some 4),
  (.mv (.k (.int .u64 0))), none⟩, ⟨(some 5), (.mv (.k (.int .u64 0))), none⟩, ⟨(some 6), (.mv (.k (.bool false))), none⟩]) .ret) .skip)) (.seq (.reg [⟨(some
  16), (.mv (.t 0)), none⟩, ⟨(some 17), (.callR (.k (.fn 216 [])) [(.t 16)]), none⟩, ⟨(some 15), (.mv (.t 17)), none⟩, ⟨(some 18), (.ext 0 (.t 15)), none⟩,
  ⟨(some 19), (.ext 1 (.t 15)), none⟩, ⟨(some 4), (.mv (.t 18)), none⟩]) (.seq (.reg [⟨(some 21), (.mv (.t 1)), none⟩, ⟨(some 22), (.callR (.k (.fn 216 []))
  [(.t 21)]), none⟩, ⟨(some 20), (.mv (.t 22)), none⟩, ⟨(some 23), (.ext 0 (.t 20)), none⟩, ⟨(some 24), (.ext 1 (.t 20)), none⟩, ⟨(some 5), (.mv (.t 23)),
  none⟩]) (.seq (.reg [⟨(some 25), (.mv (.t 4)), none⟩, ⟨(some 26), (.mv (.t 5)), none⟩, ⟨(some 4), (.mv (.t 25)), none⟩, ⟨(some 5), (.mv (.t 26)), none⟩,
  ⟨(some 6), (.mv (.k (.bool true))), none⟩]) .ret)))))⟩

/- schisma/decimal.Of -/
def s182 : SFunc :=
  ⟨1, [(.t 2)], (.seq (.reg [⟨(some 2), (.mv (.k (.str (bytes [])))), none⟩]) (.seq (.reg [⟨(some 3), (.mv (.t 0)), none⟩, ⟨(some 4), (.callR (.k (.fn 217 []))
  [(.t 3), (.k (.int .i64 10))]), none⟩, ⟨(some 2), (.mv (.t 4)), none⟩]) .ret))⟩

def s183_1 : SCode :=
  .seq (.reg [⟨(some 28), (.bin .lss (.t 27) (.t 26)), none⟩]) (.seq (.cond (.t 28) .skip (.exit 2)) (.seq (.blk 3 (.seq (.reg [⟨(some 29), (.iad 1 (.t 25) (.t
  27)), none⟩, ⟨(some 30), (.ld 1 false (.t 29)), none⟩, ⟨(some 7), (.mv (.t 30)), none⟩]) (.reg [⟨(some 31), (.mv (.t 5)), none⟩, ⟨(some 32), (.bin .mul (.k
  (.int .u64 10)) (.t 31)), none⟩, ⟨(some 33), (.mv (.t 7)), none⟩, ⟨(some 34), (.bin .sub (.t 33) (.k (.int .u8 48))), none⟩, ⟨(some 35), (.conv .u64 (.t 34)),
  none⟩, ⟨(some 36), (.bin .add (.t 32) (.t 35)), none⟩, ⟨(some 5), (.mv (.t 36)), none⟩]))) (.reg [⟨(some 37), (.bin .add (.t 27) (.k (.int .i64 1))), none⟩,
  ⟨(some 27), (.mv (.t 37)), none⟩])))

def s183_0 : SCode :=
  .seq (.seq (.reg [⟨(some 15), (.mv (.t 4)), none⟩, ⟨(some 16), (.bin .gtr (.t 15) (.k (.int .i64 0))), none⟩]) (.cond (.t 16) .skip (.exit 0))) (.seq (.blk 1
  (.seq (.reg [⟨(some 5), (.mv (.k (.int .u64 0))), none⟩]) (.seq (.seq (.reg [⟨(some 19), (.mv (.t 0)), none⟩, ⟨(some 20), (.mv (.t 4)), none⟩, ⟨(some 21),
  (.bin .sub (.t 20) (.k (.int .i64 9))), none⟩, ⟨(some 22), (.mm true [(.k (.int .i64 0)), (.t 21)]), none⟩, ⟨(some 23), (.mv (.t 4)), none⟩, ⟨(some 24),
  (.slcs (.t 19) (some (.t 22)) (some (.t 23))), none⟩, ⟨(some 25), (.s2b (.t 24)), none⟩, ⟨(some 26), (.len (.t 25)), none⟩, ⟨(some 27), (.mv (.k (.int .i64
  0))), none⟩]) (.blk 2 (.loop s183_1))) (.reg [⟨(some 38), (.mv (.t 3)), none⟩, ⟨(some 39), (.mv (.t 5)), none⟩, ⟨(some 40), (.bsl 1 [(.int .u64 0)] 1 [(0, (.t
  39))]), none⟩, ⟨(some 41), (.app 1 (.t 38) (.t 40)), none⟩, ⟨(some 3), (.mv (.t 41)), none⟩])))) (.reg [⟨(some 17), (.mv (.t 4)), none⟩, ⟨(some 18), (.bin
  .sub (.t 17) (.k (.int .i64 9))), none⟩, ⟨(some 4), (.mv (.t 18)), none⟩]))

/- schisma/decimal.cut -/
def s183 : SFunc :=
  ⟨1, [(.t 2)], (.seq (.reg [⟨(some 2), (.mv (.k (.z true))), none⟩]) (.seq (.reg [⟨(some 8), (.mv (.t 0)), none⟩, ⟨(some 9), (.lens (.t 8)), none⟩, ⟨(some 10),
  (.bin .quo (.t 9) (.k (.int .i64 9))), none⟩, ⟨(some 11), (.bin .add (.t 10) (.k (.int .i64 1))), none⟩, ⟨(some 12), (.mks 1 [(.int .u64 0)] (.k (.int .i64
  0)) (.t 11)), none⟩, ⟨(some 3), (.mv (.t 12)), none⟩]) (.seq (.seq (.reg [⟨(some 13), (.mv (.t 0)), none⟩, ⟨(some 14), (.lens (.t 13)), none⟩, ⟨(some 4), (.mv
  (.t 14)), none⟩]) (.blk 0 (.loop s183_0))) (.seq (.reg [⟨(some 42), (.mv (.t 3)), none⟩, ⟨(some 43), (.callW (.k (.fn 193 [])) [(.t 42)]), none⟩, ⟨(some 2),
  (.mv (.t 43)), none⟩]) .ret))))⟩

def s184_1 : SCode :=
  .seq (.reg [⟨(some 27), (.bin .lss (.t 26) (.t 25)), none⟩]) (.seq (.cond (.t 27) .skip (.exit 2)) (.seq (.blk 3 (.seq (.reg [⟨(some 28), (.mv (.t 26)), none⟩,
  ⟨(some 29), (.iad 1 (.t 24) (.t 26)), none⟩, ⟨(some 30), (.ld 1 false (.t 29)), none⟩, ⟨(some 9), (.mv (.t 28)), none⟩, ⟨(some 10), (.mv (.t 30)), none⟩])
  (.seq (.reg [⟨(some 31), (.mv (.t 8)), none⟩, ⟨(some 32), (.mv (.t 5)), none⟩, ⟨(some 33), (.mv (.t 6)), none⟩, ⟨(some 34), (.mv (.t 9)), none⟩, ⟨(some 35),
  (.bin .add (.t 33) (.t 34)), none⟩, ⟨(some 36), (.iad 1 (.t 32) (.t 35)), none⟩, ⟨(some 37), (.ld 1 false (.t 36)), none⟩, ⟨(some 38), (.mv (.t 7)), none⟩,
  ⟨(some 39), (.mv (.t 10)), none⟩, ⟨(some 40), (.bin .mul (.t 38) (.t 39)), none⟩, ⟨(some 41), (.bin .add (.t 37) (.t 40)), none⟩, ⟨(some 42), (.bin .add (.t
  31) (.t 41)), none⟩, ⟨(some 8), (.mv (.t 42)), none⟩]) (.seq (.reg [⟨(some 43), (.mv (.t 5)), none⟩, ⟨(some 44), (.mv (.t 6)), none⟩, ⟨(some 45), (.mv (.t
  9)), none⟩, ⟨(some 46), (.bin .add (.t 44) (.t 45)), none⟩, ⟨(some 47), (.mv (.t 8)), none⟩, ⟨(some 48), (.bin .rem (.t 47) (.k (.int .u64 1000000000))),
  none⟩, ⟨(some 49), (.iad 1 (.t 43) (.t 46)), none⟩, ⟨none, (.st 1 (.t 49) (.t 48)), none⟩]) (.reg [⟨(some 50), (.mv (.t 8)), none⟩, ⟨(some 51), (.bin .quo (.t
  50) (.k (.int .u64 1000000000))), none⟩, ⟨(some 8), (.mv (.t 51)), none⟩]))))) (.reg [⟨(some 52), (.bin .add (.t 26) (.k (.int .i64 1))), none⟩, ⟨(some 26),
  (.mv (.t 52)), none⟩])))

def s184_0 : SCode :=
  .seq (.reg [⟨(some 20), (.bin .lss (.t 19) (.t 18)), none⟩]) (.seq (.cond (.t 20) .skip (.exit 0)) (.seq (.blk 1 (.seq (.reg [⟨(some 21), (.mv (.t 19)), none⟩,
  ⟨(some 22), (.iad 1 (.t 17) (.t 19)), none⟩, ⟨(some 23), (.ld 1 false (.t 22)), none⟩, ⟨(some 6), (.mv (.t 21)), none⟩, ⟨(some 7), (.mv (.t 23)), none⟩])
  (.seq (.reg [⟨(some 8), (.mv (.k (.int .u64 0))), none⟩]) (.seq (.seq (.reg [⟨(some 24), (.mv (.t 1)), none⟩, ⟨(some 25), (.len (.t 24)), none⟩, ⟨(some 26),
  (.mv (.k (.int .i64 0))), none⟩]) (.blk 2 (.loop s184_1))) (.reg [⟨(some 53), (.mv (.t 5)), none⟩, ⟨(some 54), (.mv (.t 6)), none⟩, ⟨(some 55), (.mv (.t 1)),
  none⟩, ⟨(some 56), (.len (.t 55)), none⟩, ⟨(some 57), (.bin .add (.t 54) (.t 56)), none⟩, ⟨(some 58), (.mv (.t 8)), none⟩, ⟨(some 59), (.iad 1 (.t 53) (.t
  57)), none⟩, ⟨none, (.st 1 (.t 59) (.t 58)), none⟩]))))) (.reg [⟨(some 60), (.bin .add (.t 19) (.k (.int .i64 1))), none⟩, ⟨(some 19), (.mv (.t 60)),
  none⟩])))

/- (schisma/decimal.pieces).times -/
def s184 : SFunc :=
  ⟨2, [(.t 4)], (.seq (.reg [⟨(some 4), (.mv (.k (.z true))), none⟩]) (.seq (.reg [⟨(some 11), (.mv (.t 0)), none⟩, ⟨(some 12), (.len (.t 11)), none⟩, ⟨(some 13),
  (.mv (.t 1)), none⟩, ⟨(some 14), (.len (.t 13)), none⟩, ⟨(some 15), (.bin .add (.t 12) (.t 14)), none⟩, ⟨(some 16), (.mks 1 [(.int .u64 0)] (.t 15) (.t 15)),
  none⟩, ⟨(some 5), (.mv (.t 16)), none⟩]) (.seq (.seq (.reg [⟨(some 17), (.mv (.t 0)), none⟩, ⟨(some 18), (.len (.t 17)), none⟩, ⟨(some 19), (.mv (.k (.int
  .i64 0))), none⟩]) (.blk 0 (.loop s184_0))) (.seq (.reg [⟨(some 61), (.mv (.t 5)), none⟩, ⟨(some 62), (.callW (.k (.fn 193 [])) [(.t 61)]), none⟩, ⟨(some 4),
  (.mv (.t 62)), none⟩]) .ret))))⟩

def s185_1 : SCode :=
  .seq (.seq (.reg [⟨(some 21), (.mv (.t 6)), none⟩, ⟨(some 22), (.bin .lss (.t 21) (.k (.int .i64 9))), none⟩, ⟨(some 23), (.mv (.t 22)), none⟩, ⟨(some 24), (.mv
  (.t 4)), (some (23, true))⟩, ⟨(some 25), (.bin .add (.t 24) (.k (.int .i64 1))), (some (23, true))⟩, ⟨(some 26), (.mv (.t 0)), (some (23, true))⟩, ⟨(some 27),
  (.len (.t 26)), (some (23, true))⟩, ⟨(some 28), (.bin .lss (.t 25) (.t 27)), (some (23, true))⟩, ⟨(some 29), (.mv (.t 28)), (some (23, true))⟩, ⟨(some 30),
  (.mv (.t 5)), (some (29, false))⟩, ⟨(some 31), (.bin .gtr (.t 30) (.k (.int .u64 0))), (some (29, false))⟩, ⟨(some 32), (.pick (.t 29) (.k (.bool true)) (.t
  31)), (some (23, true))⟩, ⟨(some 33), (.pick (.t 23) (.t 32) (.k (.bool false))), none⟩]) (.cond (.t 33) .skip (.exit 2))) (.seq (.blk 3 (.seq (.reg [⟨(some
  36), (.mv (.t 3)), none⟩, ⟨(some 37), (.mv (.t 5)), none⟩, ⟨(some 38), (.bin .rem (.t 37) (.k (.int .u64 10))), none⟩, ⟨(some 39), (.bin .add (.k (.int .u64
  48)) (.t 38)), none⟩, ⟨(some 40), (.conv .u8 (.t 39)), none⟩, ⟨(some 41), (.bsl 1 [(.int .u8 0)] 1 [(0, (.t 40))]), none⟩, ⟨(some 42), (.app 1 (.t 36) (.t
  41)), none⟩, ⟨(some 3), (.mv (.t 42)), none⟩]) (.reg [⟨(some 43), (.mv (.t 5)), none⟩, ⟨(some 44), (.bin .quo (.t 43) (.k (.int .u64 10))), none⟩, ⟨(some 5),
  (.mv (.t 44)), none⟩]))) (.reg [⟨(some 34), (.mv (.t 6)), none⟩, ⟨(some 35), (.bin .add (.t 34) (.k (.int .i64 1))), none⟩, ⟨(some 6), (.mv (.t 35)), none⟩]))

def s185_0 : SCode :=
  .seq (.reg [⟨(some 17), (.bin .lss (.t 16) (.t 15)), none⟩]) (.seq (.cond (.t 17) .skip (.exit 0)) (.seq (.blk 1 (.seq (.reg [⟨(some 18), (.mv (.t 16)), none⟩,
  ⟨(some 19), (.iad 1 (.t 14) (.t 16)), none⟩, ⟨(some 20), (.ld 1 false (.t 19)), none⟩, ⟨(some 4), (.mv (.t 18)), none⟩, ⟨(some 5), (.mv (.t 20)), none⟩])
  (.seq (.reg [⟨(some 6), (.mv (.k (.int .i64 0))), none⟩]) (.blk 2 (.loop s185_1))))) (.reg [⟨(some 45), (.bin .add (.t 16) (.k (.int .i64 1))), none⟩, ⟨(some
  16), (.mv (.t 45)), none⟩])))

/- (schisma/decimal.pieces).text -/
def s185 : SFunc :=
  ⟨1, [(.t 2)], (.seq (.reg [⟨(some 2), (.mv (.k (.str (bytes [])))), none⟩]) (.seq (.seq (.reg [⟨(some 7), (.mv (.t 0)), none⟩, ⟨(some 8), (.len (.t 7)), none⟩,
  ⟨(some 9), (.bin .eql (.t 8) (.k (.int .i64 0))), none⟩]) (.cond (.t 9) (.seq (.reg [⟨(some 2), (.mv (.k (.str (bytes [48])))), none⟩]) .ret) .skip)) (.seq
  (.reg [⟨(some 10), (.mv (.t 0)), none⟩, ⟨(some 11), (.len (.t 10)), none⟩, ⟨(some 12), (.bin .mul (.k (.int .i64 9)) (.t 11)), none⟩, ⟨(some 13), (.mks 1
  [(.int .u8 0)] (.k (.int .i64 0)) (.t 12)), none⟩, ⟨(some 3), (.mv (.t 13)), none⟩]) (.seq (.seq (.reg [⟨(some 14), (.mv (.t 0)), none⟩, ⟨(some 15), (.len (.t
  14)), none⟩, ⟨(some 16), (.mv (.k (.int .i64 0))), none⟩]) (.blk 0 (.loop s185_0))) (.seq (.reg [⟨(some 46), (.mv (.t 3)), none⟩, ⟨(some 47), (.callW (.k (.fn
  218 [])) [(.t 46)]), none⟩]) (.seq (.reg [⟨(some 48), (.mv (.t 3)), none⟩, ⟨(some 49), (.b2s (.t 48)), none⟩, ⟨(some 2), (.mv (.t 49)), none⟩]) .ret))))))⟩

/- schisma/size.Zero -/
def s186 : SFunc :=
  ⟨1, [(.t 2), (.t 3)], (.seq (.reg [⟨(some 2), (.mv (.k (.z true))), none⟩, ⟨(some 3), (.mv (.k (.int .i64 0))), none⟩]) (.seq (.seq (.reg [⟨(some 5), (.mv (.t
  0)), none⟩, ⟨(some 6), (.callR (.k (.fn 59 [])) [(.t 5)]), none⟩, ⟨(some 4), (.mv (.t 6)), none⟩]) (.seq (.reg [⟨(some 7), (.mv (.t 4)), none⟩, ⟨(some 8),
  (.bin .neq (.t 7) (.k (.int .i64 0))), none⟩]) (.cond (.t 8) (.seq (.reg [⟨(some 9), (.mv (.t 4)), none⟩, ⟨(some 2), (.mv (.k (.z true))), none⟩, ⟨(some 3),
  (.mv (.t 9)), none⟩]) .ret) .skip))) (.seq (.reg [⟨(some 10), (.mv (.t 0)), none⟩, ⟨(some 11), (.len (.t 10)), none⟩, ⟨(some 12), (.callW (.k (.fn 142 []))
  [(.t 11)]), none⟩, ⟨(some 2), (.mv (.t 12)), none⟩, ⟨(some 3), (.mv (.k (.int .i64 0))), none⟩]) .ret)))⟩

/- schisma/size.Combine -/
def s187 : SFunc :=
  ⟨3, [(.t 6), (.t 7)], (.seq (.reg [⟨(some 6), (.mv (.k (.z true))), none⟩, ⟨(some 7), (.mv (.k (.int .i64 0))), none⟩]) (.seq (.seq (.reg [⟨(some 9), (.mv (.t
  0)), none⟩, ⟨(some 10), (.mv (.t 1)), none⟩, ⟨(some 11), (.callR (.k (.fn 57 [])) [(.t 9), (.t 10)]), none⟩, ⟨(some 8), (.mv (.t 11)), none⟩]) (.seq (.reg
  [⟨(some 12), (.mv (.t 8)), none⟩, ⟨(some 13), (.bin .neq (.t 12) (.k (.int .i64 0))), none⟩]) (.cond (.t 13) (.seq (.reg [⟨(some 14), (.mv (.t 8)), none⟩,
  ⟨(some 6), (.mv (.k (.z true))), none⟩, ⟨(some 7), (.mv (.t 14)), none⟩]) .ret) .skip))) (.seq (.seq (.reg [⟨(some 15), (.mv (.t 2)), none⟩, ⟨(some 16), (.len
  (.t 15)), none⟩, ⟨(some 17), (.mv (.t 1)), none⟩, ⟨(some 18), (.len (.t 17)), none⟩, ⟨(some 19), (.bin .neq (.t 16) (.t 18)), none⟩]) (.cond (.t 19) (.seq
  (.reg [⟨(some 6), (.mv (.k (.z true))), none⟩, ⟨(some 7), (.mv (.k (.int .i64 5))), none⟩]) .ret) .skip)) (.seq (.seq (.reg [⟨(some 20), (.mv (.t 2)), none⟩,
  ⟨(some 21), (.callW (.k (.fn 219 [])) [(.t 20), (.k (.fn 220 []))]), none⟩]) (.cond (.t 21) (.seq (.reg [⟨(some 6), (.mv (.k (.z true))), none⟩, ⟨(some 7),
  (.mv (.k (.int .i64 2))), none⟩]) .ret) .skip)) (.seq (.reg [⟨(some 22), (.mv (.t 0)), none⟩, ⟨(some 23), (.len (.t 22)), none⟩, ⟨(some 24), (.mv (.t 1)),
  none⟩, ⟨(some 25), (.mv (.t 2)), none⟩, ⟨(some 26), (.callR (.k (.fn 99 [])) [(.t 23), (.t 24), (.t 25)]), none⟩, ⟨(some 27), (.callR (.k (.fn 221 [])) [(.t
  26)]), none⟩, ⟨(some 28), (.ext 0 (.t 27)), none⟩, ⟨(some 29), (.ext 1 (.t 27)), none⟩, ⟨(some 6), (.mv (.t 28)), none⟩, ⟨(some 7), (.mv (.t 29)), none⟩])
  .ret)))))⟩

/- math/bits.Mul -/
def s188 : SFunc :=
  ⟨2, [(.t 4), (.t 5)], (.seq (.reg [⟨(some 4), (.mv (.k (.int .u64 0))), none⟩, ⟨(some 5), (.mv (.k (.int .u64 0))), none⟩]) (.seq (.cond (.k (.bool false))
  (.seq (.reg [⟨(some 11), (.mv (.t 0)), none⟩, ⟨(some 12), (.conv .u32 (.t 11)), none⟩, ⟨(some 13), (.mv (.t 1)), none⟩, ⟨(some 14), (.conv .u32 (.t 13)),
  none⟩, ⟨(some 15), (.callR (.k (.fn 222 [])) [(.t 12), (.t 14)]), none⟩, ⟨(some 10), (.mv (.t 15)), none⟩, ⟨(some 16), (.ext 0 (.t 10)), none⟩, ⟨(some 17),
  (.ext 1 (.t 10)), none⟩, ⟨(some 6), (.mv (.t 16)), none⟩, ⟨(some 7), (.mv (.t 17)), none⟩]) (.seq (.reg [⟨(some 18), (.mv (.t 6)), none⟩, ⟨(some 19), (.conv
  .u64 (.t 18)), none⟩, ⟨(some 20), (.mv (.t 7)), none⟩, ⟨(some 21), (.conv .u64 (.t 20)), none⟩, ⟨(some 4), (.mv (.t 19)), none⟩, ⟨(some 5), (.mv (.t 21)),
  none⟩]) .ret)) .skip) (.seq (.reg [⟨(some 23), (.mv (.t 0)), none⟩, ⟨(some 24), (.mv (.t 1)), none⟩, ⟨(some 25), (.callR (.k (.fn 223 [])) [(.t 23), (.t
  24)]), none⟩, ⟨(some 22), (.mv (.t 25)), none⟩, ⟨(some 26), (.ext 0 (.t 22)), none⟩, ⟨(some 27), (.ext 1 (.t 22)), none⟩, ⟨(some 8), (.mv (.t 26)), none⟩,
  ⟨(some 9), (.mv (.t 27)), none⟩]) (.seq (.reg [⟨(some 28), (.mv (.t 8)), none⟩, ⟨(some 29), (.mv (.t 9)), none⟩, ⟨(some 4), (.mv (.t 28)), none⟩, ⟨(some 5),
  (.mv (.t 29)), none⟩]) .ret))))⟩

def s189_0 : SCode :=
  .seq (.seq (.reg [⟨(some 21), (.mv (.t 5)), none⟩, ⟨(some 22), (.bin .geq (.t 21) (.k (.int .i64 0))), none⟩]) (.cond (.t 22) .skip (.exit 0))) (.seq (.blk 1
  (.blk 2 (.seq (.reg [⟨(some 26), (.mv (.t 0)), none⟩, ⟨(some 27), (.mv (.t 5)), none⟩, ⟨(some 28), (.iad 1 (.t 26) (.t 27)), none⟩, ⟨(some 29), (.ld 1 false
  (.t 28)), none⟩, ⟨(some 30), (.mv (.t 1)), none⟩, ⟨(some 31), (.mv (.t 5)), none⟩, ⟨(some 32), (.iad 1 (.t 30) (.t 31)), none⟩, ⟨(some 33), (.ld 1 false (.t
  32)), none⟩, ⟨(some 34), (.bin .lss (.t 29) (.t 33)), none⟩, ⟨(some 25), (.mv (.t 34)), none⟩]) (.cond (.t 25) (.seq (.reg [⟨(some 4), (.mv (.k (.int .i64
  (-1)))), none⟩]) .ret) (.seq (.reg [⟨(some 36), (.mv (.t 0)), none⟩, ⟨(some 37), (.mv (.t 5)), none⟩, ⟨(some 38), (.iad 1 (.t 36) (.t 37)), none⟩, ⟨(some 39),
  (.ld 1 false (.t 38)), none⟩, ⟨(some 40), (.mv (.t 1)), none⟩, ⟨(some 41), (.mv (.t 5)), none⟩, ⟨(some 42), (.iad 1 (.t 40) (.t 41)), none⟩, ⟨(some 43), (.ld
  1 false (.t 42)), none⟩, ⟨(some 44), (.bin .gtr (.t 39) (.t 43)), none⟩, ⟨(some 35), (.mv (.t 44)), none⟩]) (.cond (.t 35) (.seq (.reg [⟨(some 4), (.mv (.k
  (.int .i64 1))), none⟩]) .ret) .skip)))))) (.reg [⟨(some 23), (.mv (.t 5)), none⟩, ⟨(some 24), (.bin .sub (.t 23) (.k (.int .i64 1))), none⟩, ⟨(some 5), (.mv
  (.t 24)), none⟩]))

/- (schisma/decimal.pieces).compare -/
def s189 : SFunc :=
  ⟨2, [(.t 4)], (.seq (.reg [⟨(some 4), (.mv (.k (.int .i64 0))), none⟩]) (.seq (.seq (.reg [⟨(some 6), (.mv (.t 0)), none⟩, ⟨(some 7), (.len (.t 6)), none⟩,
  ⟨(some 8), (.mv (.t 1)), none⟩, ⟨(some 9), (.len (.t 8)), none⟩, ⟨(some 10), (.bin .neq (.t 7) (.t 9)), none⟩]) (.cond (.t 10) (.seq (.reg [⟨(some 11), (.mv
  (.t 0)), none⟩, ⟨(some 12), (.len (.t 11)), none⟩, ⟨(some 13), (.mv (.t 1)), none⟩, ⟨(some 14), (.len (.t 13)), none⟩, ⟨(some 15), (.bin .sub (.t 12) (.t
  14)), none⟩, ⟨(some 16), (.mm true [(.k (.int .i64 (-1))), (.t 15)]), none⟩, ⟨(some 17), (.mm false [(.k (.int .i64 1)), (.t 16)]), none⟩, ⟨(some 4), (.mv (.t
  17)), none⟩]) .ret) .skip)) (.seq (.seq (.reg [⟨(some 18), (.mv (.t 0)), none⟩, ⟨(some 19), (.len (.t 18)), none⟩, ⟨(some 20), (.bin .sub (.t 19) (.k (.int
  .i64 1))), none⟩, ⟨(some 5), (.mv (.t 20)), none⟩]) (.blk 0 (.loop s189_0))) (.seq (.reg [⟨(some 4), (.mv (.k (.int .i64 0))), none⟩]) .ret))))⟩

def s190_0 : SCode :=
  .seq (.seq (.reg [⟨(some 15), (.mv (.t 8)), none⟩, ⟨(some 16), (.bin .geq (.t 15) (.k (.int .i64 0))), none⟩]) (.cond (.t 16) .skip (.exit 0))) (.seq (.blk 1
  (.seq (.reg [⟨(some 19), (.mv (.t 7)), none⟩, ⟨(some 20), (.bin .mul (.t 19) (.k (.int .u64 1000000000))), none⟩, ⟨(some 21), (.mv (.t 0)), none⟩, ⟨(some 22),
  (.mv (.t 8)), none⟩, ⟨(some 23), (.iad 1 (.t 21) (.t 22)), none⟩, ⟨(some 24), (.ld 1 false (.t 23)), none⟩, ⟨(some 25), (.bin .add (.t 20) (.t 24)), none⟩,
  ⟨(some 7), (.mv (.t 25)), none⟩]) (.seq (.reg [⟨(some 26), (.mv (.t 6)), none⟩, ⟨(some 27), (.mv (.t 8)), none⟩, ⟨(some 28), (.mv (.t 7)), none⟩, ⟨(some 29),
  (.mv (.t 1)), none⟩, ⟨(some 30), (.bin .quo (.t 28) (.t 29)), none⟩, ⟨(some 31), (.iad 1 (.t 26) (.t 27)), none⟩, ⟨none, (.st 1 (.t 31) (.t 30)), none⟩])
  (.reg [⟨(some 32), (.mv (.t 7)), none⟩, ⟨(some 33), (.mv (.t 1)), none⟩, ⟨(some 34), (.bin .rem (.t 32) (.t 33)), none⟩, ⟨(some 7), (.mv (.t 34)), none⟩]))))
  (.reg [⟨(some 17), (.mv (.t 8)), none⟩, ⟨(some 18), (.bin .sub (.t 17) (.k (.int .i64 1))), none⟩, ⟨(some 8), (.mv (.t 18)), none⟩]))

/- (schisma/decimal.pieces).small -/
def s190 : SFunc :=
  ⟨2, [(.t 4), (.t 5)], (.seq (.reg [⟨(some 4), (.mv (.k (.z true))), none⟩, ⟨(some 5), (.mv (.k (.int .u64 0))), none⟩]) (.seq (.reg [⟨(some 9), (.mv (.t 0)),
  none⟩, ⟨(some 10), (.len (.t 9)), none⟩, ⟨(some 11), (.mks 1 [(.int .u64 0)] (.t 10) (.t 10)), none⟩, ⟨(some 6), (.mv (.t 11)), none⟩]) (.seq (.reg [⟨(some
  7), (.mv (.k (.int .u64 0))), none⟩]) (.seq (.seq (.reg [⟨(some 12), (.mv (.t 0)), none⟩, ⟨(some 13), (.len (.t 12)), none⟩, ⟨(some 14), (.bin .sub (.t 13)
  (.k (.int .i64 1))), none⟩, ⟨(some 8), (.mv (.t 14)), none⟩]) (.blk 0 (.loop s190_0))) (.seq (.reg [⟨(some 35), (.mv (.t 6)), none⟩, ⟨(some 36), (.callW (.k
  (.fn 193 [])) [(.t 35)]), none⟩, ⟨(some 37), (.mv (.t 7)), none⟩, ⟨(some 4), (.mv (.t 36)), none⟩, ⟨(some 5), (.mv (.t 37)), none⟩]) .ret)))))⟩

def s191_0 : SCode :=
  .seq (.seq (.reg [⟨(some 35), (.mv (.t 7)), none⟩, ⟨(some 36), (.len (.t 35)), none⟩, ⟨(some 37), (.mv (.t 0)), none⟩, ⟨(some 38), (.len (.t 37)), none⟩, ⟨(some
  39), (.bin .leq (.t 36) (.t 38)), none⟩]) (.cond (.t 39) .skip (.exit 0))) (.blk 1 (.reg [⟨(some 40), (.mv (.t 7)), none⟩, ⟨(some 41), (.bsl 1 [(.int .u64 0)]
  1 [(0, (.k (.int .u64 0)))]), none⟩, ⟨(some 42), (.app 1 (.t 40) (.t 41)), none⟩, ⟨(some 7), (.mv (.t 42)), none⟩]))

def s191_2 : SCode :=
  .seq (.seq (.reg [⟨(some 86), (.mv (.t 13)), none⟩, ⟨(some 87), (.bin .geq (.t 86) (.k (.int .u64 1000000000))), none⟩, ⟨(some 88), (.mv (.t 87)), none⟩, ⟨(some
  89), (.mv (.t 14)), (some (88, false))⟩, ⟨(some 90), (.bin .lss (.t 89) (.k (.int .u64 1000000000))), (some (88, false))⟩, ⟨(some 91), (.mv (.t 90)), (some
  (88, false))⟩, ⟨(some 92), (.mv (.t 13)), (some (91, true))⟩, ⟨(some 93), (.mv (.t 8)), (some (91, true))⟩, ⟨(some 94), (.mv (.t 9)), (some (91, true))⟩,
  ⟨(some 95), (.bin .sub (.t 94) (.k (.int .i64 2))), (some (91, true))⟩, ⟨(some 96), (.iad 1 (.t 93) (.t 95)), (some (91, true))⟩, ⟨(some 97), (.ld 1 false (.t
  96)), (some (91, true))⟩, ⟨(some 98), (.bin .mul (.t 92) (.t 97)), (some (91, true))⟩, ⟨(some 99), (.mv (.t 14)), (some (91, true))⟩, ⟨(some 100), (.bin .mul
  (.t 99) (.k (.int .u64 1000000000))), (some (91, true))⟩, ⟨(some 101), (.mv (.t 7)), (some (91, true))⟩, ⟨(some 102), (.mv (.t 11)), (some (91, true))⟩,
  ⟨(some 103), (.mv (.t 9)), (some (91, true))⟩, ⟨(some 104), (.bin .add (.t 102) (.t 103)), (some (91, true))⟩, ⟨(some 105), (.bin .sub (.t 104) (.k (.int .i64
  2))), (some (91, true))⟩, ⟨(some 106), (.iad 1 (.t 101) (.t 105)), (some (91, true))⟩, ⟨(some 107), (.ld 1 false (.t 106)), (some (91, true))⟩, ⟨(some 108),
  (.bin .add (.t 100) (.t 107)), (some (91, true))⟩, ⟨(some 109), (.bin .gtr (.t 98) (.t 108)), (some (91, true))⟩, ⟨(some 110), (.pick (.t 91) (.t 109) (.k
  (.bool false))), (some (88, false))⟩, ⟨(some 111), (.pick (.t 88) (.k (.bool true)) (.t 110)), none⟩]) (.cond (.t 111) .skip (.exit 4))) (.blk 5 (.seq (.reg
  [⟨(some 112), (.mv (.t 13)), none⟩, ⟨(some 113), (.bin .sub (.t 112) (.k (.int .u64 1))), none⟩, ⟨(some 13), (.mv (.t 113)), none⟩]) (.reg [⟨(some 114), (.mv
  (.t 14)), none⟩, ⟨(some 115), (.mv (.t 8)), none⟩, ⟨(some 116), (.mv (.t 9)), none⟩, ⟨(some 117), (.bin .sub (.t 116) (.k (.int .i64 1))), none⟩, ⟨(some 118),
  (.iad 1 (.t 115) (.t 117)), none⟩, ⟨(some 119), (.ld 1 false (.t 118)), none⟩, ⟨(some 120), (.bin .add (.t 114) (.t 119)), none⟩, ⟨(some 14), (.mv (.t 120)),
  none⟩])))

def s191_1 : SCode :=
  .seq (.seq (.reg [⟨(some 53), (.mv (.t 11)), none⟩, ⟨(some 54), (.bin .geq (.t 53) (.k (.int .i64 0))), none⟩]) (.cond (.t 54) .skip (.exit 2))) (.seq (.blk 3
  (.seq (.reg [⟨(some 57), (.mv (.t 7)), none⟩, ⟨(some 58), (.mv (.t 11)), none⟩, ⟨(some 59), (.mv (.t 9)), none⟩, ⟨(some 60), (.bin .add (.t 58) (.t 59)),
  none⟩, ⟨(some 61), (.iad 1 (.t 57) (.t 60)), none⟩, ⟨(some 62), (.ld 1 false (.t 61)), none⟩, ⟨(some 63), (.bin .mul (.t 62) (.k (.int .u64 1000000000))),
  none⟩, ⟨(some 64), (.mv (.t 7)), none⟩, ⟨(some 65), (.mv (.t 11)), none⟩, ⟨(some 66), (.mv (.t 9)), none⟩, ⟨(some 67), (.bin .add (.t 65) (.t 66)), none⟩,
  ⟨(some 68), (.bin .sub (.t 67) (.k (.int .i64 1))), none⟩, ⟨(some 69), (.iad 1 (.t 64) (.t 68)), none⟩, ⟨(some 70), (.ld 1 false (.t 69)), none⟩, ⟨(some 71),
  (.bin .add (.t 63) (.t 70)), none⟩, ⟨(some 12), (.mv (.t 71)), none⟩]) (.seq (.reg [⟨(some 72), (.mv (.t 12)), none⟩, ⟨(some 73), (.mv (.t 8)), none⟩, ⟨(some
  74), (.mv (.t 9)), none⟩, ⟨(some 75), (.bin .sub (.t 74) (.k (.int .i64 1))), none⟩, ⟨(some 76), (.iad 1 (.t 73) (.t 75)), none⟩, ⟨(some 77), (.ld 1 false (.t
  76)), none⟩, ⟨(some 78), (.bin .quo (.t 72) (.t 77)), none⟩, ⟨(some 79), (.mv (.t 12)), none⟩, ⟨(some 80), (.mv (.t 8)), none⟩, ⟨(some 81), (.mv (.t 9)),
  none⟩, ⟨(some 82), (.bin .sub (.t 81) (.k (.int .i64 1))), none⟩, ⟨(some 83), (.iad 1 (.t 80) (.t 82)), none⟩, ⟨(some 84), (.ld 1 false (.t 83)), none⟩,
  ⟨(some 85), (.bin .rem (.t 79) (.t 84)), none⟩, ⟨(some 13), (.mv (.t 78)), none⟩, ⟨(some 14), (.mv (.t 85)), none⟩]) (.seq (.blk 4 (.loop s191_2)) (.seq (.seq
  (.reg [⟨(some 121), (.mv (.t 7)), none⟩, ⟨(some 122), (.mv (.t 8)), none⟩, ⟨(some 123), (.mv (.t 13)), none⟩, ⟨(some 124), (.mv (.t 11)), none⟩, ⟨(some 125),
  (.callW (.k (.fn 194 [])) [(.t 121), (.t 122), (.t 123), (.t 124)]), none⟩]) (.cond (.t 125) (.seq (.reg [⟨(some 126), (.mv (.t 13)), none⟩, ⟨(some 127),
  (.bin .sub (.t 126) (.k (.int .u64 1))), none⟩, ⟨(some 13), (.mv (.t 127)), none⟩]) (.reg [⟨(some 128), (.mv (.t 7)), none⟩, ⟨(some 129), (.mv (.t 8)), none⟩,
  ⟨(some 130), (.mv (.t 11)), none⟩, ⟨(some 131), (.callW (.k (.fn 192 [])) [(.t 128), (.t 129), (.t 130)]), none⟩])) .skip)) (.reg [⟨(some 132), (.mv (.t 10)),
  none⟩, ⟨(some 133), (.mv (.t 11)), none⟩, ⟨(some 134), (.mv (.t 13)), none⟩, ⟨(some 135), (.iad 1 (.t 132) (.t 133)), none⟩, ⟨none, (.st 1 (.t 135) (.t 134)),
  none⟩])))))) (.reg [⟨(some 55), (.mv (.t 11)), none⟩, ⟨(some 56), (.bin .sub (.t 55) (.k (.int .i64 1))), none⟩, ⟨(some 11), (.mv (.t 56)), none⟩]))

/- (schisma/decimal.pieces).divide -/
def s191 : SFunc :=
  ⟨2, [(.t 4), (.t 5)], (.seq (.reg [⟨(some 4), (.mv (.k (.z true))), none⟩, ⟨(some 5), (.mv (.k (.z true))), none⟩]) (.seq (.reg [⟨(some 17), (.mv (.t 1)),
  none⟩, ⟨(some 18), (.mv (.t 1)), none⟩, ⟨(some 19), (.len (.t 18)), none⟩, ⟨(some 20), (.bin .sub (.t 19) (.k (.int .i64 1))), none⟩, ⟨(some 21), (.iad 1 (.t
  17) (.t 20)), none⟩, ⟨(some 22), (.ld 1 false (.t 21)), none⟩, ⟨(some 23), (.bin .add (.t 22) (.k (.int .u64 1))), none⟩, ⟨(some 24), (.bin .quo (.k (.int
  .u64 1000000000)) (.t 23)), none⟩, ⟨(some 6), (.mv (.t 24)), none⟩]) (.seq (.reg [⟨(some 25), (.mv (.t 0)), none⟩, ⟨(some 26), (.mv (.t 6)), none⟩, ⟨(some
  27), (.callW (.k (.fn 224 [])) [(.t 25), (.t 26)]), none⟩, ⟨(some 28), (.bsl 1 [(.int .u64 0)] 1 [(0, (.k (.int .u64 0)))]), none⟩, ⟨(some 29), (.app 1 (.t
  27) (.t 28)), none⟩, ⟨(some 30), (.mv (.t 1)), none⟩, ⟨(some 31), (.mv (.t 6)), none⟩, ⟨(some 32), (.callW (.k (.fn 224 [])) [(.t 30), (.t 31)]), none⟩,
  ⟨(some 7), (.mv (.t 29)), none⟩, ⟨(some 8), (.mv (.t 32)), none⟩]) (.seq (.reg [⟨(some 33), (.mv (.t 8)), none⟩, ⟨(some 34), (.len (.t 33)), none⟩, ⟨(some 9),
  (.mv (.t 34)), none⟩]) (.seq (.blk 0 (.loop s191_0)) (.seq (.reg [⟨(some 43), (.mv (.t 7)), none⟩, ⟨(some 44), (.len (.t 43)), none⟩, ⟨(some 45), (.mv (.t
  9)), none⟩, ⟨(some 46), (.bin .sub (.t 44) (.t 45)), none⟩, ⟨(some 47), (.mks 1 [(.int .u64 0)] (.t 46) (.t 46)), none⟩, ⟨(some 10), (.mv (.t 47)), none⟩])
  (.seq (.seq (.reg [⟨(some 48), (.mv (.t 7)), none⟩, ⟨(some 49), (.len (.t 48)), none⟩, ⟨(some 50), (.mv (.t 9)), none⟩, ⟨(some 51), (.bin .sub (.t 49) (.t
  50)), none⟩, ⟨(some 52), (.bin .sub (.t 51) (.k (.int .i64 1))), none⟩, ⟨(some 11), (.mv (.t 52)), none⟩]) (.blk 2 (.loop s191_1))) (.seq (.reg [⟨(some 137),
  (.mv (.t 7)), none⟩, ⟨(some 138), (.callW (.k (.fn 193 [])) [(.t 137)]), none⟩, ⟨(some 139), (.mv (.t 6)), none⟩, ⟨(some 140), (.callW (.k (.fn 190 [])) [(.t
  138), (.t 139)]), none⟩, ⟨(some 136), (.mv (.t 140)), none⟩, ⟨(some 141), (.ext 0 (.t 136)), none⟩, ⟨(some 142), (.ext 1 (.t 136)), none⟩, ⟨(some 15), (.mv
  (.t 141)), none⟩, ⟨(some 16), (.mv (.t 142)), none⟩]) (.seq (.reg [⟨(some 143), (.mv (.t 10)), none⟩, ⟨(some 144), (.callW (.k (.fn 193 [])) [(.t 143)]),
  none⟩, ⟨(some 145), (.mv (.t 15)), none⟩, ⟨(some 4), (.mv (.t 144)), none⟩, ⟨(some 5), (.mv (.t 145)), none⟩]) .ret)))))))))⟩

def s192_0 : SCode :=
  .seq (.seq (.reg [⟨(some 8), (.mv (.t 7)), none⟩, ⟨(some 9), (.mv (.t 1)), none⟩, ⟨(some 10), (.len (.t 9)), none⟩, ⟨(some 11), (.bin .leq (.t 8) (.t 10)),
  none⟩]) (.cond (.t 11) .skip (.exit 0))) (.seq (.blk 1 (.seq (.reg [⟨(some 14), (.mv (.t 6)), none⟩, ⟨(some 15), (.mv (.t 0)), none⟩, ⟨(some 16), (.mv (.t
  2)), none⟩, ⟨(some 17), (.mv (.t 7)), none⟩, ⟨(some 18), (.bin .add (.t 16) (.t 17)), none⟩, ⟨(some 19), (.iad 1 (.t 15) (.t 18)), none⟩, ⟨(some 20), (.ld 1
  false (.t 19)), none⟩, ⟨(some 21), (.bin .add (.t 14) (.t 20)), none⟩, ⟨(some 6), (.mv (.t 21)), none⟩]) (.seq (.seq (.reg [⟨(some 22), (.mv (.t 7)), none⟩,
  ⟨(some 23), (.mv (.t 1)), none⟩, ⟨(some 24), (.len (.t 23)), none⟩, ⟨(some 25), (.bin .lss (.t 22) (.t 24)), none⟩]) (.cond (.t 25) (.reg [⟨(some 26), (.mv
  (.t 6)), none⟩, ⟨(some 27), (.mv (.t 1)), none⟩, ⟨(some 28), (.mv (.t 7)), none⟩, ⟨(some 29), (.iad 1 (.t 27) (.t 28)), none⟩, ⟨(some 30), (.ld 1 false (.t
  29)), none⟩, ⟨(some 31), (.bin .add (.t 26) (.t 30)), none⟩, ⟨(some 6), (.mv (.t 31)), none⟩]) .skip)) (.seq (.reg [⟨(some 32), (.mv (.t 0)), none⟩, ⟨(some
  33), (.mv (.t 2)), none⟩, ⟨(some 34), (.mv (.t 7)), none⟩, ⟨(some 35), (.bin .add (.t 33) (.t 34)), none⟩, ⟨(some 36), (.mv (.t 6)), none⟩, ⟨(some 37), (.bin
  .rem (.t 36) (.k (.int .u64 1000000000))), none⟩, ⟨(some 38), (.iad 1 (.t 32) (.t 35)), none⟩, ⟨none, (.st 1 (.t 38) (.t 37)), none⟩]) (.reg [⟨(some 39), (.mv
  (.t 6)), none⟩, ⟨(some 40), (.bin .quo (.t 39) (.k (.int .u64 1000000000))), none⟩, ⟨(some 6), (.mv (.t 40)), none⟩]))))) (.reg [⟨(some 12), (.mv (.t 7)),
  none⟩, ⟨(some 13), (.bin .add (.t 12) (.k (.int .i64 1))), none⟩, ⟨(some 7), (.mv (.t 13)), none⟩]))

/- (schisma/decimal.pieces).back -/
def s192 : SFunc :=
  ⟨3, [], (.seq (.reg [⟨(some 6), (.mv (.k (.int .u64 0))), none⟩]) (.seq (.reg [⟨(some 7), (.mv (.k (.int .i64 0))), none⟩]) (.blk 0 (.loop s192_0))))⟩

def s193_0 : SCode :=
  .seq (.seq (.reg [⟨(some 3), (.mv (.t 0)), none⟩, ⟨(some 4), (.len (.t 3)), none⟩, ⟨(some 5), (.bin .gtr (.t 4) (.k (.int .i64 0))), none⟩, ⟨(some 6), (.mv (.t
  5)), none⟩, ⟨(some 7), (.mv (.t 0)), (some (6, true))⟩, ⟨(some 8), (.mv (.t 0)), (some (6, true))⟩, ⟨(some 9), (.len (.t 8)), (some (6, true))⟩, ⟨(some 10),
  (.bin .sub (.t 9) (.k (.int .i64 1))), (some (6, true))⟩, ⟨(some 11), (.iad 1 (.t 7) (.t 10)), (some (6, true))⟩, ⟨(some 12), (.ld 1 false (.t 11)), (some (6,
  true))⟩, ⟨(some 13), (.bin .eql (.t 12) (.k (.int .u64 0))), (some (6, true))⟩, ⟨(some 14), (.pick (.t 6) (.t 13) (.k (.bool false))), none⟩]) (.cond (.t 14)
  .skip (.exit 0))) (.blk 1 (.reg [⟨(some 15), (.mv (.t 0)), none⟩, ⟨(some 16), (.mv (.t 0)), none⟩, ⟨(some 17), (.len (.t 16)), none⟩, ⟨(some 18), (.bin .sub
  (.t 17) (.k (.int .i64 1))), none⟩, ⟨(some 19), (.slc 1 (.t 15) none (some (.t 18))), none⟩, ⟨(some 0), (.mv (.t 19)), none⟩]))

/- (schisma/decimal.pieces).trim -/
def s193 : SFunc :=
  ⟨1, [(.t 2)], (.seq (.reg [⟨(some 2), (.mv (.k (.z true))), none⟩]) (.seq (.blk 0 (.loop s193_0)) (.seq (.reg [⟨(some 20), (.mv (.t 0)), none⟩, ⟨(some 2), (.mv
  (.t 20)), none⟩]) .ret)))⟩

def s194_0 : SCode :=
  .seq (.seq (.reg [⟨(some 13), (.mv (.t 11)), none⟩, ⟨(some 14), (.mv (.t 1)), none⟩, ⟨(some 15), (.len (.t 14)), none⟩, ⟨(some 16), (.bin .leq (.t 13) (.t 15)),
  none⟩]) (.cond (.t 16) .skip (.exit 0))) (.seq (.blk 1 (.seq (.seq (.reg [⟨(some 19), (.mv (.t 11)), none⟩, ⟨(some 20), (.mv (.t 1)), none⟩, ⟨(some 21), (.len
  (.t 20)), none⟩, ⟨(some 22), (.bin .lss (.t 19) (.t 21)), none⟩]) (.cond (.t 22) (.reg [⟨(some 23), (.mv (.t 10)), none⟩, ⟨(some 24), (.mv (.t 2)), none⟩,
  ⟨(some 25), (.mv (.t 1)), none⟩, ⟨(some 26), (.mv (.t 11)), none⟩, ⟨(some 27), (.iad 1 (.t 25) (.t 26)), none⟩, ⟨(some 28), (.ld 1 false (.t 27)), none⟩,
  ⟨(some 29), (.bin .mul (.t 24) (.t 28)), none⟩, ⟨(some 30), (.bin .add (.t 23) (.t 29)), none⟩, ⟨(some 10), (.mv (.t 30)), none⟩]) .skip)) (.seq (.reg [⟨(some
  31), (.mv (.t 0)), none⟩, ⟨(some 32), (.mv (.t 3)), none⟩, ⟨(some 33), (.mv (.t 11)), none⟩, ⟨(some 34), (.bin .add (.t 32) (.t 33)), none⟩, ⟨(some 35), (.iad
  1 (.t 31) (.t 34)), none⟩, ⟨(some 36), (.ld 1 false (.t 35)), none⟩, ⟨(some 37), (.conv .i64 (.t 36)), none⟩, ⟨(some 38), (.mv (.t 10)), none⟩, ⟨(some 39),
  (.bin .rem (.t 38) (.k (.int .u64 1000000000))), none⟩, ⟨(some 40), (.conv .i64 (.t 39)), none⟩, ⟨(some 41), (.bin .sub (.t 37) (.t 40)), none⟩, ⟨(some 42),
  (.mv (.t 9)), none⟩, ⟨(some 43), (.bin .sub (.t 41) (.t 42)), none⟩, ⟨(some 12), (.mv (.t 43)), none⟩]) (.seq (.reg [⟨(some 44), (.mv (.t 10)), none⟩, ⟨(some
  45), (.bin .quo (.t 44) (.k (.int .u64 1000000000))), none⟩, ⟨(some 10), (.mv (.t 45)), none⟩]) (.seq (.reg [⟨(some 9), (.mv (.k (.int .i64 0))), none⟩])
  (.seq (.seq (.reg [⟨(some 46), (.mv (.t 12)), none⟩, ⟨(some 47), (.bin .lss (.t 46) (.k (.int .i64 0))), none⟩]) (.cond (.t 47) (.reg [⟨(some 48), (.mv (.t
  12)), none⟩, ⟨(some 49), (.bin .add (.t 48) (.k (.int .i64 1000000000))), none⟩, ⟨(some 12), (.mv (.t 49)), none⟩, ⟨(some 9), (.mv (.k (.int .i64 1))),
  none⟩]) .skip)) (.reg [⟨(some 50), (.mv (.t 0)), none⟩, ⟨(some 51), (.mv (.t 3)), none⟩, ⟨(some 52), (.mv (.t 11)), none⟩, ⟨(some 53), (.bin .add (.t 51) (.t
  52)), none⟩, ⟨(some 54), (.mv (.t 12)), none⟩, ⟨(some 55), (.conv .u64 (.t 54)), none⟩, ⟨(some 56), (.iad 1 (.t 50) (.t 53)), none⟩, ⟨none, (.st 1 (.t 56) (.t
  55)), none⟩]))))))) (.reg [⟨(some 17), (.mv (.t 11)), none⟩, ⟨(some 18), (.bin .add (.t 17) (.k (.int .i64 1))), none⟩, ⟨(some 11), (.mv (.t 18)), none⟩]))

/- (schisma/decimal.pieces).take -/
def s194 : SFunc :=
  ⟨4, [(.t 8)], (.seq (.reg [⟨(some 8), (.mv (.k (.bool false))), none⟩]) (.seq (.reg [⟨(some 9), (.mv (.k (.int .i64 0))), none⟩]) (.seq (.reg [⟨(some 10), (.mv
  (.k (.int .u64 0))), none⟩]) (.seq (.seq (.reg [⟨(some 11), (.mv (.k (.int .i64 0))), none⟩]) (.blk 0 (.loop s194_0))) (.seq (.reg [⟨(some 57), (.mv (.t 9)),
  none⟩, ⟨(some 58), (.bin .gtr (.t 57) (.k (.int .i64 0))), none⟩, ⟨(some 8), (.mv (.t 58)), none⟩]) .ret)))))⟩

def s195_0 : SCode :=
  .seq (.reg [⟨(some 22), (.bin .lss (.t 21) (.k (.int .i64 26))), none⟩]) (.seq (.cond (.t 22) .skip (.exit 0)) (.seq (.blk 1 (.seq (.reg [⟨(some 24), (.mv (.t
  5)), none⟩, ⟨(some 25), (.mv (.t 5)), none⟩, ⟨(some 26), (.callR (.k (.fn 223 [])) [(.t 24), (.t 25)]), none⟩, ⟨(some 23), (.mv (.t 26)), none⟩, ⟨(some 27),
  (.ext 0 (.t 23)), none⟩, ⟨(some 28), (.ext 1 (.t 23)), none⟩, ⟨(some 8), (.mv (.t 27)), none⟩, ⟨(some 9), (.mv (.t 28)), none⟩]) (.seq (.reg [⟨(some 29), (.mv
  (.t 8)), none⟩, ⟨(some 30), (.bin .shl (.t 29) (.k (.int .u64 2))), none⟩, ⟨(some 31), (.mv (.t 9)), none⟩, ⟨(some 32), (.bin .shr (.t 31) (.k (.int .u64
  62))), none⟩, ⟨(some 33), (.bin .or (.t 30) (.t 32)), none⟩, ⟨(some 5), (.mv (.t 33)), none⟩]) (.seq (.reg [⟨(some 35), (.mv (.t 6)), none⟩, ⟨(some 36), (.mv
  (.t 6)), none⟩, ⟨(some 37), (.callR (.k (.fn 223 [])) [(.t 35), (.t 36)]), none⟩, ⟨(some 34), (.mv (.t 37)), none⟩, ⟨(some 38), (.ext 0 (.t 34)), none⟩,
  ⟨(some 39), (.ext 1 (.t 34)), none⟩, ⟨(some 8), (.mv (.t 38)), none⟩, ⟨(some 9), (.mv (.t 39)), none⟩]) (.seq (.reg [⟨(some 40), (.mv (.t 8)), none⟩, ⟨(some
  41), (.bin .shl (.t 40) (.k (.int .u64 2))), none⟩, ⟨(some 42), (.mv (.t 9)), none⟩, ⟨(some 43), (.bin .shr (.t 42) (.k (.int .u64 62))), none⟩, ⟨(some 44),
  (.bin .or (.t 41) (.t 43)), none⟩, ⟨(some 45), (.bin .add (.t 44) (.k (.int .u64 1))), none⟩, ⟨(some 6), (.mv (.t 45)), none⟩]) (.seq (.reg [⟨(some 46), (.mv
  (.t 7)), none⟩, ⟨(some 47), (.bin .mul (.t 46) (.k (.int .i64 2))), none⟩, ⟨(some 7), (.mv (.t 47)), none⟩]) (.seq (.reg [⟨(some 48), (.mv (.t 5)), none⟩,
  ⟨(some 49), (.bin .geq (.t 48) (.k (.int .u64 9223372036854775808))), none⟩]) (.cond (.t 49) (.seq (.reg [⟨(some 50), (.mv (.t 7)), none⟩, ⟨(some 51), (.bin
  .add (.t 50) (.k (.int .i64 1))), none⟩, ⟨(some 7), (.mv (.t 51)), none⟩]) (.reg [⟨(some 52), (.mv (.t 5)), none⟩, ⟨(some 53), (.bin .shr (.t 52) (.k (.int
  .u64 1))), none⟩, ⟨(some 54), (.mv (.t 6)), none⟩, ⟨(some 55), (.bin .shr (.t 54) (.k (.int .u64 1))), none⟩, ⟨(some 56), (.bin .add (.t 55) (.k (.int .u64
  1))), none⟩, ⟨(some 5), (.mv (.t 53)), none⟩, ⟨(some 6), (.mv (.t 56)), none⟩])) (.seq (.reg [⟨(some 57), (.mv (.t 6)), none⟩, ⟨(some 58), (.bin .geq (.t 57)
  (.k (.int .u64 9223372036854775808))), none⟩]) (.cond (.t 58) (.seq (.reg [⟨(some 2), (.mv (.k (.int .i64 0))), none⟩, ⟨(some 3), (.mv (.k (.bool false))),
  none⟩]) .ret) .skip)))))))))) (.reg [⟨(some 59), (.bin .add (.t 21) (.k (.int .i64 1))), none⟩, ⟨(some 21), (.mv (.t 59)), none⟩])))

/- schisma/size.fast -/
def s195 : SFunc :=
  ⟨1, [(.t 2), (.t 3)], (.seq (.reg [⟨(some 2), (.mv (.k (.int .i64 0))), none⟩, ⟨(some 3), (.mv (.k (.bool false))), none⟩]) (.seq (.reg [⟨(some 10), (.mv (.t
  0)), none⟩, ⟨(some 11), (.conv .u64 (.t 10)), none⟩, ⟨(some 12), (.callR (.k (.fn 225 [])) [(.t 11)]), none⟩, ⟨(some 13), (.bin .sub (.t 12) (.k (.int .i64
  1))), none⟩, ⟨(some 4), (.mv (.t 13)), none⟩]) (.seq (.reg [⟨(some 14), (.mv (.t 0)), none⟩, ⟨(some 15), (.conv .u64 (.t 14)), none⟩, ⟨(some 16), (.mv (.t
  4)), none⟩, ⟨(some 17), (.bin .sub (.k (.int .i64 62)) (.t 16)), none⟩, ⟨(some 18), (.bin .shl (.t 15) (.t 17)), none⟩, ⟨(some 5), (.mv (.t 18)), none⟩])
  (.seq (.reg [⟨(some 19), (.mv (.t 5)), none⟩, ⟨(some 6), (.mv (.t 19)), none⟩]) (.seq (.reg [⟨(some 20), (.mv (.t 4)), none⟩, ⟨(some 7), (.mv (.t 20)),
  none⟩]) (.seq (.seq (.reg [⟨(some 21), (.mv (.k (.int .i64 0))), none⟩]) (.blk 0 (.loop s195_0))) (.seq (.reg [⟨(some 60), (.mv (.t 7)), none⟩, ⟨(some 2),
  (.mv (.t 60)), none⟩, ⟨(some 3), (.mv (.k (.bool true))), none⟩]) .ret)))))))⟩

def s199_0 : SCode :=
  .seq (.seq (.reg [⟨(some 11), (.mv (.t 8)), none⟩, ⟨(some 12), (.mv (.t 1)), none⟩, ⟨(some 13), (.bin .leq (.t 11) (.t 12)), none⟩]) (.cond (.t 13) .skip (.exit
  0))) (.blk 1 (.seq (.reg [⟨(some 14), (.mv (.t 0)), none⟩, ⟨(some 15), (.mv (.t 7)), none⟩, ⟨(some 16), (.mv (.t 8)), none⟩, ⟨(some 17), (.mv (.t 2)), none⟩,
  ⟨(some 18), (.callW (.k (.fn 227 [])) [(.t 14), (.t 15), (.t 16), (.t 17)]), none⟩]) (.seq (.reg [⟨(some 19), (.mv (.t 8)), none⟩, ⟨(some 7), (.mv (.t 19)),
  none⟩]) (.reg [⟨(some 20), (.mv (.t 8)), none⟩, ⟨(some 21), (.mv (.t 6)), none⟩, ⟨(some 22), (.bin .add (.t 20) (.t 21)), none⟩, ⟨(some 8), (.mv (.t 22)),
  none⟩]))))

def s199_2 : SCode :=
  .seq (.seq (.reg [⟨(some 33), (.mv (.t 8)), none⟩, ⟨(some 34), (.mv (.t 1)), none⟩, ⟨(some 35), (.bin .leq (.t 33) (.t 34)), none⟩]) (.cond (.t 35) .skip (.exit
  4))) (.blk 5 (.seq (.reg [⟨(some 36), (.mv (.t 0)), none⟩, ⟨(some 37), (.mv (.t 7)), none⟩, ⟨(some 38), (.mv (.t 7)), none⟩, ⟨(some 39), (.mv (.t 6)), none⟩,
  ⟨(some 40), (.bin .add (.t 38) (.t 39)), none⟩, ⟨(some 41), (.mv (.t 8)), none⟩, ⟨(some 42), (.mv (.t 2)), none⟩, ⟨(some 43), (.callW (.k (.fn 228 [])) [(.t
  36), (.t 37), (.t 40), (.t 41), (.t 42)]), none⟩]) (.seq (.reg [⟨(some 44), (.mv (.t 8)), none⟩, ⟨(some 7), (.mv (.t 44)), none⟩]) (.reg [⟨(some 45), (.mv (.t
  8)), none⟩, ⟨(some 46), (.mv (.t 6)), none⟩, ⟨(some 47), (.bin .mul (.k (.int .i64 2)) (.t 46)), none⟩, ⟨(some 48), (.bin .add (.t 45) (.t 47)), none⟩, ⟨(some
  8), (.mv (.t 48)), none⟩]))))

def s199_1 : SCode :=
  .seq (.seq (.reg [⟨(some 28), (.mv (.t 6)), none⟩, ⟨(some 29), (.mv (.t 1)), none⟩, ⟨(some 30), (.bin .lss (.t 28) (.t 29)), none⟩]) (.cond (.t 30) .skip (.exit
  2))) (.blk 3 (.seq (.reg [⟨(some 31), (.mv (.t 6)), none⟩, ⟨(some 32), (.bin .mul (.k (.int .i64 2)) (.t 31)), none⟩, ⟨(some 7), (.mv (.k (.int .i64 0))),
  none⟩, ⟨(some 8), (.mv (.t 32)), none⟩]) (.seq (.blk 4 (.loop s199_2)) (.seq (.seq (.reg [⟨(some 49), (.mv (.t 7)), none⟩, ⟨(some 50), (.mv (.t 6)), none⟩,
  ⟨(some 51), (.bin .add (.t 49) (.t 50)), none⟩, ⟨(some 9), (.mv (.t 51)), none⟩]) (.seq (.reg [⟨(some 52), (.mv (.t 9)), none⟩, ⟨(some 53), (.mv (.t 1)),
  none⟩, ⟨(some 54), (.bin .lss (.t 52) (.t 53)), none⟩]) (.cond (.t 54) (.reg [⟨(some 55), (.mv (.t 0)), none⟩, ⟨(some 56), (.mv (.t 7)), none⟩, ⟨(some 57),
  (.mv (.t 9)), none⟩, ⟨(some 58), (.mv (.t 1)), none⟩, ⟨(some 59), (.mv (.t 2)), none⟩, ⟨(some 60), (.callW (.k (.fn 228 [])) [(.t 55), (.t 56), (.t 57), (.t
  58), (.t 59)]), none⟩]) .skip))) (.reg [⟨(some 61), (.mv (.t 6)), none⟩, ⟨(some 62), (.bin .mul (.t 61) (.k (.int .i64 2))), none⟩, ⟨(some 6), (.mv (.t 62)),
  none⟩])))))

/- slices.stableCmpFunc[schisma/damage.measured] -/
def s199 : SFunc :=
  ⟨3, [], (.seq (.reg [⟨(some 6), (.mv (.k (.int .i64 20))), none⟩]) (.seq (.reg [⟨(some 10), (.mv (.t 6)), none⟩, ⟨(some 7), (.mv (.k (.int .i64 0))), none⟩,
  ⟨(some 8), (.mv (.t 10)), none⟩]) (.seq (.blk 0 (.loop s199_0)) (.seq (.reg [⟨(some 23), (.mv (.t 0)), none⟩, ⟨(some 24), (.mv (.t 7)), none⟩, ⟨(some 25),
  (.mv (.t 1)), none⟩, ⟨(some 26), (.mv (.t 2)), none⟩, ⟨(some 27), (.callW (.k (.fn 227 [])) [(.t 23), (.t 24), (.t 25), (.t 26)]), none⟩]) (.blk 2 (.loop
  s199_1))))))⟩

def s200_0 : SCode :=
  .seq (.reg [⟨(some 9), (.bin .lss (.t 8) (.t 7)), none⟩]) (.seq (.cond (.t 9) .skip (.exit 0)) (.seq (.blk 1 (.seq (.reg [⟨(some 10), (.iad 1 (.t 6) (.t 8)),
  none⟩, ⟨(some 11), (.ld 1 false (.t 10)), none⟩, ⟨(some 4), (.mv (.t 11)), none⟩]) (.seq (.reg [⟨(some 12), (.mv (.t 4)), none⟩, ⟨(some 13), (.bin .lss (.t
  12) (.k (.int .u8 48))), none⟩, ⟨(some 14), (.mv (.t 13)), none⟩, ⟨(some 15), (.mv (.t 4)), (some (14, false))⟩, ⟨(some 16), (.bin .gtr (.t 15) (.k (.int .u8
  57))), (some (14, false))⟩, ⟨(some 17), (.pick (.t 14) (.k (.bool true)) (.t 16)), none⟩]) (.cond (.t 17) (.seq (.reg [⟨(some 2), (.mv (.k (.bool false))),
  none⟩]) .ret) .skip)))) (.reg [⟨(some 18), (.bin .add (.t 8) (.k (.int .i64 1))), none⟩, ⟨(some 8), (.mv (.t 18)), none⟩])))

/- schisma/decimal.Canonical -/
def s200 : SFunc :=
  ⟨1, [(.t 2)], (.seq (.reg [⟨(some 2), (.mv (.k (.bool false))), none⟩]) (.seq (.seq (.reg [⟨(some 5), (.mv (.t 0)), none⟩, ⟨(some 6), (.s2b (.t 5)), none⟩,
  ⟨(some 7), (.len (.t 6)), none⟩, ⟨(some 8), (.mv (.k (.int .i64 0))), none⟩]) (.blk 0 (.loop s200_0))) (.seq (.reg [⟨(some 19), (.mv (.t 0)), none⟩, ⟨(some
  20), (.lens (.t 19)), none⟩, ⟨(some 21), (.bin .eql (.t 20) (.k (.int .i64 1))), none⟩, ⟨(some 22), (.mv (.t 21)), none⟩, ⟨(some 23), (.mv (.t 0)), (some (22,
  false))⟩, ⟨(some 24), (.lens (.t 23)), (some (22, false))⟩, ⟨(some 25), (.bin .gtr (.t 24) (.k (.int .i64 1))), (some (22, false))⟩, ⟨(some 26), (.mv (.t
  25)), (some (22, false))⟩, ⟨(some 27), (.mv (.t 0)), (some (26, true))⟩, ⟨(some 28), (.idxs (.t 27) (.k (.int .i64 0))), (some (26, true))⟩, ⟨(some 29), (.bin
  .neq (.t 28) (.k (.int .u8 48))), (some (26, true))⟩, ⟨(some 30), (.pick (.t 26) (.t 29) (.k (.bool false))), (some (22, false))⟩, ⟨(some 31), (.pick (.t 22)
  (.k (.bool true)) (.t 30)), none⟩, ⟨(some 2), (.mv (.t 31)), none⟩]) .ret)))⟩

/- schisma/whole.Sub -/
def s202 : SFunc :=
  ⟨2, [(.t 4)], (.seq (.reg [⟨(some 4), (.mv (.k (.str (bytes [])))), none⟩]) (.seq (.reg [⟨(some 5), (.mv (.t 0)), none⟩, ⟨(some 6), (.mv (.t 1)), none⟩, ⟨(some
  7), (.callR (.k (.fn 137 [])) [(.t 6)]), none⟩, ⟨(some 8), (.callR (.k (.fn 133 [])) [(.t 5), (.t 7)]), none⟩, ⟨(some 4), (.mv (.t 8)), none⟩]) .ret))⟩

def s203_0 : SCode :=
  .seq (.reg [⟨(some 11), (.bin .lss (.t 10) (.t 9)), none⟩]) (.seq (.cond (.t 11) .skip (.exit 0)) (.seq (.blk 1 (.seq (.reg [⟨(some 12), (.iad 1 (.t 8) (.t
  10)), none⟩, ⟨(some 13), (.ld 1 false (.t 12)), none⟩, ⟨(some 4), (.mv (.t 13)), none⟩]) (.blk 2 (.seq (.reg [⟨(some 15), (.mv (.t 4)), none⟩, ⟨(some 16),
  (.len (.t 15)), none⟩, ⟨(some 17), (.bin .gtr (.t 16) (.k (.int .i64 12))), none⟩, ⟨(some 14), (.mv (.t 17)), none⟩]) (.cond (.t 14) (.seq (.reg [⟨(some 2),
  (.mv (.k (.int .i64 4))), none⟩]) .ret) (.seq (.reg [⟨(some 19), (.mv (.t 4)), none⟩, ⟨(some 20), (.len (.t 19)), none⟩, ⟨(some 21), (.mv (.t 0)), none⟩,
  ⟨(some 22), (.iad 1 (.t 21) (.k (.int .i64 0))), none⟩, ⟨(some 23), (.ld 1 false (.t 22)), none⟩, ⟨(some 24), (.len (.t 23)), none⟩, ⟨(some 25), (.bin .neq
  (.t 20) (.t 24)), none⟩, ⟨(some 18), (.mv (.t 25)), none⟩]) (.cond (.t 18) (.seq (.reg [⟨(some 2), (.mv (.k (.int .i64 5))), none⟩]) .ret) (.seq (.reg [⟨(some
  27), (.mv (.t 4)), none⟩, ⟨(some 28), (.callW (.k (.fn 173 [])) [(.t 27), (.k (.fn 230 []))]), none⟩, ⟨(some 26), (.mv (.t 28)), none⟩]) (.cond (.t 26) (.seq
  (.reg [⟨(some 2), (.mv (.k (.int .i64 4))), none⟩]) .ret) .skip))))))))) (.reg [⟨(some 29), (.bin .add (.t 10) (.k (.int .i64 1))), none⟩, ⟨(some 10), (.mv
  (.t 29)), none⟩])))

/- schisma/table.Check -/
def s203 : SFunc :=
  ⟨1, [(.t 2)], (.seq (.reg [⟨(some 2), (.mv (.k (.int .i64 0))), none⟩]) (.seq (.seq (.reg [⟨(some 5), (.mv (.t 0)), none⟩, ⟨(some 6), (.len (.t 5)), none⟩,
  ⟨(some 7), (.bin .gtr (.t 6) (.k (.int .i64 12))), none⟩]) (.cond (.t 7) (.seq (.reg [⟨(some 2), (.mv (.k (.int .i64 4))), none⟩]) .ret) .skip)) (.seq (.seq
  (.reg [⟨(some 8), (.mv (.t 0)), none⟩, ⟨(some 9), (.len (.t 8)), none⟩, ⟨(some 10), (.mv (.k (.int .i64 0))), none⟩]) (.blk 0 (.loop s203_0))) (.seq (.reg
  [⟨(some 2), (.mv (.k (.int .i64 0))), none⟩]) .ret))))⟩

def s204_0 : SCode :=
  .seq (.reg [⟨(some 10), (.bin .lss (.t 9) (.t 8)), none⟩]) (.seq (.cond (.t 10) .skip (.exit 0)) (.seq (.blk 1 (.seq (.reg [⟨(some 11), (.mv (.t 9)), none⟩,
  ⟨(some 12), (.iad 1 (.t 7) (.t 9)), none⟩, ⟨(some 13), (.ld 1 false (.t 12)), none⟩, ⟨(some 5), (.alc [(.z true)]), none⟩, ⟨(some 4), (.mv (.t 11)), none⟩,
  ⟨none, (.st 1 (.t 5) (.t 13)), none⟩]) (.seq (.reg [⟨(some 14), (.ld 1 false (.t 5)), none⟩, ⟨(some 15), (.callR (.k (.fn 231 [])) [(.t 14)]), none⟩, ⟨(some
  6), (.alc [(.int .i64 0)]), none⟩, ⟨none, (.st 1 (.t 6) (.t 15)), none⟩]) (.seq (.seq (.reg [⟨(some 16), (.ld 1 false (.t 6)), none⟩, ⟨(some 17), (.mv (.t
  3)), none⟩, ⟨(some 18), (.bin .leq (.t 16) (.t 17)), none⟩, ⟨(some 19), (.mv (.t 18)), none⟩, ⟨(some 20), (.ld 1 false (.t 5)), (some (19, false))⟩, ⟨(some
  21), (.ld 1 false (.t 6)), (some (19, false))⟩, ⟨(some 22), (.iad 1 (.t 20) (.t 21)), (some (19, false))⟩, ⟨(some 23), (.ld 1 false (.t 22)), (some (19,
  false))⟩, ⟨(some 24), (.bin .lss (.t 23) (.k (.int .i64 0))), (some (19, false))⟩, ⟨(some 25), (.pick (.t 19) (.k (.bool true)) (.t 24)), none⟩]) (.cond (.t
  25) (.seq (.reg [⟨(some 2), (.mv (.k (.bool false))), none⟩]) .ret) .skip)) (.seq (.seq (.reg [⟨(some 26), (.mv (.t 0)), none⟩, ⟨(some 27), (.mv (.t 4)),
  none⟩, ⟨(some 28), (.slc 1 (.t 26) none (some (.t 27))), none⟩, ⟨(some 29), (.mkf 233 [(.t 6), (.t 5)]), none⟩, ⟨(some 30), (.callW (.k (.fn 232 [])) [(.t
  28), (.t 29)]), none⟩]) (.cond (.t 30) (.seq (.reg [⟨(some 2), (.mv (.k (.bool false))), none⟩]) .ret) .skip)) (.reg [⟨(some 31), (.ld 1 false (.t 6)), none⟩,
  ⟨(some 3), (.mv (.t 31)), none⟩])))))) (.reg [⟨(some 32), (.bin .add (.t 9) (.k (.int .i64 1))), none⟩, ⟨(some 9), (.mv (.t 32)), none⟩])))

/- schisma/hermite.isForm -/
def s204 : SFunc :=
  ⟨1, [(.t 2)], (.seq (.reg [⟨(some 2), (.mv (.k (.bool false))), none⟩]) (.seq (.reg [⟨(some 3), (.mv (.k (.int .i64 (-1)))), none⟩]) (.seq (.seq (.reg [⟨(some
  7), (.mv (.t 0)), none⟩, ⟨(some 8), (.len (.t 7)), none⟩, ⟨(some 9), (.mv (.k (.int .i64 0))), none⟩]) (.blk 0 (.loop s204_0))) (.seq (.reg [⟨(some 2), (.mv
  (.k (.bool true))), none⟩]) .ret))))⟩

/- (schisma/lattice.long).lead -/
def s205 : SFunc :=
  ⟨1, [(.t 2)], (.seq (.reg [⟨(some 2), (.mv (.k (.int .i64 0))), none⟩]) (.seq (.reg [⟨(some 3), (.mv (.t 0)), none⟩, ⟨(some 4), (.callW (.k (.fn 234 [])) [(.t
  3), (.k (.fn 235 []))]), none⟩, ⟨(some 2), (.mv (.t 4)), none⟩]) .ret))⟩

def s206_0 : SCode :=
  .seq (.reg [⟨(some 18), (.bin .lss (.t 17) (.t 16)), none⟩]) (.seq (.cond (.t 18) .skip (.exit 0)) (.seq (.blk 1 (.seq (.reg [⟨(some 19), (.mv (.t 17)), none⟩,
  ⟨(some 20), (.iad 1 (.t 15) (.t 17)), none⟩, ⟨(some 21), (.ld 1 false (.t 20)), none⟩, ⟨(some 7), (.mv (.t 19)), none⟩, ⟨(some 8), (.mv (.t 21)), none⟩])
  (.seq (.reg [⟨(some 22), (.mv (.t 1)), none⟩, ⟨(some 23), (.mv (.t 7)), none⟩, ⟨(some 24), (.iad 1 (.t 22) (.t 23)), none⟩, ⟨(some 25), (.ld 1 false (.t 24)),
  none⟩, ⟨(some 9), (.mv (.t 25)), none⟩]) (.seq (.reg [⟨(some 26), (.mv (.t 2)), none⟩, ⟨(some 27), (.mv (.t 8)), none⟩, ⟨(some 28), (.mv (.t 9)), none⟩,
  ⟨(some 29), (.callW (.t 26) [(.t 27), (.t 28)]), none⟩, ⟨(some 30), (.un .not (.t 29)), none⟩]) (.cond (.t 30) (.seq (.reg [⟨(some 6), (.mv (.k (.bool
  false))), none⟩]) .ret) .skip))))) (.reg [⟨(some 31), (.bin .add (.t 17) (.k (.int .i64 1))), none⟩, ⟨(some 17), (.mv (.t 31)), none⟩])))

/- slices.EqualFunc[schisma/api.Matrix,schisma/api.Matrix,schisma/api.Row,schisma/api.Row] -/
def s206 : SFunc :=
  ⟨3, [(.t 6)], (.seq (.reg [⟨(some 6), (.mv (.k (.bool false))), none⟩]) (.seq (.seq (.reg [⟨(some 10), (.mv (.t 0)), none⟩, ⟨(some 11), (.len (.t 10)), none⟩,
  ⟨(some 12), (.mv (.t 1)), none⟩, ⟨(some 13), (.len (.t 12)), none⟩, ⟨(some 14), (.bin .neq (.t 11) (.t 13)), none⟩]) (.cond (.t 14) (.seq (.reg [⟨(some 6),
  (.mv (.k (.bool false))), none⟩]) .ret) .skip)) (.seq (.seq (.reg [⟨(some 15), (.mv (.t 0)), none⟩, ⟨(some 16), (.len (.t 15)), none⟩, ⟨(some 17), (.mv (.k
  (.int .i64 0))), none⟩]) (.blk 0 (.loop s206_0))) (.seq (.reg [⟨(some 6), (.mv (.k (.bool true))), none⟩]) .ret))))⟩

/- schisma/row.Equal -/
def s207 : SFunc :=
  ⟨2, [(.t 4)], (.seq (.reg [⟨(some 4), (.mv (.k (.bool false))), none⟩]) (.seq (.reg [⟨(some 5), (.mv (.t 0)), none⟩, ⟨(some 6), (.mv (.t 1)), none⟩, ⟨(some 7),
  (.callR (.k (.fn 83 [])) [(.t 5), (.t 6)]), none⟩, ⟨(some 4), (.mv (.t 7)), none⟩]) .ret))⟩

/- schisma/temperament.same$1 -/
def s208 : SFunc :=
  ⟨2, [(.t 4)], (.seq (.reg [⟨(some 4), (.mv (.k (.bool false))), none⟩]) (.seq (.reg [⟨(some 5), (.mv (.t 0)), none⟩, ⟨(some 6), (.mv (.t 1)), none⟩, ⟨(some 7),
  (.callR (.k (.fn 83 [])) [(.t 5), (.t 6)]), none⟩, ⟨(some 4), (.mv (.t 7)), none⟩]) .ret))⟩

def s209_0 : SCode :=
  .seq (.reg [⟨(some 9), (.bin .lss (.t 8) (.t 7)), none⟩]) (.seq (.cond (.t 9) .skip (.exit 0)) (.seq (.blk 1 (.seq (.reg [⟨(some 10), (.mv (.t 8)), none⟩,
  ⟨(some 5), (.mv (.t 10)), none⟩]) (.seq (.reg [⟨(some 11), (.mv (.t 1)), none⟩, ⟨(some 12), (.mv (.t 0)), none⟩, ⟨(some 13), (.mv (.t 5)), none⟩, ⟨(some 14),
  (.iad 1 (.t 12) (.t 13)), none⟩, ⟨(some 15), (.ld 1 false (.t 14)), none⟩, ⟨(some 16), (.callW (.t 11) [(.t 15)]), none⟩]) (.cond (.t 16) (.seq (.reg [⟨(some
  17), (.mv (.t 5)), none⟩, ⟨(some 4), (.mv (.t 17)), none⟩]) .ret) .skip)))) (.reg [⟨(some 18), (.bin .add (.t 8) (.k (.int .i64 1))), none⟩, ⟨(some 8), (.mv
  (.t 18)), none⟩])))

/- slices.IndexFunc[schisma/api.Row,int] -/
def s209 : SFunc :=
  ⟨2, [(.t 4)], (.seq (.reg [⟨(some 4), (.mv (.k (.int .i64 0))), none⟩]) (.seq (.seq (.reg [⟨(some 6), (.mv (.t 0)), none⟩, ⟨(some 7), (.len (.t 6)), none⟩,
  ⟨(some 8), (.mv (.k (.int .i64 0))), none⟩]) (.blk 0 (.loop s209_0))) (.seq (.reg [⟨(some 4), (.mv (.k (.int .i64 (-1)))), none⟩]) .ret)))⟩

/- schisma/decimal.Small -/
def s216 : SFunc :=
  ⟨1, [(.t 2), (.t 3)], (.seq (.reg [⟨(some 2), (.mv (.k (.int .u64 0))), none⟩, ⟨(some 3), (.mv (.k (.bool false))), none⟩]) (.seq (.reg [⟨(some 7), (.mv (.t
  0)), none⟩, ⟨(some 8), (.callR (.k (.fn 240 [])) [(.t 7), (.k (.int .i64 10)), (.k (.int .i64 64))]), none⟩, ⟨(some 6), (.mv (.t 8)), none⟩, ⟨(some 9), (.ext
  0 (.t 6)), none⟩, ⟨(some 10), (.ext 1 (.t 6)), none⟩, ⟨(some 4), (.mv (.t 9)), none⟩, ⟨(some 5), (.mv (.t 10)), none⟩]) (.seq (.seq (.reg [⟨(some 11), (.mv
  (.t 5)), none⟩, ⟨(some 12), (.nilq 0 true (.t 11)), none⟩]) (.cond (.t 12) (.seq (.reg [⟨(some 2), (.mv (.k (.int .u64 0))), none⟩, ⟨(some 3), (.mv (.k (.bool
  false))), none⟩]) .ret) .skip)) (.seq (.reg [⟨(some 13), (.mv (.t 4)), none⟩, ⟨(some 2), (.mv (.t 13)), none⟩, ⟨(some 3), (.mv (.k (.bool true))), none⟩])
  .ret))))⟩

def s218_0 : SCode :=
  .seq (.seq (.reg [⟨(some 7), (.mv (.t 2)), none⟩, ⟨(some 8), (.mv (.t 3)), none⟩, ⟨(some 9), (.bin .lss (.t 7) (.t 8)), none⟩]) (.cond (.t 9) .skip (.exit 0)))
  (.seq (.blk 1 (.reg [⟨(some 14), (.mv (.t 0)), none⟩, ⟨(some 15), (.mv (.t 2)), none⟩, ⟨(some 16), (.mv (.t 0)), none⟩, ⟨(some 17), (.mv (.t 3)), none⟩,
  ⟨(some 18), (.mv (.t 0)), none⟩, ⟨(some 19), (.mv (.t 3)), none⟩, ⟨(some 20), (.iad 1 (.t 18) (.t 19)), none⟩, ⟨(some 21), (.ld 1 false (.t 20)), none⟩,
  ⟨(some 22), (.mv (.t 0)), none⟩, ⟨(some 23), (.mv (.t 2)), none⟩, ⟨(some 24), (.iad 1 (.t 22) (.t 23)), none⟩, ⟨(some 25), (.ld 1 false (.t 24)), none⟩,
  ⟨(some 26), (.iad 1 (.t 14) (.t 15)), none⟩, ⟨none, (.st 1 (.t 26) (.t 21)), none⟩, ⟨(some 27), (.iad 1 (.t 16) (.t 17)), none⟩, ⟨none, (.st 1 (.t 27) (.t
  25)), none⟩])) (.reg [⟨(some 10), (.mv (.t 2)), none⟩, ⟨(some 11), (.bin .add (.t 10) (.k (.int .i64 1))), none⟩, ⟨(some 12), (.mv (.t 3)), none⟩, ⟨(some 13),
  (.bin .sub (.t 12) (.k (.int .i64 1))), none⟩, ⟨(some 2), (.mv (.t 11)), none⟩, ⟨(some 3), (.mv (.t 13)), none⟩]))

/- slices.Reverse[[]byte,byte] -/
def s218 : SFunc :=
  ⟨1, [], (.seq (.reg [⟨(some 4), (.mv (.t 0)), none⟩, ⟨(some 5), (.len (.t 4)), none⟩, ⟨(some 6), (.bin .sub (.t 5) (.k (.int .i64 1))), none⟩, ⟨(some 2), (.mv
  (.k (.int .i64 0))), none⟩, ⟨(some 3), (.mv (.t 6)), none⟩]) (.blk 0 (.loop s218_0)))⟩

/- slices.ContainsFunc[[]schisma/api.Rational,schisma/api.Rational] -/
def s219 : SFunc :=
  ⟨2, [(.t 4)], (.seq (.reg [⟨(some 4), (.mv (.k (.bool false))), none⟩]) (.seq (.reg [⟨(some 5), (.mv (.t 0)), none⟩, ⟨(some 6), (.mv (.t 1)), none⟩, ⟨(some 7),
  (.callW (.k (.fn 242 [])) [(.t 5), (.t 6)]), none⟩, ⟨(some 8), (.bin .geq (.t 7) (.k (.int .i64 0))), none⟩, ⟨(some 4), (.mv (.t 8)), none⟩]) .ret))⟩

/- schisma/size.Combine$1 -/
def s220 : SFunc :=
  ⟨1, [(.t 2)], (.seq (.reg [⟨(some 1), (.box 2 (.t 0)), none⟩, ⟨(some 2), (.mv (.k (.bool false))), none⟩]) (.seq (.reg [⟨(some 3), (.ld 2 true (.t 1)), none⟩,
  ⟨(some 4), (.callR (.k (.fn 78 [])) [(.t 3)]), none⟩, ⟨(some 5), (.bin .neq (.t 4) (.k (.int .i64 0))), none⟩, ⟨(some 2), (.mv (.t 5)), none⟩]) .ret))⟩

/- schisma/size.result -/
def s221 : SFunc :=
  ⟨1, [(.t 2), (.t 3)], (.seq (.reg [⟨(some 2), (.mv (.k (.z true))), none⟩, ⟨(some 3), (.mv (.k (.int .i64 0))), none⟩]) (.seq (.seq (.reg [⟨(some 4), (.mv (.t
  0)), none⟩, ⟨(some 5), (.callW (.k (.fn 117 [])) [(.t 4), (.k (.fn 243 []))]), none⟩]) (.cond (.t 5) (.seq (.reg [⟨(some 2), (.mv (.k (.z true))), none⟩,
  ⟨(some 3), (.mv (.k (.int .i64 4))), none⟩]) .ret) .skip)) (.seq (.reg [⟨(some 6), (.mv (.t 0)), none⟩, ⟨(some 2), (.mv (.t 6)), none⟩, ⟨(some 3), (.mv (.k
  (.int .i64 0))), none⟩]) .ret)))⟩

/- math/bits.Mul32 -/
def s222 : SFunc :=
  ⟨2, [(.t 4), (.t 5)], (.seq (.reg [⟨(some 4), (.mv (.k (.int .u32 0))), none⟩, ⟨(some 5), (.mv (.k (.int .u32 0))), none⟩]) (.seq (.reg [⟨(some 7), (.mv (.t
  0)), none⟩, ⟨(some 8), (.conv .u64 (.t 7)), none⟩, ⟨(some 9), (.mv (.t 1)), none⟩, ⟨(some 10), (.conv .u64 (.t 9)), none⟩, ⟨(some 11), (.bin .mul (.t 8) (.t
  10)), none⟩, ⟨(some 6), (.mv (.t 11)), none⟩]) (.seq (.reg [⟨(some 12), (.mv (.t 6)), none⟩, ⟨(some 13), (.bin .shr (.t 12) (.k (.int .u64 32))), none⟩,
  ⟨(some 14), (.conv .u32 (.t 13)), none⟩, ⟨(some 15), (.mv (.t 6)), none⟩, ⟨(some 16), (.conv .u32 (.t 15)), none⟩, ⟨(some 4), (.mv (.t 14)), none⟩, ⟨(some 5),
  (.mv (.t 16)), none⟩]) .ret)))⟩

/- math/bits.Mul64 -/
def s223 : SFunc :=
  ⟨2, [(.t 4), (.t 5)], (.seq (.reg [⟨(some 4), (.mv (.k (.int .u64 0))), none⟩, ⟨(some 5), (.mv (.k (.int .u64 0))), none⟩]) (.seq (.reg [⟨(some 14), (.mv (.t
  0)), none⟩, ⟨(some 15), (.bin .and (.t 14) (.k (.int .u64 4294967295))), none⟩, ⟨(some 6), (.mv (.t 15)), none⟩]) (.seq (.reg [⟨(some 16), (.mv (.t 0)),
  none⟩, ⟨(some 17), (.bin .shr (.t 16) (.k (.int .u64 32))), none⟩, ⟨(some 7), (.mv (.t 17)), none⟩]) (.seq (.reg [⟨(some 18), (.mv (.t 1)), none⟩, ⟨(some 19),
  (.bin .and (.t 18) (.k (.int .u64 4294967295))), none⟩, ⟨(some 8), (.mv (.t 19)), none⟩]) (.seq (.reg [⟨(some 20), (.mv (.t 1)), none⟩, ⟨(some 21), (.bin .shr
  (.t 20) (.k (.int .u64 32))), none⟩, ⟨(some 9), (.mv (.t 21)), none⟩]) (.seq (.reg [⟨(some 22), (.mv (.t 6)), none⟩, ⟨(some 23), (.mv (.t 8)), none⟩, ⟨(some
  24), (.bin .mul (.t 22) (.t 23)), none⟩, ⟨(some 10), (.mv (.t 24)), none⟩]) (.seq (.reg [⟨(some 25), (.mv (.t 7)), none⟩, ⟨(some 26), (.mv (.t 8)), none⟩,
  ⟨(some 27), (.bin .mul (.t 25) (.t 26)), none⟩, ⟨(some 28), (.mv (.t 10)), none⟩, ⟨(some 29), (.bin .shr (.t 28) (.k (.int .u64 32))), none⟩, ⟨(some 30),
  (.bin .add (.t 27) (.t 29)), none⟩, ⟨(some 11), (.mv (.t 30)), none⟩]) (.seq (.reg [⟨(some 31), (.mv (.t 11)), none⟩, ⟨(some 32), (.bin .and (.t 31) (.k (.int
  .u64 4294967295))), none⟩, ⟨(some 12), (.mv (.t 32)), none⟩]) (.seq (.reg [⟨(some 33), (.mv (.t 11)), none⟩, ⟨(some 34), (.bin .shr (.t 33) (.k (.int .u64
  32))), none⟩, ⟨(some 13), (.mv (.t 34)), none⟩]) (.seq (.reg [⟨(some 35), (.mv (.t 12)), none⟩, ⟨(some 36), (.mv (.t 6)), none⟩, ⟨(some 37), (.mv (.t 9)),
  none⟩, ⟨(some 38), (.bin .mul (.t 36) (.t 37)), none⟩, ⟨(some 39), (.bin .add (.t 35) (.t 38)), none⟩, ⟨(some 12), (.mv (.t 39)), none⟩]) (.seq (.reg [⟨(some
  40), (.mv (.t 7)), none⟩, ⟨(some 41), (.mv (.t 9)), none⟩, ⟨(some 42), (.bin .mul (.t 40) (.t 41)), none⟩, ⟨(some 43), (.mv (.t 13)), none⟩, ⟨(some 44), (.bin
  .add (.t 42) (.t 43)), none⟩, ⟨(some 45), (.mv (.t 12)), none⟩, ⟨(some 46), (.bin .shr (.t 45) (.k (.int .u64 32))), none⟩, ⟨(some 47), (.bin .add (.t 44) (.t
  46)), none⟩, ⟨(some 4), (.mv (.t 47)), none⟩]) (.seq (.reg [⟨(some 48), (.mv (.t 0)), none⟩, ⟨(some 49), (.mv (.t 1)), none⟩, ⟨(some 50), (.bin .mul (.t 48)
  (.t 49)), none⟩, ⟨(some 5), (.mv (.t 50)), none⟩]) .ret))))))))))))⟩

/- (schisma/decimal.pieces).scaled -/
def s224 : SFunc :=
  ⟨2, [(.t 4)], (.seq (.reg [⟨(some 4), (.mv (.k (.z true))), none⟩]) (.seq (.reg [⟨(some 5), (.mv (.t 0)), none⟩, ⟨(some 6), (.mv (.t 1)), none⟩, ⟨(some 7),
  (.bsl 1 [(.int .u64 0)] 1 [(0, (.t 6))]), none⟩, ⟨(some 8), (.callW (.k (.fn 193 [])) [(.t 7)]), none⟩, ⟨(some 9), (.callW (.k (.fn 184 [])) [(.t 5), (.t
  8)]), none⟩, ⟨(some 4), (.mv (.t 9)), none⟩]) .ret))⟩

/- math/bits.Len -/
def s225 : SFunc :=
  ⟨1, [(.t 2)], (.seq (.reg [⟨(some 2), (.mv (.k (.int .i64 0))), none⟩]) (.seq (.cond (.k (.bool false)) (.seq (.reg [⟨(some 3), (.mv (.t 0)), none⟩, ⟨(some 4),
  (.conv .u32 (.t 3)), none⟩, ⟨(some 5), (.callR (.k (.fn 244 [])) [(.t 4)]), none⟩, ⟨(some 2), (.mv (.t 5)), none⟩]) .ret) .skip) (.seq (.reg [⟨(some 6), (.mv
  (.t 0)), none⟩, ⟨(some 7), (.callR (.k (.fn 245 [])) [(.t 6)]), none⟩, ⟨(some 2), (.mv (.t 7)), none⟩]) .ret)))⟩

def s227_1 : SCode :=
  .seq (.seq (.reg [⟨(some 18), (.mv (.t 9)), none⟩, ⟨(some 19), (.mv (.t 1)), none⟩, ⟨(some 20), (.bin .gtr (.t 18) (.t 19)), none⟩, ⟨(some 21), (.mv (.t 20)),
  none⟩, ⟨(some 22), (.mv (.t 3)), (some (21, true))⟩, ⟨(some 23), (.mv (.t 0)), (some (21, true))⟩, ⟨(some 24), (.mv (.t 9)), (some (21, true))⟩, ⟨(some 25),
  (.iad 5 (.t 23) (.t 24)), (some (21, true))⟩, ⟨(some 26), (.ld 5 true (.t 25)), (some (21, true))⟩, ⟨(some 27), (.mv (.t 0)), (some (21, true))⟩, ⟨(some 28),
  (.mv (.t 9)), (some (21, true))⟩, ⟨(some 29), (.bin .sub (.t 28) (.k (.int .i64 1))), (some (21, true))⟩, ⟨(some 30), (.iad 5 (.t 27) (.t 29)), (some (21,
  true))⟩, ⟨(some 31), (.ld 5 true (.t 30)), (some (21, true))⟩, ⟨(some 32), (.callW (.t 22) [(.t 26), (.t 31)]), (some (21, true))⟩, ⟨(some 33), (.bin .lss (.t
  32) (.k (.int .i64 0))), (some (21, true))⟩, ⟨(some 34), (.pick (.t 21) (.t 33) (.k (.bool false))), none⟩]) (.cond (.t 34) .skip (.exit 2))) (.seq (.blk 3
  (.reg [⟨(some 37), (.mv (.t 0)), none⟩, ⟨(some 38), (.mv (.t 9)), none⟩, ⟨(some 39), (.mv (.t 0)), none⟩, ⟨(some 40), (.mv (.t 9)), none⟩, ⟨(some 41), (.bin
  .sub (.t 40) (.k (.int .i64 1))), none⟩, ⟨(some 42), (.mv (.t 0)), none⟩, ⟨(some 43), (.mv (.t 9)), none⟩, ⟨(some 44), (.bin .sub (.t 43) (.k (.int .i64 1))),
  none⟩, ⟨(some 45), (.iad 5 (.t 42) (.t 44)), none⟩, ⟨(some 46), (.ld 5 true (.t 45)), none⟩, ⟨(some 47), (.mv (.t 0)), none⟩, ⟨(some 48), (.mv (.t 9)), none⟩,
  ⟨(some 49), (.iad 5 (.t 47) (.t 48)), none⟩, ⟨(some 50), (.ld 5 true (.t 49)), none⟩, ⟨(some 51), (.iad 5 (.t 37) (.t 38)), none⟩, ⟨none, (.st 5 (.t 51) (.t
  46)), none⟩, ⟨(some 52), (.iad 5 (.t 39) (.t 41)), none⟩, ⟨none, (.st 5 (.t 52) (.t 50)), none⟩])) (.reg [⟨(some 35), (.mv (.t 9)), none⟩, ⟨(some 36), (.bin
  .sub (.t 35) (.k (.int .i64 1))), none⟩, ⟨(some 9), (.mv (.t 36)), none⟩]))

def s227_0 : SCode :=
  .seq (.seq (.reg [⟨(some 12), (.mv (.t 8)), none⟩, ⟨(some 13), (.mv (.t 2)), none⟩, ⟨(some 14), (.bin .lss (.t 12) (.t 13)), none⟩]) (.cond (.t 14) .skip (.exit
  0))) (.seq (.blk 1 (.seq (.reg [⟨(some 17), (.mv (.t 8)), none⟩, ⟨(some 9), (.mv (.t 17)), none⟩]) (.blk 2 (.loop s227_1)))) (.reg [⟨(some 15), (.mv (.t 8)),
  none⟩, ⟨(some 16), (.bin .add (.t 15) (.k (.int .i64 1))), none⟩, ⟨(some 8), (.mv (.t 16)), none⟩]))

/- slices.insertionSortCmpFunc[schisma/damage.measured] -/
def s227 : SFunc :=
  ⟨4, [], (.seq (.reg [⟨(some 10), (.mv (.t 1)), none⟩, ⟨(some 11), (.bin .add (.t 10) (.k (.int .i64 1))), none⟩, ⟨(some 8), (.mv (.t 11)), none⟩]) (.blk 0
  (.loop s227_0)))⟩

def s228_0 : SCode :=
  .seq (.seq (.reg [⟨(some 31), (.mv (.t 10)), none⟩, ⟨(some 32), (.mv (.t 11)), none⟩, ⟨(some 33), (.bin .lss (.t 31) (.t 32)), none⟩]) (.cond (.t 33) .skip
  (.exit 0))) (.blk 1 (.seq (.reg [⟨(some 34), (.mv (.t 10)), none⟩, ⟨(some 35), (.mv (.t 11)), none⟩, ⟨(some 36), (.bin .add (.t 34) (.t 35)), none⟩, ⟨(some
  37), (.conv .u64 (.t 36)), none⟩, ⟨(some 38), (.bin .shr (.t 37) (.k (.int .u64 1))), none⟩, ⟨(some 39), (.conv .i64 (.t 38)), none⟩, ⟨(some 12), (.mv (.t
  39)), none⟩]) (.seq (.reg [⟨(some 40), (.mv (.t 4)), none⟩, ⟨(some 41), (.mv (.t 0)), none⟩, ⟨(some 42), (.mv (.t 12)), none⟩, ⟨(some 43), (.iad 5 (.t 41) (.t
  42)), none⟩, ⟨(some 44), (.ld 5 true (.t 43)), none⟩, ⟨(some 45), (.mv (.t 0)), none⟩, ⟨(some 46), (.mv (.t 1)), none⟩, ⟨(some 47), (.iad 5 (.t 45) (.t 46)),
  none⟩, ⟨(some 48), (.ld 5 true (.t 47)), none⟩, ⟨(some 49), (.callW (.t 40) [(.t 44), (.t 48)]), none⟩, ⟨(some 50), (.bin .lss (.t 49) (.k (.int .i64 0))),
  none⟩]) (.cond (.t 50) (.reg [⟨(some 51), (.mv (.t 12)), none⟩, ⟨(some 52), (.bin .add (.t 51) (.k (.int .i64 1))), none⟩, ⟨(some 10), (.mv (.t 52)), none⟩])
  (.reg [⟨(some 53), (.mv (.t 12)), none⟩, ⟨(some 11), (.mv (.t 53)), none⟩])))))

def s228_1 : SCode :=
  .seq (.seq (.reg [⟨(some 55), (.mv (.t 13)), none⟩, ⟨(some 56), (.mv (.t 10)), none⟩, ⟨(some 57), (.bin .sub (.t 56) (.k (.int .i64 1))), none⟩, ⟨(some 58),
  (.bin .lss (.t 55) (.t 57)), none⟩]) (.cond (.t 58) .skip (.exit 2))) (.seq (.blk 3 (.reg [⟨(some 61), (.mv (.t 0)), none⟩, ⟨(some 62), (.mv (.t 13)), none⟩,
  ⟨(some 63), (.mv (.t 0)), none⟩, ⟨(some 64), (.mv (.t 13)), none⟩, ⟨(some 65), (.bin .add (.t 64) (.k (.int .i64 1))), none⟩, ⟨(some 66), (.mv (.t 0)), none⟩,
  ⟨(some 67), (.mv (.t 13)), none⟩, ⟨(some 68), (.bin .add (.t 67) (.k (.int .i64 1))), none⟩, ⟨(some 69), (.iad 5 (.t 66) (.t 68)), none⟩, ⟨(some 70), (.ld 5
  true (.t 69)), none⟩, ⟨(some 71), (.mv (.t 0)), none⟩, ⟨(some 72), (.mv (.t 13)), none⟩, ⟨(some 73), (.iad 5 (.t 71) (.t 72)), none⟩, ⟨(some 74), (.ld 5 true
  (.t 73)), none⟩, ⟨(some 75), (.iad 5 (.t 61) (.t 62)), none⟩, ⟨none, (.st 5 (.t 75) (.t 70)), none⟩, ⟨(some 76), (.iad 5 (.t 63) (.t 65)), none⟩, ⟨none, (.st
  5 (.t 76) (.t 74)), none⟩])) (.reg [⟨(some 59), (.mv (.t 13)), none⟩, ⟨(some 60), (.bin .add (.t 59) (.k (.int .i64 1))), none⟩, ⟨(some 13), (.mv (.t 60)),
  none⟩]))

def s228_2 : SCode :=
  .seq (.seq (.reg [⟨(some 83), (.mv (.t 14)), none⟩, ⟨(some 84), (.mv (.t 15)), none⟩, ⟨(some 85), (.bin .lss (.t 83) (.t 84)), none⟩]) (.cond (.t 85) .skip
  (.exit 4))) (.blk 5 (.seq (.reg [⟨(some 86), (.mv (.t 14)), none⟩, ⟨(some 87), (.mv (.t 15)), none⟩, ⟨(some 88), (.bin .add (.t 86) (.t 87)), none⟩, ⟨(some
  89), (.conv .u64 (.t 88)), none⟩, ⟨(some 90), (.bin .shr (.t 89) (.k (.int .u64 1))), none⟩, ⟨(some 91), (.conv .i64 (.t 90)), none⟩, ⟨(some 16), (.mv (.t
  91)), none⟩]) (.seq (.reg [⟨(some 92), (.mv (.t 4)), none⟩, ⟨(some 93), (.mv (.t 0)), none⟩, ⟨(some 94), (.mv (.t 2)), none⟩, ⟨(some 95), (.iad 5 (.t 93) (.t
  94)), none⟩, ⟨(some 96), (.ld 5 true (.t 95)), none⟩, ⟨(some 97), (.mv (.t 0)), none⟩, ⟨(some 98), (.mv (.t 16)), none⟩, ⟨(some 99), (.iad 5 (.t 97) (.t 98)),
  none⟩, ⟨(some 100), (.ld 5 true (.t 99)), none⟩, ⟨(some 101), (.callW (.t 92) [(.t 96), (.t 100)]), none⟩, ⟨(some 102), (.bin .lss (.t 101) (.k (.int .i64
  0))), none⟩, ⟨(some 103), (.un .not (.t 102)), none⟩]) (.cond (.t 103) (.reg [⟨(some 104), (.mv (.t 16)), none⟩, ⟨(some 105), (.bin .add (.t 104) (.k (.int
  .i64 1))), none⟩, ⟨(some 14), (.mv (.t 105)), none⟩]) (.reg [⟨(some 106), (.mv (.t 16)), none⟩, ⟨(some 15), (.mv (.t 106)), none⟩])))))

def s228_3 : SCode :=
  .seq (.seq (.reg [⟨(some 108), (.mv (.t 17)), none⟩, ⟨(some 109), (.mv (.t 14)), none⟩, ⟨(some 110), (.bin .gtr (.t 108) (.t 109)), none⟩]) (.cond (.t 110)
  .skip (.exit 6))) (.seq (.blk 7 (.reg [⟨(some 113), (.mv (.t 0)), none⟩, ⟨(some 114), (.mv (.t 17)), none⟩, ⟨(some 115), (.mv (.t 0)), none⟩, ⟨(some 116),
  (.mv (.t 17)), none⟩, ⟨(some 117), (.bin .sub (.t 116) (.k (.int .i64 1))), none⟩, ⟨(some 118), (.mv (.t 0)), none⟩, ⟨(some 119), (.mv (.t 17)), none⟩, ⟨(some
  120), (.bin .sub (.t 119) (.k (.int .i64 1))), none⟩, ⟨(some 121), (.iad 5 (.t 118) (.t 120)), none⟩, ⟨(some 122), (.ld 5 true (.t 121)), none⟩, ⟨(some 123),
  (.mv (.t 0)), none⟩, ⟨(some 124), (.mv (.t 17)), none⟩, ⟨(some 125), (.iad 5 (.t 123) (.t 124)), none⟩, ⟨(some 126), (.ld 5 true (.t 125)), none⟩, ⟨(some
  127), (.iad 5 (.t 113) (.t 114)), none⟩, ⟨none, (.st 5 (.t 127) (.t 122)), none⟩, ⟨(some 128), (.iad 5 (.t 115) (.t 117)), none⟩, ⟨none, (.st 5 (.t 128) (.t
  126)), none⟩])) (.reg [⟨(some 111), (.mv (.t 17)), none⟩, ⟨(some 112), (.bin .sub (.t 111) (.k (.int .i64 1))), none⟩, ⟨(some 17), (.mv (.t 112)), none⟩]))

def s228_4 : SCode :=
  .seq (.seq (.reg [⟨(some 149), (.mv (.t 20)), none⟩, ⟨(some 150), (.mv (.t 21)), none⟩, ⟨(some 151), (.bin .lss (.t 149) (.t 150)), none⟩]) (.cond (.t 151)
  .skip (.exit 8))) (.blk 9 (.seq (.reg [⟨(some 152), (.mv (.t 20)), none⟩, ⟨(some 153), (.mv (.t 21)), none⟩, ⟨(some 154), (.bin .add (.t 152) (.t 153)),
  none⟩, ⟨(some 155), (.conv .u64 (.t 154)), none⟩, ⟨(some 156), (.bin .shr (.t 155) (.k (.int .u64 1))), none⟩, ⟨(some 157), (.conv .i64 (.t 156)), none⟩,
  ⟨(some 23), (.mv (.t 157)), none⟩]) (.seq (.reg [⟨(some 158), (.mv (.t 4)), none⟩, ⟨(some 159), (.mv (.t 0)), none⟩, ⟨(some 160), (.mv (.t 22)), none⟩, ⟨(some
  161), (.mv (.t 23)), none⟩, ⟨(some 162), (.bin .sub (.t 160) (.t 161)), none⟩, ⟨(some 163), (.iad 5 (.t 159) (.t 162)), none⟩, ⟨(some 164), (.ld 5 true (.t
  163)), none⟩, ⟨(some 165), (.mv (.t 0)), none⟩, ⟨(some 166), (.mv (.t 23)), none⟩, ⟨(some 167), (.iad 5 (.t 165) (.t 166)), none⟩, ⟨(some 168), (.ld 5 true
  (.t 167)), none⟩, ⟨(some 169), (.callW (.t 158) [(.t 164), (.t 168)]), none⟩, ⟨(some 170), (.bin .lss (.t 169) (.k (.int .i64 0))), none⟩, ⟨(some 171), (.un
  .not (.t 170)), none⟩]) (.cond (.t 171) (.reg [⟨(some 172), (.mv (.t 23)), none⟩, ⟨(some 173), (.bin .add (.t 172) (.k (.int .i64 1))), none⟩, ⟨(some 20),
  (.mv (.t 173)), none⟩]) (.reg [⟨(some 174), (.mv (.t 23)), none⟩, ⟨(some 21), (.mv (.t 174)), none⟩])))))

/- slices.symMergeCmpFunc[schisma/damage.measured] -/
def s228 : SFunc :=
  ⟨5, [], (.seq (.seq (.reg [⟨(some 25), (.mv (.t 2)), none⟩, ⟨(some 26), (.mv (.t 1)), none⟩, ⟨(some 27), (.bin .sub (.t 25) (.t 26)), none⟩, ⟨(some 28), (.bin
  .eql (.t 27) (.k (.int .i64 1))), none⟩]) (.cond (.t 28) (.seq (.reg [⟨(some 29), (.mv (.t 2)), none⟩, ⟨(some 10), (.mv (.t 29)), none⟩]) (.seq (.reg [⟨(some
  30), (.mv (.t 3)), none⟩, ⟨(some 11), (.mv (.t 30)), none⟩]) (.seq (.blk 0 (.loop s228_0)) (.seq (.seq (.reg [⟨(some 54), (.mv (.t 1)), none⟩, ⟨(some 13),
  (.mv (.t 54)), none⟩]) (.blk 2 (.loop s228_1))) .ret)))) .skip)) (.seq (.seq (.reg [⟨(some 77), (.mv (.t 3)), none⟩, ⟨(some 78), (.mv (.t 2)), none⟩, ⟨(some
  79), (.bin .sub (.t 77) (.t 78)), none⟩, ⟨(some 80), (.bin .eql (.t 79) (.k (.int .i64 1))), none⟩]) (.cond (.t 80) (.seq (.reg [⟨(some 81), (.mv (.t 1)),
  none⟩, ⟨(some 14), (.mv (.t 81)), none⟩]) (.seq (.reg [⟨(some 82), (.mv (.t 2)), none⟩, ⟨(some 15), (.mv (.t 82)), none⟩]) (.seq (.blk 4 (.loop s228_2)) (.seq
  (.seq (.reg [⟨(some 107), (.mv (.t 2)), none⟩, ⟨(some 17), (.mv (.t 107)), none⟩]) (.blk 6 (.loop s228_3))) .ret)))) .skip)) (.seq (.reg [⟨(some 129), (.mv
  (.t 1)), none⟩, ⟨(some 130), (.mv (.t 3)), none⟩, ⟨(some 131), (.bin .add (.t 129) (.t 130)), none⟩, ⟨(some 132), (.conv .u64 (.t 131)), none⟩, ⟨(some 133),
  (.bin .shr (.t 132) (.k (.int .u64 1))), none⟩, ⟨(some 134), (.conv .i64 (.t 133)), none⟩, ⟨(some 18), (.mv (.t 134)), none⟩]) (.seq (.reg [⟨(some 135), (.mv
  (.t 18)), none⟩, ⟨(some 136), (.mv (.t 2)), none⟩, ⟨(some 137), (.bin .add (.t 135) (.t 136)), none⟩, ⟨(some 19), (.mv (.t 137)), none⟩]) (.seq (.reg [⟨(some
  20), (.mv (.k (.int .i64 0))), none⟩, ⟨(some 21), (.mv (.k (.int .i64 0))), none⟩]) (.seq (.seq (.reg [⟨(some 138), (.mv (.t 2)), none⟩, ⟨(some 139), (.mv (.t
  18)), none⟩, ⟨(some 140), (.bin .gtr (.t 138) (.t 139)), none⟩]) (.cond (.t 140) (.seq (.reg [⟨(some 141), (.mv (.t 19)), none⟩, ⟨(some 142), (.mv (.t 3)),
  none⟩, ⟨(some 143), (.bin .sub (.t 141) (.t 142)), none⟩, ⟨(some 20), (.mv (.t 143)), none⟩]) (.reg [⟨(some 144), (.mv (.t 18)), none⟩, ⟨(some 21), (.mv (.t
  144)), none⟩])) (.seq (.reg [⟨(some 145), (.mv (.t 1)), none⟩, ⟨(some 20), (.mv (.t 145)), none⟩]) (.reg [⟨(some 146), (.mv (.t 2)), none⟩, ⟨(some 21), (.mv
  (.t 146)), none⟩])))) (.seq (.reg [⟨(some 147), (.mv (.t 19)), none⟩, ⟨(some 148), (.bin .sub (.t 147) (.k (.int .i64 1))), none⟩, ⟨(some 22), (.mv (.t 148)),
  none⟩]) (.seq (.blk 8 (.loop s228_4)) (.seq (.reg [⟨(some 175), (.mv (.t 19)), none⟩, ⟨(some 176), (.mv (.t 20)), none⟩, ⟨(some 177), (.bin .sub (.t 175) (.t
  176)), none⟩, ⟨(some 24), (.mv (.t 177)), none⟩]) (.seq (.seq (.reg [⟨(some 178), (.mv (.t 20)), none⟩, ⟨(some 179), (.mv (.t 2)), none⟩, ⟨(some 180), (.bin
  .lss (.t 178) (.t 179)), none⟩, ⟨(some 181), (.mv (.t 180)), none⟩, ⟨(some 182), (.mv (.t 2)), (some (181, true))⟩, ⟨(some 183), (.mv (.t 24)), (some (181,
  true))⟩, ⟨(some 184), (.bin .lss (.t 182) (.t 183)), (some (181, true))⟩, ⟨(some 185), (.pick (.t 181) (.t 184) (.k (.bool false))), none⟩]) (.cond (.t 185)
  (.reg [⟨(some 186), (.mv (.t 0)), none⟩, ⟨(some 187), (.mv (.t 20)), none⟩, ⟨(some 188), (.mv (.t 2)), none⟩, ⟨(some 189), (.mv (.t 24)), none⟩, ⟨(some 190),
  (.mv (.t 4)), none⟩, ⟨(some 191), (.callW (.k (.fn 247 [])) [(.t 186), (.t 187), (.t 188), (.t 189), (.t 190)]), none⟩]) .skip)) (.seq (.seq (.reg [⟨(some
  192), (.mv (.t 1)), none⟩, ⟨(some 193), (.mv (.t 20)), none⟩, ⟨(some 194), (.bin .lss (.t 192) (.t 193)), none⟩, ⟨(some 195), (.mv (.t 194)), none⟩, ⟨(some
  196), (.mv (.t 20)), (some (195, true))⟩, ⟨(some 197), (.mv (.t 18)), (some (195, true))⟩, ⟨(some 198), (.bin .lss (.t 196) (.t 197)), (some (195, true))⟩,
  ⟨(some 199), (.pick (.t 195) (.t 198) (.k (.bool false))), none⟩]) (.cond (.t 199) (.reg [⟨(some 200), (.mv (.t 0)), none⟩, ⟨(some 201), (.mv (.t 1)), none⟩,
  ⟨(some 202), (.mv (.t 20)), none⟩, ⟨(some 203), (.mv (.t 18)), none⟩, ⟨(some 204), (.mv (.t 4)), none⟩, ⟨(some 205), (.callW (.k (.fn 228 [])) [(.t 200), (.t
  201), (.t 202), (.t 203), (.t 204)]), none⟩]) .skip)) (.seq (.reg [⟨(some 206), (.mv (.t 18)), none⟩, ⟨(some 207), (.mv (.t 24)), none⟩, ⟨(some 208), (.bin
  .lss (.t 206) (.t 207)), none⟩, ⟨(some 209), (.mv (.t 208)), none⟩, ⟨(some 210), (.mv (.t 24)), (some (209, true))⟩, ⟨(some 211), (.mv (.t 3)), (some (209,
  true))⟩, ⟨(some 212), (.bin .lss (.t 210) (.t 211)), (some (209, true))⟩, ⟨(some 213), (.pick (.t 209) (.t 212) (.k (.bool false))), none⟩]) (.cond (.t 213)
  (.reg [⟨(some 214), (.mv (.t 0)), none⟩, ⟨(some 215), (.mv (.t 18)), none⟩, ⟨(some 216), (.mv (.t 24)), none⟩, ⟨(some 217), (.mv (.t 3)), none⟩, ⟨(some 218),
  (.mv (.t 4)), none⟩, ⟨(some 219), (.callW (.k (.fn 228 [])) [(.t 214), (.t 215), (.t 216), (.t 217), (.t 218)]), none⟩]) .skip)))))))))))))⟩

/- schisma/table.great -/
def s230 : SFunc :=
  ⟨1, [(.t 2)], (.seq (.reg [⟨(some 2), (.mv (.k (.bool false))), none⟩]) (.seq (.reg [⟨(some 3), (.mv (.t 0)), none⟩, ⟨(some 4), (.bin .gtr (.t 3) (.k (.int .i64
  1000000000))), none⟩, ⟨(some 5), (.mv (.t 4)), none⟩, ⟨(some 6), (.mv (.t 0)), (some (5, false))⟩, ⟨(some 7), (.bin .lss (.t 6) (.k (.int .i64
  (-1000000000)))), (some (5, false))⟩, ⟨(some 8), (.pick (.t 5) (.k (.bool true)) (.t 7)), none⟩, ⟨(some 2), (.mv (.t 8)), none⟩]) .ret))⟩

/- schisma/hermite.pivot -/
def s231 : SFunc :=
  ⟨1, [(.t 2)], (.seq (.reg [⟨(some 2), (.mv (.k (.int .i64 0))), none⟩]) (.seq (.reg [⟨(some 3), (.mv (.t 0)), none⟩, ⟨(some 4), (.callW (.k (.fn 209 [])) [(.t
  3), (.k (.fn 252 []))]), none⟩, ⟨(some 2), (.mv (.t 4)), none⟩]) .ret))⟩

/- slices.ContainsFunc[schisma/api.Matrix,schisma/api.Row] -/
def s232 : SFunc :=
  ⟨2, [(.t 4)], (.seq (.reg [⟨(some 4), (.mv (.k (.bool false))), none⟩]) (.seq (.reg [⟨(some 5), (.mv (.t 0)), none⟩, ⟨(some 6), (.mv (.t 1)), none⟩, ⟨(some 7),
  (.callW (.k (.fn 253 [])) [(.t 5), (.t 6)]), none⟩, ⟨(some 8), (.bin .geq (.t 7) (.k (.int .i64 0))), none⟩, ⟨(some 4), (.mv (.t 8)), none⟩]) .ret))⟩

/- schisma/hermite.isForm$1 -/
def s233 : SFunc :=
  ⟨3, [(.t 4)], (.seq (.reg [⟨(some 4), (.mv (.k (.bool false))), none⟩]) (.seq (.reg [⟨(some 5), (.mv (.t 0)), none⟩, ⟨(some 6), (.ld 1 false (.t 1)), none⟩,
  ⟨(some 7), (.iad 1 (.t 5) (.t 6)), none⟩, ⟨(some 8), (.ld 1 false (.t 7)), none⟩, ⟨(some 9), (.bin .lss (.t 8) (.k (.int .i64 0))), none⟩, ⟨(some 10), (.mv
  (.t 9)), none⟩, ⟨(some 11), (.mv (.t 0)), (some (10, false))⟩, ⟨(some 12), (.ld 1 false (.t 1)), (some (10, false))⟩, ⟨(some 13), (.iad 1 (.t 11) (.t 12)),
  (some (10, false))⟩, ⟨(some 14), (.ld 1 false (.t 13)), (some (10, false))⟩, ⟨(some 15), (.ld 1 false (.t 2)), (some (10, false))⟩, ⟨(some 16), (.ld 1 false
  (.t 1)), (some (10, false))⟩, ⟨(some 17), (.iad 1 (.t 15) (.t 16)), (some (10, false))⟩, ⟨(some 18), (.ld 1 false (.t 17)), (some (10, false))⟩, ⟨(some 19),
  (.bin .geq (.t 14) (.t 18)), (some (10, false))⟩, ⟨(some 20), (.pick (.t 10) (.k (.bool true)) (.t 19)), none⟩, ⟨(some 4), (.mv (.t 20)), none⟩]) .ret))⟩

def s234_0 : SCode :=
  .seq (.reg [⟨(some 9), (.bin .lss (.t 8) (.t 7)), none⟩]) (.seq (.cond (.t 9) .skip (.exit 0)) (.seq (.blk 1 (.seq (.reg [⟨(some 10), (.mv (.t 8)), none⟩,
  ⟨(some 5), (.mv (.t 10)), none⟩]) (.seq (.reg [⟨(some 11), (.mv (.t 1)), none⟩, ⟨(some 12), (.mv (.t 0)), none⟩, ⟨(some 13), (.mv (.t 5)), none⟩, ⟨(some 14),
  (.iad 1 (.t 12) (.t 13)), none⟩, ⟨(some 15), (.ld 1 false (.t 14)), none⟩, ⟨(some 16), (.callW (.t 11) [(.t 15)]), none⟩]) (.cond (.t 16) (.seq (.reg [⟨(some
  17), (.mv (.t 5)), none⟩, ⟨(some 4), (.mv (.t 17)), none⟩]) .ret) .skip)))) (.reg [⟨(some 18), (.bin .add (.t 8) (.k (.int .i64 1))), none⟩, ⟨(some 8), (.mv
  (.t 18)), none⟩])))

/- slices.IndexFunc[schisma/lattice.long,schisma/api.Int] -/
def s234 : SFunc :=
  ⟨2, [(.t 4)], (.seq (.reg [⟨(some 4), (.mv (.k (.int .i64 0))), none⟩]) (.seq (.seq (.reg [⟨(some 6), (.mv (.t 0)), none⟩, ⟨(some 7), (.len (.t 6)), none⟩,
  ⟨(some 8), (.mv (.k (.int .i64 0))), none⟩]) (.blk 0 (.loop s234_0))) (.seq (.reg [⟨(some 4), (.mv (.k (.int .i64 (-1)))), none⟩]) .ret)))⟩

/- (schisma/lattice.long).lead$1 -/
def s235 : SFunc :=
  ⟨1, [(.t 2)], (.seq (.reg [⟨(some 2), (.mv (.k (.bool false))), none⟩]) (.seq (.reg [⟨(some 3), (.mv (.t 0)), none⟩, ⟨(some 4), (.bin .neq (.t 3) (.k (.str
  (bytes [48])))), none⟩, ⟨(some 2), (.mv (.t 4)), none⟩]) .ret))⟩

def s242_0 : SCode :=
  .seq (.reg [⟨(some 9), (.bin .lss (.t 8) (.t 7)), none⟩]) (.seq (.cond (.t 9) .skip (.exit 0)) (.seq (.blk 1 (.seq (.reg [⟨(some 10), (.mv (.t 8)), none⟩,
  ⟨(some 5), (.mv (.t 10)), none⟩]) (.seq (.reg [⟨(some 11), (.mv (.t 1)), none⟩, ⟨(some 12), (.mv (.t 0)), none⟩, ⟨(some 13), (.mv (.t 5)), none⟩, ⟨(some 14),
  (.iad 2 (.t 12) (.t 13)), none⟩, ⟨(some 15), (.ld 2 true (.t 14)), none⟩, ⟨(some 16), (.callW (.t 11) [(.t 15)]), none⟩]) (.cond (.t 16) (.seq (.reg [⟨(some
  17), (.mv (.t 5)), none⟩, ⟨(some 4), (.mv (.t 17)), none⟩]) .ret) .skip)))) (.reg [⟨(some 18), (.bin .add (.t 8) (.k (.int .i64 1))), none⟩, ⟨(some 8), (.mv
  (.t 18)), none⟩])))

/- slices.IndexFunc[[]schisma/api.Rational,schisma/api.Rational] -/
def s242 : SFunc :=
  ⟨2, [(.t 4)], (.seq (.reg [⟨(some 4), (.mv (.k (.int .i64 0))), none⟩]) (.seq (.seq (.reg [⟨(some 6), (.mv (.t 0)), none⟩, ⟨(some 7), (.len (.t 6)), none⟩,
  ⟨(some 8), (.mv (.k (.int .i64 0))), none⟩]) (.blk 0 (.loop s242_0))) (.seq (.reg [⟨(some 4), (.mv (.k (.int .i64 (-1)))), none⟩]) .ret)))⟩

/- schisma/size.result$1 -/
def s243 : SFunc :=
  ⟨1, [(.t 2)], (.seq (.reg [⟨(some 1), (.box 2 (.t 0)), none⟩, ⟨(some 2), (.mv (.k (.bool false))), none⟩]) (.seq (.reg [⟨(some 3), (.ld 2 true (.t 1)), none⟩,
  ⟨(some 4), (.callR (.k (.fn 141 [])) [(.t 3)]), none⟩, ⟨(some 5), (.un .not (.t 4)), none⟩, ⟨(some 2), (.mv (.t 5)), none⟩]) .ret))⟩

/- math/bits.Len32 -/
def s244 : SFunc :=
  ⟨1, [(.t 2)], (.seq (.reg [⟨(some 2), (.mv (.k (.int .i64 0))), none⟩]) (.seq (.seq (.reg [⟨(some 3), (.mv (.t 0)), none⟩, ⟨(some 4), (.bin .geq (.t 3) (.k
  (.int .u32 65536))), none⟩]) (.cond (.t 4) (.seq (.reg [⟨(some 5), (.mv (.t 0)), none⟩, ⟨(some 6), (.bin .shr (.t 5) (.k (.int .u64 16))), none⟩, ⟨(some 0),
  (.mv (.t 6)), none⟩]) (.reg [⟨(some 2), (.mv (.k (.int .i64 16))), none⟩])) .skip)) (.seq (.seq (.reg [⟨(some 7), (.mv (.t 0)), none⟩, ⟨(some 8), (.bin .geq
  (.t 7) (.k (.int .u32 256))), none⟩]) (.cond (.t 8) (.seq (.reg [⟨(some 9), (.mv (.t 0)), none⟩, ⟨(some 10), (.bin .shr (.t 9) (.k (.int .u64 8))), none⟩,
  ⟨(some 0), (.mv (.t 10)), none⟩]) (.reg [⟨(some 11), (.mv (.t 2)), none⟩, ⟨(some 12), (.bin .add (.t 11) (.k (.int .i64 8))), none⟩, ⟨(some 2), (.mv (.t 12)),
  none⟩])) .skip)) (.seq (.reg [⟨(some 13), (.mv (.t 2)), none⟩, ⟨(some 14), (.mv (.t 0)), none⟩, ⟨(some 15), (.conv .u8 (.t 14)), none⟩, ⟨(some 16), (.idxs (.k
  (.str (bytes [0, 1, 2, 2, 3, 3, 3, 3, 4, 4, 4, 4, 4, 4, 4, 4, 5, 5, 5, 5, 5, 5, 5, 5, 5, 5, 5, 5, 5, 5, 5, 5, 6, 6, 6, 6, 6, 6, 6, 6, 6, 6, 6, 6, 6, 6, 6, 6,
  6, 6, 6, 6, 6, 6, 6, 6, 6, 6, 6, 6, 6, 6, 6, 6, 7, 7, 7, 7, 7, 7, 7, 7, 7, 7, 7, 7, 7, 7, 7, 7, 7, 7, 7, 7, 7, 7, 7, 7, 7, 7, 7, 7, 7, 7, 7, 7, 7, 7, 7, 7, 7,
  7, 7, 7, 7, 7, 7, 7, 7, 7, 7, 7, 7, 7, 7, 7, 7, 7, 7, 7, 7, 7, 7, 7, 7, 7, 7, 7, 8, 8, 8, 8, 8, 8, 8, 8, 8, 8, 8, 8, 8, 8, 8, 8, 8, 8, 8, 8, 8, 8, 8, 8, 8, 8,
  8, 8, 8, 8, 8, 8, 8, 8, 8, 8, 8, 8, 8, 8, 8, 8, 8, 8, 8, 8, 8, 8, 8, 8, 8, 8, 8, 8, 8, 8, 8, 8, 8, 8, 8, 8, 8, 8, 8, 8, 8, 8, 8, 8, 8, 8, 8, 8, 8, 8, 8, 8, 8,
  8, 8, 8, 8, 8, 8, 8, 8, 8, 8, 8, 8, 8, 8, 8, 8, 8, 8, 8, 8, 8, 8, 8, 8, 8, 8, 8, 8, 8, 8, 8, 8, 8, 8, 8, 8, 8, 8, 8, 8, 8, 8, 8, 8, 8, 8, 8, 8, 8]))) (.t
  15)), none⟩, ⟨(some 17), (.conv .i64 (.t 16)), none⟩, ⟨(some 18), (.bin .add (.t 13) (.t 17)), none⟩, ⟨(some 2), (.mv (.t 18)), none⟩]) .ret))))⟩

/- math/bits.Len64 -/
def s245 : SFunc :=
  ⟨1, [(.t 2)], (.seq (.reg [⟨(some 2), (.mv (.k (.int .i64 0))), none⟩]) (.seq (.seq (.reg [⟨(some 3), (.mv (.t 0)), none⟩, ⟨(some 4), (.bin .geq (.t 3) (.k
  (.int .u64 4294967296))), none⟩]) (.cond (.t 4) (.seq (.reg [⟨(some 5), (.mv (.t 0)), none⟩, ⟨(some 6), (.bin .shr (.t 5) (.k (.int .u64 32))), none⟩, ⟨(some
  0), (.mv (.t 6)), none⟩]) (.reg [⟨(some 2), (.mv (.k (.int .i64 32))), none⟩])) .skip)) (.seq (.seq (.reg [⟨(some 7), (.mv (.t 0)), none⟩, ⟨(some 8), (.bin
  .geq (.t 7) (.k (.int .u64 65536))), none⟩]) (.cond (.t 8) (.seq (.reg [⟨(some 9), (.mv (.t 0)), none⟩, ⟨(some 10), (.bin .shr (.t 9) (.k (.int .u64 16))),
  none⟩, ⟨(some 0), (.mv (.t 10)), none⟩]) (.reg [⟨(some 11), (.mv (.t 2)), none⟩, ⟨(some 12), (.bin .add (.t 11) (.k (.int .i64 16))), none⟩, ⟨(some 2), (.mv
  (.t 12)), none⟩])) .skip)) (.seq (.seq (.reg [⟨(some 13), (.mv (.t 0)), none⟩, ⟨(some 14), (.bin .geq (.t 13) (.k (.int .u64 256))), none⟩]) (.cond (.t 14)
  (.seq (.reg [⟨(some 15), (.mv (.t 0)), none⟩, ⟨(some 16), (.bin .shr (.t 15) (.k (.int .u64 8))), none⟩, ⟨(some 0), (.mv (.t 16)), none⟩]) (.reg [⟨(some 17),
  (.mv (.t 2)), none⟩, ⟨(some 18), (.bin .add (.t 17) (.k (.int .i64 8))), none⟩, ⟨(some 2), (.mv (.t 18)), none⟩])) .skip)) (.seq (.reg [⟨(some 19), (.mv (.t
  2)), none⟩, ⟨(some 20), (.mv (.t 0)), none⟩, ⟨(some 21), (.conv .u8 (.t 20)), none⟩, ⟨(some 22), (.idxs (.k (.str (bytes [0, 1, 2, 2, 3, 3, 3, 3, 4, 4, 4, 4,
  4, 4, 4, 4, 5, 5, 5, 5, 5, 5, 5, 5, 5, 5, 5, 5, 5, 5, 5, 5, 6, 6, 6, 6, 6, 6, 6, 6, 6, 6, 6, 6, 6, 6, 6, 6, 6, 6, 6, 6, 6, 6, 6, 6, 6, 6, 6, 6, 6, 6, 6, 6, 7,
  7, 7, 7, 7, 7, 7, 7, 7, 7, 7, 7, 7, 7, 7, 7, 7, 7, 7, 7, 7, 7, 7, 7, 7, 7, 7, 7, 7, 7, 7, 7, 7, 7, 7, 7, 7, 7, 7, 7, 7, 7, 7, 7, 7, 7, 7, 7, 7, 7, 7, 7, 7, 7,
  7, 7, 7, 7, 7, 7, 7, 7, 7, 7, 8, 8, 8, 8, 8, 8, 8, 8, 8, 8, 8, 8, 8, 8, 8, 8, 8, 8, 8, 8, 8, 8, 8, 8, 8, 8, 8, 8, 8, 8, 8, 8, 8, 8, 8, 8, 8, 8, 8, 8, 8, 8, 8,
  8, 8, 8, 8, 8, 8, 8, 8, 8, 8, 8, 8, 8, 8, 8, 8, 8, 8, 8, 8, 8, 8, 8, 8, 8, 8, 8, 8, 8, 8, 8, 8, 8, 8, 8, 8, 8, 8, 8, 8, 8, 8, 8, 8, 8, 8, 8, 8, 8, 8, 8, 8, 8,
  8, 8, 8, 8, 8, 8, 8, 8, 8, 8, 8, 8, 8, 8, 8, 8, 8, 8, 8, 8, 8, 8, 8, 8, 8, 8, 8, 8, 8, 8, 8, 8]))) (.t 21)), none⟩, ⟨(some 23), (.conv .i64 (.t 22)), none⟩,
  ⟨(some 24), (.bin .add (.t 19) (.t 23)), none⟩, ⟨(some 2), (.mv (.t 24)), none⟩]) .ret)))))⟩

def s247_0 : SCode :=
  .seq (.seq (.reg [⟨(some 18), (.mv (.t 10)), none⟩, ⟨(some 19), (.mv (.t 11)), none⟩, ⟨(some 20), (.bin .neq (.t 18) (.t 19)), none⟩]) (.cond (.t 20) .skip
  (.exit 0))) (.blk 1 (.seq (.reg [⟨(some 21), (.mv (.t 10)), none⟩, ⟨(some 22), (.mv (.t 11)), none⟩, ⟨(some 23), (.bin .gtr (.t 21) (.t 22)), none⟩]) (.cond
  (.t 23) (.seq (.reg [⟨(some 24), (.mv (.t 0)), none⟩, ⟨(some 25), (.mv (.t 2)), none⟩, ⟨(some 26), (.mv (.t 10)), none⟩, ⟨(some 27), (.bin .sub (.t 25) (.t
  26)), none⟩, ⟨(some 28), (.mv (.t 2)), none⟩, ⟨(some 29), (.mv (.t 11)), none⟩, ⟨(some 30), (.mv (.t 4)), none⟩, ⟨(some 31), (.callW (.k (.fn 254 [])) [(.t
  24), (.t 27), (.t 28), (.t 29), (.t 30)]), none⟩]) (.reg [⟨(some 32), (.mv (.t 10)), none⟩, ⟨(some 33), (.mv (.t 11)), none⟩, ⟨(some 34), (.bin .sub (.t 32)
  (.t 33)), none⟩, ⟨(some 10), (.mv (.t 34)), none⟩])) (.seq (.reg [⟨(some 35), (.mv (.t 0)), none⟩, ⟨(some 36), (.mv (.t 2)), none⟩, ⟨(some 37), (.mv (.t 10)),
  none⟩, ⟨(some 38), (.bin .sub (.t 36) (.t 37)), none⟩, ⟨(some 39), (.mv (.t 2)), none⟩, ⟨(some 40), (.mv (.t 11)), none⟩, ⟨(some 41), (.bin .add (.t 39) (.t
  40)), none⟩, ⟨(some 42), (.mv (.t 10)), none⟩, ⟨(some 43), (.bin .sub (.t 41) (.t 42)), none⟩, ⟨(some 44), (.mv (.t 10)), none⟩, ⟨(some 45), (.mv (.t 4)),
  none⟩, ⟨(some 46), (.callW (.k (.fn 254 [])) [(.t 35), (.t 38), (.t 43), (.t 44), (.t 45)]), none⟩]) (.reg [⟨(some 47), (.mv (.t 11)), none⟩, ⟨(some 48), (.mv
  (.t 10)), none⟩, ⟨(some 49), (.bin .sub (.t 47) (.t 48)), none⟩, ⟨(some 11), (.mv (.t 49)), none⟩])))))

/- slices.rotateCmpFunc[schisma/damage.measured] -/
def s247 : SFunc :=
  ⟨5, [], (.seq (.reg [⟨(some 12), (.mv (.t 2)), none⟩, ⟨(some 13), (.mv (.t 1)), none⟩, ⟨(some 14), (.bin .sub (.t 12) (.t 13)), none⟩, ⟨(some 10), (.mv (.t
  14)), none⟩]) (.seq (.reg [⟨(some 15), (.mv (.t 3)), none⟩, ⟨(some 16), (.mv (.t 2)), none⟩, ⟨(some 17), (.bin .sub (.t 15) (.t 16)), none⟩, ⟨(some 11), (.mv
  (.t 17)), none⟩]) (.seq (.blk 0 (.loop s247_0)) (.reg [⟨(some 50), (.mv (.t 0)), none⟩, ⟨(some 51), (.mv (.t 2)), none⟩, ⟨(some 52), (.mv (.t 10)), none⟩,
  ⟨(some 53), (.bin .sub (.t 51) (.t 52)), none⟩, ⟨(some 54), (.mv (.t 2)), none⟩, ⟨(some 55), (.mv (.t 10)), none⟩, ⟨(some 56), (.mv (.t 4)), none⟩, ⟨(some
  57), (.callW (.k (.fn 254 [])) [(.t 50), (.t 53), (.t 54), (.t 55), (.t 56)]), none⟩]))))⟩

/- schisma/hermite.pivot$1 -/
def s252 : SFunc :=
  ⟨1, [(.t 2)], (.seq (.reg [⟨(some 2), (.mv (.k (.bool false))), none⟩]) (.seq (.reg [⟨(some 3), (.mv (.t 0)), none⟩, ⟨(some 4), (.bin .neq (.t 3) (.k (.int .i64
  0))), none⟩, ⟨(some 2), (.mv (.t 4)), none⟩]) .ret))⟩

def s253_0 : SCode :=
  .seq (.reg [⟨(some 9), (.bin .lss (.t 8) (.t 7)), none⟩]) (.seq (.cond (.t 9) .skip (.exit 0)) (.seq (.blk 1 (.seq (.reg [⟨(some 10), (.mv (.t 8)), none⟩,
  ⟨(some 5), (.mv (.t 10)), none⟩]) (.seq (.reg [⟨(some 11), (.mv (.t 1)), none⟩, ⟨(some 12), (.mv (.t 0)), none⟩, ⟨(some 13), (.mv (.t 5)), none⟩, ⟨(some 14),
  (.iad 1 (.t 12) (.t 13)), none⟩, ⟨(some 15), (.ld 1 false (.t 14)), none⟩, ⟨(some 16), (.callW (.t 11) [(.t 15)]), none⟩]) (.cond (.t 16) (.seq (.reg [⟨(some
  17), (.mv (.t 5)), none⟩, ⟨(some 4), (.mv (.t 17)), none⟩]) .ret) .skip)))) (.reg [⟨(some 18), (.bin .add (.t 8) (.k (.int .i64 1))), none⟩, ⟨(some 8), (.mv
  (.t 18)), none⟩])))

/- slices.IndexFunc[schisma/api.Matrix,schisma/api.Row] -/
def s253 : SFunc :=
  ⟨2, [(.t 4)], (.seq (.reg [⟨(some 4), (.mv (.k (.int .i64 0))), none⟩]) (.seq (.seq (.reg [⟨(some 6), (.mv (.t 0)), none⟩, ⟨(some 7), (.len (.t 6)), none⟩,
  ⟨(some 8), (.mv (.k (.int .i64 0))), none⟩]) (.blk 0 (.loop s253_0))) (.seq (.reg [⟨(some 4), (.mv (.k (.int .i64 (-1)))), none⟩]) .ret)))⟩

def s254_0 : SCode :=
  .seq (.seq (.reg [⟨(some 11), (.mv (.t 10)), none⟩, ⟨(some 12), (.mv (.t 3)), none⟩, ⟨(some 13), (.bin .lss (.t 11) (.t 12)), none⟩]) (.cond (.t 13) .skip
  (.exit 0))) (.seq (.blk 1 (.reg [⟨(some 16), (.mv (.t 0)), none⟩, ⟨(some 17), (.mv (.t 1)), none⟩, ⟨(some 18), (.mv (.t 10)), none⟩, ⟨(some 19), (.bin .add
  (.t 17) (.t 18)), none⟩, ⟨(some 20), (.mv (.t 0)), none⟩, ⟨(some 21), (.mv (.t 2)), none⟩, ⟨(some 22), (.mv (.t 10)), none⟩, ⟨(some 23), (.bin .add (.t 21)
  (.t 22)), none⟩, ⟨(some 24), (.mv (.t 0)), none⟩, ⟨(some 25), (.mv (.t 2)), none⟩, ⟨(some 26), (.mv (.t 10)), none⟩, ⟨(some 27), (.bin .add (.t 25) (.t 26)),
  none⟩, ⟨(some 28), (.iad 5 (.t 24) (.t 27)), none⟩, ⟨(some 29), (.ld 5 true (.t 28)), none⟩, ⟨(some 30), (.mv (.t 0)), none⟩, ⟨(some 31), (.mv (.t 1)), none⟩,
  ⟨(some 32), (.mv (.t 10)), none⟩, ⟨(some 33), (.bin .add (.t 31) (.t 32)), none⟩, ⟨(some 34), (.iad 5 (.t 30) (.t 33)), none⟩, ⟨(some 35), (.ld 5 true (.t
  34)), none⟩, ⟨(some 36), (.iad 5 (.t 16) (.t 19)), none⟩, ⟨none, (.st 5 (.t 36) (.t 29)), none⟩, ⟨(some 37), (.iad 5 (.t 20) (.t 23)), none⟩, ⟨none, (.st 5
  (.t 37) (.t 35)), none⟩])) (.reg [⟨(some 14), (.mv (.t 10)), none⟩, ⟨(some 15), (.bin .add (.t 14) (.k (.int .i64 1))), none⟩, ⟨(some 10), (.mv (.t 15)),
  none⟩]))

/- slices.swapRangeCmpFunc[schisma/damage.measured] -/
def s254 : SFunc :=
  ⟨5, [], (.seq (.reg [⟨(some 10), (.mv (.k (.int .i64 0))), none⟩]) (.blk 0 (.loop s254_0)))⟩

def bodies : BT SFunc :=
  (.node (.node (.node (.node (.node (.node (.node (.node .nil 3 s3 .nil) 8 s8 (.node .nil 9 s9 .nil)) 10 s10 (.node (.node .nil 11 s11 .nil) 12 s12 .nil)) 13 s13
  (.node (.node (.node .nil 14 s14 .nil) 15 s15 .nil) 16 s16 (.node (.node .nil 17 s17 .nil) 18 s18 .nil))) 19 s19 (.node (.node (.node (.node .nil 20 s20 .nil)
  21 s21 .nil) 23 s23 (.node (.node .nil 24 s24 .nil) 33 s33 .nil)) 35 s35 (.node (.node (.node .nil 36 s36 .nil) 37 s37 .nil) 38 s38 (.node (.node .nil 39 s39
  .nil) 40 s40 .nil)))) 41 s41 (.node (.node (.node (.node (.node .nil 42 s42 .nil) 43 s43 (.node .nil 44 s44 .nil)) 45 s45 (.node (.node .nil 46 s46 .nil) 47
  s47 .nil)) 48 s48 (.node (.node (.node .nil 49 s49 .nil) 50 s50 .nil) 51 s51 (.node (.node .nil 52 s52 .nil) 53 s53 .nil))) 54 s54 (.node (.node (.node (.node
  .nil 55 s55 .nil) 56 s56 .nil) 57 s57 (.node (.node .nil 58 s58 .nil) 59 s59 .nil)) 60 s60 (.node (.node (.node .nil 62 s62 .nil) 63 s63 .nil) 64 s64 (.node
  (.node .nil 68 s68 .nil) 69 s69 .nil))))) 70 s70 (.node (.node (.node (.node (.node (.node .nil 71 s71 .nil) 72 s72 (.node .nil 73 s73 .nil)) 74 s74 (.node
  (.node .nil 75 s75 .nil) 76 s76 .nil)) 77 s77 (.node (.node (.node .nil 78 s78 .nil) 79 s79 .nil) 80 s80 (.node (.node .nil 81 s81 .nil) 82 s82 .nil))) 83 s83
  (.node (.node (.node (.node .nil 84 s84 .nil) 85 s85 .nil) 86 s86 (.node (.node .nil 87 s87 .nil) 88 s88 .nil)) 89 s89 (.node (.node (.node .nil 90 s90 .nil)
  91 s91 .nil) 92 s92 (.node (.node .nil 93 s93 .nil) 94 s94 .nil)))) 95 s95 (.node (.node (.node (.node (.node .nil 96 s96 .nil) 97 s97 (.node .nil 98 s98
  .nil)) 99 s99 (.node (.node .nil 100 s100 .nil) 101 s101 .nil)) 103 s103 (.node (.node (.node .nil 104 s104 .nil) 105 s105 .nil) 106 s106 (.node (.node .nil
  108 s108 .nil) 109 s109 .nil))) 110 s110 (.node (.node (.node (.node .nil 111 s111 .nil) 112 s112 .nil) 114 s114 (.node (.node .nil 115 s115 .nil) 116 s116
  .nil)) 117 s117 (.node (.node (.node .nil 118 s118 .nil) 119 s119 .nil) 120 s120 (.node (.node .nil 121 s121 .nil) 122 s122 .nil)))))) 123 s123 (.node (.node
  (.node (.node (.node (.node (.node .nil 124 s124 .nil) 125 s125 (.node .nil 126 s126 .nil)) 127 s127 (.node (.node .nil 128 s128 .nil) 129 s129 .nil)) 130
  s130 (.node (.node (.node .nil 131 s131 .nil) 132 s132 .nil) 133 s133 (.node (.node .nil 135 s135 .nil) 136 s136 .nil))) 137 s137 (.node (.node (.node (.node
  .nil 138 s138 .nil) 139 s139 .nil) 140 s140 (.node (.node .nil 141 s141 .nil) 142 s142 .nil)) 143 s143 (.node (.node (.node .nil 144 s144 .nil) 145 s145 .nil)
  146 s146 (.node (.node .nil 147 s147 .nil) 148 s148 .nil)))) 149 s149 (.node (.node (.node (.node (.node .nil 150 s150 .nil) 154 s154 (.node .nil 155 s155
  .nil)) 156 s156 (.node (.node .nil 157 s157 .nil) 158 s158 .nil)) 159 s159 (.node (.node (.node .nil 160 s160 .nil) 162 s162 .nil) 163 s163 (.node (.node .nil
  164 s164 .nil) 165 s165 .nil))) 166 s166 (.node (.node (.node (.node .nil 167 s167 .nil) 168 s168 .nil) 169 s169 (.node (.node .nil 170 s170 .nil) 171 s171
  .nil)) 172 s172 (.node (.node (.node .nil 173 s173 .nil) 174 s174 .nil) 175 s175 (.node (.node .nil 176 s176 .nil) 179 s179 .nil))))) 181 s181 (.node (.node
  (.node (.node (.node (.node .nil 182 s182 .nil) 183 s183 (.node .nil 184 s184 .nil)) 185 s185 (.node (.node .nil 186 s186 .nil) 187 s187 .nil)) 188 s188
  (.node (.node (.node .nil 189 s189 .nil) 190 s190 .nil) 191 s191 (.node (.node .nil 192 s192 .nil) 193 s193 .nil))) 194 s194 (.node (.node (.node (.node .nil
  195 s195 .nil) 199 s199 .nil) 200 s200 (.node (.node .nil 202 s202 .nil) 203 s203 .nil)) 204 s204 (.node (.node (.node .nil 205 s205 .nil) 206 s206 .nil) 207
  s207 (.node (.node .nil 208 s208 .nil) 209 s209 .nil)))) 216 s216 (.node (.node (.node (.node (.node .nil 218 s218 .nil) 219 s219 (.node .nil 220 s220 .nil))
  221 s221 (.node (.node .nil 222 s222 .nil) 223 s223 .nil)) 224 s224 (.node (.node (.node .nil 225 s225 .nil) 227 s227 .nil) 228 s228 (.node (.node .nil 230
  s230 .nil) 231 s231 .nil))) 232 s232 (.node (.node (.node (.node .nil 233 s233 .nil) 234 s234 .nil) 235 s235 (.node (.node .nil 242 s242 .nil) 243 s243 .nil))
  244 s244 (.node (.node (.node .nil 245 s245 .nil) 247 s247 .nil) 252 s252 (.node (.node .nil 253 s253 .nil) 254 s254 .nil)))))))

def rcList : List Nat := [3, 4, 5, 6, 7, 8, 9, 10, 11, 12, 13, 14, 15, 16, 17, 18, 19, 20, 21, 22, 23, 24, 25, 26, 27, 28, 29, 30, 31, 32, 33, 34, 35, 36, 37, 38, 39, 40, 41, 42, 43, 44, 45, 46, 47, 48, 51, 53, 54, 55, 56, 57, 58, 59, 60, 61, 62, 63, 64, 65, 66, 67, 68, 69, 70, 71, 72, 73, 74, 75, 76, 77, 78, 79, 80, 83, 84, 85, 88, 89, 90, 91, 92, 93, 94, 95, 96, 97, 98, 99, 100, 101, 102, 103, 104, 106, 107, 108, 109, 110, 111, 112, 113, 114, 115, 116, 119, 120, 121, 122, 123, 124, 125, 126, 128, 129, 130, 131, 132, 133, 134, 135, 136, 137, 138, 139, 140, 141, 143, 144, 145, 147, 148, 149, 150, 151, 152, 153, 154, 158, 159, 160, 161, 162, 163, 168, 171, 172, 175, 176, 178, 179, 180, 181, 182, 185, 186, 187, 188, 189, 195, 197, 198, 200, 202, 203, 204, 207, 211, 212, 213, 214, 216, 217, 221, 222, 223, 225, 226, 230, 231, 240, 244, 245, 246, 258, 259, 260, 261, 262, 263, 264, 265, 266, 267, 268, 269, 270, 271, 272, 273, 274, 275, 276, 277, 278, 279, 280, 281, 282, 283, 284, 285, 286, 287]

end Go.Proofs.YtkccoijckckhmaaGreatDoor.Ev

namespace Go.Proofs.YtkccoijckckhmaaGreatDoor.Ev
open Go

/-- Is a value without rows of the store (to some depth)? -/
def pureB : Nat → PV → Bool
  | 0, _ => false
  | n + 1, v => match v with
    | .ms .. | .mp .. => false
    | .sl _ es => es.all fun cs => cs.all (pureB n)
    | .ip cs | .agg cs | .tup cs | .fn _ cs => cs.all (pureB n)
    | _ => true

theorem pureB_pure : ∀ (n : Nat) (v : PV), pureB n v = true → Pure v := by
  intro n
  induction n with
  | zero => intro v h; cases h
  | succ n ih =>
    intro v h
    cases v <;> simp only [pureB, List.all_eq_true] at h <;> first
      | (constructor; done)
      | (cases h; done)
      | exact .sl _ _ fun cs hc x hx => ih x (h cs hc x hx)
      | exact .ip _ fun x hx => ih x (h x hx)
      | exact .agg _ fun x hx => ih x (h x hx)
      | exact .tup _ fun x hx => ih x (h x hx)
      | exact .fn _ _ fun x hx => ih x (h x hx)

def digB (b : UInt8) : Bool := Nat.ble 48 b.toNat && Nat.ble b.toNat 57
def valL (l : List UInt8) : Nat := l.foldl (fun a b => 10 * a + (b.toNat - 48)) 0
def canL (l : List UInt8) : Bool := l.all digB && (Nat.beq l.length 1 || (match l with | [] => false | b :: _ => !(Nat.beq b.toNat 48)))

/-- The digits of a number, the least significant one first. -/
def digsR : Nat → Nat → List UInt8
  | 0, _ => []
  | k + 1, n => bif Nat.blt n 10 then [UInt8.ofNat (48 + n)] else UInt8.ofNat (48 + n % 10) :: digsR k (n / 10)

def natL (n : Nat) : List UInt8 := (digsR (Nat.log2 n + 1) n).reverse
def natS (n : Nat) : ByteArray := ⟨(natL n).toArray⟩
def intS (n : Int) : ByteArray := match n with
  | .ofNat n => natS n
  | .negSucc n => ⟨((45 : UInt8) :: natL (n + 1)).toArray⟩

/-- An integer in its canonical text. -/
def intV (s : ByteArray) : Option Int := match s.data.toList with
  | 45 :: l => if canL l = true ∧ valL l ≠ 0 then some (-(valL l : Int)) else none
  | l => if canL l = true then some (valL l : Int) else none

def i64B (n : Int) : Bool := match n with
  | .ofNat m => Nat.ble m 9223372036854775807
  | .negSucc m => Nat.ble m 9223372036854775807

def gItoa : List PV → Option PV
  | [.int .i64 n] => bif i64B n then some (.str (intS n)) else none
  | _ => none
def gFormatUint : List PV → Option PV
  | [.int .u64 (.ofNat n), .int .i64 10] => bif Nat.blt n 18446744073709551616 then some (.str (natS n)) else none
  | _ => none
def gAtoi : List PV → Option PV
  | [.str s] => bif Nat.ble s.size 20000 then (match intV s with
    | some n => if -9223372036854775808 ≤ n ∧ n ≤ 9223372036854775807 then some (.tup [.int .i64 n, .nilI]) else some (.tup [.un, .anyI])
    | none => none) else none
  | _ => none
def gParseInt : List PV → Option PV
  | [.str s, .int .i64 10, .int .i64 64] => gAtoi [.str s]
  | _ => none
def gParseUint : List PV → Option PV
  | [.str s, .int .i64 10, .int .i64 64] => bif Nat.ble s.size 20000 then (match intV s with
    | some n => if 0 ≤ n then (if n ≤ 18446744073709551615 then some (.tup [.int .u64 n, .nilI]) else some (.tup [.un, .anyI])) else none
    | none => none) else none
  | _ => none

def memB (l : List Nat) (f : Nat) : Bool := match l with
  | [] => false
  | x :: xs => bif Nat.beq x f then true else memB xs f

def tabN (base : BT (List PV → Option PV)) : Nat → Tab
  | 0 => ⟨base.get, bodies.get⟩
  | n + 1 => ⟨fun f => match base.get f with
      | some g => some g
      | none => bif memB rcList f then some (fun args => bif args.all (pureB 12) then evPure (tabN base n) 4000 60 12 f args else none) else none, bodies.get⟩

end Go.Proofs.YtkccoijckckhmaaGreatDoor.Ev

namespace Go.Proofs.YtkccoijckckhmaaGreatDoor.Ev
open Go

attribute [simp] evOp want SV.ev Env.put optI asI resAll resOf

@[simp] theorem Env.set_at (e : Env) (t : Nat) (v : PV) (u : Nat) : (e.set t v) u = bif Nat.beq u t then v else e u := rfl
@[simp] theorem Env.of_nil (i u : Nat) : Env.of [] i u = .un := rfl
@[simp] theorem Env.of_cons (v : PV) (vs : List PV) (i u : Nat) : Env.of (v :: vs) i u = bif Nat.beq u i then v else Env.of vs (i + 1) u := rfl

section
variable (k k' : IntKind) (a b : Int) (s u : ByteArray)
@[simp] theorem evb_add : evBin .add (.int k a) (.int k' b) = if k = k' then evBinInt .add k a b else none := rfl
@[simp] theorem evb_sub : evBin .sub (.int k a) (.int k' b) = if k = k' then evBinInt .sub k a b else none := rfl
@[simp] theorem evb_mul : evBin .mul (.int k a) (.int k' b) = if k = k' then evBinInt .mul k a b else none := rfl
@[simp] theorem evb_quo : evBin .quo (.int k a) (.int k' b) = if k = k' then evBinInt .quo k a b else none := rfl
@[simp] theorem evb_rem : evBin .rem (.int k a) (.int k' b) = if k = k' then evBinInt .rem k a b else none := rfl
@[simp] theorem evb_and : evBin .and (.int k a) (.int k' b) = if k = k' then evBinInt .and k a b else none := rfl
@[simp] theorem evb_or : evBin .or (.int k a) (.int k' b) = if k = k' then evBinInt .or k a b else none := rfl
@[simp] theorem evb_xor : evBin .xor (.int k a) (.int k' b) = if k = k' then evBinInt .xor k a b else none := rfl
@[simp] theorem evb_eql : evBin .eql (.int k a) (.int k' b) = if k = k' then evBinInt .eql k a b else none := rfl
@[simp] theorem evb_neq : evBin .neq (.int k a) (.int k' b) = if k = k' then evBinInt .neq k a b else none := rfl
@[simp] theorem evb_lss : evBin .lss (.int k a) (.int k' b) = if k = k' then evBinInt .lss k a b else none := rfl
@[simp] theorem evb_leq : evBin .leq (.int k a) (.int k' b) = if k = k' then evBinInt .leq k a b else none := rfl
@[simp] theorem evb_gtr : evBin .gtr (.int k a) (.int k' b) = if k = k' then evBinInt .gtr k a b else none := rfl
@[simp] theorem evb_geq : evBin .geq (.int k a) (.int k' b) = if k = k' then evBinInt .geq k a b else none := rfl
@[simp] theorem evb_shl : evBin .shl (.int k a) (.int k' b) = if b < 0 then none else some (.int k (k.wrap (a * 2 ^ min b.toNat k.bits))) := rfl
@[simp] theorem evb_shr : evBin .shr (.int k a) (.int k' b) = if b < 0 then none else some (.int k (a.fdiv (2 ^ min b.toNat k.bits))) := rfl
@[simp] theorem evs_add : evBin .add (.str s) (.str u) = evBinStr .add s u := rfl
@[simp] theorem evs_eql : evBin .eql (.str s) (.str u) = evBinStr .eql s u := rfl
@[simp] theorem evs_neq : evBin .neq (.str s) (.str u) = evBinStr .neq s u := rfl
@[simp] theorem evs_lss : evBin .lss (.str s) (.str u) = evBinStr .lss s u := rfl
@[simp] theorem evs_gtr : evBin .gtr (.str s) (.str u) = evBinStr .gtr s u := rfl
@[simp] theorem evs_leq : evBin .leq (.str s) (.str u) = evBinStr .leq s u := rfl
@[simp] theorem evs_geq : evBin .geq (.str s) (.str u) = evBinStr .geq s u := rfl
@[simp] theorem evu_neg : evUn .neg (.int k a) = some (.int k (k.wrap (0 - a))) := rfl
@[simp] theorem evu_not (c : Bool) : evUn .not (.bool c) = some (.bool (!c)) := rfl
end

section
variable (k : IntKind) (a b : Int)
@[simp] theorem evi_add : evBinInt .add k a b = some (.int k (k.wrap (a + b))) := rfl
@[simp] theorem evi_sub : evBinInt .sub k a b = some (.int k (k.wrap (a - b))) := rfl
@[simp] theorem evi_mul : evBinInt .mul k a b = some (.int k (k.wrap (a * b))) := rfl
@[simp] theorem evi_quo : evBinInt .quo k a b = if b = 0 then none else some (.int k (k.wrap (a.tdiv b))) := rfl
@[simp] theorem evi_rem : evBinInt .rem k a b = if b = 0 then none else some (.int k (a.tmod b)) := rfl
@[simp] theorem evi_and : evBinInt .and k a b = some (.int k (k.wrap (BitVec.ofInt k.bits a &&& BitVec.ofInt k.bits b).toNat)) := rfl
@[simp] theorem evi_eql : evBinInt .eql k a b = some (.bool (decide (a = b))) := rfl
@[simp] theorem evi_neq : evBinInt .neq k a b = some (.bool (!decide (a = b))) := rfl
@[simp] theorem evi_lss : evBinInt .lss k a b = some (.bool (decide (a < b))) := rfl
@[simp] theorem evi_leq : evBinInt .leq k a b = some (.bool (decide (a ≤ b))) := rfl
@[simp] theorem evi_gtr : evBinInt .gtr k a b = some (.bool (decide (b < a))) := rfl
@[simp] theorem evi_geq : evBinInt .geq k a b = some (.bool (decide (b ≤ a))) := rfl
end

@[simp] theorem oneRes_0 : oneRes [] = .tup [] := rfl
@[simp] theorem oneRes_1 (v : PV) : oneRes [v] = v := rfl
@[simp] theorem oneRes_2 (v u : PV) (vs : List PV) : oneRes (v :: u :: vs) = .tup (v :: u :: vs) := rfl

@[simp] theorem mm_max2 (k : IntKind) (a b : Int) : mmInt true [.int k a, .int k b] = some (.int k (max a b)) := by
  simp only [mmInt, mmGo, if_true, cond_true]
  congr 2
  split <;> omega
@[simp] theorem mm_min2 (k : IntKind) (a b : Int) : mmInt false [.int k a, .int k b] = some (.int k (min a b)) := by
  simp only [mmInt, mmGo, if_true, cond_false]
  congr 2
  split <;> omega

/-- There is an answer, and it is so. -/
def Gt (o : Option (PV × Store)) (Q : PV → Store → Prop) : Prop := ∃ v ρ, o = some (v, ρ) ∧ Q v ρ

theorem Gt.mono {o : Option (PV × Store)} {Q R : PV → Store → Prop} (h : Gt o Q) (hr : ∀ v ρ, Q v ρ → R v ρ) : Gt o R := by
  obtain ⟨v, ρ, h1, h2⟩ := h
  exact ⟨v, ρ, h1, hr v ρ h2⟩

def Wp (T : Tab) (call : FuncId → List PV → Store → Option (PV × Store)) (L : Nat) (c : SCode) (e : Env) (ρ : Store) (Q : Ex → Env → Store → Prop) : Prop := ∃ x e' ρ', evC T call L c e ρ = some (x, e', ρ') ∧ Q x e' ρ'
def Wo (T : Tab) (call : FuncId → List PV → Store → Option (PV × Store)) (os : List SOper) (e : Env) (ρ : Store) (Q : Env → Store → Prop) : Prop := ∃ e' ρ', evOps T call os e ρ = some (e', ρ') ∧ Q e' ρ'

/-- What is still to be run: code, operations, the ends of blocks. -/
inductive K where
  | code (c : SCode)
  | ops (os : List SOper)
  | blk (id : Nat)

abbrev Post := Ex → Env → Store → Prop

section
variable (T : Tab) (call : FuncId → List PV → Store → Option (PV × Store)) (L : Nat)

mutual
/-- Run what is still to be run. -/
def Wk : List K → Env → Store → Post → Prop
  | [], e, ρ, Q => Q .nor e ρ
  | .code c :: ks, e, ρ, Q => Wp T call L c e ρ fun x e' ρ' => jmp x ks e' ρ' Q
  | .ops os :: ks, e, ρ, Q => Wo T call os e ρ fun e' ρ' => Wk ks e' ρ' Q
  | .blk _ :: ks, e, ρ, Q => Wk ks e ρ Q
/-- A jump. -/
def jmp (x : Ex) : List K → Env → Store → Post → Prop
  | [], e, ρ, Q => Q x e ρ
  | k :: ks, e, ρ, Q => match x with
    | .nor => Wk (k :: ks) e ρ Q
    | .ret => jmp .ret ks e ρ Q
    | .ex i => match k with
      | .blk id => if i = id then Wk ks e ρ Q else jmp (.ex i) ks e ρ Q
      | _ => jmp (.ex i) ks e ρ Q
end

def stepV (dst : Option Nat) (os : List SOper) (ks : List K) (e : Env) (r : Option (PV × Store)) (Q : Post) : Prop := Gt r fun v ρ' => Wk T call L (.ops os :: ks) (e.put dst v) ρ' Q
def stepG (g : Option Bool) (o : SOper) (os : List SOper) (ks : List K) (e : Env) (ρ : Store) (Q : Post) : Prop := match g with
  | some true => stepV T call L o.dst os ks e (evOp T call e ρ o.op) Q
  | some false => Wk T call L (.ops os :: ks) (e.put o.dst (.tup [])) ρ Q
  | none => False
def stepC (v : PV) (a b : SCode) (ks : List K) (e : Env) (ρ : Store) (Q : Post) : Prop := match v with
  | .bool true => Wk T call L (.code a :: ks) e ρ Q
  | .bool false => Wk T call L (.code b :: ks) e ρ Q
  | _ => False
end

section
variable {T : Tab} {call : FuncId → List PV → Store → Option (PV × Store)} {L : Nat}

@[simp] theorem jmp_nor (ks : List K) (e : Env) (ρ : Store) (Q : Post) : jmp T call L .nor ks e ρ Q ↔ Wk T call L ks e ρ Q := by
  cases ks <;> simp [jmp, Wk]
@[simp] theorem jmp_nil (x : Ex) (e : Env) (ρ : Store) (Q : Post) : jmp T call L x [] e ρ Q ↔ Q x e ρ := by simp [jmp]
@[simp] theorem jmp_ret (k : K) (ks : List K) (e : Env) (ρ : Store) (Q : Post) : jmp T call L .ret (k :: ks) e ρ Q ↔ jmp T call L .ret ks e ρ Q := by simp [jmp]
@[simp] theorem jmp_code (i : Nat) (c : SCode) (ks : List K) (e : Env) (ρ : Store) (Q : Post) : jmp T call L (.ex i) (.code c :: ks) e ρ Q ↔ jmp T call L (.ex i) ks e ρ Q := by simp [jmp]
@[simp] theorem jmp_ops (i : Nat) (c : List SOper) (ks : List K) (e : Env) (ρ : Store) (Q : Post) : jmp T call L (.ex i) (.ops c :: ks) e ρ Q ↔ jmp T call L (.ex i) ks e ρ Q := by simp [jmp]
@[simp] theorem jmp_blk (i id : Nat) (ks : List K) (e : Env) (ρ : Store) (Q : Post) : jmp T call L (.ex i) (.blk id :: ks) e ρ Q ↔ if i = id then Wk T call L ks e ρ Q else jmp T call L (.ex i) ks e ρ Q := by simp [jmp]

@[simp] theorem Wk_nil (e : Env) (ρ : Store) (Q : Post) : Wk T call L [] e ρ Q ↔ Q .nor e ρ := by simp [Wk]
@[simp] theorem Wk_blk (id : Nat) (ks : List K) (e : Env) (ρ : Store) (Q : Post) : Wk T call L (.blk id :: ks) e ρ Q ↔ Wk T call L ks e ρ Q := by simp [Wk]
@[simp] theorem Wk_skip (ks : List K) (e : Env) (ρ : Store) (Q : Post) : Wk T call L (.code .skip :: ks) e ρ Q ↔ Wk T call L ks e ρ Q := by
  simp only [Wk, Wp, evC]
  constructor
  · rintro ⟨_, _, _, h, hq⟩; cases h; simpa using hq
  · intro h; exact ⟨_, _, _, rfl, by simpa using h⟩
@[simp] theorem Wk_exit (id : Nat) (ks : List K) (e : Env) (ρ : Store) (Q : Post) : Wk T call L (.code (.exit id) :: ks) e ρ Q ↔ jmp T call L (.ex id) ks e ρ Q := by
  simp only [Wk, Wp, evC]
  constructor
  · rintro ⟨_, _, _, h, hq⟩; cases h; exact hq
  · intro h; exact ⟨_, _, _, rfl, h⟩
@[simp] theorem Wk_ret (ks : List K) (e : Env) (ρ : Store) (Q : Post) : Wk T call L (.code .ret :: ks) e ρ Q ↔ jmp T call L .ret ks e ρ Q := by
  simp only [Wk, Wp, evC]
  constructor
  · rintro ⟨_, _, _, h, hq⟩; cases h; exact hq
  · intro h; exact ⟨_, _, _, rfl, h⟩
@[simp] theorem Wk_reg (os : List SOper) (ks : List K) (e : Env) (ρ : Store) (Q : Post) : Wk T call L (.code (.reg os) :: ks) e ρ Q ↔ Wk T call L (.ops os :: ks) e ρ Q := by
  simp only [Wk, Wp, Wo, evC]
  constructor
  · rintro ⟨x, e', ρ', h, hq⟩
    split at h
    · rename_i e1 ρ1 h1; cases h; exact ⟨_, _, h1, by simpa using hq⟩
    · cases h
  · rintro ⟨e', ρ', h, hq⟩
    exact ⟨.nor, e', ρ', by rw [h], by simpa using hq⟩
@[simp] theorem Wk_seq (a b : SCode) (ks : List K) (e : Env) (ρ : Store) (Q : Post) : Wk T call L (.code (.seq a b) :: ks) e ρ Q ↔ Wk T call L (.code a :: .code b :: ks) e ρ Q := by
  simp only [Wk, Wp, evC]
  constructor
  · rintro ⟨x, e', ρ', h, hq⟩
    split at h
    · rename_i e1 ρ1 h1; exact ⟨.nor, e1, ρ1, h1, by simp only [jmp_nor, Wk, Wp]; exact ⟨x, e', ρ', h, hq⟩⟩
    · rename_i hne
      refine ⟨x, e', ρ', h, ?_⟩
      cases x with
      | nor => exact absurd h (hne e' ρ')
      | ex i => simpa using hq
      | ret => simpa using hq
  · rintro ⟨x, e1, ρ1, h1, hq⟩
    cases x with
    | nor =>
      simp only [jmp_nor, Wk, Wp] at hq
      obtain ⟨x, e', ρ', h, hq⟩ := hq
      exact ⟨x, e', ρ', by rw [h1]; exact h, hq⟩
    | ex id => exact ⟨_, e1, ρ1, by rw [h1], by simpa using hq⟩
    | ret => exact ⟨_, e1, ρ1, by rw [h1], by simpa using hq⟩
@[simp] theorem Wk_cond (c : SV) (a b : SCode) (ks : List K) (e : Env) (ρ : Store) (Q : Post) : Wk T call L (.code (.cond c a b) :: ks) e ρ Q ↔ stepC T call L (c.ev e) a b ks e ρ Q := by
  simp only [Wk, Wp, evC, stepC]
  cases h : c.ev e with
  | bool t => cases t <;> simp
  | _ => simp
@[simp] theorem stepC_true (a b : SCode) (ks : List K) (e : Env) (ρ : Store) (Q : Post) : stepC T call L (.bool true) a b ks e ρ Q ↔ Wk T call L (.code a :: ks) e ρ Q := Iff.rfl
@[simp] theorem stepC_false (a b : SCode) (ks : List K) (e : Env) (ρ : Store) (Q : Post) : stepC T call L (.bool false) a b ks e ρ Q ↔ Wk T call L (.code b :: ks) e ρ Q := Iff.rfl
@[simp] theorem Wk_block (id : Nat) (a : SCode) (ks : List K) (e : Env) (ρ : Store) (Q : Post) : Wk T call L (.code (.blk id a) :: ks) e ρ Q ↔ Wk T call L (.code a :: .blk id :: ks) e ρ Q := by
  simp only [Wk, Wp, evC]
  constructor
  · rintro ⟨x, e', ρ', h, hq⟩
    split at h
    · rename_i i e1 ρ1 h1
      refine ⟨.ex i, e1, ρ1, h1, ?_⟩
      split at h
      · rename_i hi; cases h; simpa [hi] using hq
      · rename_i hi; cases h; simpa [hi] using hq
    · rename_i hne
      refine ⟨x, e', ρ', h, ?_⟩
      cases x with
      | ex i => exact absurd h (hne i e' ρ')
      | nor => simpa [Wk] using hq
      | ret => simpa using hq
  · rintro ⟨x, e1, ρ1, h1, hq⟩
    cases x with
    | ex i =>
      simp only [jmp_blk] at hq
      split at hq
      · rename_i hi; exact ⟨.nor, e1, ρ1, by rw [h1]; simp [hi], by simpa using hq⟩
      · rename_i hi; exact ⟨.ex i, e1, ρ1, by rw [h1]; simp [hi], hq⟩
    | nor => exact ⟨_, e1, ρ1, by rw [h1], by simpa [Wk] using hq⟩
    | ret => exact ⟨_, e1, ρ1, by rw [h1], by simpa using hq⟩
@[simp] theorem Wk_ops_nil (ks : List K) (e : Env) (ρ : Store) (Q : Post) : Wk T call L (.ops [] :: ks) e ρ Q ↔ Wk T call L ks e ρ Q := by
  simp only [Wk, Wo, evOps]
  constructor
  · rintro ⟨_, _, h, hq⟩; cases h; exact hq
  · intro h; exact ⟨_, _, rfl, h⟩
@[simp] theorem Wk_ops_cons (o : SOper) (os : List SOper) (ks : List K) (e : Env) (ρ : Store) (Q : Post) : Wk T call L (.ops (o :: os) :: ks) e ρ Q ↔ stepG T call L (want e o.guard) o os ks e ρ Q := by
  simp only [Wk, Wo, evOps, stepG, stepV, Gt]
  cases hw : want e o.guard with
  | none => simp
  | some b =>
    cases b with
    | false => simp
    | true =>
      constructor
      · rintro ⟨e', ρ', h, hq⟩
        simp only at h
        split at h
        · rename_i v ρ1 hv; exact ⟨v, ρ1, hv, e', ρ', h, hq⟩
        · cases h
      · rintro ⟨v, ρ1, hv, e', ρ', h, hq⟩
        simp only
        rw [hv]
        exact ⟨e', ρ', h, hq⟩
@[simp] theorem stepG_true (o : SOper) (os : List SOper) (ks : List K) (e : Env) (ρ : Store) (Q : Post) : stepG T call L (some true) o os ks e ρ Q ↔ stepV T call L o.dst os ks e (evOp T call e ρ o.op) Q := Iff.rfl
@[simp] theorem stepG_false (o : SOper) (os : List SOper) (ks : List K) (e : Env) (ρ : Store) (Q : Post) : stepG T call L (some false) o os ks e ρ Q ↔ Wk T call L (.ops os :: ks) (e.put o.dst (.tup [])) ρ Q := Iff.rfl
@[simp] theorem stepV_some (dst : Option Nat) (os : List SOper) (ks : List K) (e : Env) (v : PV) (ρ : Store) (Q : Post) : stepV T call L dst os ks e (some (v, ρ)) Q ↔ Wk T call L (.ops os :: ks) (e.put dst v) ρ Q := by
  constructor
  · rintro ⟨_, _, h, hq⟩; cases h; exact hq
  · intro h; exact ⟨_, _, rfl, h⟩
theorem stepV_gt {dst : Option Nat} {os : List SOper} {ks : List K} {e : Env} {r : Option (PV × Store)} {Q : Post} {R : PV → Store → Prop} (h : Gt r R) (hr : ∀ v ρ, R v ρ → Wk T call L (.ops os :: ks) (e.put dst v) ρ Q) : stepV T call L dst os ks e r Q := h.mono hr
end

theorem jmp_mono {T : Tab} {call : FuncId → List PV → Store → Option (PV × Store)} {L : Nat} {Q R : Post} (h : ∀ x e ρ, Q x e ρ → R x e ρ) : ∀ (ks : List K), (∀ e ρ, Wk T call L ks e ρ Q → Wk T call L ks e ρ R) ∧ ∀ x e ρ, jmp T call L x ks e ρ Q → jmp T call L x ks e ρ R
  | [] => ⟨fun e ρ hq => by simpa using h _ e ρ (by simpa using hq), fun x e ρ hq => by simpa using h x e ρ (by simpa using hq)⟩
  | k :: ks => by
    obtain ⟨h1, h2⟩ := jmp_mono h ks
    have hw : ∀ e ρ, Wk T call L (k :: ks) e ρ Q → Wk T call L (k :: ks) e ρ R := by
      intro e ρ hq
      cases k with
      | code c => simp only [Wk] at hq ⊢; obtain ⟨x, e', ρ', g1, g2⟩ := hq; exact ⟨x, e', ρ', g1, h2 _ _ _ g2⟩
      | ops os => simp only [Wk] at hq ⊢; obtain ⟨e', ρ', g1, g2⟩ := hq; exact ⟨e', ρ', g1, h1 _ _ g2⟩
      | blk id => simp only [Wk] at hq ⊢; exact h1 _ _ hq
    refine ⟨hw, fun x e ρ hq => ?_⟩
    cases x with
    | nor => simpa using hw e ρ (by simpa using hq)
    | ret => simpa using h2 .ret e ρ (by simpa using hq)
    | ex i =>
      cases k with
      | code c => simpa using h2 _ e ρ (by simpa using hq)
      | ops c => simpa using h2 _ e ρ (by simpa using hq)
      | blk id =>
        simp only [jmp_blk] at hq ⊢
        split
        · rename_i hi; rw [if_pos hi] at hq; exact h1 e ρ hq
        · rename_i hi; rw [if_neg hi] at hq; exact h2 _ e ρ hq

/-- A loop, by a measure. -/
theorem loop_inv {step : Env → Store → Option (Ex × Env × Store)} (I : Nat → Env → Store → Prop) (Q : Ex → Env → Store → Prop)
    (h : ∀ k e ρ, I k e ρ → ∃ x e' ρ', step e ρ = some (x, e', ρ') ∧ ((x = .nor ∧ ∃ k', k' < k ∧ I k' e' ρ') ∨ (x ≠ .nor ∧ Q x e' ρ'))) :
    ∀ (L k : Nat) (e : Env) (ρ : Store), k < L → I k e ρ → ∃ x e' ρ', loopN step L e ρ = some (x, e', ρ') ∧ Q x e' ρ'
  | 0, k, e, ρ, hk, _ => by omega
  | L + 1, k, e, ρ, hk, hI => by
    obtain ⟨x, e', ρ', h1, h2⟩ := h k e ρ hI
    rcases h2 with ⟨rfl, k', hk', hI'⟩ | ⟨hx, hQ⟩
    · obtain ⟨x2, e2, ρ2, h3, h4⟩ := loop_inv I Q h L k' e' ρ' (by omega) hI'
      exact ⟨x2, e2, ρ2, by simp only [loopN, h1]; exact h3, h4⟩
    · refine ⟨x, e', ρ', ?_, hQ⟩
      simp only [loopN, h1]
      cases x with
      | nor => exact absurd rfl hx
      | _ => rfl

/-- The loop's law: I between two rounds, k falling; of a round one shows that it comes to I again ('R .nor'), or leaves ('R x') with what is wanted behind the loop. -/
theorem Wk_loop {T : Tab} {call : FuncId → List PV → Store → Option (PV × Store)} {L : Nat} {a : SCode} {ks : List K} {e : Env} {ρ : Store} {Q : Post} (I : Nat → Env → Store → Prop) (k : Nat) (hk : k < L) (h0 : I k e ρ)
    (h : ∀ k e ρ, I k e ρ → ∀ R : Post, (∀ k' e' ρ', k' < k → I k' e' ρ' → R .nor e' ρ') → (∀ i e' ρ', jmp T call L (.ex i) ks e' ρ' Q → R (.ex i) e' ρ') → (∀ e' ρ', jmp T call L .ret ks e' ρ' Q → R .ret e' ρ') → Wk T call L [.code a] e ρ R) : Wk T call L (.code (.loop a) :: ks) e ρ Q := by
  simp only [Wk, Wp, evC]
  refine loop_inv I (fun x e' ρ' => jmp T call L x ks e' ρ' Q) (fun k e ρ hI => ?_) L k e ρ hk h0
  have := h k e ρ hI (fun x e' ρ' => (x = .nor ∧ ∃ k', k' < k ∧ I k' e' ρ') ∨ (x ≠ .nor ∧ jmp T call L x ks e' ρ' Q)) (fun k' e' ρ' h1 h2 => .inl ⟨rfl, k', h1, h2⟩) (fun i e' ρ' hq => .inr ⟨(fun h => by cases h), hq⟩) (fun e' ρ' hq => .inr ⟨(fun h => by cases h), hq⟩)
  simp only [Wk, Wp] at this
  obtain ⟨x, e', ρ', h1, h2⟩ := this
  exact ⟨x, e', ρ', h1, by simpa using h2⟩

/-- The function's results, where it has come to its end. -/
def fin (o : Option (List PV)) (ρ : Store) (R : PV → Store → Prop) : Prop := ∃ vs, o = some vs ∧ R (oneRes vs) ρ
@[simp] theorem fin_some (vs : List PV) (ρ : Store) (R : PV → Store → Prop) : fin (some vs) ρ R ↔ R (oneRes vs) ρ := by simp [fin]
def finQ (rs : List SRes) (R : PV → Store → Prop) (x : Ex) (e : Env) (ρ : Store) : Prop := (x = .nor ∨ x = .ret) ∧ fin (resAll e ρ rs) ρ R
@[simp] theorem finQ_nor (rs : List SRes) (R : PV → Store → Prop) (e : Env) (ρ : Store) : finQ rs R .nor e ρ ↔ fin (resAll e ρ rs) ρ R := by simp [finQ]
@[simp] theorem finQ_ret (rs : List SRes) (R : PV → Store → Prop) (e : Env) (ρ : Store) : finQ rs R .ret e ρ ↔ fin (resAll e ρ rs) ρ R := by simp [finQ]

/-- A function, by its code. -/
theorem Gt_evF {T : Tab} {L d : Nat} {f : FuncId} {s : SFunc} (hT : T.body f = some s) {args : List PV} {ρ : Store} {Q : PV → Store → Prop} (hl : args.length = s.np)
    (h : ∀ R : PV → Store → Prop, (∀ v ρ', Q v ρ' → R v ρ') → Wk T (evF T L d) L [.code s.body] (Env.of args 0) ρ (finQ s.res R)) : Gt (evF T L (d + 1) f args ρ) Q := by
  have := h Q (fun _ _ h => h)
  simp only [Wk, Wp, jmp_nil] at this
  obtain ⟨x, e', ρ', h1, h2, vs, h3, h4⟩ := this
  refine ⟨oneRes vs, ρ', ?_, h4⟩
  simp only [evF, hT, if_pos hl, h1]
  rcases h2 with rfl | rfl <;> simp [h3]

/-- Machine numbers in elements of one cell each. -/
def nums (k : IntKind) (l : List Nat) : List (List PV) := l.map fun (d : Nat) => [PV.int k (d : Int)]

@[simp] theorem nums_length (k : IntKind) (l : List Nat) : (nums k l).length = l.length := by simp [nums]
@[simp] theorem nums_getElem (k : IntKind) (l : List Nat) (i : Nat) (h : i < (nums k l).length) : (nums k l)[i] = [.int k ((l[i]'(by simpa using h) : Nat) : Int)] := by simp [nums]
theorem nums_get (k : IntKind) (l : List Nat) (i : Nat) (h : i < l.length) : (nums k l)[i]? = some [.int k ((l[i] : Nat) : Int)] := by simp [nums, h]

theorem wrap_i64 {n : Int} (h0 : -9223372036854775808 ≤ n) (h1 : n ≤ 9223372036854775807) : IntKind.i64.wrap n = n := by
  unfold IntKind.wrap
  have hb : (2 ^ IntKind.i64.bits : Int) = 18446744073709551616 := rfl
  have hb2 : (2 ^ (IntKind.i64.bits - 1) : Int) = 9223372036854775808 := rfl
  rw [hb, hb2]
  have hs : IntKind.i64.signed = true := rfl
  simp only [hs, Bool.true_and, decide_eq_true_eq]
  by_cases h : 0 ≤ n
  · rw [Int.emod_eq_of_lt h (by omega), if_neg (by omega)]
  · rw [← Int.add_emod_right, Int.emod_eq_of_lt (by omega) (by omega), if_pos (by omega)]
    omega

theorem wrap_u64 {n : Int} (h0 : 0 ≤ n) (h1 : n < 18446744073709551616) : IntKind.u64.wrap n = n := by
  unfold IntKind.wrap
  have hb : (2 ^ IntKind.u64.bits : Int) = 18446744073709551616 := rfl
  have hs : IntKind.u64.signed = false := rfl
  rw [hb]
  simp only [hs, Bool.false_and, Bool.false_eq_true, if_false]
  exact Int.emod_eq_of_lt h0 h1

theorem wrap_u8 {n : Int} (h0 : 0 ≤ n) (h1 : n < 256) : IntKind.u8.wrap n = n := by
  unfold IntKind.wrap
  have hb : (2 ^ IntKind.u8.bits : Int) = 256 := rfl
  have hs : IntKind.u8.signed = false := rfl
  rw [hb]
  simp only [hs, Bool.false_and, Bool.false_eq_true, if_false]
  exact Int.emod_eq_of_lt h0 h1

end Go.Proofs.YtkccoijckckhmaaGreatDoor.Ev

namespace Go.Proofs.YtkccoijckckhmaaGreatDoor.Ev

section
variable {B w b1 b2 b' h a2 x' g r b X : Nat}

theorem kn_first (hb : b = b1 * (B * w) + b2 * w + b') (hX : X = h * (B * w) + a2 * w + x') (ha2 : a2 < B) (hx : x' < w) (h1 : 0 < b1) : X < (h / b1 + 1) * b := by
  have e1 : h < (h / b1 + 1) * b1 := by
    have := Nat.lt_mul_div_succ h h1
    rwa [Nat.mul_comm] at this
  obtain ⟨q, hq⟩ : ∃ q, h / b1 + 1 = q := ⟨_, rfl⟩
  rw [hq] at e1 ⊢
  have e2 : (h + 1) * (B * w) ≤ q * b1 * (B * w) := Nat.mul_le_mul_right _ e1
  have e3 : q * b = q * b1 * (B * w) + q * (b2 * w + b') := by rw [hb]; grind
  have e4 : (a2 + 1) * w ≤ B * w := Nat.mul_le_mul_right _ ha2
  have e5 : (h + 1) * (B * w) = h * (B * w) + B * w := by grind
  have e6 : (a2 + 1) * w = a2 * w + w := by grind
  omega

theorem kn_less (hb : b = b1 * (B * w) + b2 * w + b') (hX : X = h * (B * w) + a2 * w + x') (hx : x' < w) (hXb : X < B * b) (hg : g * b1 + r = h) (hc : B ≤ g ∨ r * B + a2 < g * b2) : X < g * b := by
  rcases hc with hc | hc
  · have : B * b ≤ g * b := Nat.mul_le_mul_right _ hc
    omega
  · have e1 : (r * B + a2 + 1) * w ≤ g * b2 * w := Nat.mul_le_mul_right _ hc
    have e2 : (r * B + a2 + 1) * w = r * (B * w) + a2 * w + w := by grind
    have e3 : g * b = g * b1 * (B * w) + g * b2 * w + g * b' := by rw [hb]; grind
    have e4 : h * (B * w) = g * b1 * (B * w) + r * (B * w) := by rw [← hg]; grind
    omega

theorem kn_near (hb : b = b1 * (B * w) + b2 * w + b') (hX : X = h * (B * w) + a2 * w + x') (hb2 : b2 < B) (hb' : b' < w) (h1 : 0 < b1) (hg : g * b1 + r = h) (hgB : g < B) (hc : B ≤ r ∨ g * b2 ≤ r * B + a2) : g * b ≤ X + b := by
  have hc2 : g * b2 ≤ r * B + a2 := by
    rcases hc with hc | hc
    · have e1 : g * b2 ≤ B * B := Nat.mul_le_mul (by omega) (by omega)
      have e2 : B * B ≤ r * B := Nat.mul_le_mul_right _ hc
      omega
    · exact hc
  have e1 : g * b2 * w ≤ (r * B + a2) * w := Nat.mul_le_mul_right _ hc2
  have e2 : (r * B + a2) * w = r * (B * w) + a2 * w := by grind
  have e3 : g * b = g * b1 * (B * w) + g * b2 * w + g * b' := by rw [hb]; grind
  have e4 : h * (B * w) = g * b1 * (B * w) + r * (B * w) := by rw [← hg]; grind
  have e5 : g * b' ≤ B * w := Nat.mul_le_mul (by omega) (by omega)
  have e6 : 1 * (B * w) ≤ b1 * (B * w) := Nat.mul_le_mul_right _ h1
  omega

theorem kn_high (hb : b = b1 * (B * w) + b2 * w + b') (hX : X = h * (B * w) + a2 * w + x') (hb2 : b2 < B) (hb' : b' < w) (hw : 0 < w) (hXb : X < B * b) (hB : 1 < B) (h1 : B ≤ 2 * b1) : h / b1 ≤ B + 1 := by
  have e1 : b < (b1 + 1) * (B * w) := by
    have : (b2 + 1) * w ≤ B * w := Nat.mul_le_mul_right _ hb2
    have : (b2 + 1) * w = b2 * w + w := by grind
    have : (b1 + 1) * (B * w) = b1 * (B * w) + B * w := by grind
    omega
  have e2 : h * (B * w) < B * (b1 + 1) * (B * w) := by
    have : B * b ≤ B * ((b1 + 1) * (B * w)) := Nat.mul_le_mul_left _ (by omega)
    have : B * ((b1 + 1) * (B * w)) = B * (b1 + 1) * (B * w) := by grind
    omega
  have e3 : h < B * (b1 + 1) := Nat.lt_of_mul_lt_mul_right e2
  have e4 : h < (B + 2) * b1 := by
    have : (B + 2) * b1 = B * b1 + 2 * b1 := by grind
    have : B * (b1 + 1) = B * b1 + B := by grind
    omega
  have := (Nat.div_lt_iff_lt_mul (show 0 < b1 by omega)).2 e4
  omega

end

/-- One step of long division: what is left, and the quotient. -/
theorem kn_step {X b g : Nat} (h1 : X < (g + 1) * b) (h2 : g * b ≤ X + b) (h3 : ¬ g * b ≤ X) : 0 < g ∧ (g - 1) * b ≤ X ∧ X < g * b := by
  have hg : 0 < g := by
    rcases Nat.eq_zero_or_pos g with h | h
    · subst h; omega
    · exact h
  obtain ⟨k, rfl⟩ : ∃ k, g = k + 1 := ⟨g - 1, by omega⟩
  have e1 : (k + 1) * b = k * b + b := by grind
  refine ⟨hg, ?_, by omega⟩
  rw [Nat.add_sub_cancel]
  omega

theorem kn_norm {B n q f top : Nat} (hq : q < (top + 1) * B ^ n) (hf : f = B / (top + 1)) : q * f < B * B ^ n ∨ f = 0 := by
  rcases Nat.eq_zero_or_pos f with h | h
  · exact .inr h
  · left
    have e1 : q * f < (top + 1) * B ^ n * f := Nat.mul_lt_mul_of_pos_right hq h
    have e2 : (top + 1) * f ≤ B := by rw [hf]; exact Nat.mul_div_le _ _
    have e3 : (top + 1) * B ^ n * f = (top + 1) * f * B ^ n := by grind
    have e4 : (top + 1) * f * B ^ n ≤ B * B ^ n := Nat.mul_le_mul_right _ e2
    omega

/-- The first piece of the divisor is great. -/
theorem kn_top {top f : Nat} (h0 : 0 < top) (h1 : top < 1000000000) (hf : f = 1000000000 / (top + 1)) : 0 < f ∧ 500000000 ≤ top * f := by
  have hf0 : 0 < f := by rw [hf]; exact Nat.div_pos (by omega) (by omega)
  refine ⟨hf0, ?_⟩
  have e1 : 1000000000 < (f + 1) * (top + 1) := by
    have := Nat.lt_mul_div_succ 1000000000 (show 0 < top + 1 by omega)
    rw [← hf, Nat.mul_comm] at this
    exact this
  have e2 : (f + 1) * (top + 1) = top * f + f + top + 1 := by grind
  have e3 : f * (top + 1) ≤ 1000000000 := by rw [hf]; exact Nat.div_mul_le_self _ _
  have e4 : f * (top + 1) = top * f + f := by grind
  -- f + top ≤ f * top + 1
  rcases Nat.lt_or_ge (top * f) 500000000 with hlt | hge
  · exfalso
    have e5 : f + top ≤ top * f + 1 := by
      obtain ⟨a, rfl⟩ : ∃ a, f = a + 1 := ⟨f - 1, by omega⟩
      obtain ⟨c, rfl⟩ : ∃ c, top = c + 1 := ⟨top - 1, by omega⟩
      have : (c + 1) * (a + 1) = c * a + c + a + 1 := by grind
      omega
    omega
  · exact hge

end Go.Proofs.YtkccoijckckhmaaGreatDoor.Ev
