/-
  The evaluator's form of the translated functions, printed by a program out of 'compile'.
-/
import Derived.Test.YtkccoijckckhmaaGreatDoorM0
set_option linter.all false

namespace Go.Proofs.YtkccoijckckhmaaGreatDoor.Ev
open Go

def bytes (l : List UInt8) : ByteArray := ⟨l.toArray⟩

inductive BT (α : Type) where
  | nil
  | node (l : BT α) (k : Nat) (v : α) (r : BT α)

def BT.get {α : Type} : BT α → Nat → Option α
  | .nil, _ => none
  | .node l k v r, f => bif Nat.beq f k then some v else bif Nat.blt f k then l.get f else r.get f


def s3_0 : SCode :=
  .seq (.seq (.reg [⟨(some 73), (.mv (.t 10)), none⟩, ⟨(some 74), (.mv (.t 1)), none⟩, ⟨(some 75), (.len (.t 74)), none⟩, ⟨(some 76), (.bin .lss (.t 73) (.t 75)),
  none⟩]) (.cond (.t 76) .skip (.exit 0))) (.seq (.blk 1 (.seq (.reg [⟨(some 80), (.ld 3 true (.t 5)), none⟩, ⟨(some 81), (.mv (.t 1)), none⟩, ⟨(some 82), (.mv
  (.t 10)), none⟩, ⟨(some 83), (.iad 1 (.t 81) (.t 82)), none⟩, ⟨(some 84), (.ld 1 false (.t 83)), none⟩, ⟨(some 85), (.callR (.k (.fn 18 [])) [(.t 80), (.t
  84)]), none⟩, ⟨(some 79), (.mv (.t 85)), none⟩, ⟨(some 86), (.ext 0 (.t 79)), none⟩, ⟨(some 87), (.ext 1 (.t 79)), none⟩, ⟨(some 11), (.mv (.t 86)), none⟩,
  ⟨(some 12), (.mv (.t 87)), none⟩]) (.seq (.seq (.reg [⟨(some 88), (.mv (.t 12)), none⟩, ⟨(some 89), (.un .not (.t 88)), none⟩]) (.cond (.t 89) (.exit 1)
  .skip)) (.seq (.seq (.reg [⟨(some 91), (.fad 0 (.t 5)), none⟩, ⟨(some 92), (.ld 1 false (.t 91)), none⟩, ⟨(some 93), (.mv (.t 11)), none⟩, ⟨(some 94), (.fad 0
  (.t 9)), none⟩, ⟨(some 95), (.ld 1 false (.t 94)), none⟩, ⟨(some 96), (.callR (.k (.fn 19 [])) [(.t 92), (.t 93), (.t 95)]), none⟩, ⟨(some 90), (.mv (.t 96)),
  none⟩, ⟨(some 97), (.ext 0 (.t 90)), none⟩, ⟨(some 98), (.ext 1 (.t 90)), none⟩, ⟨(some 13), (.mv (.t 97)), none⟩, ⟨(some 14), (.mv (.t 98)), none⟩]) (.seq
  (.reg [⟨(some 99), (.fad 2 (.t 9)), none⟩, ⟨(some 100), (.ld 1 false (.t 99)), none⟩, ⟨(some 101), (.un .not (.t 100)), none⟩, ⟨(some 102), (.mv (.t 101)),
  none⟩, ⟨(some 103), (.mv (.t 13)), (some (102, false))⟩, ⟨(some 104), (.bin .lss (.t 103) (.k (.int .i64 0))), (some (102, false))⟩, ⟨(some 105), (.pick (.t
  102) (.k (.bool true)) (.t 104)), none⟩]) (.cond (.t 105) (.reg [⟨(some 106), (.mv (.t 11)), none⟩, ⟨(some 107), (.fad 0 (.t 9)), none⟩, ⟨none, (.st 1 (.t
  107) (.t 106)), none⟩, ⟨(some 108), (.fad 2 (.t 9)), none⟩, ⟨none, (.st 1 (.t 108) (.k (.bool true))), none⟩]) .skip))) (.seq (.reg [⟨(some 110), (.fad 0 (.t
  5)), none⟩, ⟨(some 111), (.ld 1 false (.t 110)), none⟩, ⟨(some 112), (.mv (.t 11)), none⟩, ⟨(some 113), (.fad 1 (.t 9)), none⟩, ⟨(some 114), (.ld 1 false (.t
  113)), none⟩, ⟨(some 115), (.callR (.k (.fn 19 [])) [(.t 111), (.t 112), (.t 114)]), none⟩, ⟨(some 109), (.mv (.t 115)), none⟩, ⟨(some 116), (.ext 0 (.t
  109)), none⟩, ⟨(some 117), (.ext 1 (.t 109)), none⟩, ⟨(some 15), (.mv (.t 116)), none⟩, ⟨(some 16), (.mv (.t 117)), none⟩]) (.seq (.reg [⟨(some 118), (.fad 3
  (.t 9)), none⟩, ⟨(some 119), (.ld 1 false (.t 118)), none⟩, ⟨(some 120), (.un .not (.t 119)), none⟩, ⟨(some 121), (.mv (.t 120)), none⟩, ⟨(some 122), (.mv (.t
  15)), (some (121, false))⟩, ⟨(some 123), (.bin .gtr (.t 122) (.k (.int .i64 0))), (some (121, false))⟩, ⟨(some 124), (.pick (.t 121) (.k (.bool true)) (.t
  123)), none⟩]) (.cond (.t 124) (.reg [⟨(some 125), (.mv (.t 11)), none⟩, ⟨(some 126), (.fad 1 (.t 9)), none⟩, ⟨none, (.st 1 (.t 126) (.t 125)), none⟩, ⟨(some
  127), (.fad 3 (.t 9)), none⟩, ⟨none, (.st 1 (.t 127) (.k (.bool true))), none⟩]) .skip))))))) (.reg [⟨(some 77), (.mv (.t 10)), none⟩, ⟨(some 78), (.bin .add
  (.t 77) (.k (.int .i64 1))), none⟩, ⟨(some 10), (.mv (.t 78)), none⟩]))

/- schisma/schismalaw28.TradeoffBetween -/
def s3 : SFunc :=
  ⟨2, [(.t 4)], (.seq (.reg [⟨(some 2), (.box 3 (.t 0)), none⟩, ⟨(some 4), (.mv (.k (.bool false))), none⟩]) (.seq (.seq (.reg [⟨(some 17), (.callR (.k (.fn 9
  [])) []), none⟩, ⟨(some 18), (.un .not (.t 17)), none⟩, ⟨(some 19), (.mv (.t 18)), none⟩, ⟨(some 20), (.ld 3 true (.t 2)), (some (19, false))⟩, ⟨(some 21),
  (.callR (.k (.fn 10 [])) [(.t 20)]), (some (19, false))⟩, ⟨(some 22), (.un .not (.t 21)), (some (19, false))⟩, ⟨(some 23), (.pick (.t 19) (.k (.bool true))
  (.t 22)), none⟩, ⟨(some 24), (.mv (.t 23)), none⟩, ⟨(some 25), (.mv (.t 1)), (some (24, false))⟩, ⟨(some 26), (.callR (.k (.fn 11 [])) [(.t 25)]), (some (24,
  false))⟩, ⟨(some 27), (.un .not (.t 26)), (some (24, false))⟩, ⟨(some 28), (.pick (.t 24) (.k (.bool true)) (.t 27)), none⟩, ⟨(some 29), (.mv (.t 28)), none⟩,
  ⟨(some 30), (.mv (.t 1)), (some (29, false))⟩, ⟨(some 31), (.len (.t 30)), (some (29, false))⟩, ⟨(some 32), (.bin .gtr (.t 31) (.k (.int .i64 5))), (some (29,
  false))⟩, ⟨(some 33), (.pick (.t 29) (.k (.bool true)) (.t 32)), none⟩]) (.cond (.t 33) (.seq (.reg [⟨(some 34), (.callR (.k (.fn 9 [])) []), none⟩, ⟨(some
  4), (.mv (.t 34)), none⟩]) .ret) .skip)) (.seq (.reg [⟨(some 35), (.ld 3 true (.t 2)), none⟩, ⟨(some 36), (.callR (.k (.fn 12 [])) [(.t 35)]), none⟩, ⟨(some
  5), (.alc [(.z true), (.z true), (.z true)]), none⟩, ⟨none, (.st 3 (.t 5) (.t 36)), none⟩]) (.seq (.reg [⟨(some 38), (.ld 3 true (.t 5)), none⟩, ⟨(some 39),
  (.mv (.t 1)), none⟩, ⟨(some 40), (.callR (.k (.fn 13 [])) [(.t 38), (.t 39)]), none⟩, ⟨(some 37), (.mv (.t 40)), none⟩, ⟨(some 41), (.ext 0 (.t 37)), none⟩,
  ⟨(some 42), (.ext 1 (.t 37)), none⟩, ⟨(some 6), (.alc [(.z true), (.z true), (.bool false), (.bool false), (.bool false)]), none⟩, ⟨none, (.st 5 (.t 6) (.t
  41)), none⟩, ⟨(some 7), (.mv (.t 42)), none⟩]) (.seq (.reg [⟨(some 43), (.ld 3 true (.t 5)), none⟩, ⟨(some 44), (.callR (.k (.fn 14 [])) [(.t 43)]), none⟩,
  ⟨(some 8), (.mv (.t 44)), none⟩]) (.seq (.seq (.reg [⟨(some 45), (.mv (.t 8)), none⟩, ⟨(some 46), (.bin .eql (.t 45) (.k (.int .i64 0))), none⟩]) (.cond (.t
  46) (.reg [⟨(some 47), (.ld 3 true (.t 5)), none⟩, ⟨(some 48), (.mv (.t 1)), none⟩, ⟨(some 49), (.callR (.k (.fn 15 [])) [(.t 47), (.t 48)]), none⟩, ⟨(some
  8), (.mv (.t 49)), none⟩]) .skip)) (.seq (.seq (.reg [⟨(some 50), (.mv (.t 8)), none⟩, ⟨(some 51), (.bin .neq (.t 50) (.k (.int .i64 0))), none⟩]) (.cond (.t
  51) (.seq (.reg [⟨(some 52), (.ld 5 true (.t 6)), none⟩, ⟨(some 53), (.callR (.k (.fn 16 [])) [(.t 52)]), none⟩, ⟨(some 54), (.mv (.t 53)), none⟩, ⟨(some 55),
  (.mv (.t 7)), (some (54, true))⟩, ⟨(some 56), (.mv (.t 8)), (some (54, true))⟩, ⟨(some 57), (.bin .eql (.t 55) (.t 56)), (some (54, true))⟩, ⟨(some 58),
  (.pick (.t 54) (.t 57) (.k (.bool false))), none⟩, ⟨(some 4), (.mv (.t 58)), none⟩]) .ret) .skip)) (.seq (.seq (.reg [⟨(some 59), (.ld 3 true (.t 5)), none⟩,
  ⟨(some 60), (.mv (.t 1)), none⟩, ⟨(some 61), (.callR (.k (.fn 17 [])) [(.t 59), (.t 60)]), none⟩, ⟨(some 62), (.un .not (.t 61)), none⟩]) (.cond (.t 62) (.seq
  (.reg [⟨(some 63), (.ld 5 true (.t 6)), none⟩, ⟨(some 64), (.callR (.k (.fn 16 [])) [(.t 63)]), none⟩, ⟨(some 65), (.mv (.t 64)), none⟩, ⟨(some 66), (.mv (.t
  7)), (some (65, true))⟩, ⟨(some 67), (.bin .eql (.t 66) (.k (.int .i64 4))), (some (65, true))⟩, ⟨(some 68), (.mv (.t 67)), (some (65, true))⟩, ⟨(some 69),
  (.mv (.t 7)), (some (68, false))⟩, ⟨(some 70), (.bin .eql (.t 69) (.k (.int .i64 19))), (some (68, false))⟩, ⟨(some 71), (.pick (.t 68) (.k (.bool true)) (.t
  70)), (some (65, true))⟩, ⟨(some 72), (.pick (.t 65) (.t 71) (.k (.bool false))), none⟩, ⟨(some 4), (.mv (.t 72)), none⟩]) .ret) .skip)) (.seq (.reg [⟨(some
  9), (.alc [(.z true), (.z true), (.bool false), (.bool false), (.bool false)]), none⟩]) (.seq (.seq (.reg [⟨(some 10), (.mv (.k (.int .i64 0))), none⟩]) (.blk
  0 (.loop s3_0))) (.seq (.seq (.reg [⟨(some 128), (.fad 2 (.t 9)), none⟩, ⟨(some 129), (.ld 1 false (.t 128)), none⟩, ⟨(some 130), (.un .not (.t 129)), none⟩])
  (.cond (.t 130) (.seq (.reg [⟨(some 131), (.ld 5 true (.t 6)), none⟩, ⟨(some 132), (.callR (.k (.fn 16 [])) [(.t 131)]), none⟩, ⟨(some 133), (.mv (.t 132)),
  none⟩, ⟨(some 134), (.mv (.t 7)), (some (133, true))⟩, ⟨(some 135), (.bin .eql (.t 134) (.k (.int .i64 19))), (some (133, true))⟩, ⟨(some 136), (.pick (.t
  133) (.t 135) (.k (.bool false))), none⟩, ⟨(some 4), (.mv (.t 136)), none⟩]) .ret) .skip)) (.seq (.reg [⟨(some 137), (.ld 5 true (.t 6)), none⟩, ⟨(some 138),
  (.ld 5 true (.t 9)), none⟩, ⟨(some 139), (.callR (.k (.fn 20 [])) [(.t 137), (.t 138)]), none⟩, ⟨(some 140), (.mv (.t 139)), none⟩, ⟨(some 141), (.mv (.t 7)),
  (some (140, true))⟩, ⟨(some 142), (.bin .eql (.t 141) (.k (.int .i64 0))), (some (140, true))⟩, ⟨(some 143), (.pick (.t 140) (.t 142) (.k (.bool false))),
  none⟩, ⟨(some 4), (.mv (.t 143)), none⟩]) .ret))))))))))))⟩

/- schisma/schismalaw25.DamageChecks -/
def s8 : SFunc :=
  ⟨3, [(.t 6)], (.seq (.reg [⟨(some 6), (.mv (.k (.bool false))), none⟩]) (.seq (.seq (.reg [⟨(some 7), (.callR (.k (.fn 37 [])) []), none⟩, ⟨(some 8), (.un .not
  (.t 7)), none⟩, ⟨(some 9), (.mv (.t 8)), none⟩, ⟨(some 10), (.mv (.t 0)), (some (9, false))⟩, ⟨(some 11), (.len (.t 10)), (some (9, false))⟩, ⟨(some 12),
  (.bin .gtr (.t 11) (.k (.int .i64 8))), (some (9, false))⟩, ⟨(some 13), (.pick (.t 9) (.k (.bool true)) (.t 12)), none⟩, ⟨(some 14), (.mv (.t 13)), none⟩,
  ⟨(some 15), (.mv (.t 1)), (some (14, false))⟩, ⟨(some 16), (.callR (.k (.fn 38 [])) [(.t 15)]), (some (14, false))⟩, ⟨(some 17), (.un .not (.t 16)), (some
  (14, false))⟩, ⟨(some 18), (.pick (.t 14) (.k (.bool true)) (.t 17)), none⟩, ⟨(some 19), (.mv (.t 18)), none⟩, ⟨(some 20), (.mv (.t 2)), (some (19, false))⟩,
  ⟨(some 21), (.callR (.k (.fn 38 [])) [(.t 20)]), (some (19, false))⟩, ⟨(some 22), (.un .not (.t 21)), (some (19, false))⟩, ⟨(some 23), (.pick (.t 19) (.k
  (.bool true)) (.t 22)), none⟩]) (.cond (.t 23) (.seq (.reg [⟨(some 24), (.callR (.k (.fn 37 [])) []), none⟩, ⟨(some 6), (.mv (.t 24)), none⟩]) .ret) .skip))
  (.seq (.reg [⟨(some 25), (.mv (.t 0)), none⟩, ⟨(some 26), (.mv (.t 1)), none⟩, ⟨(some 27), (.callR (.k (.fn 39 [])) [(.t 25), (.t 26)]), none⟩, ⟨(some 28),
  (.mv (.t 0)), none⟩, ⟨(some 29), (.mv (.t 1)), none⟩, ⟨(some 30), (.callR (.k (.fn 40 [])) [(.t 28), (.t 29)]), none⟩, ⟨(some 31), (.bin .eql (.t 27) (.t
  30)), none⟩, ⟨(some 32), (.mv (.t 31)), none⟩, ⟨(some 33), (.mv (.t 1)), (some (32, true))⟩, ⟨(some 34), (.mv (.t 2)), (some (32, true))⟩, ⟨(some 35), (.callR
  (.k (.fn 41 [])) [(.t 33), (.t 34)]), (some (32, true))⟩, ⟨(some 36), (.mv (.t 1)), (some (32, true))⟩, ⟨(some 37), (.mv (.t 2)), (some (32, true))⟩, ⟨(some
  38), (.callR (.k (.fn 42 [])) [(.t 36), (.t 37)]), (some (32, true))⟩, ⟨(some 39), (.beq false (.t 35) (.t 38)), (some (32, true))⟩, ⟨(some 40), (.pick (.t
  32) (.t 39) (.k (.bool false))), none⟩, ⟨(some 41), (.mv (.t 40)), none⟩, ⟨(some 42), (.mv (.t 1)), (some (41, true))⟩, ⟨(some 43), (.mv (.t 1)), (some (41,
  true))⟩, ⟨(some 44), (.callR (.k (.fn 41 [])) [(.t 42), (.t 43)]), (some (41, true))⟩, ⟨(some 45), (.pick (.t 41) (.t 44) (.k (.bool false))), none⟩, ⟨(some
  6), (.mv (.t 45)), none⟩]) .ret)))⟩

/- schisma/schismalaw28.known -/
def s9 : SFunc :=
  ⟨0, [(.t 0)], (.seq (.reg [⟨(some 0), (.mv (.k (.bool false))), none⟩]) (.seq (.reg [⟨(some 6), (.callR (.k (.fn 43 [])) [(.k (.int .i64 0)), (.k (.int .i64
  1))]), none⟩, ⟨(some 1), (.alc [(.str (bytes [])), (.str (bytes []))]), none⟩, ⟨none, (.st 2 (.t 1) (.t 6)), none⟩]) (.seq (.reg [⟨(some 8), (.callR (.k (.fn
  45 [])) []), none⟩, ⟨(some 9), (.bsl 1 [(.int .i64 0)] 3 [(0, (.k (.int .i64 0))), (1, (.k (.int .i64 0))), (2, (.k (.int .i64 0)))]), none⟩, ⟨(some 10),
  (.bsl 1 [(.int .i64 0)] 3 [(0, (.k (.int .i64 (-3)))), (1, (.k (.int .i64 2))), (2, (.k (.int .i64 0)))]), none⟩, ⟨(some 11), (.bsl 1 [(.int .i64 0)] 3 [(0,
  (.k (.int .i64 (-2)))), (1, (.k (.int .i64 0))), (2, (.k (.int .i64 1)))]), none⟩, ⟨(some 12), (.bsl 1 [(.int .i64 0)] 3 [(0, (.k (.int .i64 2))), (1, (.k
  (.int .i64 (-1)))), (2, (.k (.int .i64 0)))]), none⟩, ⟨(some 13), (.bsl 1 [(.int .i64 0)] 3 [(0, (.k (.int .i64 (-1)))), (1, (.k (.int .i64 1))), (2, (.k
  (.int .i64 0)))]), none⟩, ⟨(some 14), (.bsl 1 [(.z true)] 5 [(0, (.t 9)), (1, (.t 10)), (2, (.t 11)), (3, (.t 12)), (4, (.t 13))]), none⟩, ⟨(some 15), (.callR
  (.k (.fn 44 [])) [(.t 8), (.t 14)]), none⟩, ⟨(some 7), (.mv (.t 15)), none⟩, ⟨(some 16), (.ext 0 (.t 7)), none⟩, ⟨(some 17), (.ext 1 (.t 7)), none⟩, ⟨(some
  2), (.alc [(.z true), (.z true), (.bool false), (.bool false), (.bool false)]), none⟩, ⟨none, (.st 5 (.t 2) (.t 16)), none⟩, ⟨(some 3), (.mv (.t 17)), none⟩])
  (.seq (.reg [⟨(some 19), (.callR (.k (.fn 45 [])) []), none⟩, ⟨(some 20), (.bsl 1 [(.int .i64 0)] 3 [(0, (.k (.int .i64 (-2)))), (1, (.k (.int .i64 0))), (2,
  (.k (.int .i64 1)))]), none⟩, ⟨(some 21), (.bsl 1 [(.int .i64 0)] 3 [(0, (.k (.int .i64 (-1)))), (1, (.k (.int .i64 1))), (2, (.k (.int .i64 0)))]), none⟩,
  ⟨(some 22), (.bsl 1 [(.z true)] 2 [(0, (.t 20)), (1, (.t 21))]), none⟩, ⟨(some 23), (.callR (.k (.fn 13 [])) [(.t 19), (.t 22)]), none⟩, ⟨(some 18), (.mv (.t
  23)), none⟩, ⟨(some 24), (.ext 0 (.t 18)), none⟩, ⟨(some 25), (.ext 1 (.t 18)), none⟩, ⟨(some 4), (.alc [(.z true), (.z true), (.bool false), (.bool false),
  (.bool false)]), none⟩, ⟨none, (.st 5 (.t 4) (.t 24)), none⟩, ⟨(some 5), (.mv (.t 25)), none⟩]) (.seq (.reg [⟨(some 26), (.mv (.t 3)), none⟩, ⟨(some 27),
  (.bin .eql (.t 26) (.k (.int .i64 0))), none⟩, ⟨(some 28), (.mv (.t 27)), none⟩, ⟨(some 29), (.fad 2 (.t 2)), (some (28, true))⟩, ⟨(some 30), (.ld 1 false (.t
  29)), (some (28, true))⟩, ⟨(some 31), (.pick (.t 28) (.t 30) (.k (.bool false))), none⟩, ⟨(some 32), (.mv (.t 31)), none⟩, ⟨(some 33), (.fad 3 (.t 2)), (some
  (32, true))⟩, ⟨(some 34), (.ld 1 false (.t 33)), (some (32, true))⟩, ⟨(some 35), (.pick (.t 32) (.t 34) (.k (.bool false))), none⟩, ⟨(some 36), (.mv (.t 35)),
  none⟩, ⟨(some 37), (.fad 0 (.t 2)), (some (36, true))⟩, ⟨(some 38), (.ld 1 false (.t 37)), (some (36, true))⟩, ⟨(some 39), (.callR (.k (.fn 43 [])) [(.k (.int
  .i64 3)), (.k (.int .i64 2))]), (some (36, true))⟩, ⟨(some 40), (.ld 2 true (.t 1)), (some (36, true))⟩, ⟨(some 41), (.ld 2 true (.t 1)), (some (36, true))⟩,
  ⟨(some 42), (.bsl 2 [(.str (bytes [])), (.str (bytes []))] 3 [(0, (.t 39)), (1, (.t 40)), (2, (.t 41))]), (some (36, true))⟩, ⟨(some 43), (.callR (.k (.fn 23
  [])) [(.t 38), (.t 42)]), (some (36, true))⟩, ⟨(some 44), (.pick (.t 36) (.t 43) (.k (.bool false))), none⟩, ⟨(some 45), (.mv (.t 44)), none⟩, ⟨(some 46),
  (.fad 1 (.t 2)), (some (45, true))⟩, ⟨(some 47), (.ld 1 false (.t 46)), (some (45, true))⟩, ⟨(some 48), (.callR (.k (.fn 43 [])) [(.k (.int .i64 8)), (.k
  (.int .i64 5))]), (some (45, true))⟩, ⟨(some 49), (.ld 2 true (.t 1)), (some (45, true))⟩, ⟨(some 50), (.ld 2 true (.t 1)), (some (45, true))⟩, ⟨(some 51),
  (.bsl 2 [(.str (bytes [])), (.str (bytes []))] 3 [(0, (.t 48)), (1, (.t 49)), (2, (.t 50))]), (some (45, true))⟩, ⟨(some 52), (.callR (.k (.fn 23 [])) [(.t
  47), (.t 51)]), (some (45, true))⟩, ⟨(some 53), (.pick (.t 45) (.t 52) (.k (.bool false))), none⟩, ⟨(some 54), (.mv (.t 53)), none⟩, ⟨(some 55), (.mv (.t 5)),
  (some (54, true))⟩, ⟨(some 56), (.bin .eql (.t 55) (.k (.int .i64 0))), (some (54, true))⟩, ⟨(some 57), (.pick (.t 54) (.t 56) (.k (.bool false))), none⟩,
  ⟨(some 58), (.mv (.t 57)), none⟩, ⟨(some 59), (.fad 0 (.t 4)), (some (58, true))⟩, ⟨(some 60), (.ld 1 false (.t 59)), (some (58, true))⟩, ⟨(some 61), (.callR
  (.k (.fn 43 [])) [(.k (.int .i64 1)), (.k (.int .i64 1))]), (some (58, true))⟩, ⟨(some 62), (.ld 2 true (.t 1)), (some (58, true))⟩, ⟨(some 63), (.callR (.k
  (.fn 43 [])) [(.k (.int .i64 1)), (.k (.int .i64 4))]), (some (58, true))⟩, ⟨(some 64), (.bsl 2 [(.str (bytes [])), (.str (bytes []))] 3 [(0, (.t 61)), (1,
  (.t 62)), (2, (.t 63))]), (some (58, true))⟩, ⟨(some 65), (.callR (.k (.fn 23 [])) [(.t 60), (.t 64)]), (some (58, true))⟩, ⟨(some 66), (.pick (.t 58) (.t 65)
  (.k (.bool false))), none⟩, ⟨(some 67), (.mv (.t 66)), none⟩, ⟨(some 68), (.fad 1 (.t 4)), (some (67, true))⟩, ⟨(some 69), (.ld 1 false (.t 68)), (some (67,
  true))⟩, ⟨(some 70), (.ld 2 true (.t 1)), (some (67, true))⟩, ⟨(some 71), (.callR (.k (.fn 43 [])) [(.k (.int .i64 1)), (.k (.int .i64 1))]), (some (67,
  true))⟩, ⟨(some 72), (.ld 2 true (.t 1)), (some (67, true))⟩, ⟨(some 73), (.bsl 2 [(.str (bytes [])), (.str (bytes []))] 3 [(0, (.t 70)), (1, (.t 71)), (2,
  (.t 72))]), (some (67, true))⟩, ⟨(some 74), (.callR (.k (.fn 23 [])) [(.t 69), (.t 73)]), (some (67, true))⟩, ⟨(some 75), (.pick (.t 67) (.t 74) (.k (.bool
  false))), none⟩, ⟨(some 0), (.mv (.t 75)), none⟩]) .ret)))))⟩

/- schisma/schismalaw18.Fits -/
def s10 : SFunc :=
  ⟨1, [(.t 2)], (.seq (.reg [⟨(some 1), (.box 3 (.t 0)), none⟩, ⟨(some 2), (.mv (.k (.bool false))), none⟩]) (.seq (.reg [⟨(some 3), (.fad 1 (.t 1)), none⟩,
  ⟨(some 4), (.ld 1 false (.t 3)), none⟩, ⟨(some 5), (.len (.t 4)), none⟩, ⟨(some 6), (.bin .leq (.t 5) (.k (.int .i64 3))), none⟩, ⟨(some 2), (.mv (.t 6)),
  none⟩]) .ret))⟩

def s11_0 : SCode :=
  .seq (.seq (.reg [⟨(some 17), (.mv (.t 3)), none⟩, ⟨(some 18), (.mv (.t 0)), none⟩, ⟨(some 19), (.len (.t 18)), none⟩, ⟨(some 20), (.bin .lss (.t 17) (.t 19)),
  none⟩]) (.cond (.t 20) .skip (.exit 0))) (.seq (.blk 1 (.seq (.reg [⟨(some 23), (.mv (.t 0)), none⟩, ⟨(some 24), (.mv (.t 3)), none⟩, ⟨(some 25), (.iad 1 (.t
  23) (.t 24)), none⟩, ⟨(some 26), (.ld 1 false (.t 25)), none⟩, ⟨(some 27), (.len (.t 26)), none⟩, ⟨(some 28), (.bin .gtr (.t 27) (.k (.int .i64 8))), none⟩])
  (.cond (.t 28) (.seq (.reg [⟨(some 2), (.mv (.k (.bool false))), none⟩]) .ret) .skip))) (.reg [⟨(some 21), (.mv (.t 3)), none⟩, ⟨(some 22), (.bin .add (.t 21)
  (.k (.int .i64 1))), none⟩, ⟨(some 3), (.mv (.t 22)), none⟩]))

/- schisma/schismalaw28.few -/
def s11 : SFunc :=
  ⟨1, [(.t 2)], (.seq (.reg [⟨(some 2), (.mv (.k (.bool false))), none⟩]) (.seq (.seq (.reg [⟨(some 4), (.mv (.t 0)), none⟩, ⟨(some 5), (.len (.t 4)), none⟩,
  ⟨(some 6), (.bin .gtr (.t 5) (.k (.int .i64 5))), none⟩, ⟨(some 7), (.mv (.t 6)), none⟩, ⟨(some 8), (.mv (.t 0)), (some (7, true))⟩, ⟨(some 9), (.len (.t 8)),
  (some (7, true))⟩, ⟨(some 10), (.bin .neq (.t 9) (.k (.int .i64 60))), (some (7, true))⟩, ⟨(some 11), (.pick (.t 7) (.t 10) (.k (.bool false))), none⟩, ⟨(some
  12), (.mv (.t 11)), none⟩, ⟨(some 13), (.mv (.t 0)), (some (12, true))⟩, ⟨(some 14), (.len (.t 13)), (some (12, true))⟩, ⟨(some 15), (.bin .neq (.t 14) (.k
  (.int .i64 61))), (some (12, true))⟩, ⟨(some 16), (.pick (.t 12) (.t 15) (.k (.bool false))), none⟩]) (.cond (.t 16) (.seq (.reg [⟨(some 2), (.mv (.k (.bool
  false))), none⟩]) .ret) .skip)) (.seq (.seq (.reg [⟨(some 3), (.mv (.k (.int .i64 0))), none⟩]) (.blk 0 (.loop s11_0))) (.seq (.reg [⟨(some 2), (.mv (.k
  (.bool true))), none⟩]) .ret))))⟩

def s12_0 : SCode :=
  .seq (.seq (.reg [⟨(some 11), (.mv (.t 5)), none⟩, ⟨(some 12), (.fad 1 (.t 1)), none⟩, ⟨(some 13), (.ld 1 false (.t 12)), none⟩, ⟨(some 14), (.len (.t 13)),
  none⟩, ⟨(some 15), (.bin .lss (.t 11) (.t 14)), none⟩, ⟨(some 16), (.mv (.t 15)), none⟩, ⟨(some 17), (.mv (.t 5)), (some (16, true))⟩, ⟨(some 18), (.bin .lss
  (.t 17) (.k (.int .i64 3))), (some (16, true))⟩, ⟨(some 19), (.pick (.t 16) (.t 18) (.k (.bool false))), none⟩]) (.cond (.t 19) .skip (.exit 0))) (.seq (.blk
  1 (.reg [⟨(some 22), (.mv (.t 4)), none⟩, ⟨(some 23), (.mv (.t 3)), none⟩, ⟨(some 24), (.fad 1 (.t 1)), none⟩, ⟨(some 25), (.ld 1 false (.t 24)), none⟩,
  ⟨(some 26), (.mv (.t 5)), none⟩, ⟨(some 27), (.iad 4 (.t 25) (.t 26)), none⟩, ⟨(some 28), (.ld 4 true (.t 27)), none⟩, ⟨(some 29), (.callR (.k (.fn 21 []))
  [(.t 23), (.t 28)]), none⟩, ⟨(some 30), (.bsl 1 [(.z true)] 1 [(0, (.t 29))]), none⟩, ⟨(some 31), (.app 1 (.t 22) (.t 30)), none⟩, ⟨(some 4), (.mv (.t 31)),
  none⟩])) (.reg [⟨(some 20), (.mv (.t 5)), none⟩, ⟨(some 21), (.bin .add (.t 20) (.k (.int .i64 1))), none⟩, ⟨(some 5), (.mv (.t 21)), none⟩]))

/- schisma/schismalaw18.Make -/
def s12 : SFunc :=
  ⟨1, [(.c 2 3 true)], (.seq (.reg [⟨(some 1), (.box 3 (.t 0)), none⟩, ⟨(some 2), (.alc [(.z true), (.z true), (.z true)]), none⟩]) (.seq (.reg [⟨(some 8), (.fad
  0 (.t 1)), none⟩, ⟨(some 9), (.ld 1 false (.t 8)), none⟩, ⟨(some 10), (.callR (.k (.fn 24 [])) [(.t 9)]), none⟩, ⟨(some 3), (.mv (.t 10)), none⟩]) (.seq (.reg
  [⟨(some 4), (.mv (.k (.z true))), none⟩]) (.seq (.seq (.reg [⟨(some 5), (.mv (.k (.int .i64 0))), none⟩]) (.blk 0 (.loop s12_0))) (.seq (.reg [⟨(some 33),
  (.mv (.t 3)), none⟩, ⟨(some 34), (.mv (.t 4)), none⟩, ⟨(some 35), (.fad 2 (.t 1)), none⟩, ⟨(some 36), (.ld 1 false (.t 35)), none⟩, ⟨(some 37), (.callR (.k
  (.fn 46 [])) [(.t 33), (.t 34), (.t 36)]), none⟩, ⟨(some 32), (.mv (.t 37)), none⟩, ⟨(some 38), (.ext 0 (.t 32)), none⟩, ⟨(some 39), (.ext 1 (.t 32)), none⟩,
  ⟨(some 6), (.alc [(.z true), (.z true), (.z true)]), none⟩, ⟨none, (.st 3 (.t 6) (.t 38)), none⟩, ⟨(some 7), (.mv (.t 39)), none⟩]) (.seq (.reg [⟨(some 40),
  (.ld 3 true (.t 6)), none⟩, ⟨none, (.st 3 (.t 2) (.t 40)), none⟩]) .ret))))))⟩

def s13_0 : SCode :=
  .seq (.reg [⟨(some 30), (.bin .lss (.t 29) (.t 28)), none⟩]) (.seq (.cond (.t 30) .skip (.exit 0)) (.seq (.blk 1 (.seq (.reg [⟨(some 31), (.mv (.t 29)), none⟩,
  ⟨(some 32), (.iad 1 (.t 27) (.t 29)), none⟩, ⟨(some 33), (.ld 1 false (.t 32)), none⟩, ⟨(some 10), (.mv (.t 31)), none⟩, ⟨(some 11), (.mv (.t 33)), none⟩])
  (.seq (.reg [⟨(some 35), (.fad 0 (.t 2)), none⟩, ⟨(some 36), (.ld 1 false (.t 35)), none⟩, ⟨(some 37), (.mv (.t 11)), none⟩, ⟨(some 38), (.mv (.t 6)), none⟩,
  ⟨(some 39), (.mv (.t 10)), none⟩, ⟨(some 40), (.iad 1 (.t 38) (.t 39)), none⟩, ⟨(some 41), (.ld 1 false (.t 40)), none⟩, ⟨(some 42), (.mv (.t 7)), none⟩,
  ⟨(some 43), (.callR (.k (.fn 48 [])) [(.t 36), (.t 37), (.t 41), (.t 42)]), none⟩, ⟨(some 34), (.mv (.t 43)), none⟩, ⟨(some 44), (.ext 0 (.t 34)), none⟩,
  ⟨(some 45), (.ext 1 (.t 34)), none⟩, ⟨(some 46), (.ext 2 (.t 34)), none⟩, ⟨(some 12), (.mv (.t 44)), none⟩, ⟨(some 13), (.mv (.t 45)), none⟩, ⟨(some 14), (.mv
  (.t 46)), none⟩]) (.seq (.seq (.reg [⟨(some 47), (.mv (.t 14)), none⟩, ⟨(some 48), (.bin .neq (.t 47) (.k (.int .i64 0))), none⟩]) (.cond (.t 48) (.seq (.reg
  [⟨(some 49), (.bld [(.z true), (.z true), (.bool false), (.bool false), (.bool false)] []), none⟩, ⟨(some 50), (.mv (.t 14)), none⟩, ⟨none, (.st 5 (.t 4) (.t
  49)), none⟩, ⟨(some 5), (.mv (.t 50)), none⟩]) .ret) .skip)) (.seq (.reg [⟨(some 51), (.mv (.t 13)), none⟩]) (.cond (.t 51) (.reg [⟨(some 52), (.mv (.t 9)),
  none⟩, ⟨(some 53), (.mv (.t 12)), none⟩, ⟨(some 54), (.bsl 1 [(.z true)] 1 [(0, (.t 53))]), none⟩, ⟨(some 55), (.app 1 (.t 52) (.t 54)), none⟩, ⟨(some 9),
  (.mv (.t 55)), none⟩]) .skip)))))) (.reg [⟨(some 56), (.bin .add (.t 29) (.k (.int .i64 1))), none⟩, ⟨(some 29), (.mv (.t 56)), none⟩])))

/- schisma/tradeoff.Between -/
def s13 : SFunc :=
  ⟨2, [(.c 4 5 true), (.t 5)], (.seq (.reg [⟨(some 2), (.box 3 (.t 0)), none⟩, ⟨(some 4), (.alc [(.z true), (.z true), (.bool false), (.bool false), (.bool
  false)]), none⟩, ⟨(some 5), (.mv (.k (.int .i64 0))), none⟩]) (.seq (.reg [⟨(some 17), (.ld 3 true (.t 2)), none⟩, ⟨(some 18), (.mv (.t 1)), none⟩, ⟨(some
  19), (.callR (.k (.fn 47 [])) [(.t 17), (.t 18)]), none⟩, ⟨(some 16), (.mv (.t 19)), none⟩, ⟨(some 20), (.ext 0 (.t 16)), none⟩, ⟨(some 21), (.ext 1 (.t 16)),
  none⟩, ⟨(some 22), (.ext 2 (.t 16)), none⟩, ⟨(some 6), (.mv (.t 20)), none⟩, ⟨(some 7), (.mv (.t 21)), none⟩, ⟨(some 8), (.mv (.t 22)), none⟩]) (.seq (.seq
  (.reg [⟨(some 23), (.mv (.t 8)), none⟩, ⟨(some 24), (.bin .neq (.t 23) (.k (.int .i64 0))), none⟩]) (.cond (.t 24) (.seq (.reg [⟨(some 25), (.bld [(.z true),
  (.z true), (.bool false), (.bool false), (.bool false)] []), none⟩, ⟨(some 26), (.mv (.t 8)), none⟩, ⟨none, (.st 5 (.t 4) (.t 25)), none⟩, ⟨(some 5), (.mv (.t
  26)), none⟩]) .ret) .skip)) (.seq (.reg [⟨(some 9), (.mv (.k (.z true))), none⟩]) (.seq (.seq (.reg [⟨(some 27), (.mv (.t 1)), none⟩, ⟨(some 28), (.len (.t
  27)), none⟩, ⟨(some 29), (.mv (.k (.int .i64 0))), none⟩]) (.blk 0 (.loop s13_0))) (.seq (.seq (.reg [⟨(some 57), (.mv (.t 9)), none⟩, ⟨(some 58), (.len (.t
  57)), none⟩, ⟨(some 59), (.bin .eql (.t 58) (.k (.int .i64 0))), none⟩]) (.cond (.t 59) (.seq (.reg [⟨(some 60), (.bld [(.z true), (.z true), (.bool false),
  (.bool false), (.bool false)] []), none⟩, ⟨none, (.st 5 (.t 4) (.t 60)), none⟩, ⟨(some 5), (.mv (.k (.int .i64 19))), none⟩]) .ret) .skip)) (.seq (.reg
  [⟨(some 61), (.mkf 49 [(.t 2)]), none⟩, ⟨(some 15), (.mv (.t 61)), none⟩]) (.seq (.reg [⟨(some 62), (.mv (.t 9)), none⟩, ⟨(some 63), (.mv (.t 15)), none⟩,
  ⟨(some 64), (.callW (.k (.fn 50 [])) [(.t 62), (.t 63)]), none⟩, ⟨(some 65), (.mv (.t 9)), none⟩, ⟨(some 66), (.mv (.t 15)), none⟩, ⟨(some 67), (.callW (.k
  (.fn 52 [])) [(.t 65), (.t 66)]), none⟩, ⟨(some 68), (.callR (.k (.fn 51 [])) [(.t 67)]), none⟩, ⟨(some 69), (.bld [(.z true), (.z true), (.bool false),
  (.bool false), (.bool false)] [(0, (1, (.t 64))), (1, (1, (.t 68))), (2, (1, (.k (.bool true)))), (3, (1, (.k (.bool true))))]), none⟩, ⟨none, (.st 5 (.t 4)
  (.t 69)), none⟩, ⟨(some 5), (.mv (.k (.int .i64 0))), none⟩]) .ret))))))))⟩

/- schisma/schismalaw28.two -/
def s14 : SFunc :=
  ⟨1, [(.t 2)], (.seq (.reg [⟨(some 1), (.box 3 (.t 0)), none⟩, ⟨(some 2), (.mv (.k (.int .i64 0))), none⟩]) (.seq (.seq (.reg [⟨(some 3), (.fad 2 (.t 1)), none⟩,
  ⟨(some 4), (.ld 1 false (.t 3)), none⟩, ⟨(some 5), (.len (.t 4)), none⟩, ⟨(some 6), (.bin .neq (.t 5) (.k (.int .i64 2))), none⟩]) (.cond (.t 6) (.seq (.reg
  [⟨(some 2), (.mv (.k (.int .i64 5))), none⟩]) .ret) .skip)) (.seq (.seq (.reg [⟨(some 7), (.fad 2 (.t 1)), none⟩, ⟨(some 8), (.ld 1 false (.t 7)), none⟩,
  ⟨(some 9), (.iad 1 (.t 8) (.k (.int .i64 0))), none⟩, ⟨(some 10), (.ld 1 false (.t 9)), none⟩, ⟨(some 11), (.iad 1 (.t 10) (.k (.int .i64 0))), none⟩, ⟨(some
  12), (.ld 1 false (.t 11)), none⟩, ⟨(some 13), (.bin .eql (.t 12) (.k (.int .i64 0))), none⟩]) (.cond (.t 13) (.seq (.reg [⟨(some 2), (.mv (.k (.int .i64
  26))), none⟩]) .ret) .skip)) (.seq (.reg [⟨(some 2), (.mv (.k (.int .i64 0))), none⟩]) .ret))))⟩

def s15_0 : SCode :=
  .seq (.seq (.reg [⟨(some 10), (.mv (.t 5)), none⟩, ⟨(some 11), (.mv (.t 1)), none⟩, ⟨(some 12), (.len (.t 11)), none⟩, ⟨(some 13), (.bin .lss (.t 10) (.t 12)),
  none⟩]) (.cond (.t 13) .skip (.exit 0))) (.seq (.blk 1 (.seq (.reg [⟨(some 16), (.fad 0 (.t 2)), none⟩, ⟨(some 17), (.ld 1 false (.t 16)), none⟩, ⟨(some 18),
  (.mv (.t 1)), none⟩, ⟨(some 19), (.mv (.t 5)), none⟩, ⟨(some 20), (.iad 1 (.t 18) (.t 19)), none⟩, ⟨(some 21), (.ld 1 false (.t 20)), none⟩, ⟨(some 22),
  (.callR (.k (.fn 33 [])) [(.t 17), (.t 21)]), none⟩, ⟨(some 6), (.mv (.t 22)), none⟩]) (.seq (.reg [⟨(some 23), (.mv (.t 6)), none⟩, ⟨(some 24), (.bin .neq
  (.t 23) (.k (.int .i64 0))), none⟩]) (.cond (.t 24) (.seq (.reg [⟨(some 25), (.mv (.t 6)), none⟩, ⟨(some 4), (.mv (.t 25)), none⟩]) .ret) .skip)))) (.reg
  [⟨(some 14), (.mv (.t 5)), none⟩, ⟨(some 15), (.bin .add (.t 14) (.k (.int .i64 1))), none⟩, ⟨(some 5), (.mv (.t 15)), none⟩]))

/- schisma/schismalaw28.list -/
def s15 : SFunc :=
  ⟨2, [(.t 4)], (.seq (.reg [⟨(some 2), (.box 3 (.t 0)), none⟩, ⟨(some 4), (.mv (.k (.int .i64 0))), none⟩]) (.seq (.seq (.reg [⟨(some 7), (.mv (.t 1)), none⟩,
  ⟨(some 8), (.len (.t 7)), none⟩, ⟨(some 9), (.bin .gtr (.t 8) (.k (.int .i64 60))), none⟩]) (.cond (.t 9) (.seq (.reg [⟨(some 4), (.mv (.k (.int .i64 4))),
  none⟩]) .ret) .skip)) (.seq (.seq (.reg [⟨(some 5), (.mv (.k (.int .i64 0))), none⟩]) (.blk 0 (.loop s15_0))) (.seq (.reg [⟨(some 4), (.mv (.k (.int .i64
  0))), none⟩]) .ret))))⟩

/- schisma/schismalaw28.blank -/
def s16 : SFunc :=
  ⟨1, [(.t 2)], (.seq (.reg [⟨(some 1), (.box 5 (.t 0)), none⟩, ⟨(some 2), (.mv (.k (.bool false))), none⟩]) (.seq (.reg [⟨(some 3), (.ld 5 true (.t 1)), none⟩,
  ⟨(some 4), (.bld [(.z true), (.z true), (.bool false), (.bool false), (.bool false)] []), none⟩, ⟨(some 5), (.callR (.k (.fn 20 [])) [(.t 3), (.t 4)]), none⟩,
  ⟨(some 2), (.mv (.t 5)), none⟩]) .ret))⟩

def s17_0 : SCode :=
  .seq (.seq (.reg [⟨(some 8), (.mv (.t 5)), none⟩, ⟨(some 9), (.mv (.t 1)), none⟩, ⟨(some 10), (.len (.t 9)), none⟩, ⟨(some 11), (.bin .lss (.t 8) (.t 10)),
  none⟩]) (.cond (.t 11) .skip (.exit 0))) (.seq (.blk 1 (.seq (.reg [⟨(some 15), (.ld 3 true (.t 2)), none⟩, ⟨(some 16), (.mv (.t 1)), none⟩, ⟨(some 17), (.mv
  (.t 5)), none⟩, ⟨(some 18), (.iad 1 (.t 16) (.t 17)), none⟩, ⟨(some 19), (.ld 1 false (.t 18)), none⟩, ⟨(some 20), (.callR (.k (.fn 53 [])) [(.t 15), (.t
  19)]), none⟩, ⟨(some 14), (.mv (.t 20)), none⟩, ⟨(some 21), (.ext 0 (.t 14)), none⟩, ⟨(some 22), (.ext 1 (.t 14)), none⟩, ⟨(some 6), (.mv (.t 21)), none⟩,
  ⟨(some 7), (.mv (.t 22)), none⟩]) (.seq (.reg [⟨(some 23), (.mv (.t 7)), none⟩, ⟨(some 24), (.bin .neq (.t 23) (.k (.int .i64 0))), none⟩]) (.cond (.t 24)
  (.seq (.reg [⟨(some 4), (.mv (.k (.bool false))), none⟩]) .ret) .skip)))) (.reg [⟨(some 12), (.mv (.t 5)), none⟩, ⟨(some 13), (.bin .add (.t 12) (.k (.int
  .i64 1))), none⟩, ⟨(some 5), (.mv (.t 13)), none⟩]))

/- schisma/schismalaw28.fits -/
def s17 : SFunc :=
  ⟨2, [(.t 4)], (.seq (.reg [⟨(some 2), (.box 3 (.t 0)), none⟩, ⟨(some 4), (.mv (.k (.bool false))), none⟩]) (.seq (.seq (.reg [⟨(some 5), (.mv (.k (.int .i64
  0))), none⟩]) (.blk 0 (.loop s17_0))) (.seq (.reg [⟨(some 4), (.mv (.k (.bool true))), none⟩]) .ret)))⟩

def s18_0 : SCode :=
  .seq (.seq (.reg [⟨(some 21), (.mv (.t 9)), none⟩, ⟨(some 22), (.mv (.t 1)), none⟩, ⟨(some 23), (.len (.t 22)), none⟩, ⟨(some 24), (.bin .lss (.t 21) (.t 23)),
  none⟩]) (.cond (.t 24) .skip (.exit 0))) (.seq (.blk 1 (.seq (.reg [⟨(some 27), (.mv (.t 1)), none⟩, ⟨(some 28), (.mv (.t 9)), none⟩, ⟨(some 29), (.iad 1 (.t
  27) (.t 28)), none⟩, ⟨(some 30), (.ld 1 false (.t 29)), none⟩, ⟨(some 31), (.callR (.k (.fn 43 [])) [(.t 30), (.k (.int .i64 1))]), none⟩, ⟨(some 10), (.alc
  [(.str (bytes [])), (.str (bytes []))]), none⟩, ⟨none, (.st 2 (.t 10) (.t 31)), none⟩]) (.seq (.seq (.reg [⟨(some 32), (.mv (.t 9)), none⟩, ⟨(some 33), (.bin
  .eql (.t 32) (.k (.int .i64 0))), none⟩]) (.cond (.t 33) (.reg [⟨(some 34), (.ld 2 true (.t 10)), none⟩, ⟨(some 35), (.mv (.t 6)), none⟩, ⟨(some 36), (.fad 2
  (.t 2)), none⟩, ⟨(some 37), (.ld 1 false (.t 36)), none⟩, ⟨(some 38), (.iad 1 (.t 37) (.k (.int .i64 0))), none⟩, ⟨(some 39), (.ld 1 false (.t 38)), none⟩,
  ⟨(some 40), (.iad 1 (.t 39) (.k (.int .i64 0))), none⟩, ⟨(some 41), (.ld 1 false (.t 40)), none⟩, ⟨(some 42), (.callR (.k (.fn 43 [])) [(.t 35), (.t 41)]),
  none⟩, ⟨(some 43), (.callR (.k (.fn 55 [])) [(.t 34), (.t 42)]), none⟩, ⟨none, (.st 2 (.t 10) (.t 43)), none⟩]) .skip)) (.seq (.reg [⟨(some 45), (.ld 2 true
  (.t 10)), none⟩, ⟨(some 46), (.mv (.t 7)), none⟩, ⟨(some 47), (.callR (.k (.fn 43 [])) [(.t 46), (.k (.int .i64 1))]), none⟩, ⟨(some 48), (.callR (.k (.fn 56
  [])) [(.t 45), (.t 47)]), none⟩, ⟨(some 44), (.mv (.t 48)), none⟩, ⟨(some 49), (.ext 0 (.t 44)), none⟩, ⟨(some 50), (.ext 1 (.t 44)), none⟩, ⟨(some 11), (.alc
  [(.str (bytes [])), (.str (bytes []))]), none⟩, ⟨none, (.st 2 (.t 11) (.t 49)), none⟩, ⟨(some 12), (.mv (.t 50)), none⟩]) (.reg [⟨(some 51), (.mv (.t 8)),
  none⟩, ⟨(some 52), (.ld 2 true (.t 11)), none⟩, ⟨(some 53), (.bsl 2 [(.str (bytes [])), (.str (bytes []))] 1 [(0, (.t 52))]), none⟩, ⟨(some 54), (.app 2 (.t
  51) (.t 53)), none⟩, ⟨(some 8), (.mv (.t 54)), none⟩]))))) (.reg [⟨(some 25), (.mv (.t 9)), none⟩, ⟨(some 26), (.bin .add (.t 25) (.k (.int .i64 1))), none⟩,
  ⟨(some 9), (.mv (.t 26)), none⟩]))

/- schisma/schismalaw28.generator -/
def s18 : SFunc :=
  ⟨2, [(.t 4), (.t 5)], (.seq (.reg [⟨(some 2), (.box 3 (.t 0)), none⟩, ⟨(some 4), (.mv (.k (.z true))), none⟩, ⟨(some 5), (.mv (.k (.bool false))), none⟩]) (.seq
  (.reg [⟨(some 14), (.ld 3 true (.t 2)), none⟩, ⟨(some 15), (.mv (.t 1)), none⟩, ⟨(some 16), (.callR (.k (.fn 54 [])) [(.t 14), (.t 15)]), none⟩, ⟨(some 13),
  (.mv (.t 16)), none⟩, ⟨(some 17), (.ext 0 (.t 13)), none⟩, ⟨(some 18), (.ext 1 (.t 13)), none⟩, ⟨(some 6), (.mv (.t 17)), none⟩, ⟨(some 7), (.mv (.t 18)),
  none⟩]) (.seq (.seq (.reg [⟨(some 19), (.mv (.t 7)), none⟩, ⟨(some 20), (.bin .eql (.t 19) (.k (.int .i64 0))), none⟩]) (.cond (.t 20) (.seq (.reg [⟨(some 4),
  (.mv (.k (.z true))), none⟩, ⟨(some 5), (.mv (.k (.bool false))), none⟩]) .ret) .skip)) (.seq (.reg [⟨(some 8), (.mv (.k (.z true))), none⟩]) (.seq (.seq
  (.reg [⟨(some 9), (.mv (.k (.int .i64 0))), none⟩]) (.blk 0 (.loop s18_0))) (.seq (.reg [⟨(some 55), (.mv (.t 8)), none⟩, ⟨(some 4), (.mv (.t 55)), none⟩,
  ⟨(some 5), (.mv (.k (.bool true))), none⟩]) .ret))))))⟩

/- schisma/size.Compare -/
def s19 : SFunc :=
  ⟨3, [(.t 6), (.t 7)], (.seq (.reg [⟨(some 6), (.mv (.k (.int .i64 0))), none⟩, ⟨(some 7), (.mv (.k (.int .i64 0))), none⟩]) (.seq (.seq (.reg [⟨(some 9), (.mv
  (.t 0)), none⟩, ⟨(some 10), (.mv (.t 1)), none⟩, ⟨(some 11), (.mv (.t 2)), none⟩, ⟨(some 12), (.bsl 1 [(.z true)] 2 [(0, (.t 10)), (1, (.t 11))]), none⟩,
  ⟨(some 13), (.callR (.k (.fn 57 [])) [(.t 9), (.t 12)]), none⟩, ⟨(some 8), (.mv (.t 13)), none⟩]) (.seq (.reg [⟨(some 14), (.mv (.t 8)), none⟩, ⟨(some 15),
  (.bin .neq (.t 14) (.k (.int .i64 0))), none⟩]) (.cond (.t 15) (.seq (.reg [⟨(some 16), (.mv (.t 8)), none⟩, ⟨(some 6), (.mv (.k (.int .i64 0))), none⟩,
  ⟨(some 7), (.mv (.t 16)), none⟩]) .ret) .skip))) (.seq (.reg [⟨(some 17), (.mv (.t 0)), none⟩, ⟨(some 18), (.mv (.t 1)), none⟩, ⟨(some 19), (.mv (.t 2)),
  none⟩, ⟨(some 20), (.callR (.k (.fn 58 [])) [(.t 17), (.t 18), (.t 19)]), none⟩, ⟨(some 6), (.mv (.t 20)), none⟩, ⟨(some 7), (.mv (.k (.int .i64 0))), none⟩])
  .ret)))⟩

/- schisma/schismalaw28.equal -/
def s20 : SFunc :=
  ⟨2, [(.t 4)], (.seq (.reg [⟨(some 2), (.box 5 (.t 0)), none⟩, ⟨(some 3), (.box 5 (.t 1)), none⟩, ⟨(some 4), (.mv (.k (.bool false))), none⟩]) (.seq (.reg
  [⟨(some 5), (.fad 0 (.t 2)), none⟩, ⟨(some 6), (.ld 1 false (.t 5)), none⟩, ⟨(some 7), (.fad 0 (.t 3)), none⟩, ⟨(some 8), (.ld 1 false (.t 7)), none⟩, ⟨(some
  9), (.callR (.k (.fn 23 [])) [(.t 6), (.t 8)]), none⟩, ⟨(some 10), (.mv (.t 9)), none⟩, ⟨(some 11), (.fad 1 (.t 2)), (some (10, true))⟩, ⟨(some 12), (.ld 1
  false (.t 11)), (some (10, true))⟩, ⟨(some 13), (.fad 1 (.t 3)), (some (10, true))⟩, ⟨(some 14), (.ld 1 false (.t 13)), (some (10, true))⟩, ⟨(some 15),
  (.callR (.k (.fn 23 [])) [(.t 12), (.t 14)]), (some (10, true))⟩, ⟨(some 16), (.pick (.t 10) (.t 15) (.k (.bool false))), none⟩, ⟨(some 17), (.mv (.t 16)),
  none⟩, ⟨(some 18), (.fad 2 (.t 2)), (some (17, true))⟩, ⟨(some 19), (.ld 1 false (.t 18)), (some (17, true))⟩, ⟨(some 20), (.fad 2 (.t 3)), (some (17,
  true))⟩, ⟨(some 21), (.ld 1 false (.t 20)), (some (17, true))⟩, ⟨(some 22), (.beq false (.t 19) (.t 21)), (some (17, true))⟩, ⟨(some 23), (.pick (.t 17) (.t
  22) (.k (.bool false))), none⟩, ⟨(some 24), (.mv (.t 23)), none⟩, ⟨(some 25), (.fad 3 (.t 2)), (some (24, true))⟩, ⟨(some 26), (.ld 1 false (.t 25)), (some
  (24, true))⟩, ⟨(some 27), (.fad 3 (.t 3)), (some (24, true))⟩, ⟨(some 28), (.ld 1 false (.t 27)), (some (24, true))⟩, ⟨(some 29), (.beq false (.t 26) (.t
  28)), (some (24, true))⟩, ⟨(some 30), (.pick (.t 24) (.t 29) (.k (.bool false))), none⟩, ⟨(some 31), (.mv (.t 30)), none⟩, ⟨(some 32), (.fad 4 (.t 2)), (some
  (31, true))⟩, ⟨(some 33), (.ld 1 false (.t 32)), (some (31, true))⟩, ⟨(some 34), (.fad 4 (.t 3)), (some (31, true))⟩, ⟨(some 35), (.ld 1 false (.t 34)), (some
  (31, true))⟩, ⟨(some 36), (.beq false (.t 33) (.t 35)), (some (31, true))⟩, ⟨(some 37), (.pick (.t 31) (.t 36) (.k (.bool false))), none⟩, ⟨(some 4), (.mv (.t
  37)), none⟩]) .ret))⟩

def s21_0 : SCode :=
  .seq (.seq (.reg [⟨(some 7), (.mv (.t 6)), none⟩, ⟨(some 8), (.mv (.t 0)), none⟩, ⟨(some 9), (.len (.t 8)), none⟩, ⟨(some 10), (.bin .lss (.t 7) (.t 9)), none⟩,
  ⟨(some 11), (.mv (.t 10)), none⟩, ⟨(some 12), (.mv (.t 6)), (some (11, true))⟩, ⟨(some 13), (.bin .lss (.t 12) (.k (.int .i64 4))), (some (11, true))⟩, ⟨(some
  14), (.pick (.t 11) (.t 13) (.k (.bool false))), none⟩]) (.cond (.t 14) .skip (.exit 0))) (.seq (.blk 1 (.reg [⟨(some 17), (.mv (.t 5)), none⟩, ⟨(some 18),
  (.mv (.t 6)), none⟩, ⟨(some 19), (.iada 4 1 (.t 3) (.t 18)), none⟩, ⟨(some 20), (.ld 1 false (.t 19)), none⟩, ⟨(some 21), (.conv .i64 (.t 20)), none⟩, ⟨(some
  22), (.bin .rem (.t 21) (.k (.int .i64 10))), none⟩, ⟨(some 23), (.bsl 1 [(.int .i64 0)] 1 [(0, (.t 22))]), none⟩, ⟨(some 24), (.app 1 (.t 17) (.t 23)),
  none⟩, ⟨(some 5), (.mv (.t 24)), none⟩])) (.reg [⟨(some 15), (.mv (.t 6)), none⟩, ⟨(some 16), (.bin .add (.t 15) (.k (.int .i64 1))), none⟩, ⟨(some 6), (.mv
  (.t 16)), none⟩]))

/- schisma/schismalaw12.Interval -/
def s21 : SFunc :=
  ⟨2, [(.t 4)], (.seq (.reg [⟨(some 3), (.box 4 (.t 1)), none⟩, ⟨(some 4), (.mv (.k (.z true))), none⟩]) (.seq (.reg [⟨(some 5), (.mv (.k (.z true))), none⟩])
  (.seq (.seq (.reg [⟨(some 6), (.mv (.k (.int .i64 0))), none⟩]) (.blk 0 (.loop s21_0))) (.seq (.reg [⟨(some 25), (.mv (.t 5)), none⟩, ⟨(some 4), (.mv (.t
  25)), none⟩]) .ret))))⟩

def s23_0 : SCode :=
  .seq (.seq (.reg [⟨(some 11), (.mv (.t 5)), none⟩, ⟨(some 12), (.mv (.t 0)), none⟩, ⟨(some 13), (.len (.t 12)), none⟩, ⟨(some 14), (.bin .lss (.t 11) (.t 13)),
  none⟩]) (.cond (.t 14) .skip (.exit 0))) (.seq (.blk 1 (.seq (.reg [⟨(some 17), (.mv (.t 0)), none⟩, ⟨(some 18), (.mv (.t 5)), none⟩, ⟨(some 19), (.iad 2 (.t
  17) (.t 18)), none⟩, ⟨(some 20), (.ld 2 true (.t 19)), none⟩, ⟨(some 21), (.mv (.t 1)), none⟩, ⟨(some 22), (.mv (.t 5)), none⟩, ⟨(some 23), (.iad 2 (.t 21)
  (.t 22)), none⟩, ⟨(some 24), (.ld 2 true (.t 23)), none⟩, ⟨(some 25), (.eqs 2 true (.t 20) (.t 24)), none⟩]) (.cond (.t 25) (.seq (.reg [⟨(some 4), (.mv (.k
  (.bool false))), none⟩]) .ret) .skip))) (.reg [⟨(some 15), (.mv (.t 5)), none⟩, ⟨(some 16), (.bin .add (.t 15) (.k (.int .i64 1))), none⟩, ⟨(some 5), (.mv (.t
  16)), none⟩]))

/- schisma/schismalaw24.Same -/
def s23 : SFunc :=
  ⟨2, [(.t 4)], (.seq (.reg [⟨(some 4), (.mv (.k (.bool false))), none⟩]) (.seq (.seq (.reg [⟨(some 6), (.mv (.t 0)), none⟩, ⟨(some 7), (.len (.t 6)), none⟩,
  ⟨(some 8), (.mv (.t 1)), none⟩, ⟨(some 9), (.len (.t 8)), none⟩, ⟨(some 10), (.bin .neq (.t 7) (.t 9)), none⟩]) (.cond (.t 10) (.seq (.reg [⟨(some 4), (.mv
  (.k (.bool false))), none⟩]) .ret) .skip)) (.seq (.seq (.reg [⟨(some 5), (.mv (.k (.int .i64 0))), none⟩]) (.blk 0 (.loop s23_0))) (.seq (.reg [⟨(some 4),
  (.mv (.k (.bool true))), none⟩]) .ret))))⟩

/- schisma/schismalaw12.Primes -/
def s24 : SFunc :=
  ⟨1, [(.t 2)], (.seq (.reg [⟨(some 2), (.mv (.k (.z true))), none⟩]) (.seq (.reg [⟨(some 4), (.bsl 1 [(.int .i64 0)] 3 [(0, (.k (.int .i64 2))), (1, (.k (.int
  .i64 3))), (2, (.k (.int .i64 5)))]), none⟩, ⟨(some 5), (.bsl 1 [(.int .i64 0)] 4 [(0, (.k (.int .i64 2))), (1, (.k (.int .i64 3))), (2, (.k (.int .i64 5))),
  (3, (.k (.int .i64 7)))]), none⟩, ⟨(some 6), (.bsl 1 [(.int .i64 0)] 2 [(0, (.k (.int .i64 2))), (1, (.k (.int .i64 3)))]), none⟩, ⟨(some 7), (.bsl 1 [(.int
  .i64 0)] 3 [(0, (.k (.int .i64 2))), (1, (.k (.int .i64 3))), (2, (.k (.int .i64 7)))]), none⟩, ⟨(some 8), (.bsl 1 [(.int .i64 0)] 3 [(0, (.k (.int .i64 2))),
  (1, (.k (.int .i64 5))), (2, (.k (.int .i64 7)))]), none⟩, ⟨(some 9), (.bsl 1 [(.int .i64 0)] 3 [(0, (.k (.int .i64 3))), (1, (.k (.int .i64 5))), (2, (.k
  (.int .i64 7)))]), none⟩, ⟨(some 10), (.bsl 1 [(.int .i64 0)] 4 [(0, (.k (.int .i64 2))), (1, (.k (.int .i64 3))), (2, (.k (.int .i64 5))), (3, (.k (.int .i64
  11)))]), none⟩, ⟨(some 11), (.bsl 1 [(.int .i64 0)] 1 [(0, (.k (.int .i64 2)))]), none⟩, ⟨(some 12), (.bsl 1 [(.int .i64 0)] 4 [(0, (.k (.int .i64 2))), (1,
  (.k (.int .i64 3))), (2, (.k (.int .i64 7))), (3, (.k (.int .i64 13)))]), none⟩, ⟨(some 13), (.bsl 1 [(.int .i64 0)] 4 [(0, (.k (.int .i64 3))), (1, (.k (.int
  .i64 5))), (2, (.k (.int .i64 7))), (3, (.k (.int .i64 13)))]), none⟩, ⟨(some 14), (.bsl 1 [(.z true)] 10 [(0, (.t 4)), (1, (.t 5)), (2, (.t 6)), (3, (.t 7)),
  (4, (.t 8)), (5, (.t 9)), (6, (.t 10)), (7, (.t 11)), (8, (.t 12)), (9, (.t 13))]), none⟩, ⟨(some 3), (.mv (.t 14)), none⟩]) (.seq (.reg [⟨(some 15), (.mv (.t
  3)), none⟩, ⟨(some 16), (.mv (.t 0)), none⟩, ⟨(some 17), (.conv .i64 (.t 16)), none⟩, ⟨(some 18), (.mv (.t 3)), none⟩, ⟨(some 19), (.len (.t 18)), none⟩,
  ⟨(some 20), (.bin .rem (.t 17) (.t 19)), none⟩, ⟨(some 21), (.iad 1 (.t 15) (.t 20)), none⟩, ⟨(some 22), (.ld 1 false (.t 21)), none⟩, ⟨(some 2), (.mv (.t
  22)), none⟩]) .ret)))⟩

/- schisma/monzo.Check -/
def s33 : SFunc :=
  ⟨2, [(.t 4)], (.seq (.reg [⟨(some 4), (.mv (.k (.int .i64 0))), none⟩]) (.seq (.reg [⟨(some 5), (.mv (.t 0)), none⟩, ⟨(some 6), (.mv (.t 1)), none⟩, ⟨(some 7),
  (.bsl 1 [(.z true)] 1 [(0, (.t 6))]), none⟩, ⟨(some 8), (.callR (.k (.fn 63 [])) [(.t 5), (.t 7)]), none⟩, ⟨(some 4), (.mv (.t 8)), none⟩]) .ret))⟩

def s35_0 : SCode :=
  .seq (.reg [⟨(some 23), (.bin .lss (.t 22) (.t 21)), none⟩]) (.seq (.cond (.t 23) .skip (.exit 0)) (.seq (.blk 1 (.seq (.reg [⟨(some 24), (.mv (.t 22)), none⟩,
  ⟨(some 25), (.iad 2 (.t 20) (.t 22)), none⟩, ⟨(some 26), (.ld 2 true (.t 25)), none⟩, ⟨(some 9), (.alc [(.str (bytes [])), (.str (bytes []))]), none⟩, ⟨(some
  8), (.mv (.t 24)), none⟩, ⟨none, (.st 2 (.t 9) (.t 26)), none⟩]) (.reg [⟨(some 27), (.mv (.t 6)), none⟩, ⟨(some 28), (.mv (.t 8)), none⟩, ⟨(some 29), (.mv (.t
  6)), none⟩, ⟨(some 30), (.mv (.t 8)), none⟩, ⟨(some 31), (.iad 2 (.t 29) (.t 30)), none⟩, ⟨(some 32), (.ld 2 true (.t 31)), none⟩, ⟨(some 33), (.ld 2 true (.t
  9)), none⟩, ⟨(some 34), (.callR (.k (.fn 55 [])) [(.t 32), (.t 33)]), none⟩, ⟨(some 35), (.iad 2 (.t 27) (.t 28)), none⟩, ⟨none, (.st 2 (.t 35) (.t 34)),
  none⟩]))) (.reg [⟨(some 36), (.bin .add (.t 22) (.k (.int .i64 1))), none⟩, ⟨(some 22), (.mv (.t 36)), none⟩])))

/- schisma/tuning.Error -/
def s35 : SFunc :=
  ⟨2, [(.t 4), (.t 5)], (.seq (.reg [⟨(some 2), (.box 4 (.t 0)), none⟩, ⟨(some 4), (.mv (.k (.z true))), none⟩, ⟨(some 5), (.mv (.k (.int .i64 0))), none⟩]) (.seq
  (.reg [⟨(some 11), (.ld 4 true (.t 2)), none⟩, ⟨(some 12), (.mv (.t 1)), none⟩, ⟨(some 13), (.callW (.k (.fn 68 [])) [(.t 11), (.t 12)]), none⟩, ⟨(some 10),
  (.mv (.t 13)), none⟩, ⟨(some 14), (.ext 0 (.t 10)), none⟩, ⟨(some 15), (.ext 1 (.t 10)), none⟩, ⟨(some 6), (.mv (.t 14)), none⟩, ⟨(some 7), (.mv (.t 15)),
  none⟩]) (.seq (.seq (.reg [⟨(some 16), (.mv (.t 7)), none⟩, ⟨(some 17), (.bin .neq (.t 16) (.k (.int .i64 0))), none⟩]) (.cond (.t 17) (.seq (.reg [⟨(some
  18), (.mv (.t 7)), none⟩, ⟨(some 4), (.mv (.k (.z true))), none⟩, ⟨(some 5), (.mv (.t 18)), none⟩]) .ret) .skip)) (.seq (.seq (.reg [⟨(some 19), (.mv (.t 1)),
  none⟩, ⟨(some 20), (.callR (.k (.fn 69 [])) [(.t 19)]), none⟩, ⟨(some 21), (.len (.t 20)), none⟩, ⟨(some 22), (.mv (.k (.int .i64 0))), none⟩]) (.blk 0 (.loop
  s35_0))) (.seq (.reg [⟨(some 37), (.fad 0 (.t 2)), none⟩, ⟨(some 38), (.fad 0 (.t 37)), none⟩, ⟨(some 39), (.ld 1 false (.t 38)), none⟩, ⟨(some 40), (.mv (.t
  6)), none⟩, ⟨(some 41), (.callW (.k (.fn 70 [])) [(.t 39), (.t 40)]), none⟩, ⟨(some 42), (.ext 0 (.t 41)), none⟩, ⟨(some 43), (.ext 1 (.t 41)), none⟩, ⟨(some
  4), (.mv (.t 42)), none⟩, ⟨(some 5), (.mv (.t 43)), none⟩]) .ret)))))⟩

/- schisma/size.Sign -/
def s36 : SFunc :=
  ⟨2, [(.t 4), (.t 5)], (.seq (.reg [⟨(some 4), (.mv (.k (.int .i64 0))), none⟩, ⟨(some 5), (.mv (.k (.int .i64 0))), none⟩]) (.seq (.seq (.reg [⟨(some 7), (.mv
  (.t 0)), none⟩, ⟨(some 8), (.mv (.t 1)), none⟩, ⟨(some 9), (.callR (.k (.fn 60 [])) [(.t 7), (.t 8)]), none⟩, ⟨(some 6), (.mv (.t 9)), none⟩]) (.seq (.reg
  [⟨(some 10), (.mv (.t 6)), none⟩, ⟨(some 11), (.bin .neq (.t 10) (.k (.int .i64 0))), none⟩]) (.cond (.t 11) (.seq (.reg [⟨(some 12), (.mv (.t 6)), none⟩,
  ⟨(some 4), (.mv (.k (.int .i64 0))), none⟩, ⟨(some 5), (.mv (.t 12)), none⟩]) .ret) .skip))) (.seq (.reg [⟨(some 13), (.mv (.t 0)), none⟩, ⟨(some 14), (.mv
  (.t 1)), none⟩, ⟨(some 15), (.callR (.k (.fn 71 [])) [(.t 13), (.t 14)]), none⟩, ⟨(some 16), (.callR (.k (.fn 72 [])) [(.t 15)]), none⟩, ⟨(some 4), (.mv (.t
  16)), none⟩, ⟨(some 5), (.mv (.k (.int .i64 0))), none⟩]) .ret)))⟩

/- schisma/schismalaw25.known -/
def s37 : SFunc :=
  ⟨0, [(.t 0)], (.seq (.reg [⟨(some 0), (.mv (.k (.bool false))), none⟩]) (.seq (.reg [⟨(some 9), (.bsl 1 [(.int .i64 0)] 3 [(0, (.k (.int .i64 (-1)))), (1, (.k
  (.int .i64 1))), (2, (.k (.int .i64 0)))]), none⟩, ⟨(some 10), (.callR (.k (.fn 73 [])) [(.k (.int .i64 1)), (.k (.int .i64 1))]), none⟩, ⟨(some 11), (.bld
  [(.z true), (.str (bytes [])), (.str (bytes []))] [(0, (1, (.t 9))), (1, (2, (.t 10)))]), none⟩, ⟨(some 12), (.bsl 1 [(.int .i64 0)] 3 [(0, (.k (.int .i64
  1))), (1, (.k (.int .i64 1))), (2, (.k (.int .i64 (-1))))]), none⟩, ⟨(some 13), (.callR (.k (.fn 73 [])) [(.k (.int .i64 2)), (.k (.int .i64 1))]), none⟩,
  ⟨(some 14), (.bld [(.z true), (.str (bytes [])), (.str (bytes []))] [(0, (1, (.t 12))), (1, (2, (.t 13)))]), none⟩, ⟨(some 15), (.bsl 1 [(.int .i64 0)] 3 [(0,
  (.k (.int .i64 (-2)))), (1, (.k (.int .i64 0))), (2, (.k (.int .i64 1)))]), none⟩, ⟨(some 16), (.callR (.k (.fn 73 [])) [(.k (.int .i64 1)), (.k (.int .i64
  1))]), none⟩, ⟨(some 17), (.bld [(.z true), (.str (bytes [])), (.str (bytes []))] [(0, (1, (.t 15))), (1, (2, (.t 16)))]), none⟩, ⟨(some 18), (.bsl 3 [(.z
  true), (.str (bytes [])), (.str (bytes []))] 3 [(0, (.t 11)), (1, (.t 14)), (2, (.t 17))]), none⟩, ⟨(some 1), (.mv (.t 18)), none⟩]) (.seq (.reg [⟨(some 20),
  (.callR (.k (.fn 75 [])) []), none⟩, ⟨(some 21), (.mv (.t 1)), none⟩, ⟨(some 22), (.iad 3 (.t 21) (.k (.int .i64 0))), none⟩, ⟨(some 23), (.ld 3 true (.t
  22)), none⟩, ⟨(some 24), (.callR (.k (.fn 74 [])) [(.t 20), (.t 23)]), none⟩, ⟨(some 19), (.mv (.t 24)), none⟩, ⟨(some 25), (.ext 0 (.t 19)), none⟩, ⟨(some
  26), (.ext 1 (.t 19)), none⟩, ⟨(some 2), (.mv (.t 25)), none⟩, ⟨(some 3), (.mv (.t 26)), none⟩]) (.seq (.reg [⟨(some 28), (.callR (.k (.fn 75 [])) []), none⟩,
  ⟨(some 29), (.mv (.t 1)), none⟩, ⟨(some 30), (.callR (.k (.fn 76 [])) [(.t 28), (.t 29)]), none⟩, ⟨(some 27), (.mv (.t 30)), none⟩, ⟨(some 31), (.ext 0 (.t
  27)), none⟩, ⟨(some 32), (.ext 1 (.t 27)), none⟩, ⟨(some 33), (.ext 2 (.t 27)), none⟩, ⟨(some 4), (.mv (.t 31)), none⟩, ⟨(some 5), (.mv (.t 32)), none⟩,
  ⟨(some 6), (.mv (.t 33)), none⟩]) (.seq (.reg [⟨(some 35), (.callR (.k (.fn 75 [])) []), none⟩, ⟨(some 36), (.mv (.t 1)), none⟩, ⟨(some 37), (.callR (.k (.fn
  77 [])) [(.t 35), (.t 36)]), none⟩, ⟨(some 34), (.mv (.t 37)), none⟩, ⟨(some 38), (.ext 0 (.t 34)), none⟩, ⟨(some 39), (.ext 1 (.t 34)), none⟩, ⟨(some 7),
  (.mv (.t 38)), none⟩, ⟨(some 8), (.mv (.t 39)), none⟩]) (.seq (.reg [⟨(some 40), (.mv (.t 3)), none⟩, ⟨(some 41), (.bin .eql (.t 40) (.k (.int .i64 0))),
  none⟩, ⟨(some 42), (.mv (.t 41)), none⟩, ⟨(some 43), (.mv (.t 2)), (some (42, true))⟩, ⟨(some 44), (.len (.t 43)), (some (42, true))⟩, ⟨(some 45), (.bin .eql
  (.t 44) (.k (.int .i64 3))), (some (42, true))⟩, ⟨(some 46), (.pick (.t 42) (.t 45) (.k (.bool false))), none⟩, ⟨(some 47), (.mv (.t 46)), none⟩, ⟨(some 48),
  (.mv (.t 2)), (some (47, true))⟩, ⟨(some 49), (.iad 2 (.t 48) (.k (.int .i64 0))), (some (47, true))⟩, ⟨(some 50), (.ld 2 true (.t 49)), (some (47, true))⟩,
  ⟨(some 51), (.callR (.k (.fn 73 [])) [(.k (.int .i64 (-1))), (.k (.int .i64 1))]), (some (47, true))⟩, ⟨(some 52), (.eqs 2 false (.t 50) (.t 51)), (some (47,
  true))⟩, ⟨(some 53), (.pick (.t 47) (.t 52) (.k (.bool false))), none⟩, ⟨(some 54), (.mv (.t 53)), none⟩, ⟨(some 55), (.mv (.t 2)), (some (54, true))⟩, ⟨(some
  56), (.iad 2 (.t 55) (.k (.int .i64 1))), (some (54, true))⟩, ⟨(some 57), (.ld 2 true (.t 56)), (some (54, true))⟩, ⟨(some 58), (.callR (.k (.fn 73 [])) [(.k
  (.int .i64 1)), (.k (.int .i64 1))]), (some (54, true))⟩, ⟨(some 59), (.eqs 2 false (.t 57) (.t 58)), (some (54, true))⟩, ⟨(some 60), (.pick (.t 54) (.t 59)
  (.k (.bool false))), none⟩, ⟨(some 61), (.mv (.t 60)), none⟩, ⟨(some 62), (.mv (.t 2)), (some (61, true))⟩, ⟨(some 63), (.iad 2 (.t 62) (.k (.int .i64 2))),
  (some (61, true))⟩, ⟨(some 64), (.ld 2 true (.t 63)), (some (61, true))⟩, ⟨(some 65), (.callR (.k (.fn 73 [])) [(.k (.int .i64 (-1))), (.k (.int .i64 4))]),
  (some (61, true))⟩, ⟨(some 66), (.eqs 2 false (.t 64) (.t 65)), (some (61, true))⟩, ⟨(some 67), (.pick (.t 61) (.t 66) (.k (.bool false))), none⟩, ⟨(some 68),
  (.mv (.t 67)), none⟩, ⟨(some 69), (.mv (.t 6)), (some (68, true))⟩, ⟨(some 70), (.bin .eql (.t 69) (.k (.int .i64 0))), (some (68, true))⟩, ⟨(some 71), (.pick
  (.t 68) (.t 70) (.k (.bool false))), none⟩, ⟨(some 72), (.mv (.t 71)), none⟩, ⟨(some 73), (.mv (.t 4)), (some (72, true))⟩, ⟨(some 74), (.len (.t 73)), (some
  (72, true))⟩, ⟨(some 75), (.bin .eql (.t 74) (.k (.int .i64 3))), (some (72, true))⟩, ⟨(some 76), (.pick (.t 72) (.t 75) (.k (.bool false))), none⟩, ⟨(some
  77), (.mv (.t 76)), none⟩, ⟨(some 78), (.mv (.t 4)), (some (77, true))⟩, ⟨(some 79), (.iad 2 (.t 78) (.k (.int .i64 0))), (some (77, true))⟩, ⟨(some 80), (.ld
  2 true (.t 79)), (some (77, true))⟩, ⟨(some 81), (.callR (.k (.fn 73 [])) [(.k (.int .i64 (-2))), (.k (.int .i64 1))]), (some (77, true))⟩, ⟨(some 82), (.eqs
  2 false (.t 80) (.t 81)), (some (77, true))⟩, ⟨(some 83), (.pick (.t 77) (.t 82) (.k (.bool false))), none⟩, ⟨(some 84), (.mv (.t 83)), none⟩, ⟨(some 85),
  (.mv (.t 5)), (some (84, true))⟩, ⟨(some 86), (.len (.t 85)), (some (84, true))⟩, ⟨(some 87), (.bin .eql (.t 86) (.k (.int .i64 1))), (some (84, true))⟩,
  ⟨(some 88), (.pick (.t 84) (.t 87) (.k (.bool false))), none⟩, ⟨(some 89), (.mv (.t 88)), none⟩, ⟨(some 90), (.mv (.t 5)), (some (89, true))⟩, ⟨(some 91),
  (.iad 1 (.t 90) (.k (.int .i64 0))), (some (89, true))⟩, ⟨(some 92), (.ld 1 false (.t 91)), (some (89, true))⟩, ⟨(some 93), (.bin .eql (.t 92) (.k (.int .i64
  1))), (some (89, true))⟩, ⟨(some 94), (.pick (.t 89) (.t 93) (.k (.bool false))), none⟩, ⟨(some 95), (.mv (.t 94)), none⟩, ⟨(some 96), (.mv (.t 8)), (some
  (95, true))⟩, ⟨(some 97), (.bin .eql (.t 96) (.k (.int .i64 0))), (some (95, true))⟩, ⟨(some 98), (.pick (.t 95) (.t 97) (.k (.bool false))), none⟩, ⟨(some
  99), (.mv (.t 98)), none⟩, ⟨(some 100), (.mv (.t 7)), (some (99, true))⟩, ⟨(some 101), (.len (.t 100)), (some (99, true))⟩, ⟨(some 102), (.bin .eql (.t 101)
  (.k (.int .i64 1))), (some (99, true))⟩, ⟨(some 103), (.pick (.t 99) (.t 102) (.k (.bool false))), none⟩, ⟨(some 104), (.mv (.t 103)), none⟩, ⟨(some 105),
  (.mv (.t 7)), (some (104, true))⟩, ⟨(some 106), (.iad 1 (.t 105) (.k (.int .i64 0))), (some (104, true))⟩, ⟨(some 107), (.ld 1 false (.t 106)), (some (104,
  true))⟩, ⟨(some 108), (.bin .eql (.t 107) (.k (.int .i64 2))), (some (104, true))⟩, ⟨(some 109), (.pick (.t 104) (.t 108) (.k (.bool false))), none⟩, ⟨(some
  0), (.mv (.t 109)), none⟩]) .ret))))))⟩

def s38_0 : SCode :=
  .seq (.seq (.reg [⟨(some 17), (.mv (.t 3)), none⟩, ⟨(some 18), (.mv (.t 0)), none⟩, ⟨(some 19), (.len (.t 18)), none⟩, ⟨(some 20), (.bin .lss (.t 17) (.t 19)),
  none⟩]) (.cond (.t 20) .skip (.exit 0))) (.seq (.blk 1 (.seq (.reg [⟨(some 23), (.mv (.t 0)), none⟩, ⟨(some 24), (.mv (.t 3)), none⟩, ⟨(some 25), (.iad 3 (.t
  23) (.t 24)), none⟩, ⟨(some 26), (.fad 0 (.t 25)), none⟩, ⟨(some 27), (.ld 1 false (.t 26)), none⟩, ⟨(some 28), (.len (.t 27)), none⟩, ⟨(some 29), (.bin .gtr
  (.t 28) (.k (.int .i64 8))), none⟩, ⟨(some 30), (.mv (.t 29)), none⟩, ⟨(some 31), (.mv (.t 0)), (some (30, false))⟩, ⟨(some 32), (.mv (.t 3)), (some (30,
  false))⟩, ⟨(some 33), (.iad 3 (.t 31) (.t 32)), (some (30, false))⟩, ⟨(some 34), (.fad 1 (.t 33)), (some (30, false))⟩, ⟨(some 35), (.fad 0 (.t 34)), (some
  (30, false))⟩, ⟨(some 36), (.ld 1 false (.t 35)), (some (30, false))⟩, ⟨(some 37), (.lens (.t 36)), (some (30, false))⟩, ⟨(some 38), (.bin .gtr (.t 37) (.k
  (.int .i64 45))), (some (30, false))⟩, ⟨(some 39), (.pick (.t 30) (.k (.bool true)) (.t 38)), none⟩, ⟨(some 40), (.mv (.t 39)), none⟩, ⟨(some 41), (.mv (.t
  0)), (some (40, false))⟩, ⟨(some 42), (.mv (.t 3)), (some (40, false))⟩, ⟨(some 43), (.iad 3 (.t 41) (.t 42)), (some (40, false))⟩, ⟨(some 44), (.fad 1 (.t
  43)), (some (40, false))⟩, ⟨(some 45), (.fad 1 (.t 44)), (some (40, false))⟩, ⟨(some 46), (.ld 1 false (.t 45)), (some (40, false))⟩, ⟨(some 47), (.lens (.t
  46)), (some (40, false))⟩, ⟨(some 48), (.bin .gtr (.t 47) (.k (.int .i64 45))), (some (40, false))⟩, ⟨(some 49), (.pick (.t 40) (.k (.bool true)) (.t 48)),
  none⟩]) (.cond (.t 49) (.seq (.reg [⟨(some 2), (.mv (.k (.bool false))), none⟩]) .ret) .skip))) (.reg [⟨(some 21), (.mv (.t 3)), none⟩, ⟨(some 22), (.bin .add
  (.t 21) (.k (.int .i64 1))), none⟩, ⟨(some 3), (.mv (.t 22)), none⟩]))

/- schisma/schismalaw25.few -/
def s38 : SFunc :=
  ⟨1, [(.t 2)], (.seq (.reg [⟨(some 2), (.mv (.k (.bool false))), none⟩]) (.seq (.seq (.reg [⟨(some 4), (.mv (.t 0)), none⟩, ⟨(some 5), (.len (.t 4)), none⟩,
  ⟨(some 6), (.bin .gtr (.t 5) (.k (.int .i64 4))), none⟩, ⟨(some 7), (.mv (.t 6)), none⟩, ⟨(some 8), (.mv (.t 0)), (some (7, true))⟩, ⟨(some 9), (.len (.t 8)),
  (some (7, true))⟩, ⟨(some 10), (.bin .lss (.t 9) (.k (.int .i64 60))), (some (7, true))⟩, ⟨(some 11), (.mv (.t 10)), (some (7, true))⟩, ⟨(some 12), (.mv (.t
  0)), (some (11, false))⟩, ⟨(some 13), (.len (.t 12)), (some (11, false))⟩, ⟨(some 14), (.bin .gtr (.t 13) (.k (.int .i64 62))), (some (11, false))⟩, ⟨(some
  15), (.pick (.t 11) (.k (.bool true)) (.t 14)), (some (7, true))⟩, ⟨(some 16), (.pick (.t 7) (.t 15) (.k (.bool false))), none⟩]) (.cond (.t 16) (.seq (.reg
  [⟨(some 2), (.mv (.k (.bool false))), none⟩]) .ret) .skip)) (.seq (.seq (.reg [⟨(some 3), (.mv (.k (.int .i64 0))), none⟩]) (.blk 0 (.loop s38_0))) (.seq
  (.reg [⟨(some 2), (.mv (.k (.bool true))), none⟩]) .ret))))⟩

def s39_0 : SCode :=
  .seq (.reg [⟨(some 21), (.bin .lss (.t 20) (.t 19)), none⟩]) (.seq (.cond (.t 21) .skip (.exit 0)) (.seq (.blk 1 (.seq (.reg [⟨(some 22), (.iad 3 (.t 18) (.t
  20)), none⟩, ⟨(some 23), (.ld 3 true (.t 22)), none⟩, ⟨(some 7), (.alc [(.z true), (.str (bytes [])), (.str (bytes []))]), none⟩, ⟨none, (.st 3 (.t 7) (.t
  23)), none⟩]) (.seq (.seq (.reg [⟨(some 24), (.mv (.t 0)), none⟩, ⟨(some 25), (.fad 0 (.t 7)), none⟩, ⟨(some 26), (.ld 1 false (.t 25)), none⟩, ⟨(some 27),
  (.callR (.k (.fn 33 [])) [(.t 24), (.t 26)]), none⟩, ⟨(some 8), (.mv (.t 27)), none⟩]) (.seq (.reg [⟨(some 28), (.mv (.t 8)), none⟩, ⟨(some 29), (.bin .neq
  (.t 28) (.k (.int .i64 0))), none⟩]) (.cond (.t 29) (.seq (.reg [⟨(some 30), (.mv (.t 8)), none⟩, ⟨(some 4), (.mv (.t 30)), none⟩]) .ret) .skip))) (.seq (.reg
  [⟨(some 31), (.fad 1 (.t 7)), none⟩, ⟨(some 32), (.ld 2 true (.t 31)), none⟩, ⟨(some 9), (.alc [(.str (bytes [])), (.str (bytes []))]), none⟩, ⟨none, (.st 2
  (.t 9) (.t 32)), none⟩]) (.blk 2 (.seq (.reg [⟨(some 34), (.ld 2 true (.t 9)), none⟩, ⟨(some 35), (.callR (.k (.fn 78 [])) [(.t 34)]), none⟩, ⟨(some 36),
  (.bin .neq (.t 35) (.k (.int .i64 0))), none⟩, ⟨(some 33), (.mv (.t 36)), none⟩]) (.cond (.t 33) (.seq (.reg [⟨(some 4), (.mv (.k (.int .i64 2))), none⟩])
  .ret) (.seq (.reg [⟨(some 38), (.ld 2 true (.t 9)), none⟩, ⟨(some 39), (.callR (.k (.fn 79 [])) [(.t 38)]), none⟩, ⟨(some 40), (.bin .leq (.t 39) (.k (.int
  .i64 0))), none⟩, ⟨(some 37), (.mv (.t 40)), none⟩]) (.cond (.t 37) (.seq (.reg [⟨(some 4), (.mv (.k (.int .i64 3))), none⟩]) .ret) (.seq (.reg [⟨(some 42),
  (.fad 0 (.t 9)), none⟩, ⟨(some 43), (.ld 1 false (.t 42)), none⟩, ⟨(some 44), (.callR (.k (.fn 80 [])) [(.t 43)]), none⟩, ⟨(some 45), (.lens (.t 44)), none⟩,
  ⟨(some 46), (.bin .gtr (.t 45) (.k (.int .i64 30))), none⟩, ⟨(some 47), (.mv (.t 46)), none⟩, ⟨(some 48), (.fad 1 (.t 9)), (some (47, false))⟩, ⟨(some 49),
  (.ld 1 false (.t 48)), (some (47, false))⟩, ⟨(some 50), (.lens (.t 49)), (some (47, false))⟩, ⟨(some 51), (.bin .gtr (.t 50) (.k (.int .i64 30))), (some (47,
  false))⟩, ⟨(some 52), (.pick (.t 47) (.k (.bool true)) (.t 51)), none⟩, ⟨(some 41), (.mv (.t 52)), none⟩]) (.cond (.t 41) (.seq (.reg [⟨(some 4), (.mv (.k
  (.int .i64 4))), none⟩]) .ret) .skip))))))))))) (.reg [⟨(some 53), (.bin .add (.t 20) (.k (.int .i64 1))), none⟩, ⟨(some 20), (.mv (.t 53)), none⟩])))

/- schisma/damage.Check -/
def s39 : SFunc :=
  ⟨2, [(.t 4)], (.seq (.reg [⟨(some 4), (.mv (.k (.int .i64 0))), none⟩]) (.seq (.seq (.reg [⟨(some 10), (.mv (.t 0)), none⟩, ⟨(some 11), (.callR (.k (.fn 59 []))
  [(.t 10)]), none⟩, ⟨(some 5), (.mv (.t 11)), none⟩]) (.seq (.reg [⟨(some 12), (.mv (.t 5)), none⟩, ⟨(some 13), (.bin .neq (.t 12) (.k (.int .i64 0))), none⟩])
  (.cond (.t 13) (.seq (.reg [⟨(some 14), (.mv (.t 5)), none⟩, ⟨(some 4), (.mv (.t 14)), none⟩]) .ret) .skip))) (.seq (.seq (.reg [⟨(some 15), (.mv (.t 1)),
  none⟩, ⟨(some 16), (.len (.t 15)), none⟩, ⟨(some 17), (.bin .gtr (.t 16) (.k (.int .i64 60))), none⟩]) (.cond (.t 17) (.seq (.reg [⟨(some 4), (.mv (.k (.int
  .i64 4))), none⟩]) .ret) .skip)) (.seq (.seq (.reg [⟨(some 18), (.mv (.t 1)), none⟩, ⟨(some 19), (.len (.t 18)), none⟩, ⟨(some 20), (.mv (.k (.int .i64 0))),
  none⟩]) (.blk 0 (.loop s39_0))) (.seq (.reg [⟨(some 4), (.mv (.k (.int .i64 0))), none⟩]) .ret)))))⟩

def s40_0 : SCode :=
  .seq (.seq (.reg [⟨(some 17), (.mv (.t 6)), none⟩, ⟨(some 18), (.mv (.t 1)), none⟩, ⟨(some 19), (.len (.t 18)), none⟩, ⟨(some 20), (.bin .lss (.t 17) (.t 19)),
  none⟩]) (.cond (.t 20) .skip (.exit 0))) (.seq (.blk 1 (.seq (.seq (.reg [⟨(some 23), (.mv (.t 0)), none⟩, ⟨(some 24), (.mv (.t 1)), none⟩, ⟨(some 25), (.mv
  (.t 6)), none⟩, ⟨(some 26), (.iad 3 (.t 24) (.t 25)), none⟩, ⟨(some 27), (.fad 0 (.t 26)), none⟩, ⟨(some 28), (.ld 1 false (.t 27)), none⟩, ⟨(some 29),
  (.callR (.k (.fn 33 [])) [(.t 23), (.t 28)]), none⟩, ⟨(some 7), (.mv (.t 29)), none⟩]) (.seq (.reg [⟨(some 30), (.mv (.t 7)), none⟩, ⟨(some 31), (.bin .neq
  (.t 30) (.k (.int .i64 0))), none⟩]) (.cond (.t 31) (.seq (.reg [⟨(some 32), (.mv (.t 7)), none⟩, ⟨(some 4), (.mv (.t 32)), none⟩]) .ret) .skip))) (.seq (.reg
  [⟨(some 33), (.mv (.t 1)), none⟩, ⟨(some 34), (.mv (.t 6)), none⟩, ⟨(some 35), (.iad 3 (.t 33) (.t 34)), none⟩, ⟨(some 36), (.fad 1 (.t 35)), none⟩, ⟨(some
  37), (.ld 2 true (.t 36)), none⟩, ⟨(some 8), (.alc [(.str (bytes [])), (.str (bytes []))]), none⟩, ⟨none, (.st 2 (.t 8) (.t 37)), none⟩]) (.seq (.seq (.reg
  [⟨(some 38), (.ld 2 true (.t 8)), none⟩, ⟨(some 39), (.callR (.k (.fn 78 [])) [(.t 38)]), none⟩, ⟨(some 40), (.bin .neq (.t 39) (.k (.int .i64 0))), none⟩])
  (.cond (.t 40) (.seq (.reg [⟨(some 4), (.mv (.k (.int .i64 2))), none⟩]) .ret) .skip)) (.seq (.seq (.reg [⟨(some 41), (.ld 2 true (.t 8)), none⟩, ⟨(some 42),
  (.callR (.k (.fn 79 [])) [(.t 41)]), none⟩, ⟨(some 43), (.bin .leq (.t 42) (.k (.int .i64 0))), none⟩]) (.cond (.t 43) (.seq (.reg [⟨(some 4), (.mv (.k (.int
  .i64 3))), none⟩]) .ret) .skip)) (.seq (.reg [⟨(some 44), (.fad 0 (.t 8)), none⟩, ⟨(some 45), (.ld 1 false (.t 44)), none⟩, ⟨(some 46), (.lens (.t 45)),
  none⟩, ⟨(some 47), (.bin .gtr (.t 46) (.k (.int .i64 30))), none⟩, ⟨(some 48), (.mv (.t 47)), none⟩, ⟨(some 49), (.fad 1 (.t 8)), (some (48, false))⟩, ⟨(some
  50), (.ld 1 false (.t 49)), (some (48, false))⟩, ⟨(some 51), (.lens (.t 50)), (some (48, false))⟩, ⟨(some 52), (.bin .gtr (.t 51) (.k (.int .i64 30))), (some
  (48, false))⟩, ⟨(some 53), (.pick (.t 48) (.k (.bool true)) (.t 52)), none⟩]) (.cond (.t 53) (.seq (.reg [⟨(some 4), (.mv (.k (.int .i64 4))), none⟩]) .ret)
  .skip))))))) (.reg [⟨(some 21), (.mv (.t 6)), none⟩, ⟨(some 22), (.bin .add (.t 21) (.k (.int .i64 1))), none⟩, ⟨(some 6), (.mv (.t 22)), none⟩]))

/- schisma/schismalaw25.check -/
def s40 : SFunc :=
  ⟨2, [(.t 4)], (.seq (.reg [⟨(some 4), (.mv (.k (.int .i64 0))), none⟩]) (.seq (.seq (.reg [⟨(some 9), (.mv (.t 0)), none⟩, ⟨(some 10), (.callR (.k (.fn 59 []))
  [(.t 9)]), none⟩, ⟨(some 5), (.mv (.t 10)), none⟩]) (.seq (.reg [⟨(some 11), (.mv (.t 5)), none⟩, ⟨(some 12), (.bin .neq (.t 11) (.k (.int .i64 0))), none⟩])
  (.cond (.t 12) (.seq (.reg [⟨(some 13), (.mv (.t 5)), none⟩, ⟨(some 4), (.mv (.t 13)), none⟩]) .ret) .skip))) (.seq (.seq (.reg [⟨(some 14), (.mv (.t 1)),
  none⟩, ⟨(some 15), (.len (.t 14)), none⟩, ⟨(some 16), (.bin .gtr (.t 15) (.k (.int .i64 60))), none⟩]) (.cond (.t 16) (.seq (.reg [⟨(some 4), (.mv (.k (.int
  .i64 4))), none⟩]) .ret) .skip)) (.seq (.seq (.reg [⟨(some 6), (.mv (.k (.int .i64 0))), none⟩]) (.blk 0 (.loop s40_0))) (.seq (.reg [⟨(some 4), (.mv (.k
  (.int .i64 0))), none⟩]) .ret)))))⟩

/- schisma/damage.Equal -/
def s41 : SFunc :=
  ⟨2, [(.t 4)], (.seq (.reg [⟨(some 4), (.mv (.k (.bool false))), none⟩]) (.seq (.reg [⟨(some 5), (.mv (.t 0)), none⟩, ⟨(some 6), (.mv (.t 1)), none⟩, ⟨(some 7),
  (.callW (.k (.fn 81 [])) [(.t 5), (.t 6), (.k (.fn 82 []))]), none⟩, ⟨(some 4), (.mv (.t 7)), none⟩]) .ret))⟩

def s42_0 : SCode :=
  .seq (.seq (.reg [⟨(some 11), (.mv (.t 5)), none⟩, ⟨(some 12), (.mv (.t 0)), none⟩, ⟨(some 13), (.len (.t 12)), none⟩, ⟨(some 14), (.bin .lss (.t 11) (.t 13)),
  none⟩]) (.cond (.t 14) .skip (.exit 0))) (.seq (.blk 1 (.seq (.reg [⟨(some 17), (.mv (.t 0)), none⟩, ⟨(some 18), (.mv (.t 5)), none⟩, ⟨(some 19), (.iad 3 (.t
  17) (.t 18)), none⟩, ⟨(some 20), (.fad 0 (.t 19)), none⟩, ⟨(some 21), (.ld 1 false (.t 20)), none⟩, ⟨(some 22), (.mv (.t 1)), none⟩, ⟨(some 23), (.mv (.t 5)),
  none⟩, ⟨(some 24), (.iad 3 (.t 22) (.t 23)), none⟩, ⟨(some 25), (.fad 0 (.t 24)), none⟩, ⟨(some 26), (.ld 1 false (.t 25)), none⟩, ⟨(some 27), (.callR (.k
  (.fn 84 [])) [(.t 21), (.t 26)]), none⟩, ⟨(some 28), (.un .not (.t 27)), none⟩, ⟨(some 29), (.mv (.t 28)), none⟩, ⟨(some 30), (.mv (.t 0)), (some (29,
  false))⟩, ⟨(some 31), (.mv (.t 5)), (some (29, false))⟩, ⟨(some 32), (.iad 3 (.t 30) (.t 31)), (some (29, false))⟩, ⟨(some 33), (.fad 1 (.t 32)), (some (29,
  false))⟩, ⟨(some 34), (.ld 2 true (.t 33)), (some (29, false))⟩, ⟨(some 35), (.mv (.t 1)), (some (29, false))⟩, ⟨(some 36), (.mv (.t 5)), (some (29, false))⟩,
  ⟨(some 37), (.iad 3 (.t 35) (.t 36)), (some (29, false))⟩, ⟨(some 38), (.fad 1 (.t 37)), (some (29, false))⟩, ⟨(some 39), (.ld 2 true (.t 38)), (some (29,
  false))⟩, ⟨(some 40), (.eqs 2 true (.t 34) (.t 39)), (some (29, false))⟩, ⟨(some 41), (.pick (.t 29) (.k (.bool true)) (.t 40)), none⟩]) (.cond (.t 41) (.seq
  (.reg [⟨(some 4), (.mv (.k (.bool false))), none⟩]) .ret) .skip))) (.reg [⟨(some 15), (.mv (.t 5)), none⟩, ⟨(some 16), (.bin .add (.t 15) (.k (.int .i64 1))),
  none⟩, ⟨(some 5), (.mv (.t 16)), none⟩]))

/- schisma/schismalaw25.equal -/
def s42 : SFunc :=
  ⟨2, [(.t 4)], (.seq (.reg [⟨(some 4), (.mv (.k (.bool false))), none⟩]) (.seq (.seq (.reg [⟨(some 6), (.mv (.t 0)), none⟩, ⟨(some 7), (.len (.t 6)), none⟩,
  ⟨(some 8), (.mv (.t 1)), none⟩, ⟨(some 9), (.len (.t 8)), none⟩, ⟨(some 10), (.bin .neq (.t 7) (.t 9)), none⟩]) (.cond (.t 10) (.seq (.reg [⟨(some 4), (.mv
  (.k (.bool false))), none⟩]) .ret) .skip)) (.seq (.seq (.reg [⟨(some 5), (.mv (.k (.int .i64 0))), none⟩]) (.blk 0 (.loop s42_0))) (.seq (.reg [⟨(some 4),
  (.mv (.k (.bool true))), none⟩]) .ret))))⟩

/- schisma/schismalaw28.part -/
def s43 : SFunc :=
  ⟨2, [(.c 4 2 true)], (.seq (.reg [⟨(some 4), (.alc [(.str (bytes [])), (.str (bytes []))]), none⟩]) (.seq (.reg [⟨(some 8), (.mv (.t 0)), none⟩, ⟨(some 9), (.mv
  (.t 1)), none⟩, ⟨(some 10), (.callR (.k (.fn 85 [])) [(.t 8), (.t 9)]), none⟩, ⟨(some 7), (.mv (.t 10)), none⟩, ⟨(some 11), (.ext 0 (.t 7)), none⟩, ⟨(some
  12), (.ext 1 (.t 7)), none⟩, ⟨(some 5), (.alc [(.str (bytes [])), (.str (bytes []))]), none⟩, ⟨none, (.st 2 (.t 5) (.t 11)), none⟩, ⟨(some 6), (.mv (.t 12)),
  none⟩]) (.seq (.reg [⟨(some 13), (.ld 2 true (.t 5)), none⟩, ⟨none, (.st 2 (.t 4) (.t 13)), none⟩]) .ret)))⟩

def s44_0 : SCode :=
  .seq (.seq (.reg [⟨(some 22), (.mv (.t 10)), none⟩, ⟨(some 23), (.mv (.t 6)), none⟩, ⟨(some 24), (.len (.t 23)), none⟩, ⟨(some 25), (.bin .lss (.t 22) (.t 24)),
  none⟩]) (.cond (.t 25) .skip (.exit 0))) (.seq (.blk 1 (.reg [⟨(some 28), (.mv (.t 6)), none⟩, ⟨(some 29), (.mv (.t 10)), none⟩, ⟨(some 30), (.iad 1 (.t 28)
  (.t 29)), none⟩, ⟨(some 31), (.ld 1 false (.t 30)), none⟩, ⟨(some 32), (.iad 1 (.t 31) (.k (.int .i64 0))), none⟩, ⟨(some 33), (.ld 1 false (.t 32)), none⟩,
  ⟨(some 34), (.mv (.t 6)), none⟩, ⟨(some 35), (.mv (.t 10)), none⟩, ⟨(some 36), (.bin .sub (.t 35) (.k (.int .i64 1))), none⟩, ⟨(some 37), (.iad 1 (.t 34) (.t
  36)), none⟩, ⟨(some 38), (.ld 1 false (.t 37)), none⟩, ⟨(some 39), (.iad 1 (.t 38) (.k (.int .i64 0))), none⟩, ⟨(some 40), (.ld 1 false (.t 39)), none⟩,
  ⟨(some 41), (.bin .sub (.t 33) (.t 40)), none⟩, ⟨(some 42), (.mv (.t 6)), none⟩, ⟨(some 43), (.mv (.t 10)), none⟩, ⟨(some 44), (.iad 1 (.t 42) (.t 43)),
  none⟩, ⟨(some 45), (.ld 1 false (.t 44)), none⟩, ⟨(some 46), (.iad 1 (.t 45) (.k (.int .i64 1))), none⟩, ⟨(some 47), (.ld 1 false (.t 46)), none⟩, ⟨(some 48),
  (.mv (.t 6)), none⟩, ⟨(some 49), (.mv (.t 10)), none⟩, ⟨(some 50), (.bin .sub (.t 49) (.k (.int .i64 1))), none⟩, ⟨(some 51), (.iad 1 (.t 48) (.t 50)), none⟩,
  ⟨(some 52), (.ld 1 false (.t 51)), none⟩, ⟨(some 53), (.iad 1 (.t 52) (.k (.int .i64 1))), none⟩, ⟨(some 54), (.ld 1 false (.t 53)), none⟩, ⟨(some 55), (.bin
  .sub (.t 47) (.t 54)), none⟩, ⟨(some 56), (.mv (.t 7)), none⟩, ⟨(some 57), (.callW (.k (.fn 86 [])) [(.t 9), (.t 41), (.t 55), (.t 56)]), none⟩])) (.reg
  [⟨(some 26), (.mv (.t 10)), none⟩, ⟨(some 27), (.bin .add (.t 26) (.k (.int .i64 1))), none⟩, ⟨(some 10), (.mv (.t 27)), none⟩]))

/- schisma/tradeoff.Steady -/
def s44 : SFunc :=
  ⟨2, [(.c 4 5 true), (.t 5)], (.seq (.reg [⟨(some 2), (.box 3 (.t 0)), none⟩, ⟨(some 4), (.alc [(.z true), (.z true), (.bool false), (.bool false), (.bool
  false)]), none⟩, ⟨(some 5), (.mv (.k (.int .i64 0))), none⟩]) (.seq (.reg [⟨(some 12), (.ld 3 true (.t 2)), none⟩, ⟨(some 13), (.mv (.t 1)), none⟩, ⟨(some
  14), (.callR (.k (.fn 47 [])) [(.t 12), (.t 13)]), none⟩, ⟨(some 11), (.mv (.t 14)), none⟩, ⟨(some 15), (.ext 0 (.t 11)), none⟩, ⟨(some 16), (.ext 1 (.t 11)),
  none⟩, ⟨(some 17), (.ext 2 (.t 11)), none⟩, ⟨(some 6), (.mv (.t 15)), none⟩, ⟨(some 7), (.mv (.t 16)), none⟩, ⟨(some 8), (.mv (.t 17)), none⟩]) (.seq (.seq
  (.reg [⟨(some 18), (.mv (.t 8)), none⟩, ⟨(some 19), (.bin .neq (.t 18) (.k (.int .i64 0))), none⟩]) (.cond (.t 19) (.seq (.reg [⟨(some 20), (.bld [(.z true),
  (.z true), (.bool false), (.bool false), (.bool false)] []), none⟩, ⟨(some 21), (.mv (.t 8)), none⟩, ⟨none, (.st 5 (.t 4) (.t 20)), none⟩, ⟨(some 5), (.mv (.t
  21)), none⟩]) .ret) .skip)) (.seq (.reg [⟨(some 9), (.alc [(.str (bytes [])), (.str (bytes [])), (.str (bytes [])), (.str (bytes [])), (.bool false), (.bool
  false), (.bool false)]), none⟩]) (.seq (.seq (.reg [⟨(some 10), (.mv (.k (.int .i64 1))), none⟩]) (.blk 0 (.loop s44_0))) (.seq (.reg [⟨(some 58), (.fad 0 (.t
  2)), none⟩, ⟨(some 59), (.ld 1 false (.t 58)), none⟩, ⟨(some 60), (.callW (.k (.fn 87 [])) [(.t 9), (.t 59)]), none⟩, ⟨(some 61), (.ext 0 (.t 60)), none⟩,
  ⟨(some 62), (.ext 1 (.t 60)), none⟩, ⟨none, (.st 5 (.t 4) (.t 61)), none⟩, ⟨(some 5), (.mv (.t 62)), none⟩]) .ret))))))⟩

/- schisma/schismalaw28.meantone -/
def s45 : SFunc :=
  ⟨0, [(.c 0 3 true)], (.seq (.reg [⟨(some 0), (.alc [(.z true), (.z true), (.z true)]), none⟩]) (.seq (.reg [⟨(some 1), (.bsl 1 [(.int .i64 0)] 3 [(0, (.k (.int
  .i64 2))), (1, (.k (.int .i64 3))), (2, (.k (.int .i64 5)))]), none⟩, ⟨(some 2), (.bsl 1 [(.int .i64 0)] 3 [(0, (.k (.int .i64 4))), (1, (.k (.int .i64
  (-4)))), (2, (.k (.int .i64 1)))]), none⟩, ⟨(some 3), (.bsl 1 [(.z true)] 1 [(0, (.t 2))]), none⟩, ⟨(some 4), (.bsl 1 [(.int .i64 0)] 3 [(0, (.k (.int .i64
  1))), (1, (.k (.int .i64 0))), (2, (.k (.int .i64 (-4))))]), none⟩, ⟨(some 5), (.bsl 1 [(.int .i64 0)] 3 [(0, (.k (.int .i64 0))), (1, (.k (.int .i64 1))),
  (2, (.k (.int .i64 4)))]), none⟩, ⟨(some 6), (.bsl 1 [(.z true)] 2 [(0, (.t 4)), (1, (.t 5))]), none⟩, ⟨(some 7), (.bld [(.z true), (.z true), (.z true)] [(0,
  (1, (.t 1))), (1, (1, (.t 3))), (2, (1, (.t 6)))]), none⟩, ⟨none, (.st 3 (.t 0) (.t 7)), none⟩]) .ret))⟩

/- schisma/schismalaw18.build -/
def s46 : SFunc :=
  ⟨3, [(.c 6 3 true), (.t 7)], (.seq (.reg [⟨(some 6), (.alc [(.z true), (.z true), (.z true)]), none⟩, ⟨(some 7), (.mv (.k (.int .i64 0))), none⟩]) (.seq (.seq
  (.reg [⟨(some 14), (.mv (.t 0)), none⟩, ⟨(some 15), (.callR (.k (.fn 59 [])) [(.t 14)]), none⟩, ⟨(some 8), (.mv (.t 15)), none⟩]) (.seq (.reg [⟨(some 16),
  (.mv (.t 8)), none⟩, ⟨(some 17), (.bin .neq (.t 16) (.k (.int .i64 0))), none⟩]) (.cond (.t 17) (.seq (.reg [⟨(some 18), (.bld [(.z true), (.z true), (.z
  true)] []), none⟩, ⟨(some 19), (.mv (.t 8)), none⟩, ⟨none, (.st 3 (.t 6) (.t 18)), none⟩, ⟨(some 7), (.mv (.t 19)), none⟩]) .ret) .skip))) (.seq (.reg [⟨(some
  21), (.mv (.t 0)), none⟩, ⟨(some 22), (.len (.t 21)), none⟩, ⟨(some 23), (.mv (.t 1)), none⟩, ⟨(some 24), (.callR (.k (.fn 88 [])) [(.t 22), (.t 23)]), none⟩,
  ⟨(some 20), (.mv (.t 24)), none⟩, ⟨(some 25), (.ext 0 (.t 20)), none⟩, ⟨(some 26), (.ext 1 (.t 20)), none⟩, ⟨(some 9), (.alc [(.int .i64 0), (.z true)]),
  none⟩, ⟨none, (.st 2 (.t 9) (.t 25)), none⟩, ⟨(some 10), (.mv (.t 26)), none⟩]) (.seq (.seq (.reg [⟨(some 27), (.mv (.t 10)), none⟩, ⟨(some 28), (.bin .neq
  (.t 27) (.k (.int .i64 0))), none⟩]) (.cond (.t 28) (.seq (.reg [⟨(some 29), (.bld [(.z true), (.z true), (.z true)] []), none⟩, ⟨(some 30), (.mv (.t 10)),
  none⟩, ⟨none, (.st 3 (.t 6) (.t 29)), none⟩, ⟨(some 7), (.mv (.t 30)), none⟩]) .ret) .skip)) (.seq (.reg [⟨(some 32), (.ld 2 true (.t 9)), none⟩, ⟨(some 33),
  (.callR (.k (.fn 89 [])) [(.t 32)]), none⟩, ⟨(some 31), (.mv (.t 33)), none⟩, ⟨(some 34), (.ext 0 (.t 31)), none⟩, ⟨(some 35), (.ext 1 (.t 31)), none⟩, ⟨(some
  11), (.alc [(.int .i64 0), (.z true)]), none⟩, ⟨none, (.st 2 (.t 11) (.t 34)), none⟩, ⟨(some 10), (.mv (.t 35)), none⟩]) (.seq (.reg [⟨(some 37), (.ld 2 true
  (.t 9)), none⟩, ⟨(some 38), (.callR (.k (.fn 90 [])) [(.t 37)]), none⟩, ⟨(some 36), (.mv (.t 38)), none⟩, ⟨(some 39), (.ext 0 (.t 36)), none⟩, ⟨(some 40),
  (.ext 1 (.t 36)), none⟩, ⟨(some 12), (.alc [(.int .i64 0), (.z true)]), none⟩, ⟨none, (.st 2 (.t 12) (.t 39)), none⟩, ⟨(some 13), (.mv (.t 40)), none⟩]) (.seq
  (.seq (.reg [⟨(some 41), (.mv (.t 10)), none⟩, ⟨(some 42), (.bin .neq (.t 41) (.k (.int .i64 0))), none⟩, ⟨(some 43), (.mv (.t 42)), none⟩, ⟨(some 44), (.mv
  (.t 13)), (some (43, false))⟩, ⟨(some 45), (.bin .neq (.t 44) (.k (.int .i64 0))), (some (43, false))⟩, ⟨(some 46), (.pick (.t 43) (.k (.bool true)) (.t 45)),
  none⟩]) (.cond (.t 46) (.seq (.reg [⟨(some 47), (.bld [(.z true), (.z true), (.z true)] []), none⟩, ⟨none, (.st 3 (.t 6) (.t 47)), none⟩, ⟨(some 7), (.mv (.k
  (.int .i64 4))), none⟩]) .ret) .skip)) (.seq (.seq (.reg [⟨(some 48), (.mv (.t 2)), none⟩]) (.cond (.t 48) (.reg [⟨(some 49), (.ld 2 true (.t 12)), none⟩,
  ⟨(some 50), (.ld 2 true (.t 11)), none⟩, ⟨none, (.st 2 (.t 11) (.t 49)), none⟩, ⟨none, (.st 2 (.t 12) (.t 50)), none⟩]) .skip)) (.seq (.reg [⟨(some 51), (.mv
  (.t 0)), none⟩, ⟨(some 52), (.fad 1 (.t 11)), none⟩, ⟨(some 53), (.ld 1 false (.t 52)), none⟩, ⟨(some 54), (.fad 1 (.t 12)), none⟩, ⟨(some 55), (.ld 1 false
  (.t 54)), none⟩, ⟨(some 56), (.bld [(.z true), (.z true), (.z true)] [(0, (1, (.t 51))), (1, (1, (.t 53))), (2, (1, (.t 55)))]), none⟩, ⟨none, (.st 3 (.t 6)
  (.t 56)), none⟩, ⟨(some 7), (.mv (.k (.int .i64 0))), none⟩]) .ret)))))))))⟩

def s47_0 : SCode :=
  .seq (.reg [⟨(some 36), (.bin .lss (.t 35) (.t 34)), none⟩]) (.seq (.cond (.t 36) .skip (.exit 1)) (.seq (.blk 2 (.seq (.reg [⟨(some 37), (.iad 1 (.t 33) (.t
  35)), none⟩, ⟨(some 38), (.ld 1 false (.t 37)), none⟩, ⟨(some 10), (.mv (.t 38)), none⟩]) (.seq (.reg [⟨(some 40), (.ld 3 true (.t 2)), none⟩, ⟨(some 41),
  (.mv (.t 10)), none⟩, ⟨(some 42), (.callR (.k (.fn 53 [])) [(.t 40), (.t 41)]), none⟩, ⟨(some 39), (.mv (.t 42)), none⟩, ⟨(some 43), (.ext 0 (.t 39)), none⟩,
  ⟨(some 44), (.ext 1 (.t 39)), none⟩, ⟨(some 11), (.mv (.t 43)), none⟩, ⟨(some 12), (.mv (.t 44)), none⟩]) (.seq (.seq (.reg [⟨(some 45), (.mv (.t 12)), none⟩,
  ⟨(some 46), (.bin .neq (.t 45) (.k (.int .i64 0))), none⟩]) (.cond (.t 46) (.seq (.reg [⟨(some 47), (.mv (.t 12)), none⟩, ⟨(some 4), (.mv (.k (.z true))),
  none⟩, ⟨(some 5), (.mv (.k (.int .i64 0))), none⟩, ⟨(some 6), (.mv (.t 47)), none⟩]) .ret) .skip)) (.reg [⟨(some 48), (.mv (.t 4)), none⟩, ⟨(some 49), (.mv
  (.t 11)), none⟩, ⟨(some 50), (.bsl 1 [(.z true)] 1 [(0, (.t 49))]), none⟩, ⟨(some 51), (.app 1 (.t 48) (.t 50)), none⟩, ⟨(some 4), (.mv (.t 51)), none⟩])))))
  (.reg [⟨(some 52), (.bin .add (.t 35) (.k (.int .i64 1))), none⟩, ⟨(some 35), (.mv (.t 52)), none⟩])))

/- schisma/tradeoff.tempered -/
def s47 : SFunc :=
  ⟨2, [(.t 4), (.t 5), (.t 6)], (.seq (.reg [⟨(some 2), (.box 3 (.t 0)), none⟩, ⟨(some 4), (.mv (.k (.z true))), none⟩, ⟨(some 5), (.mv (.k (.int .i64 0))),
  none⟩, ⟨(some 6), (.mv (.k (.int .i64 0))), none⟩]) (.seq (.reg [⟨(some 14), (.ld 3 true (.t 2)), none⟩, ⟨(some 15), (.callR (.k (.fn 64 [])) [(.t 14)]),
  none⟩, ⟨(some 13), (.mv (.t 15)), none⟩, ⟨(some 16), (.ext 0 (.t 13)), none⟩, ⟨(some 17), (.ext 1 (.t 13)), none⟩, ⟨(some 7), (.alc [(.int .i64 0), (.z true),
  (.z true)]), none⟩, ⟨none, (.st 3 (.t 7) (.t 16)), none⟩, ⟨(some 6), (.mv (.t 17)), none⟩]) (.seq (.blk 0 (.seq (.reg [⟨(some 19), (.mv (.t 6)), none⟩, ⟨(some
  20), (.bin .neq (.t 19) (.k (.int .i64 0))), none⟩, ⟨(some 18), (.mv (.t 20)), none⟩]) (.cond (.t 18) (.seq (.reg [⟨(some 21), (.mv (.t 6)), none⟩, ⟨(some 4),
  (.mv (.k (.z true))), none⟩, ⟨(some 5), (.mv (.k (.int .i64 0))), none⟩, ⟨(some 6), (.mv (.t 21)), none⟩]) .ret) (.seq (.reg [⟨(some 23), (.mv (.t 1)), none⟩,
  ⟨(some 24), (.len (.t 23)), none⟩, ⟨(some 25), (.bin .gtr (.t 24) (.k (.int .i64 60))), none⟩, ⟨(some 22), (.mv (.t 25)), none⟩]) (.cond (.t 22) (.seq (.reg
  [⟨(some 4), (.mv (.k (.z true))), none⟩, ⟨(some 5), (.mv (.k (.int .i64 0))), none⟩, ⟨(some 6), (.mv (.k (.int .i64 4))), none⟩]) .ret) .skip))))) (.seq (.seq
  (.reg [⟨(some 26), (.fad 0 (.t 2)), none⟩, ⟨(some 27), (.ld 1 false (.t 26)), none⟩, ⟨(some 28), (.mv (.t 1)), none⟩, ⟨(some 29), (.callR (.k (.fn 63 []))
  [(.t 27), (.t 28)]), none⟩, ⟨(some 8), (.mv (.t 29)), none⟩]) (.seq (.reg [⟨(some 30), (.mv (.t 8)), none⟩, ⟨(some 31), (.bin .neq (.t 30) (.k (.int .i64
  0))), none⟩]) (.cond (.t 31) (.seq (.reg [⟨(some 32), (.mv (.t 8)), none⟩, ⟨(some 4), (.mv (.k (.z true))), none⟩, ⟨(some 5), (.mv (.k (.int .i64 0))), none⟩,
  ⟨(some 6), (.mv (.t 32)), none⟩]) .ret) .skip))) (.seq (.seq (.reg [⟨(some 33), (.mv (.t 1)), none⟩, ⟨(some 34), (.len (.t 33)), none⟩, ⟨(some 35), (.mv (.k
  (.int .i64 0))), none⟩]) (.blk 1 (.loop s47_0))) (.seq (.reg [⟨(some 53), (.mv (.t 4)), none⟩, ⟨(some 54), (.fad 0 (.t 7)), none⟩, ⟨(some 55), (.ld 1 false
  (.t 54)), none⟩, ⟨(some 4), (.mv (.t 53)), none⟩, ⟨(some 5), (.mv (.t 55)), none⟩, ⟨(some 6), (.mv (.k (.int .i64 0))), none⟩]) .ret))))))⟩

def s48_0 : SCode :=
  .seq (.reg [⟨(some 35), (.bin .lss (.t 34) (.t 33)), none⟩]) (.seq (.cond (.t 35) .skip (.exit 0)) (.seq (.blk 1 (.seq (.reg [⟨(some 36), (.mv (.t 34)), none⟩,
  ⟨(some 37), (.iad 1 (.t 32) (.t 34)), none⟩, ⟨(some 38), (.ld 1 false (.t 37)), none⟩, ⟨(some 14), (.mv (.t 36)), none⟩, ⟨(some 15), (.mv (.t 38)), none⟩])
  (.seq (.reg [⟨(some 40), (.mv (.t 15)), none⟩, ⟨(some 41), (.callR (.k (.fn 85 [])) [(.t 40), (.k (.int .i64 1))]), none⟩, ⟨(some 39), (.mv (.t 41)), none⟩,
  ⟨(some 42), (.ext 0 (.t 39)), none⟩, ⟨(some 43), (.ext 1 (.t 39)), none⟩, ⟨(some 16), (.alc [(.str (bytes [])), (.str (bytes []))]), none⟩, ⟨none, (.st 2 (.t
  16) (.t 42)), none⟩, ⟨(some 17), (.mv (.t 43)), none⟩]) (.seq (.seq (.reg [⟨(some 44), (.mv (.t 14)), none⟩, ⟨(some 45), (.bin .eql (.t 44) (.k (.int .i64
  0))), none⟩]) (.cond (.t 45) (.seq (.reg [⟨(some 47), (.mv (.t 2)), none⟩, ⟨(some 48), (.iad 1 (.t 47) (.k (.int .i64 0))), none⟩, ⟨(some 49), (.ld 1 false
  (.t 48)), none⟩, ⟨(some 50), (.mv (.t 3)), none⟩, ⟨(some 51), (.callR (.k (.fn 85 [])) [(.t 49), (.t 50)]), none⟩, ⟨(some 46), (.mv (.t 51)), none⟩, ⟨(some
  52), (.ext 0 (.t 46)), none⟩, ⟨(some 53), (.ext 1 (.t 46)), none⟩, ⟨(some 18), (.alc [(.str (bytes [])), (.str (bytes []))]), none⟩, ⟨none, (.st 2 (.t 18) (.t
  52)), none⟩, ⟨(some 19), (.mv (.t 53)), none⟩]) (.reg [⟨(some 54), (.ld 2 true (.t 16)), none⟩, ⟨(some 55), (.ld 2 true (.t 18)), none⟩, ⟨(some 56), (.callR
  (.k (.fn 55 [])) [(.t 54), (.t 55)]), none⟩, ⟨none, (.st 2 (.t 16) (.t 56)), none⟩])) .skip)) (.seq (.reg [⟨(some 58), (.ld 2 true (.t 16)), none⟩, ⟨(some
  59), (.ld 2 true (.t 11)), none⟩, ⟨(some 60), (.callR (.k (.fn 56 [])) [(.t 58), (.t 59)]), none⟩, ⟨(some 57), (.mv (.t 60)), none⟩, ⟨(some 61), (.ext 0 (.t
  57)), none⟩, ⟨(some 62), (.ext 1 (.t 57)), none⟩, ⟨none, (.st 2 (.t 16) (.t 61)), none⟩]) (.reg [⟨(some 63), (.mv (.t 13)), none⟩, ⟨(some 64), (.ld 2 true (.t
  16)), none⟩, ⟨(some 65), (.bsl 2 [(.str (bytes [])), (.str (bytes []))] 1 [(0, (.t 64))]), none⟩, ⟨(some 66), (.app 2 (.t 63) (.t 65)), none⟩, ⟨(some 13),
  (.mv (.t 66)), none⟩])))))) (.reg [⟨(some 67), (.bin .add (.t 34) (.k (.int .i64 1))), none⟩, ⟨(some 34), (.mv (.t 67)), none⟩])))

/- schisma/tradeoff.pure -/
def s48 : SFunc :=
  ⟨4, [(.t 8), (.t 9), (.t 10)], (.seq (.reg [⟨(some 8), (.mv (.k (.z true))), none⟩, ⟨(some 9), (.mv (.k (.bool false))), none⟩, ⟨(some 10), (.mv (.k (.int .i64
  0))), none⟩]) (.seq (.seq (.reg [⟨(some 20), (.mv (.t 2)), none⟩, ⟨(some 21), (.iad 1 (.t 20) (.k (.int .i64 1))), none⟩, ⟨(some 22), (.ld 1 false (.t 21)),
  none⟩, ⟨(some 23), (.bin .eql (.t 22) (.k (.int .i64 0))), none⟩]) (.cond (.t 23) (.seq (.reg [⟨(some 8), (.mv (.k (.z true))), none⟩, ⟨(some 9), (.mv (.k
  (.bool false))), none⟩, ⟨(some 10), (.mv (.k (.int .i64 0))), none⟩]) .ret) .skip)) (.seq (.reg [⟨(some 25), (.mv (.t 2)), none⟩, ⟨(some 26), (.iad 1 (.t 25)
  (.k (.int .i64 1))), none⟩, ⟨(some 27), (.ld 1 false (.t 26)), none⟩, ⟨(some 28), (.callR (.k (.fn 85 [])) [(.t 27), (.k (.int .i64 1))]), none⟩, ⟨(some 24),
  (.mv (.t 28)), none⟩, ⟨(some 29), (.ext 0 (.t 24)), none⟩, ⟨(some 30), (.ext 1 (.t 24)), none⟩, ⟨(some 11), (.alc [(.str (bytes [])), (.str (bytes []))]),
  none⟩, ⟨none, (.st 2 (.t 11) (.t 29)), none⟩, ⟨(some 12), (.mv (.t 30)), none⟩]) (.seq (.reg [⟨(some 31), (.bsl 2 [(.str (bytes [])), (.str (bytes []))] 0
  []), none⟩, ⟨(some 13), (.mv (.t 31)), none⟩]) (.seq (.seq (.reg [⟨(some 32), (.mv (.t 1)), none⟩, ⟨(some 33), (.len (.t 32)), none⟩, ⟨(some 34), (.mv (.k
  (.int .i64 0))), none⟩]) (.blk 0 (.loop s48_0))) (.seq (.seq (.reg [⟨(some 68), (.mv (.t 0)), none⟩, ⟨(some 69), (.mv (.t 13)), none⟩, ⟨(some 70), (.callR (.k
  (.fn 60 [])) [(.t 68), (.t 69)]), none⟩, ⟨(some 71), (.bin .neq (.t 70) (.k (.int .i64 0))), none⟩]) (.cond (.t 71) (.seq (.reg [⟨(some 8), (.mv (.k (.z
  true))), none⟩, ⟨(some 9), (.mv (.k (.bool false))), none⟩, ⟨(some 10), (.mv (.k (.int .i64 4))), none⟩]) .ret) .skip)) (.seq (.reg [⟨(some 72), (.mv (.t
  13)), none⟩, ⟨(some 8), (.mv (.t 72)), none⟩, ⟨(some 9), (.mv (.k (.bool true))), none⟩, ⟨(some 10), (.mv (.k (.int .i64 0))), none⟩]) .ret)))))))⟩

/- schisma/tradeoff.Between$1 -/
def s49 : SFunc :=
  ⟨3, [(.t 5)], (.seq (.reg [⟨(some 5), (.mv (.k (.int .i64 0))), none⟩]) (.seq (.reg [⟨(some 9), (.fad 0 (.t 2)), none⟩, ⟨(some 10), (.ld 1 false (.t 9)), none⟩,
  ⟨(some 11), (.mv (.t 0)), none⟩, ⟨(some 12), (.mv (.t 1)), none⟩, ⟨(some 13), (.callR (.k (.fn 19 [])) [(.t 10), (.t 11), (.t 12)]), none⟩, ⟨(some 8), (.mv
  (.t 13)), none⟩, ⟨(some 14), (.ext 0 (.t 8)), none⟩, ⟨(some 15), (.ext 1 (.t 8)), none⟩, ⟨(some 6), (.mv (.t 14)), none⟩, ⟨(some 7), (.mv (.t 15)), none⟩])
  (.seq (.reg [⟨(some 16), (.mv (.t 6)), none⟩, ⟨(some 5), (.mv (.t 16)), none⟩]) .ret)))⟩

def s50_0 : SCode :=
  .seq (.seq (.reg [⟨(some 14), (.mv (.t 6)), none⟩, ⟨(some 15), (.mv (.t 0)), none⟩, ⟨(some 16), (.len (.t 15)), none⟩, ⟨(some 17), (.bin .lss (.t 14) (.t 16)),
  none⟩]) (.cond (.t 17) .skip (.exit 0))) (.seq (.blk 1 (.seq (.reg [⟨(some 20), (.mv (.t 1)), none⟩, ⟨(some 21), (.mv (.t 0)), none⟩, ⟨(some 22), (.mv (.t
  6)), none⟩, ⟨(some 23), (.iad 1 (.t 21) (.t 22)), none⟩, ⟨(some 24), (.ld 1 false (.t 23)), none⟩, ⟨(some 25), (.mv (.t 5)), none⟩, ⟨(some 26), (.callW (.t
  20) [(.t 24), (.t 25)]), none⟩, ⟨(some 27), (.bin .lss (.t 26) (.k (.int .i64 0))), none⟩]) (.cond (.t 27) (.reg [⟨(some 28), (.mv (.t 0)), none⟩, ⟨(some 29),
  (.mv (.t 6)), none⟩, ⟨(some 30), (.iad 1 (.t 28) (.t 29)), none⟩, ⟨(some 31), (.ld 1 false (.t 30)), none⟩, ⟨(some 5), (.mv (.t 31)), none⟩]) .skip))) (.reg
  [⟨(some 18), (.mv (.t 6)), none⟩, ⟨(some 19), (.bin .add (.t 18) (.k (.int .i64 1))), none⟩, ⟨(some 6), (.mv (.t 19)), none⟩]))

/- slices.MinFunc[[]schisma/api.Size,schisma/api.Size] -/
def s50 : SFunc :=
  ⟨2, [(.t 4)], (.seq (.reg [⟨(some 4), (.mv (.k (.z true))), none⟩]) (.seq (.seq (.reg [⟨(some 7), (.mv (.t 0)), none⟩, ⟨(some 8), (.len (.t 7)), none⟩, ⟨(some
  9), (.bin .lss (.t 8) (.k (.int .i64 1))), none⟩]) (.cond (.t 9) (.reg [⟨(some 10), (.mki (.k (.str (bytes [115, 108, 105, 99, 101, 115, 46, 77, 105, 110, 70,
  117, 110, 99, 58, 32, 101, 109, 112, 116, 121, 32, 108, 105, 115, 116])))), none⟩, ⟨none, .pan, none⟩]) .skip)) (.seq (.reg [⟨(some 11), (.mv (.t 0)), none⟩,
  ⟨(some 12), (.iad 1 (.t 11) (.k (.int .i64 0))), none⟩, ⟨(some 13), (.ld 1 false (.t 12)), none⟩, ⟨(some 5), (.mv (.t 13)), none⟩]) (.seq (.seq (.reg [⟨(some
  6), (.mv (.k (.int .i64 1))), none⟩]) (.blk 0 (.loop s50_0))) (.seq (.reg [⟨(some 32), (.mv (.t 5)), none⟩, ⟨(some 4), (.mv (.t 32)), none⟩]) .ret)))))⟩

/- slices.Clone[schisma/api.Size,schisma/api.Rational] -/
def s51 : SFunc :=
  ⟨1, [(.t 2)], (.seq (.reg [⟨(some 2), (.mv (.k (.z true))), none⟩]) (.seq (.seq (.reg [⟨(some 3), (.mv (.t 0)), none⟩, ⟨(some 4), (.nilq 1 false (.t 3)),
  none⟩]) (.cond (.t 4) (.seq (.reg [⟨(some 2), (.mv (.k (.z true))), none⟩]) .ret) .skip)) (.seq (.reg [⟨(some 5), (.bsl 2 [(.str (bytes [])), (.str (bytes
  []))] 0 []), none⟩, ⟨(some 6), (.mv (.t 0)), none⟩, ⟨(some 7), (.app 2 (.t 5) (.t 6)), none⟩, ⟨(some 2), (.mv (.t 7)), none⟩]) .ret)))⟩

def s52_0 : SCode :=
  .seq (.seq (.reg [⟨(some 14), (.mv (.t 6)), none⟩, ⟨(some 15), (.mv (.t 0)), none⟩, ⟨(some 16), (.len (.t 15)), none⟩, ⟨(some 17), (.bin .lss (.t 14) (.t 16)),
  none⟩]) (.cond (.t 17) .skip (.exit 0))) (.seq (.blk 1 (.seq (.reg [⟨(some 20), (.mv (.t 1)), none⟩, ⟨(some 21), (.mv (.t 0)), none⟩, ⟨(some 22), (.mv (.t
  6)), none⟩, ⟨(some 23), (.iad 1 (.t 21) (.t 22)), none⟩, ⟨(some 24), (.ld 1 false (.t 23)), none⟩, ⟨(some 25), (.mv (.t 5)), none⟩, ⟨(some 26), (.callW (.t
  20) [(.t 24), (.t 25)]), none⟩, ⟨(some 27), (.bin .gtr (.t 26) (.k (.int .i64 0))), none⟩]) (.cond (.t 27) (.reg [⟨(some 28), (.mv (.t 0)), none⟩, ⟨(some 29),
  (.mv (.t 6)), none⟩, ⟨(some 30), (.iad 1 (.t 28) (.t 29)), none⟩, ⟨(some 31), (.ld 1 false (.t 30)), none⟩, ⟨(some 5), (.mv (.t 31)), none⟩]) .skip))) (.reg
  [⟨(some 18), (.mv (.t 6)), none⟩, ⟨(some 19), (.bin .add (.t 18) (.k (.int .i64 1))), none⟩, ⟨(some 6), (.mv (.t 19)), none⟩]))

/- slices.MaxFunc[[]schisma/api.Size,schisma/api.Size] -/
def s52 : SFunc :=
  ⟨2, [(.t 4)], (.seq (.reg [⟨(some 4), (.mv (.k (.z true))), none⟩]) (.seq (.seq (.reg [⟨(some 7), (.mv (.t 0)), none⟩, ⟨(some 8), (.len (.t 7)), none⟩, ⟨(some
  9), (.bin .lss (.t 8) (.k (.int .i64 1))), none⟩]) (.cond (.t 9) (.reg [⟨(some 10), (.mki (.k (.str (bytes [115, 108, 105, 99, 101, 115, 46, 77, 97, 120, 70,
  117, 110, 99, 58, 32, 101, 109, 112, 116, 121, 32, 108, 105, 115, 116])))), none⟩, ⟨none, .pan, none⟩]) .skip)) (.seq (.reg [⟨(some 11), (.mv (.t 0)), none⟩,
  ⟨(some 12), (.iad 1 (.t 11) (.k (.int .i64 0))), none⟩, ⟨(some 13), (.ld 1 false (.t 12)), none⟩, ⟨(some 5), (.mv (.t 13)), none⟩]) (.seq (.seq (.reg [⟨(some
  6), (.mv (.k (.int .i64 1))), none⟩]) (.blk 0 (.loop s52_0))) (.seq (.reg [⟨(some 32), (.mv (.t 5)), none⟩, ⟨(some 4), (.mv (.t 32)), none⟩]) .ret)))))⟩

def s53_0 : SCode :=
  .seq (.reg [⟨(some 24), (.bin .lss (.t 23) (.t 22)), none⟩]) (.seq (.cond (.t 24) .skip (.exit 0)) (.seq (.blk 1 (.seq (.reg [⟨(some 25), (.iad 1 (.t 21) (.t
  23)), none⟩, ⟨(some 26), (.ld 1 false (.t 25)), none⟩, ⟨(some 9), (.mv (.t 26)), none⟩]) (.seq (.reg [⟨(some 28), (.mv (.t 9)), none⟩, ⟨(some 29), (.callR (.k
  (.fn 93 [])) [(.t 28)]), none⟩, ⟨(some 27), (.mv (.t 29)), none⟩, ⟨(some 30), (.ext 0 (.t 27)), none⟩, ⟨(some 31), (.ext 1 (.t 27)), none⟩, ⟨(some 10), (.mv
  (.t 30)), none⟩, ⟨(some 11), (.mv (.t 31)), none⟩]) (.seq (.seq (.reg [⟨(some 32), (.mv (.t 11)), none⟩, ⟨(some 33), (.un .not (.t 32)), none⟩, ⟨(some 34),
  (.mv (.t 33)), none⟩, ⟨(some 35), (.mv (.t 10)), (some (34, false))⟩, ⟨(some 36), (.bin .gtr (.t 35) (.k (.int .i64 1000000000))), (some (34, false))⟩, ⟨(some
  37), (.pick (.t 34) (.k (.bool true)) (.t 36)), none⟩, ⟨(some 38), (.mv (.t 37)), none⟩, ⟨(some 39), (.mv (.t 10)), (some (38, false))⟩, ⟨(some 40), (.bin
  .lss (.t 39) (.k (.int .i64 (-1000000000)))), (some (38, false))⟩, ⟨(some 41), (.pick (.t 38) (.k (.bool true)) (.t 40)), none⟩]) (.cond (.t 41) (.seq (.reg
  [⟨(some 4), (.mv (.k (.z true))), none⟩, ⟨(some 5), (.mv (.k (.int .i64 4))), none⟩]) .ret) .skip)) (.reg [⟨(some 42), (.mv (.t 7)), none⟩, ⟨(some 43), (.mv
  (.t 10)), none⟩, ⟨(some 44), (.bsl 1 [(.int .i64 0)] 1 [(0, (.t 43))]), none⟩, ⟨(some 45), (.app 1 (.t 42) (.t 44)), none⟩, ⟨(some 7), (.mv (.t 45)),
  none⟩]))))) (.reg [⟨(some 46), (.bin .add (.t 23) (.k (.int .i64 1))), none⟩, ⟨(some 23), (.mv (.t 46)), none⟩])))

/- schisma/temperament.Temper -/
def s53 : SFunc :=
  ⟨2, [(.t 4), (.t 5)], (.seq (.reg [⟨(some 2), (.box 3 (.t 0)), none⟩, ⟨(some 4), (.mv (.k (.z true))), none⟩, ⟨(some 5), (.mv (.k (.int .i64 0))), none⟩]) (.seq
  (.seq (.reg [⟨(some 12), (.ld 3 true (.t 2)), none⟩, ⟨(some 13), (.mv (.t 1)), none⟩, ⟨(some 14), (.bsl 1 [(.z true)] 1 [(0, (.t 13))]), none⟩, ⟨(some 15),
  (.callR (.k (.fn 91 [])) [(.t 12), (.t 14)]), none⟩, ⟨(some 6), (.mv (.t 15)), none⟩]) (.seq (.reg [⟨(some 16), (.mv (.t 6)), none⟩, ⟨(some 17), (.bin .neq
  (.t 16) (.k (.int .i64 0))), none⟩]) (.cond (.t 17) (.seq (.reg [⟨(some 18), (.mv (.t 6)), none⟩, ⟨(some 4), (.mv (.k (.z true))), none⟩, ⟨(some 5), (.mv (.t
  18)), none⟩]) .ret) .skip))) (.seq (.reg [⟨(some 7), (.mv (.k (.z true))), none⟩]) (.seq (.seq (.reg [⟨(some 19), (.ld 3 true (.t 2)), none⟩, ⟨(some 20), (.mv
  (.t 1)), none⟩, ⟨(some 21), (.callR (.k (.fn 92 [])) [(.t 19), (.t 20)]), none⟩, ⟨(some 22), (.len (.t 21)), none⟩, ⟨(some 23), (.mv (.k (.int .i64 0))),
  none⟩]) (.blk 0 (.loop s53_0))) (.seq (.reg [⟨(some 47), (.mv (.t 7)), none⟩, ⟨(some 4), (.mv (.t 47)), none⟩, ⟨(some 5), (.mv (.k (.int .i64 0))), none⟩])
  .ret)))))⟩

def s54_0 : SCode :=
  .seq (.seq (.reg [⟨(some 9), (.mv (.t 8)), none⟩, ⟨(some 10), (.mv (.t 1)), none⟩, ⟨(some 11), (.len (.t 10)), none⟩, ⟨(some 12), (.bin .lss (.t 9) (.t 11)),
  none⟩]) (.cond (.t 12) .skip (.exit 0))) (.seq (.blk 1 (.reg [⟨(some 15), (.mv (.t 6)), none⟩, ⟨(some 16), (.fad 2 (.t 2)), none⟩, ⟨(some 17), (.ld 1 false
  (.t 16)), none⟩, ⟨(some 18), (.iad 1 (.t 17) (.k (.int .i64 0))), none⟩, ⟨(some 19), (.ld 1 false (.t 18)), none⟩, ⟨(some 20), (.mv (.t 8)), none⟩, ⟨(some
  21), (.iad 1 (.t 19) (.t 20)), none⟩, ⟨(some 22), (.ld 1 false (.t 21)), none⟩, ⟨(some 23), (.mv (.t 1)), none⟩, ⟨(some 24), (.mv (.t 8)), none⟩, ⟨(some 25),
  (.iad 1 (.t 23) (.t 24)), none⟩, ⟨(some 26), (.ld 1 false (.t 25)), none⟩, ⟨(some 27), (.bin .mul (.t 22) (.t 26)), none⟩, ⟨(some 28), (.bin .add (.t 15) (.t
  27)), none⟩, ⟨(some 29), (.mv (.t 7)), none⟩, ⟨(some 30), (.fad 2 (.t 2)), none⟩, ⟨(some 31), (.ld 1 false (.t 30)), none⟩, ⟨(some 32), (.iad 1 (.t 31) (.k
  (.int .i64 1))), none⟩, ⟨(some 33), (.ld 1 false (.t 32)), none⟩, ⟨(some 34), (.mv (.t 8)), none⟩, ⟨(some 35), (.iad 1 (.t 33) (.t 34)), none⟩, ⟨(some 36),
  (.ld 1 false (.t 35)), none⟩, ⟨(some 37), (.mv (.t 1)), none⟩, ⟨(some 38), (.mv (.t 8)), none⟩, ⟨(some 39), (.iad 1 (.t 37) (.t 38)), none⟩, ⟨(some 40), (.ld
  1 false (.t 39)), none⟩, ⟨(some 41), (.bin .mul (.t 36) (.t 40)), none⟩, ⟨(some 42), (.bin .add (.t 29) (.t 41)), none⟩, ⟨(some 6), (.mv (.t 28)), none⟩,
  ⟨(some 7), (.mv (.t 42)), none⟩])) (.reg [⟨(some 13), (.mv (.t 8)), none⟩, ⟨(some 14), (.bin .add (.t 13) (.k (.int .i64 1))), none⟩, ⟨(some 8), (.mv (.t
  14)), none⟩]))

/- schisma/schismalaw28.counts -/
def s54 : SFunc :=
  ⟨2, [(.t 4), (.t 5)], (.seq (.reg [⟨(some 2), (.box 3 (.t 0)), none⟩, ⟨(some 4), (.mv (.k (.int .i64 0))), none⟩, ⟨(some 5), (.mv (.k (.int .i64 0))), none⟩])
  (.seq (.reg [⟨(some 6), (.mv (.k (.int .i64 0))), none⟩, ⟨(some 7), (.mv (.k (.int .i64 0))), none⟩]) (.seq (.seq (.reg [⟨(some 8), (.mv (.k (.int .i64 0))),
  none⟩]) (.blk 0 (.loop s54_0))) (.seq (.reg [⟨(some 43), (.mv (.t 6)), none⟩, ⟨(some 44), (.mv (.t 7)), none⟩, ⟨(some 4), (.mv (.t 43)), none⟩, ⟨(some 5),
  (.mv (.t 44)), none⟩]) .ret))))⟩

/- schisma/fraction.Sub -/
def s55 : SFunc :=
  ⟨2, [(.c 4 2 true)], (.seq (.reg [⟨(some 2), (.box 2 (.t 0)), none⟩, ⟨(some 3), (.box 2 (.t 1)), none⟩, ⟨(some 4), (.alc [(.str (bytes [])), (.str (bytes
  []))]), none⟩]) (.seq (.reg [⟨(some 5), (.ld 2 true (.t 2)), none⟩, ⟨(some 6), (.ld 2 true (.t 3)), none⟩, ⟨(some 7), (.callR (.k (.fn 95 [])) [(.t 6)]),
  none⟩, ⟨(some 8), (.callR (.k (.fn 94 [])) [(.t 5), (.t 7)]), none⟩, ⟨none, (.st 2 (.t 4) (.t 8)), none⟩]) .ret))⟩

/- schisma/fraction.Div -/
def s56 : SFunc :=
  ⟨2, [(.c 4 2 true), (.t 5)], (.seq (.reg [⟨(some 2), (.box 2 (.t 0)), none⟩, ⟨(some 3), (.box 2 (.t 1)), none⟩, ⟨(some 4), (.alc [(.str (bytes [])), (.str
  (bytes []))]), none⟩, ⟨(some 5), (.mv (.k (.int .i64 0))), none⟩]) (.seq (.seq (.reg [⟨(some 6), (.ld 2 true (.t 3)), none⟩, ⟨(some 7), (.callR (.k (.fn 79
  [])) [(.t 6)]), none⟩, ⟨(some 8), (.bin .eql (.t 7) (.k (.int .i64 0))), none⟩]) (.cond (.t 8) (.seq (.reg [⟨(some 9), (.bld [(.str (bytes [])), (.str (bytes
  []))] []), none⟩, ⟨none, (.st 2 (.t 4) (.t 9)), none⟩, ⟨(some 5), (.mv (.k (.int .i64 17))), none⟩]) .ret) .skip)) (.seq (.reg [⟨(some 10), (.fad 0 (.t 2)),
  none⟩, ⟨(some 11), (.ld 1 false (.t 10)), none⟩, ⟨(some 12), (.fad 1 (.t 3)), none⟩, ⟨(some 13), (.ld 1 false (.t 12)), none⟩, ⟨(some 14), (.callR (.k (.fn 97
  [])) [(.t 11), (.t 13)]), none⟩, ⟨(some 15), (.fad 1 (.t 2)), none⟩, ⟨(some 16), (.ld 1 false (.t 15)), none⟩, ⟨(some 17), (.fad 0 (.t 3)), none⟩, ⟨(some 18),
  (.ld 1 false (.t 17)), none⟩, ⟨(some 19), (.callR (.k (.fn 97 [])) [(.t 16), (.t 18)]), none⟩, ⟨(some 20), (.callR (.k (.fn 96 [])) [(.t 14), (.t 19)]),
  none⟩, ⟨none, (.st 2 (.t 4) (.t 20)), none⟩, ⟨(some 5), (.mv (.k (.int .i64 0))), none⟩]) .ret)))⟩

def s57_0 : SCode :=
  .seq (.reg [⟨(some 17), (.bin .lss (.t 16) (.t 15)), none⟩]) (.seq (.cond (.t 17) .skip (.exit 0)) (.seq (.blk 1 (.seq (.reg [⟨(some 18), (.iad 1 (.t 14) (.t
  16)), none⟩, ⟨(some 19), (.ld 1 false (.t 18)), none⟩, ⟨(some 7), (.mv (.t 19)), none⟩]) (.seq (.reg [⟨(some 20), (.mv (.t 0)), none⟩, ⟨(some 21), (.mv (.t
  7)), none⟩, ⟨(some 22), (.callR (.k (.fn 98 [])) [(.t 20), (.t 21)]), none⟩, ⟨(some 8), (.mv (.t 22)), none⟩]) (.seq (.reg [⟨(some 23), (.mv (.t 8)), none⟩,
  ⟨(some 24), (.bin .neq (.t 23) (.k (.int .i64 0))), none⟩]) (.cond (.t 24) (.seq (.reg [⟨(some 25), (.mv (.t 8)), none⟩, ⟨(some 4), (.mv (.t 25)), none⟩])
  .ret) .skip))))) (.reg [⟨(some 26), (.bin .add (.t 16) (.k (.int .i64 1))), none⟩, ⟨(some 16), (.mv (.t 26)), none⟩])))

/- schisma/size.CheckAll -/
def s57 : SFunc :=
  ⟨2, [(.t 4)], (.seq (.reg [⟨(some 4), (.mv (.k (.int .i64 0))), none⟩]) (.seq (.seq (.reg [⟨(some 9), (.mv (.t 0)), none⟩, ⟨(some 10), (.callR (.k (.fn 59 []))
  [(.t 9)]), none⟩, ⟨(some 5), (.mv (.t 10)), none⟩]) (.seq (.reg [⟨(some 11), (.mv (.t 5)), none⟩, ⟨(some 12), (.bin .neq (.t 11) (.k (.int .i64 0))), none⟩])
  (.cond (.t 12) (.seq (.reg [⟨(some 13), (.mv (.t 5)), none⟩, ⟨(some 4), (.mv (.t 13)), none⟩]) .ret) .skip))) (.seq (.seq (.reg [⟨(some 14), (.mv (.t 1)),
  none⟩, ⟨(some 15), (.len (.t 14)), none⟩, ⟨(some 16), (.mv (.k (.int .i64 0))), none⟩]) (.blk 0 (.loop s57_0))) (.seq (.reg [⟨(some 4), (.mv (.k (.int .i64
  0))), none⟩]) .ret))))⟩

/- schisma/size.compare -/
def s58 : SFunc :=
  ⟨3, [(.t 6)], (.seq (.reg [⟨(some 6), (.mv (.k (.int .i64 0))), none⟩]) (.seq (.reg [⟨(some 7), (.mv (.t 0)), none⟩, ⟨(some 8), (.mv (.t 0)), none⟩, ⟨(some 9),
  (.len (.t 8)), none⟩, ⟨(some 10), (.mv (.t 1)), none⟩, ⟨(some 11), (.mv (.t 2)), none⟩, ⟨(some 12), (.bsl 1 [(.z true)] 2 [(0, (.t 10)), (1, (.t 11))]),
  none⟩, ⟨(some 13), (.callR (.k (.fn 100 [])) [(.k (.int .i64 1))]), none⟩, ⟨(some 14), (.callR (.k (.fn 100 [])) [(.k (.int .i64 (-1)))]), none⟩, ⟨(some 15),
  (.bsl 2 [(.str (bytes [])), (.str (bytes []))] 2 [(0, (.t 13)), (1, (.t 14))]), none⟩, ⟨(some 16), (.callR (.k (.fn 99 [])) [(.t 9), (.t 12), (.t 15)]),
  none⟩, ⟨(some 17), (.callR (.k (.fn 71 [])) [(.t 7), (.t 16)]), none⟩, ⟨(some 18), (.callR (.k (.fn 72 [])) [(.t 17)]), none⟩, ⟨(some 6), (.mv (.t 18)),
  none⟩]) .ret))⟩

def s59_0 : SCode :=
  .seq (.reg [⟨(some 16), (.bin .lss (.t 15) (.t 14)), none⟩]) (.seq (.cond (.t 16) .skip (.exit 1)) (.seq (.blk 2 (.seq (.reg [⟨(some 17), (.mv (.t 15)), none⟩,
  ⟨(some 18), (.iad 1 (.t 13) (.t 15)), none⟩, ⟨(some 19), (.ld 1 false (.t 18)), none⟩, ⟨(some 3), (.mv (.t 17)), none⟩, ⟨(some 4), (.mv (.t 19)), none⟩])
  (.seq (.seq (.reg [⟨(some 20), (.mv (.t 4)), none⟩, ⟨(some 21), (.callR (.k (.fn 101 [])) [(.t 20)]), none⟩, ⟨(some 22), (.un .not (.t 21)), none⟩]) (.cond
  (.t 22) (.seq (.reg [⟨(some 2), (.mv (.k (.int .i64 25))), none⟩]) .ret) .skip)) (.seq (.reg [⟨(some 23), (.mv (.t 3)), none⟩, ⟨(some 24), (.bin .gtr (.t 23)
  (.k (.int .i64 0))), none⟩, ⟨(some 25), (.mv (.t 24)), none⟩, ⟨(some 26), (.mv (.t 4)), (some (25, true))⟩, ⟨(some 27), (.mv (.t 0)), (some (25, true))⟩,
  ⟨(some 28), (.mv (.t 3)), (some (25, true))⟩, ⟨(some 29), (.bin .sub (.t 28) (.k (.int .i64 1))), (some (25, true))⟩, ⟨(some 30), (.iad 1 (.t 27) (.t 29)),
  (some (25, true))⟩, ⟨(some 31), (.ld 1 false (.t 30)), (some (25, true))⟩, ⟨(some 32), (.bin .leq (.t 26) (.t 31)), (some (25, true))⟩, ⟨(some 33), (.pick (.t
  25) (.t 32) (.k (.bool false))), none⟩]) (.cond (.t 33) (.seq (.reg [⟨(some 2), (.mv (.k (.int .i64 6))), none⟩]) .ret) .skip))))) (.reg [⟨(some 34), (.bin
  .add (.t 15) (.k (.int .i64 1))), none⟩, ⟨(some 15), (.mv (.t 34)), none⟩])))

/- schisma/prime.Check -/
def s59 : SFunc :=
  ⟨1, [(.t 2)], (.seq (.reg [⟨(some 2), (.mv (.k (.int .i64 0))), none⟩]) (.seq (.blk 0 (.seq (.reg [⟨(some 6), (.mv (.t 0)), none⟩, ⟨(some 7), (.len (.t 6)),
  none⟩, ⟨(some 8), (.bin .eql (.t 7) (.k (.int .i64 0))), none⟩, ⟨(some 5), (.mv (.t 8)), none⟩]) (.cond (.t 5) (.seq (.reg [⟨(some 2), (.mv (.k (.int .i64
  13))), none⟩]) .ret) (.seq (.reg [⟨(some 10), (.mv (.t 0)), none⟩, ⟨(some 11), (.len (.t 10)), none⟩, ⟨(some 12), (.bin .gtr (.t 11) (.k (.int .i64 6))),
  none⟩, ⟨(some 9), (.mv (.t 12)), none⟩]) (.cond (.t 9) (.seq (.reg [⟨(some 2), (.mv (.k (.int .i64 4))), none⟩]) .ret) .skip))))) (.seq (.seq (.reg [⟨(some
  13), (.mv (.t 0)), none⟩, ⟨(some 14), (.len (.t 13)), none⟩, ⟨(some 15), (.mv (.k (.int .i64 0))), none⟩]) (.blk 1 (.loop s59_0))) (.seq (.reg [⟨(some 2),
  (.mv (.k (.int .i64 0))), none⟩]) .ret))))⟩

/- schisma/size.Check -/
def s60 : SFunc :=
  ⟨2, [(.t 4)], (.seq (.reg [⟨(some 4), (.mv (.k (.int .i64 0))), none⟩]) (.seq (.seq (.reg [⟨(some 6), (.mv (.t 0)), none⟩, ⟨(some 7), (.callR (.k (.fn 59 []))
  [(.t 6)]), none⟩, ⟨(some 5), (.mv (.t 7)), none⟩]) (.seq (.reg [⟨(some 8), (.mv (.t 5)), none⟩, ⟨(some 9), (.bin .neq (.t 8) (.k (.int .i64 0))), none⟩])
  (.cond (.t 9) (.seq (.reg [⟨(some 10), (.mv (.t 5)), none⟩, ⟨(some 4), (.mv (.t 10)), none⟩]) .ret) .skip))) (.seq (.reg [⟨(some 11), (.mv (.t 0)), none⟩,
  ⟨(some 12), (.mv (.t 1)), none⟩, ⟨(some 13), (.callR (.k (.fn 98 [])) [(.t 11), (.t 12)]), none⟩, ⟨(some 4), (.mv (.t 13)), none⟩]) .ret)))⟩

/- schisma/size.Equal -/
def s62 : SFunc :=
  ⟨2, [(.t 4)], (.seq (.reg [⟨(some 4), (.mv (.k (.bool false))), none⟩]) (.seq (.reg [⟨(some 5), (.mv (.t 0)), none⟩, ⟨(some 6), (.mv (.t 1)), none⟩, ⟨(some 7),
  (.callR (.k (.fn 103 [])) [(.t 5), (.t 6)]), none⟩, ⟨(some 4), (.mv (.t 7)), none⟩]) .ret))⟩

def s63_1 : SCode :=
  .seq (.reg [⟨(some 29), (.bin .lss (.t 28) (.t 27)), none⟩]) (.seq (.cond (.t 29) .skip (.exit 2)) (.seq (.blk 3 (.seq (.reg [⟨(some 30), (.iad 1 (.t 26) (.t
  28)), none⟩, ⟨(some 31), (.ld 1 false (.t 30)), none⟩, ⟨(some 9), (.mv (.t 31)), none⟩]) (.seq (.reg [⟨(some 32), (.mv (.t 9)), none⟩, ⟨(some 33), (.bin .gtr
  (.t 32) (.k (.int .i64 1000))), none⟩, ⟨(some 34), (.mv (.t 33)), none⟩, ⟨(some 35), (.mv (.t 9)), (some (34, false))⟩, ⟨(some 36), (.bin .lss (.t 35) (.k
  (.int .i64 (-1000)))), (some (34, false))⟩, ⟨(some 37), (.pick (.t 34) (.k (.bool true)) (.t 36)), none⟩]) (.cond (.t 37) (.seq (.reg [⟨(some 4), (.mv (.k
  (.int .i64 4))), none⟩]) .ret) .skip)))) (.reg [⟨(some 38), (.bin .add (.t 28) (.k (.int .i64 1))), none⟩, ⟨(some 28), (.mv (.t 38)), none⟩])))

def s63_0 : SCode :=
  .seq (.reg [⟨(some 18), (.bin .lss (.t 17) (.t 16)), none⟩]) (.seq (.cond (.t 18) .skip (.exit 0)) (.seq (.blk 1 (.seq (.reg [⟨(some 19), (.iad 1 (.t 15) (.t
  17)), none⟩, ⟨(some 20), (.ld 1 false (.t 19)), none⟩, ⟨(some 7), (.mv (.t 20)), none⟩]) (.seq (.seq (.reg [⟨(some 21), (.mv (.t 7)), none⟩, ⟨(some 22), (.len
  (.t 21)), none⟩, ⟨(some 23), (.mv (.t 0)), none⟩, ⟨(some 24), (.len (.t 23)), none⟩, ⟨(some 25), (.bin .neq (.t 22) (.t 24)), none⟩]) (.cond (.t 25) (.seq
  (.reg [⟨(some 4), (.mv (.k (.int .i64 5))), none⟩]) .ret) .skip)) (.seq (.reg [⟨(some 26), (.mv (.t 7)), none⟩, ⟨(some 27), (.len (.t 26)), none⟩, ⟨(some 28),
  (.mv (.k (.int .i64 0))), none⟩]) (.blk 2 (.loop s63_1)))))) (.reg [⟨(some 39), (.bin .add (.t 17) (.k (.int .i64 1))), none⟩, ⟨(some 17), (.mv (.t 39)),
  none⟩])))

/- schisma/monzo.CheckAll -/
def s63 : SFunc :=
  ⟨2, [(.t 4)], (.seq (.reg [⟨(some 4), (.mv (.k (.int .i64 0))), none⟩]) (.seq (.seq (.reg [⟨(some 10), (.mv (.t 0)), none⟩, ⟨(some 11), (.callR (.k (.fn 59 []))
  [(.t 10)]), none⟩, ⟨(some 5), (.mv (.t 11)), none⟩]) (.seq (.reg [⟨(some 12), (.mv (.t 5)), none⟩, ⟨(some 13), (.bin .neq (.t 12) (.k (.int .i64 0))), none⟩])
  (.cond (.t 13) (.seq (.reg [⟨(some 14), (.mv (.t 5)), none⟩, ⟨(some 4), (.mv (.t 14)), none⟩]) .ret) .skip))) (.seq (.seq (.reg [⟨(some 15), (.mv (.t 1)),
  none⟩, ⟨(some 16), (.len (.t 15)), none⟩, ⟨(some 17), (.mv (.k (.int .i64 0))), none⟩]) (.blk 0 (.loop s63_0))) (.seq (.reg [⟨(some 4), (.mv (.k (.int .i64
  0))), none⟩]) .ret))))⟩

/- schisma/generator.Of -/
def s64 : SFunc :=
  ⟨1, [(.c 2 3 true), (.t 3)], (.seq (.reg [⟨(some 1), (.box 3 (.t 0)), none⟩, ⟨(some 2), (.alc [(.int .i64 0), (.z true), (.z true)]), none⟩, ⟨(some 3), (.mv (.k
  (.int .i64 0))), none⟩]) (.seq (.seq (.reg [⟨(some 6), (.ld 3 true (.t 1)), none⟩, ⟨(some 7), (.callR (.k (.fn 104 [])) [(.t 6)]), none⟩, ⟨(some 4), (.mv (.t
  7)), none⟩]) (.seq (.reg [⟨(some 8), (.mv (.t 4)), none⟩, ⟨(some 9), (.bin .neq (.t 8) (.k (.int .i64 0))), none⟩]) (.cond (.t 9) (.seq (.reg [⟨(some 10),
  (.bld [(.int .i64 0), (.z true), (.z true)] []), none⟩, ⟨(some 11), (.mv (.t 4)), none⟩, ⟨none, (.st 3 (.t 2) (.t 10)), none⟩, ⟨(some 3), (.mv (.t 11)),
  none⟩]) .ret) .skip))) (.seq (.reg [⟨(some 5), (.mv (.k (.fn 105 []))), none⟩]) (.seq (.reg [⟨(some 12), (.fad 2 (.t 1)), none⟩, ⟨(some 13), (.ld 1 false (.t
  12)), none⟩, ⟨(some 14), (.iad 1 (.t 13) (.k (.int .i64 0))), none⟩, ⟨(some 15), (.ld 1 false (.t 14)), none⟩, ⟨(some 16), (.iad 1 (.t 15) (.k (.int .i64
  0))), none⟩, ⟨(some 17), (.ld 1 false (.t 16)), none⟩, ⟨(some 18), (.mv (.t 5)), none⟩, ⟨(some 19), (.fad 2 (.t 1)), none⟩, ⟨(some 20), (.ld 1 false (.t 19)),
  none⟩, ⟨(some 21), (.iad 1 (.t 20) (.k (.int .i64 0))), none⟩, ⟨(some 22), (.ld 1 false (.t 21)), none⟩, ⟨(some 23), (.callR (.t 18) [(.t 22)]), none⟩, ⟨(some
  24), (.mv (.t 5)), none⟩, ⟨(some 25), (.fad 2 (.t 1)), none⟩, ⟨(some 26), (.ld 1 false (.t 25)), none⟩, ⟨(some 27), (.iad 1 (.t 26) (.k (.int .i64 1))),
  none⟩, ⟨(some 28), (.ld 1 false (.t 27)), none⟩, ⟨(some 29), (.callR (.t 24) [(.t 28)]), none⟩, ⟨(some 30), (.bld [(.int .i64 0), (.z true), (.z true)] [(0,
  (1, (.t 17))), (1, (1, (.t 23))), (2, (1, (.t 29)))]), none⟩, ⟨none, (.st 3 (.t 2) (.t 30)), none⟩, ⟨(some 3), (.mv (.k (.int .i64 0))), none⟩]) .ret))))⟩

/- schisma/tuning.tempered -/
def s68 : SFunc :=
  ⟨2, [(.t 4), (.t 5)], (.seq (.reg [⟨(some 2), (.box 4 (.t 0)), none⟩, ⟨(some 4), (.mv (.k (.z true))), none⟩, ⟨(some 5), (.mv (.k (.int .i64 0))), none⟩]) (.seq
  (.seq (.reg [⟨(some 11), (.ld 4 true (.t 2)), none⟩, ⟨(some 12), (.callR (.k (.fn 108 [])) [(.t 11)]), none⟩, ⟨(some 6), (.mv (.t 12)), none⟩]) (.seq (.reg
  [⟨(some 13), (.mv (.t 6)), none⟩, ⟨(some 14), (.bin .neq (.t 13) (.k (.int .i64 0))), none⟩]) (.cond (.t 14) (.seq (.reg [⟨(some 15), (.mv (.t 6)), none⟩,
  ⟨(some 4), (.mv (.k (.z true))), none⟩, ⟨(some 5), (.mv (.t 15)), none⟩]) .ret) .skip))) (.seq (.reg [⟨(some 16), (.fad 0 (.t 2)), none⟩, ⟨(some 17), (.fad 0
  (.t 16)), none⟩, ⟨(some 18), (.ld 1 false (.t 17)), none⟩, ⟨(some 7), (.mv (.t 18)), none⟩]) (.seq (.seq (.reg [⟨(some 19), (.mv (.t 7)), none⟩, ⟨(some 20),
  (.mv (.t 1)), none⟩, ⟨(some 21), (.callR (.k (.fn 33 [])) [(.t 19), (.t 20)]), none⟩, ⟨(some 8), (.mv (.t 21)), none⟩]) (.seq (.reg [⟨(some 22), (.mv (.t 8)),
  none⟩, ⟨(some 23), (.bin .neq (.t 22) (.k (.int .i64 0))), none⟩]) (.cond (.t 23) (.seq (.reg [⟨(some 24), (.mv (.t 8)), none⟩, ⟨(some 4), (.mv (.k (.z
  true))), none⟩, ⟨(some 5), (.mv (.t 24)), none⟩]) .ret) .skip))) (.seq (.reg [⟨(some 26), (.fad 0 (.t 2)), none⟩, ⟨(some 27), (.ld 3 true (.t 26)), none⟩,
  ⟨(some 28), (.mv (.t 1)), none⟩, ⟨(some 29), (.callR (.k (.fn 53 [])) [(.t 27), (.t 28)]), none⟩, ⟨(some 25), (.mv (.t 29)), none⟩, ⟨(some 30), (.ext 0 (.t
  25)), none⟩, ⟨(some 31), (.ext 1 (.t 25)), none⟩, ⟨(some 9), (.mv (.t 30)), none⟩, ⟨(some 10), (.mv (.t 31)), none⟩]) (.seq (.seq (.reg [⟨(some 32), (.mv (.t
  10)), none⟩, ⟨(some 33), (.bin .neq (.t 32) (.k (.int .i64 0))), none⟩]) (.cond (.t 33) (.seq (.reg [⟨(some 34), (.mv (.t 10)), none⟩, ⟨(some 4), (.mv (.k (.z
  true))), none⟩, ⟨(some 5), (.mv (.t 34)), none⟩]) .ret) .skip)) (.seq (.reg [⟨(some 35), (.mv (.t 7)), none⟩, ⟨(some 36), (.fad 3 (.t 2)), none⟩, ⟨(some 37),
  (.ld 1 false (.t 36)), none⟩, ⟨(some 38), (.mv (.t 9)), none⟩, ⟨(some 39), (.callR (.k (.fn 69 [])) [(.t 38)]), none⟩, ⟨(some 40), (.callW (.k (.fn 109 []))
  [(.t 35), (.t 37), (.t 39)]), none⟩, ⟨(some 4), (.mv (.t 40)), none⟩, ⟨(some 5), (.mv (.k (.int .i64 0))), none⟩]) .ret)))))))⟩

def s69_0 : SCode :=
  .seq (.reg [⟨(some 11), (.bin .lss (.t 10) (.t 9)), none⟩]) (.seq (.cond (.t 11) .skip (.exit 0)) (.seq (.blk 1 (.seq (.reg [⟨(some 12), (.iad 1 (.t 8) (.t
  10)), none⟩, ⟨(some 13), (.ld 1 false (.t 12)), none⟩, ⟨(some 5), (.mv (.t 13)), none⟩]) (.seq (.reg [⟨(some 15), (.mv (.t 5)), none⟩, ⟨(some 16), (.callR (.k
  (.fn 85 [])) [(.t 15), (.k (.int .i64 1))]), none⟩, ⟨(some 14), (.mv (.t 16)), none⟩, ⟨(some 17), (.ext 0 (.t 14)), none⟩, ⟨(some 18), (.ext 1 (.t 14)),
  none⟩, ⟨(some 6), (.alc [(.str (bytes [])), (.str (bytes []))]), none⟩, ⟨none, (.st 2 (.t 6) (.t 17)), none⟩, ⟨(some 7), (.mv (.t 18)), none⟩]) (.reg [⟨(some
  19), (.mv (.t 3)), none⟩, ⟨(some 20), (.ld 2 true (.t 6)), none⟩, ⟨(some 21), (.bsl 2 [(.str (bytes [])), (.str (bytes []))] 1 [(0, (.t 20))]), none⟩, ⟨(some
  22), (.app 2 (.t 19) (.t 21)), none⟩, ⟨(some 3), (.mv (.t 22)), none⟩])))) (.reg [⟨(some 23), (.bin .add (.t 10) (.k (.int .i64 1))), none⟩, ⟨(some 10), (.mv
  (.t 23)), none⟩])))

/- schisma/tuning.numbers -/
def s69 : SFunc :=
  ⟨1, [(.t 2)], (.seq (.reg [⟨(some 2), (.mv (.k (.z true))), none⟩]) (.seq (.reg [⟨(some 3), (.mv (.k (.z true))), none⟩]) (.seq (.seq (.reg [⟨(some 8), (.mv (.t
  0)), none⟩, ⟨(some 9), (.len (.t 8)), none⟩, ⟨(some 10), (.mv (.k (.int .i64 0))), none⟩]) (.blk 0 (.loop s69_0))) (.seq (.reg [⟨(some 24), (.mv (.t 3)),
  none⟩, ⟨(some 2), (.mv (.t 24)), none⟩]) .ret))))⟩

/- schisma/tuning.result -/
def s70 : SFunc :=
  ⟨2, [(.t 4), (.t 5)], (.seq (.reg [⟨(some 4), (.mv (.k (.z true))), none⟩, ⟨(some 5), (.mv (.k (.int .i64 0))), none⟩]) (.seq (.seq (.reg [⟨(some 6), (.mv (.t
  0)), none⟩, ⟨(some 7), (.mv (.t 1)), none⟩, ⟨(some 8), (.callR (.k (.fn 60 [])) [(.t 6), (.t 7)]), none⟩, ⟨(some 9), (.bin .neq (.t 8) (.k (.int .i64 0))),
  none⟩]) (.cond (.t 9) (.seq (.reg [⟨(some 4), (.mv (.k (.z true))), none⟩, ⟨(some 5), (.mv (.k (.int .i64 4))), none⟩]) .ret) .skip)) (.seq (.reg [⟨(some 10),
  (.mv (.t 1)), none⟩, ⟨(some 4), (.mv (.t 10)), none⟩, ⟨(some 5), (.mv (.k (.int .i64 0))), none⟩]) .ret)))⟩

def s71_0 : SCode :=
  .seq (.reg [⟨(some 17), (.bin .lss (.t 16) (.t 15)), none⟩]) (.seq (.cond (.t 17) .skip (.exit 0)) (.seq (.blk 1 (.seq (.reg [⟨(some 18), (.iad 2 (.t 14) (.t
  16)), none⟩, ⟨(some 19), (.ld 2 true (.t 18)), none⟩, ⟨(some 7), (.alc [(.str (bytes [])), (.str (bytes []))]), none⟩, ⟨none, (.st 2 (.t 7) (.t 19)), none⟩])
  (.reg [⟨(some 20), (.fad 2 (.t 5)), none⟩, ⟨(some 21), (.ld 1 false (.t 20)), none⟩, ⟨(some 22), (.fad 1 (.t 7)), none⟩, ⟨(some 23), (.ld 1 false (.t 22)),
  none⟩, ⟨(some 24), (.callR (.k (.fn 110 [])) [(.t 21), (.t 23)]), none⟩, ⟨(some 25), (.fad 2 (.t 5)), none⟩, ⟨none, (.st 1 (.t 25) (.t 24)), none⟩]))) (.reg
  [⟨(some 26), (.bin .add (.t 16) (.k (.int .i64 1))), none⟩, ⟨(some 16), (.mv (.t 26)), none⟩])))

def s71_1 : SCode :=
  .seq (.reg [⟨(some 30), (.bin .lss (.t 29) (.t 28)), none⟩]) (.seq (.cond (.t 30) .skip (.exit 2)) (.seq (.blk 3 (.seq (.reg [⟨(some 31), (.mv (.t 29)), none⟩,
  ⟨(some 32), (.iad 2 (.t 27) (.t 29)), none⟩, ⟨(some 33), (.ld 2 true (.t 32)), none⟩, ⟨(some 9), (.alc [(.str (bytes [])), (.str (bytes []))]), none⟩, ⟨(some
  8), (.mv (.t 31)), none⟩, ⟨none, (.st 2 (.t 9) (.t 33)), none⟩]) (.seq (.reg [⟨(some 34), (.fad 0 (.t 9)), none⟩, ⟨(some 35), (.ld 1 false (.t 34)), none⟩,
  ⟨(some 36), (.bin .neq (.t 35) (.k (.str (bytes [48])))), none⟩]) (.cond (.t 36) (.seq (.reg [⟨(some 38), (.fad 2 (.t 5)), none⟩, ⟨(some 39), (.ld 1 false (.t
  38)), none⟩, ⟨(some 40), (.fad 1 (.t 9)), none⟩, ⟨(some 41), (.ld 1 false (.t 40)), none⟩, ⟨(some 42), (.callR (.k (.fn 111 [])) [(.t 39), (.t 41)]), none⟩,
  ⟨(some 37), (.mv (.t 42)), none⟩, ⟨(some 43), (.ext 0 (.t 37)), none⟩, ⟨(some 44), (.ext 1 (.t 37)), none⟩, ⟨(some 45), (.ext 2 (.t 37)), none⟩, ⟨(some 10),
  (.mv (.t 43)), none⟩, ⟨(some 11), (.mv (.t 44)), none⟩, ⟨(some 12), (.mv (.t 45)), none⟩]) (.reg [⟨(some 46), (.fad 0 (.t 5)), none⟩, ⟨(some 47), (.ld 1 false
  (.t 46)), none⟩, ⟨(some 48), (.mv (.t 0)), none⟩, ⟨(some 49), (.mv (.t 8)), none⟩, ⟨(some 50), (.iad 1 (.t 48) (.t 49)), none⟩, ⟨(some 51), (.ld 1 false (.t
  50)), none⟩, ⟨(some 52), (.bsl 1 [(.int .i64 0)] 1 [(0, (.t 51))]), none⟩, ⟨(some 53), (.app 1 (.t 47) (.t 52)), none⟩, ⟨(some 54), (.fad 1 (.t 5)), none⟩,
  ⟨(some 55), (.ld 1 false (.t 54)), none⟩, ⟨(some 56), (.fad 0 (.t 9)), none⟩, ⟨(some 57), (.ld 1 false (.t 56)), none⟩, ⟨(some 58), (.mv (.t 10)), none⟩,
  ⟨(some 59), (.callR (.k (.fn 97 [])) [(.t 57), (.t 58)]), none⟩, ⟨(some 60), (.bsl 1 [(.str (bytes []))] 1 [(0, (.t 59))]), none⟩, ⟨(some 61), (.app 1 (.t 55)
  (.t 60)), none⟩, ⟨(some 62), (.fad 0 (.t 5)), none⟩, ⟨none, (.st 1 (.t 62) (.t 53)), none⟩, ⟨(some 63), (.fad 1 (.t 5)), none⟩, ⟨none, (.st 1 (.t 63) (.t
  61)), none⟩])) .skip)))) (.reg [⟨(some 64), (.bin .add (.t 29) (.k (.int .i64 1))), none⟩, ⟨(some 29), (.mv (.t 64)), none⟩])))

/- schisma/size.termsOf -/
def s71 : SFunc :=
  ⟨2, [(.c 4 3 true)], (.seq (.reg [⟨(some 4), (.alc [(.z true), (.z true), (.str (bytes []))]), none⟩]) (.seq (.reg [⟨(some 13), (.bld [(.z true), (.z true),
  (.str (bytes []))] [(2, (1, (.k (.str (bytes [49])))))]), none⟩, ⟨(some 5), (.alc [(.z true), (.z true), (.str (bytes []))]), none⟩, ⟨none, (.st 3 (.t 5) (.t
  13)), none⟩]) (.seq (.seq (.reg [⟨(some 14), (.mv (.t 1)), none⟩, ⟨(some 15), (.len (.t 14)), none⟩, ⟨(some 16), (.mv (.k (.int .i64 0))), none⟩]) (.blk 0
  (.loop s71_0))) (.seq (.seq (.reg [⟨(some 27), (.mv (.t 1)), none⟩, ⟨(some 28), (.len (.t 27)), none⟩, ⟨(some 29), (.mv (.k (.int .i64 0))), none⟩]) (.blk 2
  (.loop s71_1))) (.seq (.reg [⟨(some 65), (.ld 3 true (.t 5)), none⟩, ⟨none, (.st 3 (.t 4) (.t 65)), none⟩]) .ret)))))⟩

def s72_0 : SCode :=
  .seq (.blk 1 (.seq (.reg [⟨(some 19), (.ld 3 true (.t 1)), none⟩, ⟨(some 20), (.mv (.t 4)), none⟩, ⟨(some 21), (.callR (.k (.fn 113 [])) [(.t 19), (.t 20)]),
  none⟩, ⟨(some 18), (.mv (.t 21)), none⟩, ⟨(some 22), (.ext 0 (.t 18)), none⟩, ⟨(some 23), (.ext 1 (.t 18)), none⟩, ⟨(some 5), (.mv (.t 22)), none⟩, ⟨(some 6),
  (.mv (.t 23)), none⟩]) (.seq (.blk 2 (.seq (.reg [⟨(some 25), (.mv (.t 5)), none⟩, ⟨(some 26), (.callR (.k (.fn 114 [])) [(.t 25)]), none⟩, ⟨(some 27), (.bin
  .geq (.t 26) (.k (.int .i64 0))), none⟩, ⟨(some 24), (.mv (.t 27)), none⟩]) (.cond (.t 24) (.seq (.reg [⟨(some 2), (.mv (.k (.int .i64 1))), none⟩]) .ret)
  (.seq (.reg [⟨(some 29), (.mv (.t 6)), none⟩, ⟨(some 30), (.callR (.k (.fn 114 [])) [(.t 29)]), none⟩, ⟨(some 31), (.bin .leq (.t 30) (.k (.int .i64 0))),
  none⟩, ⟨(some 28), (.mv (.t 31)), none⟩]) (.cond (.t 28) (.seq (.reg [⟨(some 2), (.mv (.k (.int .i64 (-1)))), none⟩]) .ret) .skip))))) (.exit 1)))) (.reg
  [⟨(some 16), (.mv (.t 4)), none⟩, ⟨(some 17), (.bin .mul (.t 16) (.k (.int .i64 2))), none⟩, ⟨(some 4), (.mv (.t 17)), none⟩])

/- (schisma/size.terms).sign -/
def s72 : SFunc :=
  ⟨1, [(.t 2)], (.seq (.reg [⟨(some 1), (.box 3 (.t 0)), none⟩, ⟨(some 2), (.mv (.k (.int .i64 0))), none⟩]) (.seq (.seq (.reg [⟨(some 7), (.fad 0 (.t 1)), none⟩,
  ⟨(some 8), (.ld 1 false (.t 7)), none⟩, ⟨(some 9), (.len (.t 8)), none⟩, ⟨(some 10), (.bin .eql (.t 9) (.k (.int .i64 0))), none⟩]) (.cond (.t 10) (.seq (.reg
  [⟨(some 2), (.mv (.k (.int .i64 0))), none⟩]) .ret) .skip)) (.seq (.seq (.reg [⟨(some 11), (.ld 3 true (.t 1)), none⟩, ⟨(some 12), (.callR (.k (.fn 112 []))
  [(.t 11)]), none⟩, ⟨(some 3), (.mv (.t 12)), none⟩]) (.seq (.reg [⟨(some 13), (.mv (.t 3)), none⟩, ⟨(some 14), (.bin .neq (.t 13) (.k (.int .i64 0))), none⟩])
  (.cond (.t 14) (.seq (.reg [⟨(some 15), (.mv (.t 3)), none⟩, ⟨(some 2), (.mv (.t 15)), none⟩]) .ret) .skip))) (.seq .skip (.seq (.reg [⟨(some 4), (.mv (.k
  (.int .i64 64))), none⟩]) (.blk 0 (.loop s72_0)))))))⟩

/- schisma/schismalaw25.part -/
def s73 : SFunc :=
  ⟨2, [(.c 4 2 true)], (.seq (.reg [⟨(some 4), (.alc [(.str (bytes [])), (.str (bytes []))]), none⟩]) (.seq (.reg [⟨(some 8), (.mv (.t 0)), none⟩, ⟨(some 9), (.mv
  (.t 1)), none⟩, ⟨(some 10), (.callR (.k (.fn 85 [])) [(.t 8), (.t 9)]), none⟩, ⟨(some 7), (.mv (.t 10)), none⟩, ⟨(some 11), (.ext 0 (.t 7)), none⟩, ⟨(some
  12), (.ext 1 (.t 7)), none⟩, ⟨(some 5), (.alc [(.str (bytes [])), (.str (bytes []))]), none⟩, ⟨none, (.st 2 (.t 5) (.t 11)), none⟩, ⟨(some 6), (.mv (.t 12)),
  none⟩]) (.seq (.reg [⟨(some 13), (.ld 2 true (.t 5)), none⟩, ⟨none, (.st 2 (.t 4) (.t 13)), none⟩]) .ret)))⟩

/- schisma/damage.Of -/
def s74 : SFunc :=
  ⟨2, [(.t 4), (.t 5)], (.seq (.reg [⟨(some 2), (.box 4 (.t 0)), none⟩, ⟨(some 3), (.box 3 (.t 1)), none⟩, ⟨(some 4), (.mv (.k (.z true))), none⟩, ⟨(some 5), (.mv
  (.k (.int .i64 0))), none⟩]) (.seq (.reg [⟨(some 9), (.ld 4 true (.t 2)), none⟩, ⟨(some 10), (.ld 3 true (.t 3)), none⟩, ⟨(some 11), (.bsl 3 [(.z true), (.str
  (bytes [])), (.str (bytes []))] 1 [(0, (.t 10))]), none⟩, ⟨(some 12), (.callR (.k (.fn 115 [])) [(.t 9), (.t 11)]), none⟩, ⟨(some 8), (.mv (.t 12)), none⟩,
  ⟨(some 13), (.ext 0 (.t 8)), none⟩, ⟨(some 14), (.ext 1 (.t 8)), none⟩, ⟨(some 6), (.mv (.t 13)), none⟩, ⟨(some 7), (.mv (.t 14)), none⟩]) (.seq (.seq (.reg
  [⟨(some 15), (.mv (.t 7)), none⟩, ⟨(some 16), (.bin .neq (.t 15) (.k (.int .i64 0))), none⟩]) (.cond (.t 16) (.seq (.reg [⟨(some 17), (.mv (.t 7)), none⟩,
  ⟨(some 4), (.mv (.k (.z true))), none⟩, ⟨(some 5), (.mv (.t 17)), none⟩]) .ret) .skip)) (.seq (.reg [⟨(some 18), (.mv (.t 6)), none⟩, ⟨(some 19), (.iad 1 (.t
  18) (.k (.int .i64 0))), none⟩, ⟨(some 20), (.ld 1 false (.t 19)), none⟩, ⟨(some 4), (.mv (.t 20)), none⟩, ⟨(some 5), (.mv (.k (.int .i64 0))), none⟩])
  .ret))))⟩

/- schisma/schismalaw25.meantone -/
def s75 : SFunc :=
  ⟨0, [(.c 0 4 true)], (.seq (.reg [⟨(some 0), (.alc [(.z true), (.z true), (.z true), (.z true)]), none⟩]) (.seq (.reg [⟨(some 3), (.callR (.k (.fn 73 [])) [(.k
  (.int .i64 0)), (.k (.int .i64 1))]), none⟩, ⟨(some 4), (.callR (.k (.fn 73 [])) [(.k (.int .i64 1)), (.k (.int .i64 1))]), none⟩, ⟨(some 1), (.alc [(.str
  (bytes [])), (.str (bytes []))]), none⟩, ⟨(some 2), (.alc [(.str (bytes [])), (.str (bytes []))]), none⟩, ⟨none, (.st 2 (.t 1) (.t 3)), none⟩, ⟨none, (.st 2
  (.t 2) (.t 4)), none⟩]) (.seq (.reg [⟨(some 5), (.bsl 1 [(.int .i64 0)] 3 [(0, (.k (.int .i64 2))), (1, (.k (.int .i64 3))), (2, (.k (.int .i64 5)))]), none⟩,
  ⟨(some 6), (.bsl 1 [(.int .i64 0)] 3 [(0, (.k (.int .i64 4))), (1, (.k (.int .i64 (-4)))), (2, (.k (.int .i64 1)))]), none⟩, ⟨(some 7), (.bsl 1 [(.z true)] 1
  [(0, (.t 6))]), none⟩, ⟨(some 8), (.bsl 1 [(.int .i64 0)] 3 [(0, (.k (.int .i64 1))), (1, (.k (.int .i64 0))), (2, (.k (.int .i64 (-4))))]), none⟩, ⟨(some 9),
  (.bsl 1 [(.int .i64 0)] 3 [(0, (.k (.int .i64 0))), (1, (.k (.int .i64 1))), (2, (.k (.int .i64 4)))]), none⟩, ⟨(some 10), (.bsl 1 [(.z true)] 2 [(0, (.t 8)),
  (1, (.t 9))]), none⟩, ⟨(some 11), (.bld [(.z true), (.z true), (.z true)] [(0, (1, (.t 5))), (1, (1, (.t 7))), (2, (1, (.t 10)))]), none⟩, ⟨(some 12), (.ld 2
  true (.t 2)), none⟩, ⟨(some 13), (.ld 2 true (.t 1)), none⟩, ⟨(some 14), (.ld 2 true (.t 1)), none⟩, ⟨(some 15), (.bsl 2 [(.str (bytes [])), (.str (bytes
  []))] 3 [(0, (.t 12)), (1, (.t 13)), (2, (.t 14))]), none⟩, ⟨(some 16), (.ld 2 true (.t 2)), none⟩, ⟨(some 17), (.ld 2 true (.t 1)), none⟩, ⟨(some 18),
  (.callR (.k (.fn 73 [])) [(.k (.int .i64 1)), (.k (.int .i64 4))]), none⟩, ⟨(some 19), (.bsl 2 [(.str (bytes [])), (.str (bytes []))] 3 [(0, (.t 16)), (1, (.t
  17)), (2, (.t 18))]), none⟩, ⟨(some 20), (.bsl 1 [(.z true)] 2 [(0, (.t 15)), (1, (.t 19))]), none⟩, ⟨(some 21), (.bld [(.z true), (.z true), (.z true), (.z
  true)] [(0, (3, (.t 11))), (3, (1, (.t 20)))]), none⟩, ⟨none, (.st 4 (.t 0) (.t 21)), none⟩]) .ret)))⟩

def s76_0 : SCode :=
  .seq (.reg [⟨(some 25), (.bin .lss (.t 24) (.t 23)), none⟩]) (.seq (.cond (.t 25) .skip (.exit 0)) (.seq (.blk 1 (.seq (.reg [⟨(some 26), (.iad 5 (.t 22) (.t
  24)), none⟩, ⟨(some 27), (.ld 5 true (.t 26)), none⟩, ⟨(some 9), (.alc [(.z true), (.str (bytes [])), (.str (bytes [])), (.z true), (.int .i64 0)]), none⟩,
  ⟨none, (.st 5 (.t 9) (.t 27)), none⟩]) (.seq (.reg [⟨(some 28), (.fad 3 (.t 9)), none⟩, ⟨(some 29), (.ld 1 false (.t 28)), none⟩, ⟨(some 30), (.mv (.t 7)),
  none⟩, ⟨(some 31), (.iad 5 (.t 30) (.k (.int .i64 0))), none⟩, ⟨(some 32), (.fad 3 (.t 31)), none⟩, ⟨(some 33), (.ld 1 false (.t 32)), none⟩, ⟨(some 34),
  (.callR (.k (.fn 62 [])) [(.t 29), (.t 33)]), none⟩]) (.cond (.t 34) (.reg [⟨(some 35), (.mv (.t 5)), none⟩, ⟨(some 36), (.fad 4 (.t 9)), none⟩, ⟨(some 37),
  (.ld 1 false (.t 36)), none⟩, ⟨(some 38), (.bsl 1 [(.int .i64 0)] 1 [(0, (.t 37))]), none⟩, ⟨(some 39), (.app 1 (.t 35) (.t 38)), none⟩, ⟨(some 5), (.mv (.t
  39)), none⟩]) .skip)))) (.reg [⟨(some 40), (.bin .add (.t 24) (.k (.int .i64 1))), none⟩, ⟨(some 24), (.mv (.t 40)), none⟩])))

/- schisma/damage.Greatest -/
def s76 : SFunc :=
  ⟨2, [(.t 4), (.t 5), (.t 6)], (.seq (.reg [⟨(some 2), (.box 4 (.t 0)), none⟩, ⟨(some 4), (.mv (.k (.z true))), none⟩, ⟨(some 5), (.mv (.k (.z true))), none⟩,
  ⟨(some 6), (.mv (.k (.int .i64 0))), none⟩]) (.seq (.reg [⟨(some 11), (.ld 4 true (.t 2)), none⟩, ⟨(some 12), (.mv (.t 1)), none⟩, ⟨(some 13), (.callR (.k
  (.fn 116 [])) [(.t 11), (.t 12)]), none⟩, ⟨(some 10), (.mv (.t 13)), none⟩, ⟨(some 14), (.ext 0 (.t 10)), none⟩, ⟨(some 15), (.ext 1 (.t 10)), none⟩, ⟨(some
  7), (.mv (.t 14)), none⟩, ⟨(some 6), (.mv (.t 15)), none⟩]) (.seq (.seq (.reg [⟨(some 16), (.mv (.t 6)), none⟩, ⟨(some 17), (.bin .neq (.t 16) (.k (.int .i64
  0))), none⟩]) (.cond (.t 17) (.seq (.reg [⟨(some 18), (.mv (.t 6)), none⟩, ⟨(some 4), (.mv (.k (.z true))), none⟩, ⟨(some 5), (.mv (.k (.z true))), none⟩,
  ⟨(some 6), (.mv (.t 18)), none⟩]) .ret) .skip)) (.seq (.seq (.reg [⟨(some 19), (.mv (.t 7)), none⟩, ⟨(some 20), (.len (.t 19)), none⟩, ⟨(some 21), (.bin .eql
  (.t 20) (.k (.int .i64 0))), none⟩]) (.cond (.t 21) (.seq (.reg [⟨(some 4), (.mv (.k (.z true))), none⟩, ⟨(some 5), (.mv (.k (.z true))), none⟩, ⟨(some 6),
  (.mv (.k (.int .i64 13))), none⟩]) .ret) .skip)) (.seq (.seq (.reg [⟨(some 22), (.mv (.t 7)), none⟩, ⟨(some 23), (.len (.t 22)), none⟩, ⟨(some 24), (.mv (.k
  (.int .i64 0))), none⟩]) (.blk 0 (.loop s76_0))) (.seq (.reg [⟨(some 41), (.mv (.t 7)), none⟩, ⟨(some 42), (.iad 5 (.t 41) (.k (.int .i64 0))), none⟩, ⟨(some
  43), (.fad 3 (.t 42)), none⟩, ⟨(some 44), (.ld 1 false (.t 43)), none⟩, ⟨(some 45), (.mv (.t 5)), none⟩, ⟨(some 4), (.mv (.t 44)), none⟩, ⟨(some 5), (.mv (.t
  45)), none⟩, ⟨(some 6), (.mv (.k (.int .i64 0))), none⟩]) .ret))))))⟩

def s77_0 : SCode :=
  .seq (.reg [⟨(some 23), (.bin .lss (.t 22) (.t 21)), none⟩]) (.seq (.cond (.t 23) .skip (.exit 0)) (.seq (.blk 1 (.seq (.reg [⟨(some 24), (.mv (.t 22)), none⟩,
  ⟨(some 25), (.iad 1 (.t 20) (.t 22)), none⟩, ⟨(some 26), (.ld 1 false (.t 25)), none⟩, ⟨(some 9), (.mv (.t 24)), none⟩, ⟨(some 10), (.mv (.t 26)), none⟩])
  (.seq (.reg [⟨(some 27), (.mv (.t 10)), none⟩, ⟨(some 28), (.callW (.k (.fn 117 [])) [(.t 27), (.k (.fn 118 []))]), none⟩, ⟨(some 29), (.un .not (.t 28)),
  none⟩]) (.cond (.t 29) (.reg [⟨(some 30), (.mv (.t 8)), none⟩, ⟨(some 31), (.mv (.t 9)), none⟩, ⟨(some 32), (.bsl 1 [(.int .i64 0)] 1 [(0, (.t 31))]), none⟩,
  ⟨(some 33), (.app 1 (.t 30) (.t 32)), none⟩, ⟨(some 8), (.mv (.t 33)), none⟩]) .skip)))) (.reg [⟨(some 34), (.bin .add (.t 22) (.k (.int .i64 1))), none⟩,
  ⟨(some 22), (.mv (.t 34)), none⟩])))

/- schisma/damage.Pure -/
def s77 : SFunc :=
  ⟨2, [(.t 4), (.t 5)], (.seq (.reg [⟨(some 2), (.box 4 (.t 0)), none⟩, ⟨(some 4), (.mv (.k (.z true))), none⟩, ⟨(some 5), (.mv (.k (.int .i64 0))), none⟩]) (.seq
  (.reg [⟨(some 12), (.ld 4 true (.t 2)), none⟩, ⟨(some 13), (.mv (.t 1)), none⟩, ⟨(some 14), (.callR (.k (.fn 115 [])) [(.t 12), (.t 13)]), none⟩, ⟨(some 11),
  (.mv (.t 14)), none⟩, ⟨(some 15), (.ext 0 (.t 11)), none⟩, ⟨(some 16), (.ext 1 (.t 11)), none⟩, ⟨(some 6), (.mv (.t 15)), none⟩, ⟨(some 7), (.mv (.t 16)),
  none⟩]) (.seq (.seq (.reg [⟨(some 17), (.mv (.t 7)), none⟩, ⟨(some 18), (.bin .neq (.t 17) (.k (.int .i64 0))), none⟩]) (.cond (.t 18) (.seq (.reg [⟨(some
  19), (.mv (.t 7)), none⟩, ⟨(some 4), (.mv (.k (.z true))), none⟩, ⟨(some 5), (.mv (.t 19)), none⟩]) .ret) .skip)) (.seq (.reg [⟨(some 8), (.mv (.k (.z
  true))), none⟩]) (.seq (.seq (.reg [⟨(some 20), (.mv (.t 6)), none⟩, ⟨(some 21), (.len (.t 20)), none⟩, ⟨(some 22), (.mv (.k (.int .i64 0))), none⟩]) (.blk 0
  (.loop s77_0))) (.seq (.reg [⟨(some 35), (.mv (.t 8)), none⟩, ⟨(some 4), (.mv (.t 35)), none⟩, ⟨(some 5), (.mv (.k (.int .i64 0))), none⟩]) .ret))))))⟩

/- schisma/fraction.Check -/
def s78 : SFunc :=
  ⟨1, [(.t 2)], (.seq (.reg [⟨(some 1), (.box 2 (.t 0)), none⟩, ⟨(some 2), (.mv (.k (.int .i64 0))), none⟩]) (.seq (.blk 0 (.seq (.seq (.reg [⟨(some 4), (.fad 0
  (.t 1)), none⟩, ⟨(some 5), (.ld 1 false (.t 4)), none⟩, ⟨(some 6), (.callR (.k (.fn 119 [])) [(.t 5)]), none⟩, ⟨(some 7), (.bin .neq (.t 6) (.k (.int .i64
  0))), none⟩, ⟨(some 3), (.mv (.t 7)), none⟩]) (.cond (.t 3) .skip (.reg [⟨(some 8), (.fad 1 (.t 1)), none⟩, ⟨(some 9), (.ld 1 false (.t 8)), none⟩, ⟨(some
  10), (.callR (.k (.fn 119 [])) [(.t 9)]), none⟩, ⟨(some 11), (.bin .neq (.t 10) (.k (.int .i64 0))), none⟩, ⟨(some 3), (.mv (.t 11)), none⟩]))) (.cond (.t 3)
  (.seq (.reg [⟨(some 2), (.mv (.k (.int .i64 2))), none⟩]) .ret) (.seq (.seq (.reg [⟨(some 13), (.fad 1 (.t 1)), none⟩, ⟨(some 14), (.ld 1 false (.t 13)),
  none⟩, ⟨(some 15), (.callR (.k (.fn 114 [])) [(.t 14)]), none⟩, ⟨(some 16), (.bin .leq (.t 15) (.k (.int .i64 0))), none⟩, ⟨(some 12), (.mv (.t 16)), none⟩])
  (.cond (.t 12) .skip (.reg [⟨(some 17), (.fad 0 (.t 1)), none⟩, ⟨(some 18), (.ld 1 false (.t 17)), none⟩, ⟨(some 19), (.fad 1 (.t 1)), none⟩, ⟨(some 20), (.ld
  1 false (.t 19)), none⟩, ⟨(some 21), (.callR (.k (.fn 120 [])) [(.t 18), (.t 20)]), none⟩, ⟨(some 22), (.bin .neq (.t 21) (.k (.str (bytes [49])))), none⟩,
  ⟨(some 12), (.mv (.t 22)), none⟩]))) (.cond (.t 12) (.seq (.reg [⟨(some 2), (.mv (.k (.int .i64 2))), none⟩]) .ret) .skip))))) (.seq (.reg [⟨(some 2), (.mv
  (.k (.int .i64 0))), none⟩]) .ret)))⟩

/- schisma/fraction.Sign -/
def s79 : SFunc :=
  ⟨1, [(.t 2)], (.seq (.reg [⟨(some 1), (.box 2 (.t 0)), none⟩, ⟨(some 2), (.mv (.k (.int .i64 0))), none⟩]) (.seq (.reg [⟨(some 3), (.fad 0 (.t 1)), none⟩,
  ⟨(some 4), (.ld 1 false (.t 3)), none⟩, ⟨(some 5), (.callR (.k (.fn 114 [])) [(.t 4)]), none⟩, ⟨(some 2), (.mv (.t 5)), none⟩]) .ret))⟩

/- schisma/whole.Abs -/
def s80 : SFunc :=
  ⟨1, [(.t 2)], (.seq (.reg [⟨(some 2), (.mv (.k (.str (bytes [])))), none⟩]) (.seq (.reg [⟨(some 6), (.mv (.t 0)), none⟩, ⟨(some 7), (.callR (.k (.fn 121 []))
  [(.t 6)]), none⟩, ⟨(some 5), (.mv (.t 7)), none⟩, ⟨(some 8), (.ext 0 (.t 5)), none⟩, ⟨(some 9), (.ext 1 (.t 5)), none⟩, ⟨(some 3), (.mv (.t 8)), none⟩, ⟨(some
  4), (.mv (.t 9)), none⟩]) (.seq (.reg [⟨(some 10), (.mv (.t 4)), none⟩, ⟨(some 2), (.mv (.t 10)), none⟩]) .ret)))⟩

def s81_0 : SCode :=
  .seq (.reg [⟨(some 18), (.bin .lss (.t 17) (.t 16)), none⟩]) (.seq (.cond (.t 18) .skip (.exit 0)) (.seq (.blk 1 (.seq (.reg [⟨(some 19), (.mv (.t 17)), none⟩,
  ⟨(some 20), (.iad 3 (.t 15) (.t 17)), none⟩, ⟨(some 21), (.ld 3 true (.t 20)), none⟩, ⟨(some 8), (.alc [(.z true), (.str (bytes [])), (.str (bytes []))]),
  none⟩, ⟨(some 7), (.mv (.t 19)), none⟩, ⟨none, (.st 3 (.t 8) (.t 21)), none⟩]) (.seq (.reg [⟨(some 22), (.mv (.t 1)), none⟩, ⟨(some 23), (.mv (.t 7)), none⟩,
  ⟨(some 24), (.iad 3 (.t 22) (.t 23)), none⟩, ⟨(some 25), (.ld 3 true (.t 24)), none⟩, ⟨(some 9), (.alc [(.z true), (.str (bytes [])), (.str (bytes []))]),
  none⟩, ⟨none, (.st 3 (.t 9) (.t 25)), none⟩]) (.seq (.reg [⟨(some 26), (.mv (.t 2)), none⟩, ⟨(some 27), (.ld 3 true (.t 8)), none⟩, ⟨(some 28), (.ld 3 true
  (.t 9)), none⟩, ⟨(some 29), (.callW (.t 26) [(.t 27), (.t 28)]), none⟩, ⟨(some 30), (.un .not (.t 29)), none⟩]) (.cond (.t 30) (.seq (.reg [⟨(some 6), (.mv
  (.k (.bool false))), none⟩]) .ret) .skip))))) (.reg [⟨(some 31), (.bin .add (.t 17) (.k (.int .i64 1))), none⟩, ⟨(some 17), (.mv (.t 31)), none⟩])))

/- slices.EqualFunc[[]schisma/api.Target,[]schisma/api.Target,schisma/api.Target,schisma/api.Target] -/
def s81 : SFunc :=
  ⟨3, [(.t 6)], (.seq (.reg [⟨(some 6), (.mv (.k (.bool false))), none⟩]) (.seq (.seq (.reg [⟨(some 10), (.mv (.t 0)), none⟩, ⟨(some 11), (.len (.t 10)), none⟩,
  ⟨(some 12), (.mv (.t 1)), none⟩, ⟨(some 13), (.len (.t 12)), none⟩, ⟨(some 14), (.bin .neq (.t 11) (.t 13)), none⟩]) (.cond (.t 14) (.seq (.reg [⟨(some 6),
  (.mv (.k (.bool false))), none⟩]) .ret) .skip)) (.seq (.seq (.reg [⟨(some 15), (.mv (.t 0)), none⟩, ⟨(some 16), (.len (.t 15)), none⟩, ⟨(some 17), (.mv (.k
  (.int .i64 0))), none⟩]) (.blk 0 (.loop s81_0))) (.seq (.reg [⟨(some 6), (.mv (.k (.bool true))), none⟩]) .ret))))⟩

/- schisma/damage.Equal$1 -/
def s82 : SFunc :=
  ⟨2, [(.t 4)], (.seq (.reg [⟨(some 2), (.box 3 (.t 0)), none⟩, ⟨(some 3), (.box 3 (.t 1)), none⟩, ⟨(some 4), (.mv (.k (.bool false))), none⟩]) (.seq (.reg
  [⟨(some 5), (.fad 1 (.t 2)), none⟩, ⟨(some 6), (.ld 2 true (.t 5)), none⟩, ⟨(some 7), (.fad 1 (.t 3)), none⟩, ⟨(some 8), (.ld 2 true (.t 7)), none⟩, ⟨(some
  9), (.eqs 2 false (.t 6) (.t 8)), none⟩, ⟨(some 10), (.mv (.t 9)), none⟩, ⟨(some 11), (.fad 0 (.t 2)), (some (10, true))⟩, ⟨(some 12), (.ld 1 false (.t 11)),
  (some (10, true))⟩, ⟨(some 13), (.fad 0 (.t 3)), (some (10, true))⟩, ⟨(some 14), (.ld 1 false (.t 13)), (some (10, true))⟩, ⟨(some 15), (.callR (.k (.fn 83
  [])) [(.t 12), (.t 14)]), (some (10, true))⟩, ⟨(some 16), (.pick (.t 10) (.t 15) (.k (.bool false))), none⟩, ⟨(some 4), (.mv (.t 16)), none⟩]) .ret))⟩

def s83_0 : SCode :=
  .seq (.reg [⟨(some 14), (.bin .lss (.t 13) (.t 12)), none⟩]) (.seq (.cond (.t 14) .skip (.exit 0)) (.seq (.blk 1 (.seq (.reg [⟨(some 15), (.mv (.t 13)), none⟩,
  ⟨(some 5), (.mv (.t 15)), none⟩]) (.seq (.reg [⟨(some 16), (.mv (.t 0)), none⟩, ⟨(some 17), (.mv (.t 5)), none⟩, ⟨(some 18), (.iad 1 (.t 16) (.t 17)), none⟩,
  ⟨(some 19), (.ld 1 false (.t 18)), none⟩, ⟨(some 20), (.mv (.t 1)), none⟩, ⟨(some 21), (.mv (.t 5)), none⟩, ⟨(some 22), (.iad 1 (.t 20) (.t 21)), none⟩,
  ⟨(some 23), (.ld 1 false (.t 22)), none⟩, ⟨(some 24), (.bin .neq (.t 19) (.t 23)), none⟩]) (.cond (.t 24) (.seq (.reg [⟨(some 4), (.mv (.k (.bool false))),
  none⟩]) .ret) .skip)))) (.reg [⟨(some 25), (.bin .add (.t 13) (.k (.int .i64 1))), none⟩, ⟨(some 13), (.mv (.t 25)), none⟩])))

/- slices.Equal[schisma/api.Row,int] -/
def s83 : SFunc :=
  ⟨2, [(.t 4)], (.seq (.reg [⟨(some 4), (.mv (.k (.bool false))), none⟩]) (.seq (.seq (.reg [⟨(some 6), (.mv (.t 0)), none⟩, ⟨(some 7), (.len (.t 6)), none⟩,
  ⟨(some 8), (.mv (.t 1)), none⟩, ⟨(some 9), (.len (.t 8)), none⟩, ⟨(some 10), (.bin .neq (.t 7) (.t 9)), none⟩]) (.cond (.t 10) (.seq (.reg [⟨(some 4), (.mv
  (.k (.bool false))), none⟩]) .ret) .skip)) (.seq (.seq (.reg [⟨(some 11), (.mv (.t 0)), none⟩, ⟨(some 12), (.len (.t 11)), none⟩, ⟨(some 13), (.mv (.k (.int
  .i64 0))), none⟩]) (.blk 0 (.loop s83_0))) (.seq (.reg [⟨(some 4), (.mv (.k (.bool true))), none⟩]) .ret))))⟩

def s84_0 : SCode :=
  .seq (.seq (.reg [⟨(some 11), (.mv (.t 5)), none⟩, ⟨(some 12), (.mv (.t 0)), none⟩, ⟨(some 13), (.len (.t 12)), none⟩, ⟨(some 14), (.bin .lss (.t 11) (.t 13)),
  none⟩]) (.cond (.t 14) .skip (.exit 0))) (.seq (.blk 1 (.seq (.reg [⟨(some 17), (.mv (.t 0)), none⟩, ⟨(some 18), (.mv (.t 5)), none⟩, ⟨(some 19), (.iad 1 (.t
  17) (.t 18)), none⟩, ⟨(some 20), (.ld 1 false (.t 19)), none⟩, ⟨(some 21), (.mv (.t 1)), none⟩, ⟨(some 22), (.mv (.t 5)), none⟩, ⟨(some 23), (.iad 1 (.t 21)
  (.t 22)), none⟩, ⟨(some 24), (.ld 1 false (.t 23)), none⟩, ⟨(some 25), (.bin .neq (.t 20) (.t 24)), none⟩]) (.cond (.t 25) (.seq (.reg [⟨(some 4), (.mv (.k
  (.bool false))), none⟩]) .ret) .skip))) (.reg [⟨(some 15), (.mv (.t 5)), none⟩, ⟨(some 16), (.bin .add (.t 15) (.k (.int .i64 1))), none⟩, ⟨(some 5), (.mv (.t
  16)), none⟩]))

/- schisma/schismalaw12.Same -/
def s84 : SFunc :=
  ⟨2, [(.t 4)], (.seq (.reg [⟨(some 4), (.mv (.k (.bool false))), none⟩]) (.seq (.seq (.reg [⟨(some 6), (.mv (.t 0)), none⟩, ⟨(some 7), (.len (.t 6)), none⟩,
  ⟨(some 8), (.mv (.t 1)), none⟩, ⟨(some 9), (.len (.t 8)), none⟩, ⟨(some 10), (.bin .neq (.t 7) (.t 9)), none⟩]) (.cond (.t 10) (.seq (.reg [⟨(some 4), (.mv
  (.k (.bool false))), none⟩]) .ret) .skip)) (.seq (.seq (.reg [⟨(some 5), (.mv (.k (.int .i64 0))), none⟩]) (.blk 0 (.loop s84_0))) (.seq (.reg [⟨(some 4),
  (.mv (.k (.bool true))), none⟩]) .ret))))⟩

/- schisma/fraction.Of -/
def s85 : SFunc :=
  ⟨2, [(.c 4 2 true), (.t 5)], (.seq (.reg [⟨(some 4), (.alc [(.str (bytes [])), (.str (bytes []))]), none⟩, ⟨(some 5), (.mv (.k (.int .i64 0))), none⟩]) (.seq
  (.reg [⟨(some 6), (.mv (.t 0)), none⟩, ⟨(some 7), (.callR (.k (.fn 123 [])) [(.t 6)]), none⟩, ⟨(some 8), (.mv (.t 1)), none⟩, ⟨(some 9), (.callR (.k (.fn 123
  [])) [(.t 8)]), none⟩, ⟨(some 10), (.callR (.k (.fn 122 [])) [(.t 7), (.t 9)]), none⟩, ⟨(some 11), (.ext 0 (.t 10)), none⟩, ⟨(some 12), (.ext 1 (.t 10)),
  none⟩, ⟨none, (.st 2 (.t 4) (.t 11)), none⟩, ⟨(some 5), (.mv (.t 12)), none⟩]) .ret))⟩

/- (*schisma/tradeoff.ends).keep -/
def s86 : SFunc :=
  ⟨4, [], (.seq (.seq (.reg [⟨(some 14), (.mv (.t 2)), none⟩, ⟨(some 15), (.bin .eql (.t 14) (.k (.int .i64 0))), none⟩]) (.cond (.t 15) (.seq (.reg [⟨(some 16),
  (.mv (.t 0)), none⟩, ⟨(some 17), (.mv (.t 0)), none⟩, ⟨(some 18), (.nck (.t 17)), none⟩, ⟨(some 19), (.fad 6 (.t 18)), none⟩, ⟨(some 20), (.ld 1 false (.t
  19)), none⟩, ⟨(some 21), (.mv (.t 20)), none⟩, ⟨(some 22), (.mv (.t 1)), (some (21, false))⟩, ⟨(some 23), (.bin .lss (.t 22) (.k (.int .i64 0))), (some (21,
  false))⟩, ⟨(some 24), (.pick (.t 21) (.k (.bool true)) (.t 23)), none⟩, ⟨(some 25), (.nck (.t 16)), none⟩, ⟨(some 26), (.fad 6 (.t 25)), none⟩, ⟨none, (.st 1
  (.t 26) (.t 24)), none⟩]) .ret) .skip)) (.seq (.reg [⟨(some 28), (.mv (.t 1)), none⟩, ⟨(some 29), (.un .neg (.t 28)), none⟩, ⟨(some 30), (.mv (.t 3)), none⟩,
  ⟨(some 31), (.callR (.k (.fn 85 [])) [(.t 29), (.t 30)]), none⟩, ⟨(some 27), (.mv (.t 31)), none⟩, ⟨(some 32), (.ext 0 (.t 27)), none⟩, ⟨(some 33), (.ext 1
  (.t 27)), none⟩, ⟨(some 8), (.alc [(.str (bytes [])), (.str (bytes []))]), none⟩, ⟨none, (.st 2 (.t 8) (.t 32)), none⟩, ⟨(some 9), (.mv (.t 33)), none⟩])
  (.seq (.reg [⟨(some 35), (.mv (.t 2)), none⟩, ⟨(some 36), (.callR (.k (.fn 85 [])) [(.t 35), (.k (.int .i64 1))]), none⟩, ⟨(some 34), (.mv (.t 36)), none⟩,
  ⟨(some 37), (.ext 0 (.t 34)), none⟩, ⟨(some 38), (.ext 1 (.t 34)), none⟩, ⟨(some 10), (.alc [(.str (bytes [])), (.str (bytes []))]), none⟩, ⟨none, (.st 2 (.t
  10) (.t 37)), none⟩, ⟨(some 11), (.mv (.t 38)), none⟩]) (.seq (.reg [⟨(some 40), (.ld 2 true (.t 8)), none⟩, ⟨(some 41), (.ld 2 true (.t 10)), none⟩, ⟨(some
  42), (.callR (.k (.fn 56 [])) [(.t 40), (.t 41)]), none⟩, ⟨(some 39), (.mv (.t 42)), none⟩, ⟨(some 43), (.ext 0 (.t 39)), none⟩, ⟨(some 44), (.ext 1 (.t 39)),
  none⟩, ⟨(some 12), (.alc [(.str (bytes [])), (.str (bytes []))]), none⟩, ⟨none, (.st 2 (.t 12) (.t 43)), none⟩, ⟨(some 13), (.mv (.t 44)), none⟩]) (.blk 0
  (.seq (.reg [⟨(some 46), (.mv (.t 2)), none⟩, ⟨(some 47), (.bin .gtr (.t 46) (.k (.int .i64 0))), none⟩, ⟨(some 48), (.mv (.t 47)), none⟩, ⟨(some 49), (.mv
  (.t 0)), (some (48, true))⟩, ⟨(some 50), (.nck (.t 49)), (some (48, true))⟩, ⟨(some 51), (.fad 4 (.t 50)), (some (48, true))⟩, ⟨(some 52), (.ld 1 false (.t
  51)), (some (48, true))⟩, ⟨(some 53), (.un .not (.t 52)), (some (48, true))⟩, ⟨(some 54), (.mv (.t 53)), (some (48, true))⟩, ⟨(some 55), (.ld 2 true (.t 12)),
  (some (54, false))⟩, ⟨(some 56), (.mv (.t 0)), (some (54, false))⟩, ⟨(some 57), (.nck (.t 56)), (some (54, false))⟩, ⟨(some 58), (.fad 0 (.t 57)), (some (54,
  false))⟩, ⟨(some 59), (.ld 2 true (.t 58)), (some (54, false))⟩, ⟨(some 60), (.callR (.k (.fn 124 [])) [(.t 55), (.t 59)]), (some (54, false))⟩, ⟨(some 61),
  (.bin .gtr (.t 60) (.k (.int .i64 0))), (some (54, false))⟩, ⟨(some 62), (.pick (.t 54) (.k (.bool true)) (.t 61)), (some (48, true))⟩, ⟨(some 63), (.pick (.t
  48) (.t 62) (.k (.bool false))), none⟩, ⟨(some 45), (.mv (.t 63)), none⟩]) (.cond (.t 45) (.reg [⟨(some 64), (.mv (.t 0)), none⟩, ⟨(some 65), (.mv (.t 0)),
  none⟩, ⟨(some 66), (.ld 2 true (.t 12)), none⟩, ⟨(some 67), (.nck (.t 64)), none⟩, ⟨(some 68), (.fad 0 (.t 67)), none⟩, ⟨none, (.st 2 (.t 68) (.t 66)), none⟩,
  ⟨(some 69), (.nck (.t 65)), none⟩, ⟨(some 70), (.fad 4 (.t 69)), none⟩, ⟨none, (.st 1 (.t 70) (.k (.bool true))), none⟩]) (.seq (.reg [⟨(some 72), (.mv (.t
  2)), none⟩, ⟨(some 73), (.bin .lss (.t 72) (.k (.int .i64 0))), none⟩, ⟨(some 74), (.mv (.t 73)), none⟩, ⟨(some 75), (.mv (.t 0)), (some (74, true))⟩, ⟨(some
  76), (.nck (.t 75)), (some (74, true))⟩, ⟨(some 77), (.fad 5 (.t 76)), (some (74, true))⟩, ⟨(some 78), (.ld 1 false (.t 77)), (some (74, true))⟩, ⟨(some 79),
  (.un .not (.t 78)), (some (74, true))⟩, ⟨(some 80), (.mv (.t 79)), (some (74, true))⟩, ⟨(some 81), (.ld 2 true (.t 12)), (some (80, false))⟩, ⟨(some 82), (.mv
  (.t 0)), (some (80, false))⟩, ⟨(some 83), (.nck (.t 82)), (some (80, false))⟩, ⟨(some 84), (.fad 2 (.t 83)), (some (80, false))⟩, ⟨(some 85), (.ld 2 true (.t
  84)), (some (80, false))⟩, ⟨(some 86), (.callR (.k (.fn 124 [])) [(.t 81), (.t 85)]), (some (80, false))⟩, ⟨(some 87), (.bin .lss (.t 86) (.k (.int .i64 0))),
  (some (80, false))⟩, ⟨(some 88), (.pick (.t 80) (.k (.bool true)) (.t 87)), (some (74, true))⟩, ⟨(some 89), (.pick (.t 74) (.t 88) (.k (.bool false))), none⟩,
  ⟨(some 71), (.mv (.t 89)), none⟩]) (.cond (.t 71) (.reg [⟨(some 90), (.mv (.t 0)), none⟩, ⟨(some 91), (.mv (.t 0)), none⟩, ⟨(some 92), (.ld 2 true (.t 12)),
  none⟩, ⟨(some 93), (.nck (.t 90)), none⟩, ⟨(some 94), (.fad 2 (.t 93)), none⟩, ⟨none, (.st 2 (.t 94) (.t 92)), none⟩, ⟨(some 95), (.nck (.t 91)), none⟩,
  ⟨(some 96), (.fad 5 (.t 95)), none⟩, ⟨none, (.st 1 (.t 96) (.k (.bool true))), none⟩]) .skip)))))))))⟩

/- (*schisma/tradeoff.ends).as -/
def s87 : SFunc :=
  ⟨2, [(.c 4 5 true), (.t 5)], (.seq (.reg [⟨(some 4), (.alc [(.z true), (.z true), (.bool false), (.bool false), (.bool false)]), none⟩, ⟨(some 5), (.mv (.k
  (.int .i64 0))), none⟩]) (.seq (.seq (.reg [⟨(some 8), (.mv (.t 0)), none⟩, ⟨(some 9), (.nck (.t 8)), none⟩, ⟨(some 10), (.fad 6 (.t 9)), none⟩, ⟨(some 11),
  (.ld 1 false (.t 10)), none⟩, ⟨(some 12), (.mv (.t 11)), none⟩, ⟨(some 13), (.mv (.t 0)), (some (12, false))⟩, ⟨(some 14), (.nck (.t 13)), (some (12,
  false))⟩, ⟨(some 15), (.fad 4 (.t 14)), (some (12, false))⟩, ⟨(some 16), (.ld 1 false (.t 15)), (some (12, false))⟩, ⟨(some 17), (.mv (.t 16)), (some (12,
  false))⟩, ⟨(some 18), (.mv (.t 0)), (some (17, true))⟩, ⟨(some 19), (.nck (.t 18)), (some (17, true))⟩, ⟨(some 20), (.fad 5 (.t 19)), (some (17, true))⟩,
  ⟨(some 21), (.ld 1 false (.t 20)), (some (17, true))⟩, ⟨(some 22), (.pick (.t 17) (.t 21) (.k (.bool false))), (some (12, false))⟩, ⟨(some 23), (.mv (.t 22)),
  (some (12, false))⟩, ⟨(some 24), (.mv (.t 0)), (some (23, true))⟩, ⟨(some 25), (.nck (.t 24)), (some (23, true))⟩, ⟨(some 26), (.fad 0 (.t 25)), (some (23,
  true))⟩, ⟨(some 27), (.ld 2 true (.t 26)), (some (23, true))⟩, ⟨(some 28), (.mv (.t 0)), (some (23, true))⟩, ⟨(some 29), (.nck (.t 28)), (some (23, true))⟩,
  ⟨(some 30), (.fad 2 (.t 29)), (some (23, true))⟩, ⟨(some 31), (.ld 2 true (.t 30)), (some (23, true))⟩, ⟨(some 32), (.callR (.k (.fn 124 [])) [(.t 27), (.t
  31)]), (some (23, true))⟩, ⟨(some 33), (.bin .gtr (.t 32) (.k (.int .i64 0))), (some (23, true))⟩, ⟨(some 34), (.pick (.t 23) (.t 33) (.k (.bool false))),
  (some (12, false))⟩, ⟨(some 35), (.pick (.t 12) (.k (.bool true)) (.t 34)), none⟩]) (.cond (.t 35) (.seq (.reg [⟨(some 36), (.bld [(.z true), (.z true),
  (.bool false), (.bool false), (.bool false)] [(4, (1, (.k (.bool true))))]), none⟩, ⟨none, (.st 5 (.t 4) (.t 36)), none⟩, ⟨(some 5), (.mv (.k (.int .i64 0))),
  none⟩]) .ret) .skip)) (.seq (.reg [⟨(some 37), (.mv (.t 0)), none⟩, ⟨(some 38), (.nck (.t 37)), none⟩, ⟨(some 39), (.fad 4 (.t 38)), none⟩, ⟨(some 40), (.ld 1
  false (.t 39)), none⟩, ⟨(some 41), (.mv (.t 0)), none⟩, ⟨(some 42), (.nck (.t 41)), none⟩, ⟨(some 43), (.fad 5 (.t 42)), none⟩, ⟨(some 44), (.ld 1 false (.t
  43)), none⟩, ⟨(some 45), (.bld [(.z true), (.z true), (.bool false), (.bool false), (.bool false)] [(2, (1, (.t 40))), (3, (1, (.t 44)))]), none⟩, ⟨(some 6),
  (.alc [(.z true), (.z true), (.bool false), (.bool false), (.bool false)]), none⟩, ⟨none, (.st 5 (.t 6) (.t 45)), none⟩]) (.seq (.reg [⟨(some 7), (.mv (.k
  (.int .i64 0))), none⟩]) (.seq (.seq (.reg [⟨(some 46), (.mv (.t 0)), none⟩, ⟨(some 47), (.nck (.t 46)), none⟩, ⟨(some 48), (.fad 4 (.t 47)), none⟩, ⟨(some
  49), (.ld 1 false (.t 48)), none⟩]) (.cond (.t 49) (.seq (.reg [⟨(some 51), (.mv (.t 1)), none⟩, ⟨(some 52), (.mv (.t 0)), none⟩, ⟨(some 53), (.nck (.t 52)),
  none⟩, ⟨(some 54), (.fad 0 (.t 53)), none⟩, ⟨(some 55), (.ld 2 true (.t 54)), none⟩, ⟨(some 56), (.callR (.k (.fn 106 [])) [(.t 51), (.t 55)]), none⟩, ⟨(some
  50), (.mv (.t 56)), none⟩, ⟨(some 57), (.ext 0 (.t 50)), none⟩, ⟨(some 58), (.ext 1 (.t 50)), none⟩, ⟨(some 59), (.fad 0 (.t 6)), none⟩, ⟨none, (.st 1 (.t 59)
  (.t 57)), none⟩, ⟨(some 7), (.mv (.t 58)), none⟩]) (.seq (.reg [⟨(some 60), (.mv (.t 7)), none⟩, ⟨(some 61), (.bin .neq (.t 60) (.k (.int .i64 0))), none⟩])
  (.cond (.t 61) (.seq (.reg [⟨(some 62), (.bld [(.z true), (.z true), (.bool false), (.bool false), (.bool false)] []), none⟩, ⟨(some 63), (.mv (.t 7)), none⟩,
  ⟨none, (.st 5 (.t 4) (.t 62)), none⟩, ⟨(some 5), (.mv (.t 63)), none⟩]) .ret) .skip))) .skip)) (.seq (.seq (.reg [⟨(some 64), (.mv (.t 0)), none⟩, ⟨(some 65),
  (.nck (.t 64)), none⟩, ⟨(some 66), (.fad 5 (.t 65)), none⟩, ⟨(some 67), (.ld 1 false (.t 66)), none⟩]) (.cond (.t 67) (.seq (.reg [⟨(some 69), (.mv (.t 1)),
  none⟩, ⟨(some 70), (.mv (.t 0)), none⟩, ⟨(some 71), (.nck (.t 70)), none⟩, ⟨(some 72), (.fad 2 (.t 71)), none⟩, ⟨(some 73), (.ld 2 true (.t 72)), none⟩,
  ⟨(some 74), (.callR (.k (.fn 106 [])) [(.t 69), (.t 73)]), none⟩, ⟨(some 68), (.mv (.t 74)), none⟩, ⟨(some 75), (.ext 0 (.t 68)), none⟩, ⟨(some 76), (.ext 1
  (.t 68)), none⟩, ⟨(some 77), (.fad 1 (.t 6)), none⟩, ⟨none, (.st 1 (.t 77) (.t 75)), none⟩, ⟨(some 7), (.mv (.t 76)), none⟩]) (.seq (.reg [⟨(some 78), (.mv
  (.t 7)), none⟩, ⟨(some 79), (.bin .neq (.t 78) (.k (.int .i64 0))), none⟩]) (.cond (.t 79) (.seq (.reg [⟨(some 80), (.bld [(.z true), (.z true), (.bool
  false), (.bool false), (.bool false)] []), none⟩, ⟨(some 81), (.mv (.t 7)), none⟩, ⟨none, (.st 5 (.t 4) (.t 80)), none⟩, ⟨(some 5), (.mv (.t 81)), none⟩])
  .ret) .skip))) .skip)) (.seq (.reg [⟨(some 82), (.ld 5 true (.t 6)), none⟩, ⟨none, (.st 5 (.t 4) (.t 82)), none⟩, ⟨(some 5), (.mv (.k (.int .i64 0))), none⟩])
  .ret)))))))⟩

/- schisma/lattice.Of -/
def s88 : SFunc :=
  ⟨2, [(.c 4 2 true), (.t 5)], (.seq (.reg [⟨(some 4), (.alc [(.int .i64 0), (.z true)]), none⟩, ⟨(some 5), (.mv (.k (.int .i64 0))), none⟩]) (.seq (.seq (.reg
  [⟨(some 7), (.mv (.t 0)), none⟩, ⟨(some 8), (.mv (.t 1)), none⟩, ⟨(some 9), (.callR (.k (.fn 125 [])) [(.t 7), (.t 8)]), none⟩, ⟨(some 6), (.mv (.t 9)),
  none⟩]) (.seq (.reg [⟨(some 10), (.mv (.t 6)), none⟩, ⟨(some 11), (.bin .neq (.t 10) (.k (.int .i64 0))), none⟩]) (.cond (.t 11) (.seq (.reg [⟨(some 12),
  (.bld [(.int .i64 0), (.z true)] []), none⟩, ⟨(some 13), (.mv (.t 6)), none⟩, ⟨none, (.st 2 (.t 4) (.t 12)), none⟩, ⟨(some 5), (.mv (.t 13)), none⟩]) .ret)
  .skip))) (.seq (.reg [⟨(some 14), (.mv (.t 1)), none⟩, ⟨(some 15), (.callW (.k (.fn 126 [])) [(.t 14)]), none⟩, ⟨(some 16), (.mv (.t 0)), none⟩, ⟨(some 17),
  (.callW (.k (.fn 127 [])) [(.t 15), (.t 16)]), none⟩, ⟨(some 18), (.mv (.t 0)), none⟩, ⟨(some 19), (.callW (.k (.fn 128 [])) [(.t 17), (.t 18)]), none⟩,
  ⟨(some 20), (.ext 0 (.t 19)), none⟩, ⟨(some 21), (.ext 1 (.t 19)), none⟩, ⟨none, (.st 2 (.t 4) (.t 20)), none⟩, ⟨(some 5), (.mv (.t 21)), none⟩]) .ret)))⟩

/- schisma/lattice.Saturate -/
def s89 : SFunc :=
  ⟨1, [(.c 2 2 true), (.t 3)], (.seq (.reg [⟨(some 1), (.box 2 (.t 0)), none⟩, ⟨(some 2), (.alc [(.int .i64 0), (.z true)]), none⟩, ⟨(some 3), (.mv (.k (.int .i64
  0))), none⟩]) (.seq (.seq (.reg [⟨(some 5), (.ld 2 true (.t 1)), none⟩, ⟨(some 6), (.callR (.k (.fn 129 [])) [(.t 5)]), none⟩, ⟨(some 4), (.mv (.t 6)),
  none⟩]) (.seq (.reg [⟨(some 7), (.mv (.t 4)), none⟩, ⟨(some 8), (.bin .neq (.t 7) (.k (.int .i64 0))), none⟩]) (.cond (.t 8) (.seq (.reg [⟨(some 9), (.bld
  [(.int .i64 0), (.z true)] []), none⟩, ⟨(some 10), (.mv (.t 4)), none⟩, ⟨none, (.st 2 (.t 2) (.t 9)), none⟩, ⟨(some 3), (.mv (.t 10)), none⟩]) .ret) .skip)))
  (.seq (.reg [⟨(some 11), (.fad 1 (.t 1)), none⟩, ⟨(some 12), (.ld 1 false (.t 11)), none⟩, ⟨(some 13), (.callR (.k (.fn 126 [])) [(.t 12)]), none⟩, ⟨(some
  14), (.fad 0 (.t 1)), none⟩, ⟨(some 15), (.ld 1 false (.t 14)), none⟩, ⟨(some 16), (.callR (.k (.fn 130 [])) [(.t 13), (.t 15)]), none⟩, ⟨(some 17), (.fad 0
  (.t 1)), none⟩, ⟨(some 18), (.ld 1 false (.t 17)), none⟩, ⟨(some 19), (.callR (.k (.fn 130 [])) [(.t 16), (.t 18)]), none⟩, ⟨(some 20), (.fad 0 (.t 1)),
  none⟩, ⟨(some 21), (.ld 1 false (.t 20)), none⟩, ⟨(some 22), (.callR (.k (.fn 128 [])) [(.t 19), (.t 21)]), none⟩, ⟨(some 23), (.ext 0 (.t 22)), none⟩, ⟨(some
  24), (.ext 1 (.t 22)), none⟩, ⟨none, (.st 2 (.t 2) (.t 23)), none⟩, ⟨(some 3), (.mv (.t 24)), none⟩]) .ret)))⟩

/- schisma/lattice.Annihilator -/
def s90 : SFunc :=
  ⟨1, [(.c 2 2 true), (.t 3)], (.seq (.reg [⟨(some 1), (.box 2 (.t 0)), none⟩, ⟨(some 2), (.alc [(.int .i64 0), (.z true)]), none⟩, ⟨(some 3), (.mv (.k (.int .i64
  0))), none⟩]) (.seq (.seq (.reg [⟨(some 5), (.ld 2 true (.t 1)), none⟩, ⟨(some 6), (.callR (.k (.fn 129 [])) [(.t 5)]), none⟩, ⟨(some 4), (.mv (.t 6)),
  none⟩]) (.seq (.reg [⟨(some 7), (.mv (.t 4)), none⟩, ⟨(some 8), (.bin .neq (.t 7) (.k (.int .i64 0))), none⟩]) (.cond (.t 8) (.seq (.reg [⟨(some 9), (.bld
  [(.int .i64 0), (.z true)] []), none⟩, ⟨(some 10), (.mv (.t 4)), none⟩, ⟨none, (.st 2 (.t 2) (.t 9)), none⟩, ⟨(some 3), (.mv (.t 10)), none⟩]) .ret) .skip)))
  (.seq (.reg [⟨(some 11), (.fad 1 (.t 1)), none⟩, ⟨(some 12), (.ld 1 false (.t 11)), none⟩, ⟨(some 13), (.callR (.k (.fn 126 [])) [(.t 12)]), none⟩, ⟨(some
  14), (.fad 0 (.t 1)), none⟩, ⟨(some 15), (.ld 1 false (.t 14)), none⟩, ⟨(some 16), (.callR (.k (.fn 130 [])) [(.t 13), (.t 15)]), none⟩, ⟨(some 17), (.fad 0
  (.t 1)), none⟩, ⟨(some 18), (.ld 1 false (.t 17)), none⟩, ⟨(some 19), (.callR (.k (.fn 128 [])) [(.t 16), (.t 18)]), none⟩, ⟨(some 20), (.ext 0 (.t 19)),
  none⟩, ⟨(some 21), (.ext 1 (.t 19)), none⟩, ⟨none, (.st 2 (.t 2) (.t 20)), none⟩, ⟨(some 3), (.mv (.t 21)), none⟩]) .ret)))⟩

def s91_0 : SCode :=
  .seq (.reg [⟨(some 17), (.bin .lss (.t 16) (.t 15)), none⟩]) (.seq (.cond (.t 17) .skip (.exit 0)) (.seq (.blk 1 (.seq (.reg [⟨(some 18), (.iad 1 (.t 14) (.t
  16)), none⟩, ⟨(some 19), (.ld 1 false (.t 18)), none⟩, ⟨(some 7), (.mv (.t 19)), none⟩]) (.seq (.seq (.reg [⟨(some 20), (.mv (.t 7)), none⟩, ⟨(some 21),
  (.callR (.k (.fn 132 [])) [(.t 20)]), none⟩, ⟨(some 8), (.mv (.t 21)), none⟩]) (.seq (.reg [⟨(some 22), (.mv (.t 8)), none⟩, ⟨(some 23), (.bin .neq (.t 22)
  (.k (.int .i64 0))), none⟩]) (.cond (.t 23) (.seq (.reg [⟨(some 24), (.mv (.t 8)), none⟩, ⟨(some 4), (.mv (.t 24)), none⟩]) .ret) .skip))) (.seq (.reg [⟨(some
  25), (.mv (.t 7)), none⟩, ⟨(some 26), (.len (.t 25)), none⟩, ⟨(some 27), (.fad 0 (.t 2)), none⟩, ⟨(some 28), (.ld 1 false (.t 27)), none⟩, ⟨(some 29), (.len
  (.t 28)), none⟩, ⟨(some 30), (.bin .neq (.t 26) (.t 29)), none⟩]) (.cond (.t 30) (.seq (.reg [⟨(some 4), (.mv (.k (.int .i64 5))), none⟩]) .ret) .skip)))))
  (.reg [⟨(some 31), (.bin .add (.t 16) (.k (.int .i64 1))), none⟩, ⟨(some 16), (.mv (.t 31)), none⟩])))

/- schisma/temperament.begin -/
def s91 : SFunc :=
  ⟨2, [(.t 4)], (.seq (.reg [⟨(some 2), (.box 3 (.t 0)), none⟩, ⟨(some 4), (.mv (.k (.int .i64 0))), none⟩]) (.seq (.seq (.reg [⟨(some 9), (.ld 3 true (.t 2)),
  none⟩, ⟨(some 10), (.callR (.k (.fn 131 [])) [(.t 9)]), none⟩, ⟨(some 5), (.mv (.t 10)), none⟩]) (.seq (.reg [⟨(some 11), (.mv (.t 5)), none⟩, ⟨(some 12),
  (.bin .neq (.t 11) (.k (.int .i64 0))), none⟩]) (.cond (.t 12) (.seq (.reg [⟨(some 13), (.mv (.t 5)), none⟩, ⟨(some 4), (.mv (.t 13)), none⟩]) .ret) .skip)))
  (.seq (.seq (.reg [⟨(some 14), (.mv (.t 1)), none⟩, ⟨(some 15), (.len (.t 14)), none⟩, ⟨(some 16), (.mv (.k (.int .i64 0))), none⟩]) (.blk 0 (.loop s91_0)))
  (.seq (.reg [⟨(some 4), (.mv (.k (.int .i64 0))), none⟩]) .ret))))⟩

def s92_1 : SCode :=
  .seq (.reg [⟨(some 21), (.bin .lss (.t 20) (.t 19)), none⟩]) (.seq (.cond (.t 21) .skip (.exit 2)) (.seq (.blk 3 (.seq (.reg [⟨(some 22), (.mv (.t 20)), none⟩,
  ⟨(some 23), (.iad 1 (.t 18) (.t 20)), none⟩, ⟨(some 24), (.ld 1 false (.t 23)), none⟩, ⟨(some 9), (.mv (.t 22)), none⟩, ⟨(some 10), (.mv (.t 24)), none⟩])
  (.reg [⟨(some 25), (.mv (.t 8)), none⟩, ⟨(some 26), (.mv (.t 10)), none⟩, ⟨(some 27), (.callR (.k (.fn 123 [])) [(.t 26)]), none⟩, ⟨(some 28), (.mv (.t 7)),
  none⟩, ⟨(some 29), (.mv (.t 9)), none⟩, ⟨(some 30), (.iad 1 (.t 28) (.t 29)), none⟩, ⟨(some 31), (.ld 1 false (.t 30)), none⟩, ⟨(some 32), (.callR (.k (.fn
  123 [])) [(.t 31)]), none⟩, ⟨(some 33), (.callR (.k (.fn 97 [])) [(.t 27), (.t 32)]), none⟩, ⟨(some 34), (.callR (.k (.fn 133 [])) [(.t 25), (.t 33)]), none⟩,
  ⟨(some 8), (.mv (.t 34)), none⟩]))) (.reg [⟨(some 35), (.bin .add (.t 20) (.k (.int .i64 1))), none⟩, ⟨(some 20), (.mv (.t 35)), none⟩])))

def s92_0 : SCode :=
  .seq (.reg [⟨(some 15), (.bin .lss (.t 14) (.t 13)), none⟩]) (.seq (.cond (.t 15) .skip (.exit 0)) (.seq (.blk 1 (.seq (.reg [⟨(some 16), (.iad 1 (.t 12) (.t
  14)), none⟩, ⟨(some 17), (.ld 1 false (.t 16)), none⟩, ⟨(some 7), (.mv (.t 17)), none⟩]) (.seq (.reg [⟨(some 8), (.mv (.k (.str (bytes [48])))), none⟩]) (.seq
  (.seq (.reg [⟨(some 18), (.mv (.t 1)), none⟩, ⟨(some 19), (.len (.t 18)), none⟩, ⟨(some 20), (.mv (.k (.int .i64 0))), none⟩]) (.blk 2 (.loop s92_1))) (.reg
  [⟨(some 36), (.mv (.t 5)), none⟩, ⟨(some 37), (.mv (.t 8)), none⟩, ⟨(some 38), (.bsl 1 [(.str (bytes []))] 1 [(0, (.t 37))]), none⟩, ⟨(some 39), (.app 1 (.t
  36) (.t 38)), none⟩, ⟨(some 5), (.mv (.t 39)), none⟩]))))) (.reg [⟨(some 40), (.bin .add (.t 14) (.k (.int .i64 1))), none⟩, ⟨(some 14), (.mv (.t 40)),
  none⟩])))

/- schisma/temperament.temper -/
def s92 : SFunc :=
  ⟨2, [(.t 4)], (.seq (.reg [⟨(some 2), (.box 3 (.t 0)), none⟩, ⟨(some 4), (.mv (.k (.z true))), none⟩]) (.seq (.reg [⟨(some 5), (.mv (.k (.z true))), none⟩])
  (.seq (.seq (.reg [⟨(some 11), (.fad 2 (.t 2)), none⟩, ⟨(some 12), (.ld 1 false (.t 11)), none⟩, ⟨(some 13), (.len (.t 12)), none⟩, ⟨(some 14), (.mv (.k (.int
  .i64 0))), none⟩]) (.blk 0 (.loop s92_0))) (.seq (.reg [⟨(some 41), (.mv (.t 5)), none⟩, ⟨(some 4), (.mv (.t 41)), none⟩]) .ret))))⟩

/- schisma/whole.Small -/
def s93 : SFunc :=
  ⟨1, [(.t 2), (.t 3)], (.seq (.reg [⟨(some 2), (.mv (.k (.int .i64 0))), none⟩, ⟨(some 3), (.mv (.k (.bool false))), none⟩]) (.seq (.reg [⟨(some 7), (.mv (.t
  0)), none⟩, ⟨(some 8), (.callR (.k (.fn 134 [])) [(.t 7), (.k (.int .i64 10)), (.k (.int .i64 64))]), none⟩, ⟨(some 6), (.mv (.t 8)), none⟩, ⟨(some 9), (.ext
  0 (.t 6)), none⟩, ⟨(some 10), (.ext 1 (.t 6)), none⟩, ⟨(some 4), (.mv (.t 9)), none⟩, ⟨(some 5), (.mv (.t 10)), none⟩]) (.seq (.seq (.reg [⟨(some 11), (.mv
  (.t 5)), none⟩, ⟨(some 12), (.nilq 0 true (.t 11)), none⟩]) (.cond (.t 12) (.seq (.reg [⟨(some 2), (.mv (.k (.int .i64 0))), none⟩, ⟨(some 3), (.mv (.k (.bool
  false))), none⟩]) .ret) .skip)) (.seq (.reg [⟨(some 13), (.mv (.t 4)), none⟩, ⟨(some 2), (.mv (.t 13)), none⟩, ⟨(some 3), (.mv (.k (.bool true))), none⟩])
  .ret))))⟩

/- schisma/fraction.Add -/
def s94 : SFunc :=
  ⟨2, [(.c 4 2 true)], (.seq (.reg [⟨(some 2), (.box 2 (.t 0)), none⟩, ⟨(some 3), (.box 2 (.t 1)), none⟩, ⟨(some 4), (.alc [(.str (bytes [])), (.str (bytes
  []))]), none⟩]) (.seq (.seq (.reg [⟨(some 11), (.fad 1 (.t 2)), none⟩, ⟨(some 12), (.ld 1 false (.t 11)), none⟩, ⟨(some 13), (.bin .eql (.t 12) (.k (.str
  (bytes [49])))), none⟩, ⟨(some 14), (.mv (.t 13)), none⟩, ⟨(some 15), (.fad 1 (.t 3)), (some (14, true))⟩, ⟨(some 16), (.ld 1 false (.t 15)), (some (14,
  true))⟩, ⟨(some 17), (.bin .eql (.t 16) (.k (.str (bytes [49])))), (some (14, true))⟩, ⟨(some 18), (.pick (.t 14) (.t 17) (.k (.bool false))), none⟩]) (.cond
  (.t 18) (.seq (.reg [⟨(some 19), (.fad 0 (.t 2)), none⟩, ⟨(some 20), (.ld 1 false (.t 19)), none⟩, ⟨(some 21), (.fad 0 (.t 3)), none⟩, ⟨(some 22), (.ld 1
  false (.t 21)), none⟩, ⟨(some 23), (.callR (.k (.fn 133 [])) [(.t 20), (.t 22)]), none⟩, ⟨(some 24), (.bld [(.str (bytes [])), (.str (bytes []))] [(0, (1, (.t
  23))), (1, (1, (.k (.str (bytes [49])))))]), none⟩, ⟨none, (.st 2 (.t 4) (.t 24)), none⟩]) .ret) .skip)) (.seq (.seq (.reg [⟨(some 26), (.ld 2 true (.t 2)),
  none⟩, ⟨(some 27), (.callR (.k (.fn 135 [])) [(.t 26)]), none⟩, ⟨(some 25), (.mv (.t 27)), none⟩, ⟨(some 28), (.ext 0 (.t 25)), none⟩, ⟨(some 29), (.ext 1 (.t
  25)), none⟩, ⟨(some 30), (.ext 2 (.t 25)), none⟩, ⟨(some 5), (.mv (.t 28)), none⟩, ⟨(some 6), (.mv (.t 29)), none⟩, ⟨(some 7), (.mv (.t 30)), none⟩]) (.seq
  (.reg [⟨(some 31), (.mv (.t 7)), none⟩]) (.cond (.t 31) (.seq (.reg [⟨(some 33), (.ld 2 true (.t 3)), none⟩, ⟨(some 34), (.callR (.k (.fn 135 [])) [(.t 33)]),
  none⟩, ⟨(some 32), (.mv (.t 34)), none⟩, ⟨(some 35), (.ext 0 (.t 32)), none⟩, ⟨(some 36), (.ext 1 (.t 32)), none⟩, ⟨(some 37), (.ext 2 (.t 32)), none⟩, ⟨(some
  8), (.mv (.t 35)), none⟩, ⟨(some 9), (.mv (.t 36)), none⟩, ⟨(some 10), (.mv (.t 37)), none⟩]) (.seq (.reg [⟨(some 38), (.mv (.t 10)), none⟩]) (.cond (.t 38)
  (.seq (.reg [⟨(some 39), (.mv (.t 5)), none⟩, ⟨(some 40), (.mv (.t 9)), none⟩, ⟨(some 41), (.bin .mul (.t 39) (.t 40)), none⟩, ⟨(some 42), (.mv (.t 8)),
  none⟩, ⟨(some 43), (.mv (.t 6)), none⟩, ⟨(some 44), (.bin .mul (.t 42) (.t 43)), none⟩, ⟨(some 45), (.bin .add (.t 41) (.t 44)), none⟩, ⟨(some 46), (.mv (.t
  6)), none⟩, ⟨(some 47), (.mv (.t 9)), none⟩, ⟨(some 48), (.bin .mul (.t 46) (.t 47)), none⟩, ⟨(some 49), (.callR (.k (.fn 136 [])) [(.t 45), (.t 48)]), none⟩,
  ⟨none, (.st 2 (.t 4) (.t 49)), none⟩]) .ret) .skip))) .skip))) (.seq (.reg [⟨(some 50), (.fad 0 (.t 2)), none⟩, ⟨(some 51), (.ld 1 false (.t 50)), none⟩,
  ⟨(some 52), (.fad 1 (.t 3)), none⟩, ⟨(some 53), (.ld 1 false (.t 52)), none⟩, ⟨(some 54), (.callR (.k (.fn 97 [])) [(.t 51), (.t 53)]), none⟩, ⟨(some 55),
  (.fad 0 (.t 3)), none⟩, ⟨(some 56), (.ld 1 false (.t 55)), none⟩, ⟨(some 57), (.fad 1 (.t 2)), none⟩, ⟨(some 58), (.ld 1 false (.t 57)), none⟩, ⟨(some 59),
  (.callR (.k (.fn 97 [])) [(.t 56), (.t 58)]), none⟩, ⟨(some 60), (.callR (.k (.fn 133 [])) [(.t 54), (.t 59)]), none⟩, ⟨(some 61), (.fad 1 (.t 2)), none⟩,
  ⟨(some 62), (.ld 1 false (.t 61)), none⟩, ⟨(some 63), (.fad 1 (.t 3)), none⟩, ⟨(some 64), (.ld 1 false (.t 63)), none⟩, ⟨(some 65), (.callR (.k (.fn 97 []))
  [(.t 62), (.t 64)]), none⟩, ⟨(some 66), (.callR (.k (.fn 96 [])) [(.t 60), (.t 65)]), none⟩, ⟨none, (.st 2 (.t 4) (.t 66)), none⟩]) .ret))))⟩

/- schisma/fraction.Neg -/
def s95 : SFunc :=
  ⟨1, [(.c 2 2 true)], (.seq (.reg [⟨(some 1), (.box 2 (.t 0)), none⟩, ⟨(some 2), (.alc [(.str (bytes [])), (.str (bytes []))]), none⟩]) (.seq (.reg [⟨(some 3),
  (.fad 0 (.t 1)), none⟩, ⟨(some 4), (.ld 1 false (.t 3)), none⟩, ⟨(some 5), (.callR (.k (.fn 137 [])) [(.t 4)]), none⟩, ⟨(some 6), (.fad 1 (.t 1)), none⟩,
  ⟨(some 7), (.ld 1 false (.t 6)), none⟩, ⟨(some 8), (.bld [(.str (bytes [])), (.str (bytes []))] [(0, (1, (.t 5))), (1, (1, (.t 7)))]), none⟩, ⟨none, (.st 2
  (.t 2) (.t 8)), none⟩]) .ret))⟩

/- schisma/fraction.lowest -/
def s96 : SFunc :=
  ⟨2, [(.c 4 2 true)], (.seq (.reg [⟨(some 4), (.alc [(.str (bytes [])), (.str (bytes []))]), none⟩]) (.seq (.seq (.reg [⟨(some 6), (.mv (.t 1)), none⟩, ⟨(some
  7), (.callR (.k (.fn 114 [])) [(.t 6)]), none⟩, ⟨(some 8), (.bin .lss (.t 7) (.k (.int .i64 0))), none⟩]) (.cond (.t 8) (.reg [⟨(some 9), (.mv (.t 0)), none⟩,
  ⟨(some 10), (.callR (.k (.fn 137 [])) [(.t 9)]), none⟩, ⟨(some 11), (.mv (.t 1)), none⟩, ⟨(some 12), (.callR (.k (.fn 137 [])) [(.t 11)]), none⟩, ⟨(some 0),
  (.mv (.t 10)), none⟩, ⟨(some 1), (.mv (.t 12)), none⟩]) .skip)) (.seq (.seq (.reg [⟨(some 13), (.mv (.t 0)), none⟩, ⟨(some 14), (.mv (.t 1)), none⟩, ⟨(some
  15), (.callR (.k (.fn 120 [])) [(.t 13), (.t 14)]), none⟩, ⟨(some 5), (.mv (.t 15)), none⟩]) (.seq (.reg [⟨(some 16), (.mv (.t 5)), none⟩, ⟨(some 17), (.bin
  .neq (.t 16) (.k (.str (bytes [49])))), none⟩]) (.cond (.t 17) (.seq (.reg [⟨(some 19), (.mv (.t 0)), none⟩, ⟨(some 20), (.mv (.t 5)), none⟩, ⟨(some 21),
  (.callR (.k (.fn 111 [])) [(.t 19), (.t 20)]), none⟩, ⟨(some 18), (.mv (.t 21)), none⟩, ⟨(some 22), (.ext 0 (.t 18)), none⟩, ⟨(some 23), (.ext 1 (.t 18)),
  none⟩, ⟨(some 24), (.ext 2 (.t 18)), none⟩, ⟨(some 0), (.mv (.t 22)), none⟩]) (.reg [⟨(some 26), (.mv (.t 1)), none⟩, ⟨(some 27), (.mv (.t 5)), none⟩, ⟨(some
  28), (.callR (.k (.fn 111 [])) [(.t 26), (.t 27)]), none⟩, ⟨(some 25), (.mv (.t 28)), none⟩, ⟨(some 29), (.ext 0 (.t 25)), none⟩, ⟨(some 30), (.ext 1 (.t
  25)), none⟩, ⟨(some 31), (.ext 2 (.t 25)), none⟩, ⟨(some 1), (.mv (.t 29)), none⟩])) .skip))) (.seq (.reg [⟨(some 32), (.mv (.t 0)), none⟩, ⟨(some 33), (.mv
  (.t 1)), none⟩, ⟨(some 34), (.bld [(.str (bytes [])), (.str (bytes []))] [(0, (1, (.t 32))), (1, (1, (.t 33)))]), none⟩, ⟨none, (.st 2 (.t 4) (.t 34)),
  none⟩]) .ret))))⟩

/- schisma/whole.Mul -/
def s97 : SFunc :=
  ⟨2, [(.t 4)], (.seq (.reg [⟨(some 4), (.mv (.k (.str (bytes [])))), none⟩]) (.seq (.seq (.reg [⟨(some 14), (.mv (.t 0)), none⟩, ⟨(some 15), (.callR (.k (.fn 138
  [])) [(.t 14), (.k (.int .i64 9))]), none⟩, ⟨(some 13), (.mv (.t 15)), none⟩, ⟨(some 16), (.ext 0 (.t 13)), none⟩, ⟨(some 17), (.ext 1 (.t 13)), none⟩, ⟨(some
  5), (.mv (.t 16)), none⟩, ⟨(some 6), (.mv (.t 17)), none⟩]) (.seq (.reg [⟨(some 18), (.mv (.t 6)), none⟩]) (.cond (.t 18) (.seq (.reg [⟨(some 20), (.mv (.t
  1)), none⟩, ⟨(some 21), (.callR (.k (.fn 138 [])) [(.t 20), (.k (.int .i64 9))]), none⟩, ⟨(some 19), (.mv (.t 21)), none⟩, ⟨(some 22), (.ext 0 (.t 19)),
  none⟩, ⟨(some 23), (.ext 1 (.t 19)), none⟩, ⟨(some 7), (.mv (.t 22)), none⟩, ⟨(some 8), (.mv (.t 23)), none⟩]) (.seq (.reg [⟨(some 24), (.mv (.t 8)), none⟩])
  (.cond (.t 24) (.seq (.reg [⟨(some 25), (.mv (.t 5)), none⟩, ⟨(some 26), (.mv (.t 7)), none⟩, ⟨(some 27), (.bin .mul (.t 25) (.t 26)), none⟩, ⟨(some 28),
  (.callR (.k (.fn 123 [])) [(.t 27)]), none⟩, ⟨(some 4), (.mv (.t 28)), none⟩]) .ret) .skip))) .skip))) (.seq (.reg [⟨(some 30), (.mv (.t 0)), none⟩, ⟨(some
  31), (.callR (.k (.fn 121 [])) [(.t 30)]), none⟩, ⟨(some 29), (.mv (.t 31)), none⟩, ⟨(some 32), (.ext 0 (.t 29)), none⟩, ⟨(some 33), (.ext 1 (.t 29)), none⟩,
  ⟨(some 9), (.mv (.t 32)), none⟩, ⟨(some 10), (.mv (.t 33)), none⟩]) (.seq (.reg [⟨(some 35), (.mv (.t 1)), none⟩, ⟨(some 36), (.callR (.k (.fn 121 [])) [(.t
  35)]), none⟩, ⟨(some 34), (.mv (.t 36)), none⟩, ⟨(some 37), (.ext 0 (.t 34)), none⟩, ⟨(some 38), (.ext 1 (.t 34)), none⟩, ⟨(some 11), (.mv (.t 37)), none⟩,
  ⟨(some 12), (.mv (.t 38)), none⟩]) (.seq (.reg [⟨(some 39), (.mv (.t 9)), none⟩, ⟨(some 40), (.mv (.t 11)), none⟩, ⟨(some 41), (.beq true (.t 39) (.t 40)),
  none⟩, ⟨(some 42), (.mv (.t 10)), none⟩, ⟨(some 43), (.mv (.t 12)), none⟩, ⟨(some 44), (.callR (.k (.fn 140 [])) [(.t 42), (.t 43)]), none⟩, ⟨(some 45),
  (.callR (.k (.fn 139 [])) [(.t 41), (.t 44)]), none⟩, ⟨(some 4), (.mv (.t 45)), none⟩]) .ret)))))⟩

def s98_0 : SCode :=
  .seq (.reg [⟨(some 15), (.bin .lss (.t 14) (.t 13)), none⟩]) (.seq (.cond (.t 15) .skip (.exit 0)) (.seq (.blk 1 (.seq (.reg [⟨(some 16), (.iad 2 (.t 12) (.t
  14)), none⟩, ⟨(some 17), (.ld 2 true (.t 16)), none⟩, ⟨(some 6), (.alc [(.str (bytes [])), (.str (bytes []))]), none⟩, ⟨none, (.st 2 (.t 6) (.t 17)), none⟩])
  (.seq (.seq (.reg [⟨(some 18), (.ld 2 true (.t 6)), none⟩, ⟨(some 19), (.callR (.k (.fn 78 [])) [(.t 18)]), none⟩, ⟨(some 20), (.bin .neq (.t 19) (.k (.int
  .i64 0))), none⟩]) (.cond (.t 20) (.seq (.reg [⟨(some 4), (.mv (.k (.int .i64 2))), none⟩]) .ret) .skip)) (.seq (.reg [⟨(some 21), (.ld 2 true (.t 6)), none⟩,
  ⟨(some 22), (.callR (.k (.fn 141 [])) [(.t 21)]), none⟩, ⟨(some 23), (.un .not (.t 22)), none⟩]) (.cond (.t 23) (.seq (.reg [⟨(some 4), (.mv (.k (.int .i64
  4))), none⟩]) .ret) .skip))))) (.reg [⟨(some 24), (.bin .add (.t 14) (.k (.int .i64 1))), none⟩, ⟨(some 14), (.mv (.t 24)), none⟩])))

/- schisma/size.check -/
def s98 : SFunc :=
  ⟨2, [(.t 4)], (.seq (.reg [⟨(some 4), (.mv (.k (.int .i64 0))), none⟩]) (.seq (.seq (.reg [⟨(some 7), (.mv (.t 1)), none⟩, ⟨(some 8), (.len (.t 7)), none⟩,
  ⟨(some 9), (.mv (.t 0)), none⟩, ⟨(some 10), (.len (.t 9)), none⟩, ⟨(some 11), (.bin .neq (.t 8) (.t 10)), none⟩]) (.cond (.t 11) (.seq (.reg [⟨(some 4), (.mv
  (.k (.int .i64 5))), none⟩]) .ret) .skip)) (.seq (.seq (.reg [⟨(some 12), (.mv (.t 1)), none⟩, ⟨(some 13), (.len (.t 12)), none⟩, ⟨(some 14), (.mv (.k (.int
  .i64 0))), none⟩]) (.blk 0 (.loop s98_0))) (.seq (.reg [⟨(some 4), (.mv (.k (.int .i64 0))), none⟩]) .ret))))⟩

def s99_1 : SCode :=
  .seq (.reg [⟨(some 24), (.bin .lss (.t 23) (.t 22)), none⟩]) (.seq (.cond (.t 24) .skip (.exit 2)) (.seq (.blk 3 (.seq (.reg [⟨(some 25), (.mv (.t 23)), none⟩,
  ⟨(some 26), (.iad 2 (.t 21) (.t 23)), none⟩, ⟨(some 27), (.ld 2 true (.t 26)), none⟩, ⟨(some 11), (.alc [(.str (bytes [])), (.str (bytes []))]), none⟩, ⟨(some
  10), (.mv (.t 25)), none⟩, ⟨none, (.st 2 (.t 11) (.t 27)), none⟩]) (.reg [⟨(some 28), (.mv (.t 7)), none⟩, ⟨(some 29), (.mv (.t 10)), none⟩, ⟨(some 30), (.mv
  (.t 7)), none⟩, ⟨(some 31), (.mv (.t 10)), none⟩, ⟨(some 32), (.iad 2 (.t 30) (.t 31)), none⟩, ⟨(some 33), (.ld 2 true (.t 32)), none⟩, ⟨(some 34), (.ld 2
  true (.t 11)), none⟩, ⟨(some 35), (.mv (.t 2)), none⟩, ⟨(some 36), (.mv (.t 8)), none⟩, ⟨(some 37), (.iad 2 (.t 35) (.t 36)), none⟩, ⟨(some 38), (.ld 2 true
  (.t 37)), none⟩, ⟨(some 39), (.callR (.k (.fn 143 [])) [(.t 34), (.t 38)]), none⟩, ⟨(some 40), (.callR (.k (.fn 94 [])) [(.t 33), (.t 39)]), none⟩, ⟨(some
  41), (.iad 2 (.t 28) (.t 29)), none⟩, ⟨none, (.st 2 (.t 41) (.t 40)), none⟩]))) (.reg [⟨(some 42), (.bin .add (.t 23) (.k (.int .i64 1))), none⟩, ⟨(some 23),
  (.mv (.t 42)), none⟩])))

def s99_0 : SCode :=
  .seq (.reg [⟨(some 17), (.bin .lss (.t 16) (.t 15)), none⟩]) (.seq (.cond (.t 17) .skip (.exit 0)) (.seq (.blk 1 (.seq (.reg [⟨(some 18), (.mv (.t 16)), none⟩,
  ⟨(some 19), (.iad 1 (.t 14) (.t 16)), none⟩, ⟨(some 20), (.ld 1 false (.t 19)), none⟩, ⟨(some 8), (.mv (.t 18)), none⟩, ⟨(some 9), (.mv (.t 20)), none⟩])
  (.seq (.reg [⟨(some 21), (.mv (.t 9)), none⟩, ⟨(some 22), (.len (.t 21)), none⟩, ⟨(some 23), (.mv (.k (.int .i64 0))), none⟩]) (.blk 2 (.loop s99_1))))) (.reg
  [⟨(some 43), (.bin .add (.t 16) (.k (.int .i64 1))), none⟩, ⟨(some 16), (.mv (.t 43)), none⟩])))

/- schisma/size.sum -/
def s99 : SFunc :=
  ⟨3, [(.t 6)], (.seq (.reg [⟨(some 6), (.mv (.k (.z true))), none⟩]) (.seq (.reg [⟨(some 12), (.mv (.t 0)), none⟩, ⟨(some 13), (.callW (.k (.fn 142 [])) [(.t
  12)]), none⟩, ⟨(some 7), (.mv (.t 13)), none⟩]) (.seq (.seq (.reg [⟨(some 14), (.mv (.t 1)), none⟩, ⟨(some 15), (.len (.t 14)), none⟩, ⟨(some 16), (.mv (.k
  (.int .i64 0))), none⟩]) (.blk 0 (.loop s99_0))) (.seq (.reg [⟨(some 44), (.mv (.t 7)), none⟩, ⟨(some 6), (.mv (.t 44)), none⟩]) .ret))))⟩

/- schisma/size.number -/
def s100 : SFunc :=
  ⟨1, [(.c 2 2 true)], (.seq (.reg [⟨(some 2), (.alc [(.str (bytes [])), (.str (bytes []))]), none⟩]) (.seq (.reg [⟨(some 3), (.mv (.t 0)), none⟩, ⟨(some 4),
  (.callR (.k (.fn 123 [])) [(.t 3)]), none⟩, ⟨(some 5), (.bld [(.str (bytes [])), (.str (bytes []))] [(0, (1, (.t 4))), (1, (1, (.k (.str (bytes [49])))))]),
  none⟩, ⟨none, (.st 2 (.t 2) (.t 5)), none⟩]) .ret))⟩

def s101_0 : SCode :=
  .seq (.seq (.reg [⟨(some 10), (.mv (.t 3)), none⟩, ⟨(some 11), (.mv (.t 3)), none⟩, ⟨(some 12), (.bin .mul (.t 10) (.t 11)), none⟩, ⟨(some 13), (.mv (.t 0)),
  none⟩, ⟨(some 14), (.bin .leq (.t 12) (.t 13)), none⟩]) (.cond (.t 14) .skip (.exit 0))) (.seq (.blk 1 (.seq (.reg [⟨(some 17), (.mv (.t 0)), none⟩, ⟨(some
  18), (.mv (.t 3)), none⟩, ⟨(some 19), (.bin .rem (.t 17) (.t 18)), none⟩, ⟨(some 20), (.bin .eql (.t 19) (.k (.int .i64 0))), none⟩]) (.cond (.t 20) (.seq
  (.reg [⟨(some 2), (.mv (.k (.bool false))), none⟩]) .ret) .skip))) (.reg [⟨(some 15), (.mv (.t 3)), none⟩, ⟨(some 16), (.bin .add (.t 15) (.k (.int .i64 1))),
  none⟩, ⟨(some 3), (.mv (.t 16)), none⟩]))

/- schisma/prime.IsPrime -/
def s101 : SFunc :=
  ⟨1, [(.t 2)], (.seq (.reg [⟨(some 2), (.mv (.k (.bool false))), none⟩]) (.seq (.seq (.reg [⟨(some 4), (.mv (.t 0)), none⟩, ⟨(some 5), (.bin .lss (.t 4) (.k
  (.int .i64 2))), none⟩, ⟨(some 6), (.mv (.t 5)), none⟩, ⟨(some 7), (.mv (.t 0)), (some (6, false))⟩, ⟨(some 8), (.bin .gtr (.t 7) (.k (.int .i64 97))), (some
  (6, false))⟩, ⟨(some 9), (.pick (.t 6) (.k (.bool true)) (.t 8)), none⟩]) (.cond (.t 9) (.seq (.reg [⟨(some 2), (.mv (.k (.bool false))), none⟩]) .ret)
  .skip)) (.seq (.seq (.reg [⟨(some 3), (.mv (.k (.int .i64 2))), none⟩]) (.blk 0 (.loop s101_0))) (.seq (.reg [⟨(some 2), (.mv (.k (.bool true))), none⟩])
  .ret))))⟩

def s103_0 : SCode :=
  .seq (.reg [⟨(some 14), (.bin .lss (.t 13) (.t 12)), none⟩]) (.seq (.cond (.t 14) .skip (.exit 0)) (.seq (.blk 1 (.seq (.reg [⟨(some 15), (.mv (.t 13)), none⟩,
  ⟨(some 5), (.mv (.t 15)), none⟩]) (.seq (.reg [⟨(some 16), (.mv (.t 0)), none⟩, ⟨(some 17), (.mv (.t 5)), none⟩, ⟨(some 18), (.iad 2 (.t 16) (.t 17)), none⟩,
  ⟨(some 19), (.ld 2 true (.t 18)), none⟩, ⟨(some 20), (.mv (.t 1)), none⟩, ⟨(some 21), (.mv (.t 5)), none⟩, ⟨(some 22), (.iad 2 (.t 20) (.t 21)), none⟩, ⟨(some
  23), (.ld 2 true (.t 22)), none⟩, ⟨(some 24), (.eqs 2 true (.t 19) (.t 23)), none⟩]) (.cond (.t 24) (.seq (.reg [⟨(some 4), (.mv (.k (.bool false))), none⟩])
  .ret) .skip)))) (.reg [⟨(some 25), (.bin .add (.t 13) (.k (.int .i64 1))), none⟩, ⟨(some 13), (.mv (.t 25)), none⟩])))

/- slices.Equal[schisma/api.Size,schisma/api.Rational] -/
def s103 : SFunc :=
  ⟨2, [(.t 4)], (.seq (.reg [⟨(some 4), (.mv (.k (.bool false))), none⟩]) (.seq (.seq (.reg [⟨(some 6), (.mv (.t 0)), none⟩, ⟨(some 7), (.len (.t 6)), none⟩,
  ⟨(some 8), (.mv (.t 1)), none⟩, ⟨(some 9), (.len (.t 8)), none⟩, ⟨(some 10), (.bin .neq (.t 7) (.t 9)), none⟩]) (.cond (.t 10) (.seq (.reg [⟨(some 4), (.mv
  (.k (.bool false))), none⟩]) .ret) .skip)) (.seq (.seq (.reg [⟨(some 11), (.mv (.t 0)), none⟩, ⟨(some 12), (.len (.t 11)), none⟩, ⟨(some 13), (.mv (.k (.int
  .i64 0))), none⟩]) (.blk 0 (.loop s103_0))) (.seq (.reg [⟨(some 4), (.mv (.k (.bool true))), none⟩]) .ret))))⟩

/- schisma/generator.two -/
def s104 : SFunc :=
  ⟨1, [(.t 2)], (.seq (.reg [⟨(some 1), (.box 3 (.t 0)), none⟩, ⟨(some 2), (.mv (.k (.int .i64 0))), none⟩]) (.seq (.seq (.reg [⟨(some 4), (.ld 3 true (.t 1)),
  none⟩, ⟨(some 5), (.callR (.k (.fn 131 [])) [(.t 4)]), none⟩, ⟨(some 3), (.mv (.t 5)), none⟩]) (.blk 0 (.seq (.reg [⟨(some 7), (.mv (.t 3)), none⟩, ⟨(some 8),
  (.bin .neq (.t 7) (.k (.int .i64 0))), none⟩, ⟨(some 6), (.mv (.t 8)), none⟩]) (.cond (.t 6) (.seq (.reg [⟨(some 9), (.mv (.t 3)), none⟩, ⟨(some 2), (.mv (.t
  9)), none⟩]) .ret) (.seq (.reg [⟨(some 11), (.fad 2 (.t 1)), none⟩, ⟨(some 12), (.ld 1 false (.t 11)), none⟩, ⟨(some 13), (.len (.t 12)), none⟩, ⟨(some 14),
  (.bin .neq (.t 13) (.k (.int .i64 2))), none⟩, ⟨(some 10), (.mv (.t 14)), none⟩]) (.cond (.t 10) (.seq (.reg [⟨(some 2), (.mv (.k (.int .i64 5))), none⟩])
  .ret) (.seq (.reg [⟨(some 16), (.fad 2 (.t 1)), none⟩, ⟨(some 17), (.ld 1 false (.t 16)), none⟩, ⟨(some 18), (.iad 1 (.t 17) (.k (.int .i64 0))), none⟩,
  ⟨(some 19), (.ld 1 false (.t 18)), none⟩, ⟨(some 20), (.iad 1 (.t 19) (.k (.int .i64 0))), none⟩, ⟨(some 21), (.ld 1 false (.t 20)), none⟩, ⟨(some 22), (.bin
  .eql (.t 21) (.k (.int .i64 0))), none⟩, ⟨(some 15), (.mv (.t 22)), none⟩]) (.cond (.t 15) (.seq (.reg [⟨(some 2), (.mv (.k (.int .i64 26))), none⟩]) .ret)
  .skip)))))))) (.seq (.reg [⟨(some 2), (.mv (.k (.int .i64 0))), none⟩]) .ret)))⟩

/- schisma/generator.Of$1 -/
def s105 : SFunc :=
  ⟨1, [(.t 2)], (.seq (.reg [⟨(some 2), (.mv (.k (.z true))), none⟩]) (.seq (.reg [⟨(some 3), (.bsl 1 [(.int .i64 0)] 0 []), none⟩, ⟨(some 4), (.mv (.t 0)),
  none⟩, ⟨(some 5), (.app 1 (.t 3) (.t 4)), none⟩, ⟨(some 2), (.mv (.t 5)), none⟩]) .ret))⟩

/- schisma/tradeoff.scaled -/
def s106 : SFunc :=
  ⟨2, [(.t 4), (.t 5)], (.seq (.reg [⟨(some 3), (.box 2 (.t 1)), none⟩, ⟨(some 4), (.mv (.k (.z true))), none⟩, ⟨(some 5), (.mv (.k (.int .i64 0))), none⟩]) (.seq
  (.reg [⟨(some 9), (.mv (.t 0)), none⟩, ⟨(some 10), (.callR (.k (.fn 144 [])) [(.t 9)]), none⟩, ⟨(some 8), (.mv (.t 10)), none⟩, ⟨(some 11), (.ext 0 (.t 8)),
  none⟩, ⟨(some 12), (.ext 1 (.t 8)), none⟩, ⟨(some 6), (.mv (.t 11)), none⟩, ⟨(some 7), (.mv (.t 12)), none⟩]) (.seq (.seq (.reg [⟨(some 13), (.mv (.t 7)),
  none⟩, ⟨(some 14), (.bin .neq (.t 13) (.k (.int .i64 0))), none⟩]) (.cond (.t 14) (.seq (.reg [⟨(some 15), (.mv (.t 7)), none⟩, ⟨(some 4), (.mv (.k (.z
  true))), none⟩, ⟨(some 5), (.mv (.t 15)), none⟩]) .ret) .skip)) (.seq (.reg [⟨(some 16), (.mv (.t 0)), none⟩, ⟨(some 17), (.mv (.t 6)), none⟩, ⟨(some 18),
  (.ld 2 true (.t 3)), none⟩, ⟨(some 19), (.callR (.k (.fn 145 [])) [(.t 16), (.t 17), (.t 18)]), none⟩, ⟨(some 20), (.ext 0 (.t 19)), none⟩, ⟨(some 21), (.ext
  1 (.t 19)), none⟩, ⟨(some 4), (.mv (.t 20)), none⟩, ⟨(some 5), (.mv (.t 21)), none⟩]) .ret))))⟩

/- schisma/tuning.Check -/
def s108 : SFunc :=
  ⟨1, [(.t 2)], (.seq (.reg [⟨(some 1), (.box 4 (.t 0)), none⟩, ⟨(some 2), (.mv (.k (.int .i64 0))), none⟩]) (.seq (.seq (.reg [⟨(some 4), (.fad 0 (.t 1)), none⟩,
  ⟨(some 5), (.ld 3 true (.t 4)), none⟩, ⟨(some 6), (.callR (.k (.fn 131 [])) [(.t 5)]), none⟩, ⟨(some 3), (.mv (.t 6)), none⟩]) (.seq (.reg [⟨(some 7), (.mv
  (.t 3)), none⟩, ⟨(some 8), (.bin .neq (.t 7) (.k (.int .i64 0))), none⟩]) (.cond (.t 8) (.seq (.reg [⟨(some 9), (.mv (.t 3)), none⟩, ⟨(some 2), (.mv (.t 9)),
  none⟩]) .ret) .skip))) (.seq (.seq (.reg [⟨(some 10), (.fad 3 (.t 1)), none⟩, ⟨(some 11), (.ld 1 false (.t 10)), none⟩, ⟨(some 12), (.len (.t 11)), none⟩,
  ⟨(some 13), (.fad 0 (.t 1)), none⟩, ⟨(some 14), (.fad 2 (.t 13)), none⟩, ⟨(some 15), (.ld 1 false (.t 14)), none⟩, ⟨(some 16), (.len (.t 15)), none⟩, ⟨(some
  17), (.bin .neq (.t 12) (.t 16)), none⟩]) (.cond (.t 17) (.seq (.reg [⟨(some 2), (.mv (.k (.int .i64 5))), none⟩]) .ret) .skip)) (.seq (.reg [⟨(some 18),
  (.fad 0 (.t 1)), none⟩, ⟨(some 19), (.fad 0 (.t 18)), none⟩, ⟨(some 20), (.ld 1 false (.t 19)), none⟩, ⟨(some 21), (.fad 3 (.t 1)), none⟩, ⟨(some 22), (.ld 1
  false (.t 21)), none⟩, ⟨(some 23), (.callR (.k (.fn 57 [])) [(.t 20), (.t 22)]), none⟩, ⟨(some 2), (.mv (.t 23)), none⟩]) .ret))))⟩

def s109_1 : SCode :=
  .seq (.reg [⟨(some 26), (.bin .lss (.t 25) (.t 24)), none⟩]) (.seq (.cond (.t 26) .skip (.exit 2)) (.seq (.blk 3 (.seq (.reg [⟨(some 27), (.mv (.t 25)), none⟩,
  ⟨(some 10), (.mv (.t 27)), none⟩]) (.reg [⟨(some 28), (.mv (.t 7)), none⟩, ⟨(some 29), (.mv (.t 10)), none⟩, ⟨(some 30), (.mv (.t 7)), none⟩, ⟨(some 31), (.mv
  (.t 10)), none⟩, ⟨(some 32), (.iad 2 (.t 30) (.t 31)), none⟩, ⟨(some 33), (.ld 2 true (.t 32)), none⟩, ⟨(some 34), (.mv (.t 9)), none⟩, ⟨(some 35), (.mv (.t
  10)), none⟩, ⟨(some 36), (.iad 2 (.t 34) (.t 35)), none⟩, ⟨(some 37), (.ld 2 true (.t 36)), none⟩, ⟨(some 38), (.mv (.t 2)), none⟩, ⟨(some 39), (.mv (.t 8)),
  none⟩, ⟨(some 40), (.iad 2 (.t 38) (.t 39)), none⟩, ⟨(some 41), (.ld 2 true (.t 40)), none⟩, ⟨(some 42), (.callR (.k (.fn 143 [])) [(.t 37), (.t 41)]), none⟩,
  ⟨(some 43), (.callR (.k (.fn 94 [])) [(.t 33), (.t 42)]), none⟩, ⟨(some 44), (.iad 2 (.t 28) (.t 29)), none⟩, ⟨none, (.st 2 (.t 44) (.t 43)), none⟩]))) (.reg
  [⟨(some 45), (.bin .add (.t 25) (.k (.int .i64 1))), none⟩, ⟨(some 25), (.mv (.t 45)), none⟩])))

def s109_0 : SCode :=
  .seq (.reg [⟨(some 19), (.bin .lss (.t 18) (.t 17)), none⟩]) (.seq (.cond (.t 19) .skip (.exit 0)) (.seq (.blk 1 (.seq (.reg [⟨(some 20), (.mv (.t 18)), none⟩,
  ⟨(some 21), (.iad 1 (.t 16) (.t 18)), none⟩, ⟨(some 22), (.ld 1 false (.t 21)), none⟩, ⟨(some 8), (.mv (.t 20)), none⟩, ⟨(some 9), (.mv (.t 22)), none⟩])
  (.seq (.reg [⟨(some 23), (.mv (.t 7)), none⟩, ⟨(some 24), (.len (.t 23)), none⟩, ⟨(some 25), (.mv (.k (.int .i64 0))), none⟩]) (.blk 2 (.loop s109_1)))))
  (.reg [⟨(some 46), (.bin .add (.t 18) (.k (.int .i64 1))), none⟩, ⟨(some 18), (.mv (.t 46)), none⟩])))

/- schisma/tuning.combine -/
def s109 : SFunc :=
  ⟨3, [(.t 6)], (.seq (.reg [⟨(some 6), (.mv (.k (.z true))), none⟩]) (.seq (.reg [⟨(some 11), (.bld [(.str (bytes [])), (.str (bytes []))] [(0, (1, (.k (.str
  (bytes [48]))))), (1, (1, (.k (.str (bytes [49])))))]), none⟩, ⟨(some 12), (.bsl 2 [(.str (bytes [])), (.str (bytes []))] 1 [(0, (.t 11))]), none⟩, ⟨(some
  13), (.mv (.t 0)), none⟩, ⟨(some 14), (.len (.t 13)), none⟩, ⟨(some 15), (.callW (.k (.fn 146 [])) [(.t 12), (.t 14)]), none⟩, ⟨(some 7), (.mv (.t 15)),
  none⟩]) (.seq (.seq (.reg [⟨(some 16), (.mv (.t 1)), none⟩, ⟨(some 17), (.len (.t 16)), none⟩, ⟨(some 18), (.mv (.k (.int .i64 0))), none⟩]) (.blk 0 (.loop
  s109_0))) (.seq (.reg [⟨(some 47), (.mv (.t 7)), none⟩, ⟨(some 6), (.mv (.t 47)), none⟩]) .ret))))⟩

/- schisma/whole.Lcm -/
def s110 : SFunc :=
  ⟨2, [(.t 4)], (.seq (.reg [⟨(some 4), (.mv (.k (.str (bytes [])))), none⟩]) (.seq (.reg [⟨(some 5), (.mv (.t 0)), none⟩, ⟨(some 6), (.callR (.k (.fn 80 []))
  [(.t 5)]), none⟩, ⟨(some 7), (.mv (.t 1)), none⟩, ⟨(some 8), (.callR (.k (.fn 80 [])) [(.t 7)]), none⟩, ⟨(some 9), (.callR (.k (.fn 147 [])) [(.t 6), (.t
  8)]), none⟩, ⟨(some 4), (.mv (.t 9)), none⟩]) .ret))⟩

/- schisma/whole.DivMod -/
def s111 : SFunc :=
  ⟨2, [(.t 4), (.t 5), (.t 6)], (.seq (.reg [⟨(some 4), (.mv (.k (.str (bytes [])))), none⟩, ⟨(some 5), (.mv (.k (.str (bytes [])))), none⟩, ⟨(some 6), (.mv (.k
  (.int .i64 0))), none⟩]) (.seq (.seq (.reg [⟨(some 19), (.mv (.t 1)), none⟩, ⟨(some 20), (.bin .eql (.t 19) (.k (.str (bytes [48])))), none⟩]) (.cond (.t 20)
  (.seq (.reg [⟨(some 4), (.mv (.k (.str (bytes [])))), none⟩, ⟨(some 5), (.mv (.k (.str (bytes [])))), none⟩, ⟨(some 6), (.mv (.k (.int .i64 17))), none⟩])
  .ret) .skip)) (.seq (.seq (.reg [⟨(some 22), (.mv (.t 0)), none⟩, ⟨(some 23), (.callR (.k (.fn 138 [])) [(.t 22), (.k (.int .i64 18))]), none⟩, ⟨(some 21),
  (.mv (.t 23)), none⟩, ⟨(some 24), (.ext 0 (.t 21)), none⟩, ⟨(some 25), (.ext 1 (.t 21)), none⟩, ⟨(some 7), (.mv (.t 24)), none⟩, ⟨(some 8), (.mv (.t 25)),
  none⟩]) (.seq (.reg [⟨(some 26), (.mv (.t 8)), none⟩]) (.cond (.t 26) (.seq (.reg [⟨(some 28), (.mv (.t 1)), none⟩, ⟨(some 29), (.callR (.k (.fn 138 [])) [(.t
  28), (.k (.int .i64 18))]), none⟩, ⟨(some 27), (.mv (.t 29)), none⟩, ⟨(some 30), (.ext 0 (.t 27)), none⟩, ⟨(some 31), (.ext 1 (.t 27)), none⟩, ⟨(some 9), (.mv
  (.t 30)), none⟩, ⟨(some 10), (.mv (.t 31)), none⟩]) (.seq (.reg [⟨(some 32), (.mv (.t 10)), none⟩]) (.cond (.t 32) (.seq (.reg [⟨(some 33), (.mv (.t 7)),
  none⟩, ⟨(some 34), (.mv (.t 9)), none⟩, ⟨(some 35), (.bin .quo (.t 33) (.t 34)), none⟩, ⟨(some 36), (.mv (.t 7)), none⟩, ⟨(some 37), (.mv (.t 9)), none⟩,
  ⟨(some 38), (.bin .rem (.t 36) (.t 37)), none⟩, ⟨(some 11), (.mv (.t 35)), none⟩, ⟨(some 12), (.mv (.t 38)), none⟩]) (.seq (.seq (.reg [⟨(some 39), (.mv (.t
  12)), none⟩, ⟨(some 40), (.bin .neq (.t 39) (.k (.int .i64 0))), none⟩, ⟨(some 41), (.mv (.t 40)), none⟩, ⟨(some 42), (.mv (.t 12)), (some (41, true))⟩,
  ⟨(some 43), (.bin .lss (.t 42) (.k (.int .i64 0))), (some (41, true))⟩, ⟨(some 44), (.mv (.t 9)), (some (41, true))⟩, ⟨(some 45), (.bin .lss (.t 44) (.k (.int
  .i64 0))), (some (41, true))⟩, ⟨(some 46), (.beq true (.t 43) (.t 45)), (some (41, true))⟩, ⟨(some 47), (.pick (.t 41) (.t 46) (.k (.bool false))), none⟩])
  (.cond (.t 47) (.reg [⟨(some 48), (.mv (.t 11)), none⟩, ⟨(some 49), (.bin .sub (.t 48) (.k (.int .i64 1))), none⟩, ⟨(some 50), (.mv (.t 12)), none⟩, ⟨(some
  51), (.mv (.t 9)), none⟩, ⟨(some 52), (.bin .add (.t 50) (.t 51)), none⟩, ⟨(some 11), (.mv (.t 49)), none⟩, ⟨(some 12), (.mv (.t 52)), none⟩]) .skip)) (.seq
  (.reg [⟨(some 53), (.mv (.t 11)), none⟩, ⟨(some 54), (.callR (.k (.fn 123 [])) [(.t 53)]), none⟩, ⟨(some 55), (.mv (.t 12)), none⟩, ⟨(some 56), (.callR (.k
  (.fn 123 [])) [(.t 55)]), none⟩, ⟨(some 4), (.mv (.t 54)), none⟩, ⟨(some 5), (.mv (.t 56)), none⟩, ⟨(some 6), (.mv (.k (.int .i64 0))), none⟩]) .ret)))
  .skip))) .skip))) (.seq (.reg [⟨(some 58), (.mv (.t 0)), none⟩, ⟨(some 59), (.callR (.k (.fn 121 [])) [(.t 58)]), none⟩, ⟨(some 57), (.mv (.t 59)), none⟩,
  ⟨(some 60), (.ext 0 (.t 57)), none⟩, ⟨(some 61), (.ext 1 (.t 57)), none⟩, ⟨(some 13), (.mv (.t 60)), none⟩, ⟨(some 14), (.mv (.t 61)), none⟩]) (.seq (.reg
  [⟨(some 63), (.mv (.t 1)), none⟩, ⟨(some 64), (.callR (.k (.fn 121 [])) [(.t 63)]), none⟩, ⟨(some 62), (.mv (.t 64)), none⟩, ⟨(some 65), (.ext 0 (.t 62)),
  none⟩, ⟨(some 66), (.ext 1 (.t 62)), none⟩, ⟨(some 15), (.mv (.t 65)), none⟩, ⟨(some 16), (.mv (.t 66)), none⟩]) (.seq (.reg [⟨(some 68), (.mv (.t 14)),
  none⟩, ⟨(some 69), (.mv (.t 16)), none⟩, ⟨(some 70), (.callR (.k (.fn 148 [])) [(.t 68), (.t 69)]), none⟩, ⟨(some 67), (.mv (.t 70)), none⟩, ⟨(some 71), (.ext
  0 (.t 67)), none⟩, ⟨(some 72), (.ext 1 (.t 67)), none⟩, ⟨(some 73), (.ext 2 (.t 67)), none⟩, ⟨(some 17), (.mv (.t 71)), none⟩, ⟨(some 18), (.mv (.t 72)),
  none⟩, ⟨(some 6), (.mv (.t 73)), none⟩]) (.seq (.seq (.reg [⟨(some 74), (.mv (.t 6)), none⟩, ⟨(some 75), (.bin .neq (.t 74) (.k (.int .i64 0))), none⟩])
  (.cond (.t 75) (.seq (.reg [⟨(some 76), (.mv (.t 6)), none⟩, ⟨(some 4), (.mv (.k (.str (bytes [])))), none⟩, ⟨(some 5), (.mv (.k (.str (bytes [])))), none⟩,
  ⟨(some 6), (.mv (.t 76)), none⟩]) .ret) .skip)) (.seq (.seq (.reg [⟨(some 77), (.mv (.t 13)), none⟩, ⟨(some 78), (.mv (.t 15)), none⟩, ⟨(some 79), (.beq true
  (.t 77) (.t 78)), none⟩, ⟨(some 80), (.mv (.t 79)), none⟩, ⟨(some 81), (.mv (.t 18)), (some (80, true))⟩, ⟨(some 82), (.bin .neq (.t 81) (.k (.str (bytes
  [48])))), (some (80, true))⟩, ⟨(some 83), (.pick (.t 80) (.t 82) (.k (.bool false))), none⟩]) (.cond (.t 83) (.seq (.reg [⟨(some 84), (.mv (.t 17)), none⟩,
  ⟨(some 85), (.callR (.k (.fn 149 [])) [(.t 84), (.k (.str (bytes [49])))]), none⟩, ⟨(some 17), (.mv (.t 85)), none⟩]) (.reg [⟨(some 87), (.mv (.t 16)), none⟩,
  ⟨(some 88), (.mv (.t 18)), none⟩, ⟨(some 89), (.callR (.k (.fn 150 [])) [(.t 87), (.t 88)]), none⟩, ⟨(some 86), (.mv (.t 89)), none⟩, ⟨(some 90), (.ext 0 (.t
  86)), none⟩, ⟨(some 91), (.ext 1 (.t 86)), none⟩, ⟨(some 18), (.mv (.t 90)), none⟩])) .skip)) (.seq (.reg [⟨(some 92), (.mv (.t 13)), none⟩, ⟨(some 93), (.mv
  (.t 15)), none⟩, ⟨(some 94), (.beq true (.t 92) (.t 93)), none⟩, ⟨(some 95), (.mv (.t 17)), none⟩, ⟨(some 96), (.callR (.k (.fn 139 [])) [(.t 94), (.t 95)]),
  none⟩, ⟨(some 97), (.mv (.t 15)), none⟩, ⟨(some 98), (.mv (.t 18)), none⟩, ⟨(some 99), (.callR (.k (.fn 139 [])) [(.t 97), (.t 98)]), none⟩, ⟨(some 4), (.mv
  (.t 96)), none⟩, ⟨(some 5), (.mv (.t 99)), none⟩, ⟨(some 6), (.mv (.k (.int .i64 0))), none⟩]) .ret)))))))))⟩

/- (schisma/size.terms).quick -/
def s112 : SFunc :=
  ⟨1, [(.t 2)], (.seq (.reg [⟨(some 1), (.box 3 (.t 0)), none⟩, ⟨(some 2), (.mv (.k (.int .i64 0))), none⟩]) (.seq (.reg [⟨(some 7), (.ld 3 true (.t 1)), none⟩,
  ⟨(some 8), (.callR (.k (.fn 151 [])) [(.t 7), (.k (.int .i64 10000000))]), none⟩, ⟨(some 6), (.mv (.t 8)), none⟩, ⟨(some 9), (.ext 0 (.t 6)), none⟩, ⟨(some
  10), (.ext 1 (.t 6)), none⟩, ⟨(some 11), (.ext 2 (.t 6)), none⟩, ⟨(some 3), (.mv (.t 9)), none⟩, ⟨(some 4), (.mv (.t 10)), none⟩, ⟨(some 5), (.mv (.t 11)),
  none⟩]) (.seq (.blk 0 (.seq (.reg [⟨(some 13), (.mv (.t 5)), none⟩, ⟨(some 14), (.un .not (.t 13)), none⟩, ⟨(some 12), (.mv (.t 14)), none⟩]) (.cond (.t 12)
  (.seq (.reg [⟨(some 2), (.mv (.k (.int .i64 0))), none⟩]) .ret) (.seq (.reg [⟨(some 16), (.mv (.t 3)), none⟩, ⟨(some 17), (.bin .geq (.t 16) (.k (.int .i64
  0))), none⟩, ⟨(some 15), (.mv (.t 17)), none⟩]) (.cond (.t 15) (.seq (.reg [⟨(some 2), (.mv (.k (.int .i64 1))), none⟩]) .ret) (.seq (.reg [⟨(some 19), (.mv
  (.t 4)), none⟩, ⟨(some 20), (.bin .leq (.t 19) (.k (.int .i64 0))), none⟩, ⟨(some 18), (.mv (.t 20)), none⟩]) (.cond (.t 18) (.seq (.reg [⟨(some 2), (.mv (.k
  (.int .i64 (-1)))), none⟩]) .ret) .skip))))))) (.seq (.reg [⟨(some 2), (.mv (.k (.int .i64 0))), none⟩]) .ret))))⟩

/- schisma/whole.Sign -/
def s114 : SFunc :=
  ⟨1, [(.t 2)], (.seq (.reg [⟨(some 2), (.mv (.k (.int .i64 0))), none⟩]) (.seq (.blk 0 (.seq (.reg [⟨(some 4), (.mv (.t 0)), none⟩, ⟨(some 5), (.bin .eql (.t 4)
  (.k (.str (bytes [48])))), none⟩, ⟨(some 3), (.mv (.t 5)), none⟩]) (.cond (.t 3) (.seq (.reg [⟨(some 2), (.mv (.k (.int .i64 0))), none⟩]) .ret) (.seq (.reg
  [⟨(some 7), (.mv (.t 0)), none⟩, ⟨(some 8), (.idxs (.t 7) (.k (.int .i64 0))), none⟩, ⟨(some 9), (.bin .eql (.t 8) (.k (.int .u8 45))), none⟩, ⟨(some 6), (.mv
  (.t 9)), none⟩]) (.cond (.t 6) (.seq (.reg [⟨(some 2), (.mv (.k (.int .i64 (-1)))), none⟩]) .ret) .skip))))) (.seq (.reg [⟨(some 2), (.mv (.k (.int .i64 1))),
  none⟩]) .ret)))⟩

def s115_0 : SCode :=
  .seq (.reg [⟨(some 31), (.bin .lss (.t 30) (.t 29)), none⟩]) (.seq (.cond (.t 31) .skip (.exit 0)) (.seq (.blk 1 (.seq (.reg [⟨(some 32), (.iad 3 (.t 28) (.t
  30)), none⟩, ⟨(some 33), (.ld 3 true (.t 32)), none⟩, ⟨(some 11), (.alc [(.z true), (.str (bytes [])), (.str (bytes []))]), none⟩, ⟨none, (.st 3 (.t 11) (.t
  33)), none⟩]) (.seq (.reg [⟨(some 35), (.ld 4 true (.t 2)), none⟩, ⟨(some 36), (.fad 0 (.t 11)), none⟩, ⟨(some 37), (.ld 1 false (.t 36)), none⟩, ⟨(some 38),
  (.callR (.k (.fn 35 [])) [(.t 35), (.t 37)]), none⟩, ⟨(some 34), (.mv (.t 38)), none⟩, ⟨(some 39), (.ext 0 (.t 34)), none⟩, ⟨(some 40), (.ext 1 (.t 34)),
  none⟩, ⟨(some 12), (.mv (.t 39)), none⟩, ⟨(some 13), (.mv (.t 40)), none⟩]) (.seq (.seq (.reg [⟨(some 41), (.mv (.t 13)), none⟩, ⟨(some 42), (.bin .eql (.t
  41) (.k (.int .i64 0))), none⟩]) (.cond (.t 42) (.reg [⟨(some 44), (.mv (.t 7)), none⟩, ⟨(some 45), (.mv (.t 12)), none⟩, ⟨(some 46), (.callR (.k (.fn 154
  [])) [(.t 44), (.t 45)]), none⟩, ⟨(some 43), (.mv (.t 46)), none⟩, ⟨(some 47), (.ext 0 (.t 43)), none⟩, ⟨(some 48), (.ext 1 (.t 43)), none⟩, ⟨(some 12), (.mv
  (.t 47)), none⟩, ⟨(some 13), (.mv (.t 48)), none⟩]) .skip)) (.seq (.seq (.reg [⟨(some 49), (.mv (.t 13)), none⟩, ⟨(some 50), (.bin .eql (.t 49) (.k (.int .i64
  0))), none⟩]) (.cond (.t 50) (.reg [⟨(some 52), (.mv (.t 7)), none⟩, ⟨(some 53), (.mv (.t 12)), none⟩, ⟨(some 54), (.fad 1 (.t 11)), none⟩, ⟨(some 55), (.ld 2
  true (.t 54)), none⟩, ⟨(some 56), (.callR (.k (.fn 145 [])) [(.t 52), (.t 53), (.t 55)]), none⟩, ⟨(some 51), (.mv (.t 56)), none⟩, ⟨(some 57), (.ext 0 (.t
  51)), none⟩, ⟨(some 58), (.ext 1 (.t 51)), none⟩, ⟨(some 12), (.mv (.t 57)), none⟩, ⟨(some 13), (.mv (.t 58)), none⟩]) .skip)) (.seq (.seq (.reg [⟨(some 59),
  (.mv (.t 13)), none⟩, ⟨(some 60), (.bin .neq (.t 59) (.k (.int .i64 0))), none⟩]) (.cond (.t 60) (.seq (.reg [⟨(some 61), (.mv (.t 13)), none⟩, ⟨(some 4),
  (.mv (.k (.z true))), none⟩, ⟨(some 5), (.mv (.t 61)), none⟩]) .ret) .skip)) (.reg [⟨(some 62), (.mv (.t 9)), none⟩, ⟨(some 63), (.mv (.t 12)), none⟩, ⟨(some
  64), (.bsl 1 [(.z true)] 1 [(0, (.t 63))]), none⟩, ⟨(some 65), (.app 1 (.t 62) (.t 64)), none⟩, ⟨(some 9), (.mv (.t 65)), none⟩]))))))) (.reg [⟨(some 66),
  (.bin .add (.t 30) (.k (.int .i64 1))), none⟩, ⟨(some 30), (.mv (.t 66)), none⟩])))

/- schisma/damage.All -/
def s115 : SFunc :=
  ⟨2, [(.t 4), (.t 5)], (.seq (.reg [⟨(some 2), (.box 4 (.t 0)), none⟩, ⟨(some 4), (.mv (.k (.z true))), none⟩, ⟨(some 5), (.mv (.k (.int .i64 0))), none⟩]) (.seq
  (.seq (.reg [⟨(some 14), (.ld 4 true (.t 2)), none⟩, ⟨(some 15), (.callR (.k (.fn 108 [])) [(.t 14)]), none⟩, ⟨(some 6), (.mv (.t 15)), none⟩]) (.seq (.reg
  [⟨(some 16), (.mv (.t 6)), none⟩, ⟨(some 17), (.bin .neq (.t 16) (.k (.int .i64 0))), none⟩]) (.cond (.t 17) (.seq (.reg [⟨(some 18), (.mv (.t 6)), none⟩,
  ⟨(some 4), (.mv (.k (.z true))), none⟩, ⟨(some 5), (.mv (.t 18)), none⟩]) .ret) .skip))) (.seq (.reg [⟨(some 19), (.fad 0 (.t 2)), none⟩, ⟨(some 20), (.fad 0
  (.t 19)), none⟩, ⟨(some 21), (.ld 1 false (.t 20)), none⟩, ⟨(some 7), (.mv (.t 21)), none⟩]) (.seq (.seq (.reg [⟨(some 22), (.mv (.t 7)), none⟩, ⟨(some 23),
  (.mv (.t 1)), none⟩, ⟨(some 24), (.callR (.k (.fn 39 [])) [(.t 22), (.t 23)]), none⟩, ⟨(some 8), (.mv (.t 24)), none⟩]) (.seq (.reg [⟨(some 25), (.mv (.t 8)),
  none⟩, ⟨(some 26), (.bin .neq (.t 25) (.k (.int .i64 0))), none⟩]) (.cond (.t 26) (.seq (.reg [⟨(some 27), (.mv (.t 8)), none⟩, ⟨(some 4), (.mv (.k (.z
  true))), none⟩, ⟨(some 5), (.mv (.t 27)), none⟩]) .ret) .skip))) (.seq (.reg [⟨(some 9), (.mv (.k (.z true))), none⟩]) (.seq (.seq (.reg [⟨(some 28), (.mv (.t
  1)), none⟩, ⟨(some 29), (.len (.t 28)), none⟩, ⟨(some 30), (.mv (.k (.int .i64 0))), none⟩]) (.blk 0 (.loop s115_0))) (.seq (.reg [⟨(some 67), (.mv (.t 9)),
  none⟩, ⟨(some 4), (.mv (.t 67)), none⟩, ⟨(some 5), (.mv (.k (.int .i64 0))), none⟩]) .ret)))))))⟩

def s116_0 : SCode :=
  .seq (.reg [⟨(some 23), (.bin .lss (.t 22) (.t 21)), none⟩]) (.seq (.cond (.t 23) .skip (.exit 0)) (.seq (.blk 1 (.seq (.reg [⟨(some 24), (.mv (.t 22)), none⟩,
  ⟨(some 25), (.iad 1 (.t 20) (.t 22)), none⟩, ⟨(some 26), (.ld 1 false (.t 25)), none⟩, ⟨(some 9), (.mv (.t 24)), none⟩, ⟨(some 10), (.mv (.t 26)), none⟩])
  (.reg [⟨(some 27), (.mv (.t 8)), none⟩, ⟨(some 28), (.mv (.t 1)), none⟩, ⟨(some 29), (.mv (.t 9)), none⟩, ⟨(some 30), (.iad 3 (.t 28) (.t 29)), none⟩, ⟨(some
  31), (.ld 3 true (.t 30)), none⟩, ⟨(some 32), (.mv (.t 10)), none⟩, ⟨(some 33), (.mv (.t 9)), none⟩, ⟨(some 34), (.bld [(.z true), (.str (bytes [])), (.str
  (bytes [])), (.z true), (.int .i64 0)] [(0, (3, (.t 31))), (3, (1, (.t 32))), (4, (1, (.t 33)))]), none⟩, ⟨(some 35), (.bsl 5 [(.z true), (.str (bytes [])),
  (.str (bytes [])), (.z true), (.int .i64 0)] 1 [(0, (.t 34))]), none⟩, ⟨(some 36), (.app 5 (.t 27) (.t 35)), none⟩, ⟨(some 8), (.mv (.t 36)), none⟩]))) (.reg
  [⟨(some 37), (.bin .add (.t 22) (.k (.int .i64 1))), none⟩, ⟨(some 22), (.mv (.t 37)), none⟩])))

/- schisma/damage.sorted -/
def s116 : SFunc :=
  ⟨2, [(.t 4), (.t 5)], (.seq (.reg [⟨(some 2), (.box 4 (.t 0)), none⟩, ⟨(some 4), (.mv (.k (.z true))), none⟩, ⟨(some 5), (.mv (.k (.int .i64 0))), none⟩]) (.seq
  (.reg [⟨(some 12), (.ld 4 true (.t 2)), none⟩, ⟨(some 13), (.mv (.t 1)), none⟩, ⟨(some 14), (.callR (.k (.fn 115 [])) [(.t 12), (.t 13)]), none⟩, ⟨(some 11),
  (.mv (.t 14)), none⟩, ⟨(some 15), (.ext 0 (.t 11)), none⟩, ⟨(some 16), (.ext 1 (.t 11)), none⟩, ⟨(some 6), (.mv (.t 15)), none⟩, ⟨(some 7), (.mv (.t 16)),
  none⟩]) (.seq (.seq (.reg [⟨(some 17), (.mv (.t 7)), none⟩, ⟨(some 18), (.bin .neq (.t 17) (.k (.int .i64 0))), none⟩]) (.cond (.t 18) (.seq (.reg [⟨(some
  19), (.mv (.t 7)), none⟩, ⟨(some 4), (.mv (.k (.z true))), none⟩, ⟨(some 5), (.mv (.t 19)), none⟩]) .ret) .skip)) (.seq (.reg [⟨(some 8), (.mv (.k (.z
  true))), none⟩]) (.seq (.seq (.reg [⟨(some 20), (.mv (.t 6)), none⟩, ⟨(some 21), (.len (.t 20)), none⟩, ⟨(some 22), (.mv (.k (.int .i64 0))), none⟩]) (.blk 0
  (.loop s116_0))) (.seq (.reg [⟨(some 38), (.mv (.t 8)), none⟩, ⟨(some 39), (.mkf 156 [(.t 2)]), none⟩, ⟨(some 40), (.callW (.k (.fn 155 [])) [(.t 38), (.t
  39)]), none⟩]) (.seq (.reg [⟨(some 41), (.mv (.t 8)), none⟩, ⟨(some 4), (.mv (.t 41)), none⟩, ⟨(some 5), (.mv (.k (.int .i64 0))), none⟩]) .ret)))))))⟩

/- slices.ContainsFunc[schisma/api.Size,schisma/api.Rational] -/
def s117 : SFunc :=
  ⟨2, [(.t 4)], (.seq (.reg [⟨(some 4), (.mv (.k (.bool false))), none⟩]) (.seq (.reg [⟨(some 5), (.mv (.t 0)), none⟩, ⟨(some 6), (.mv (.t 1)), none⟩, ⟨(some 7),
  (.callW (.k (.fn 157 [])) [(.t 5), (.t 6)]), none⟩, ⟨(some 8), (.bin .geq (.t 7) (.k (.int .i64 0))), none⟩, ⟨(some 4), (.mv (.t 8)), none⟩]) .ret))⟩

/- schisma/damage.Pure$1 -/
def s118 : SFunc :=
  ⟨1, [(.t 2)], (.seq (.reg [⟨(some 1), (.box 2 (.t 0)), none⟩, ⟨(some 2), (.mv (.k (.bool false))), none⟩]) (.seq (.reg [⟨(some 3), (.fad 0 (.t 1)), none⟩,
  ⟨(some 4), (.ld 1 false (.t 3)), none⟩, ⟨(some 5), (.bin .neq (.t 4) (.k (.str (bytes [48])))), none⟩, ⟨(some 2), (.mv (.t 5)), none⟩]) .ret))⟩

/- schisma/whole.Check -/
def s119 : SFunc :=
  ⟨1, [(.t 2)], (.seq (.reg [⟨(some 2), (.mv (.k (.int .i64 0))), none⟩]) (.seq (.reg [⟨(some 6), (.mv (.t 0)), none⟩, ⟨(some 7), (.callR (.k (.fn 121 [])) [(.t
  6)]), none⟩, ⟨(some 5), (.mv (.t 7)), none⟩, ⟨(some 8), (.ext 0 (.t 5)), none⟩, ⟨(some 9), (.ext 1 (.t 5)), none⟩, ⟨(some 3), (.mv (.t 8)), none⟩, ⟨(some 4),
  (.mv (.t 9)), none⟩]) (.seq (.seq (.reg [⟨(some 10), (.mv (.t 3)), none⟩, ⟨(some 11), (.mv (.t 10)), none⟩, ⟨(some 12), (.mv (.t 4)), (some (11, true))⟩,
  ⟨(some 13), (.bin .eql (.t 12) (.k (.str (bytes [48])))), (some (11, true))⟩, ⟨(some 14), (.pick (.t 11) (.t 13) (.k (.bool false))), none⟩, ⟨(some 15), (.mv
  (.t 14)), none⟩, ⟨(some 16), (.mv (.t 4)), (some (15, false))⟩, ⟨(some 17), (.callR (.k (.fn 158 [])) [(.t 16)]), (some (15, false))⟩, ⟨(some 18), (.bin .neq
  (.t 17) (.k (.int .i64 0))), (some (15, false))⟩, ⟨(some 19), (.pick (.t 15) (.k (.bool true)) (.t 18)), none⟩]) (.cond (.t 19) (.seq (.reg [⟨(some 2), (.mv
  (.k (.int .i64 2))), none⟩]) .ret) .skip)) (.seq (.reg [⟨(some 2), (.mv (.k (.int .i64 0))), none⟩]) .ret))))⟩

/- schisma/whole.Gcd -/
def s120 : SFunc :=
  ⟨2, [(.t 4)], (.seq (.reg [⟨(some 4), (.mv (.k (.str (bytes [])))), none⟩]) (.seq (.reg [⟨(some 11), (.mv (.t 0)), none⟩, ⟨(some 12), (.callR (.k (.fn 80 []))
  [(.t 11)]), none⟩, ⟨(some 13), (.mv (.t 1)), none⟩, ⟨(some 14), (.callR (.k (.fn 80 [])) [(.t 13)]), none⟩, ⟨(some 5), (.mv (.t 12)), none⟩, ⟨(some 6), (.mv
  (.t 14)), none⟩]) (.seq (.seq (.reg [⟨(some 16), (.mv (.t 5)), none⟩, ⟨(some 17), (.callR (.k (.fn 138 [])) [(.t 16), (.k (.int .i64 18))]), none⟩, ⟨(some
  15), (.mv (.t 17)), none⟩, ⟨(some 18), (.ext 0 (.t 15)), none⟩, ⟨(some 19), (.ext 1 (.t 15)), none⟩, ⟨(some 7), (.mv (.t 18)), none⟩, ⟨(some 8), (.mv (.t
  19)), none⟩]) (.seq (.reg [⟨(some 20), (.mv (.t 8)), none⟩]) (.cond (.t 20) (.seq (.reg [⟨(some 22), (.mv (.t 6)), none⟩, ⟨(some 23), (.callR (.k (.fn 138
  [])) [(.t 22), (.k (.int .i64 18))]), none⟩, ⟨(some 21), (.mv (.t 23)), none⟩, ⟨(some 24), (.ext 0 (.t 21)), none⟩, ⟨(some 25), (.ext 1 (.t 21)), none⟩,
  ⟨(some 9), (.mv (.t 24)), none⟩, ⟨(some 10), (.mv (.t 25)), none⟩]) (.seq (.reg [⟨(some 26), (.mv (.t 10)), none⟩]) (.cond (.t 26) (.seq (.reg [⟨(some 27),
  (.mv (.t 7)), none⟩, ⟨(some 28), (.mv (.t 9)), none⟩, ⟨(some 29), (.callR (.k (.fn 159 [])) [(.t 27), (.t 28)]), none⟩, ⟨(some 30), (.callR (.k (.fn 123 []))
  [(.t 29)]), none⟩, ⟨(some 4), (.mv (.t 30)), none⟩]) .ret) .skip))) .skip))) (.seq (.reg [⟨(some 31), (.mv (.t 5)), none⟩, ⟨(some 32), (.mv (.t 6)), none⟩,
  ⟨(some 33), (.callR (.k (.fn 160 [])) [(.t 31), (.t 32)]), none⟩, ⟨(some 4), (.mv (.t 33)), none⟩]) .ret))))⟩

/- schisma/whole.split -/
def s121 : SFunc :=
  ⟨1, [(.t 2), (.t 3)], (.seq (.reg [⟨(some 2), (.mv (.k (.bool false))), none⟩, ⟨(some 3), (.mv (.k (.str (bytes [])))), none⟩]) (.seq (.seq (.reg [⟨(some 4),
  (.mv (.t 0)), none⟩, ⟨(some 5), (.lens (.t 4)), none⟩, ⟨(some 6), (.bin .gtr (.t 5) (.k (.int .i64 0))), none⟩, ⟨(some 7), (.mv (.t 6)), none⟩, ⟨(some 8),
  (.mv (.t 0)), (some (7, true))⟩, ⟨(some 9), (.idxs (.t 8) (.k (.int .i64 0))), (some (7, true))⟩, ⟨(some 10), (.bin .eql (.t 9) (.k (.int .u8 45))), (some (7,
  true))⟩, ⟨(some 11), (.pick (.t 7) (.t 10) (.k (.bool false))), none⟩]) (.cond (.t 11) (.seq (.reg [⟨(some 12), (.mv (.t 0)), none⟩, ⟨(some 13), (.slcs (.t
  12) (some (.k (.int .i64 1))) none), none⟩, ⟨(some 2), (.mv (.k (.bool true))), none⟩, ⟨(some 3), (.mv (.t 13)), none⟩]) .ret) .skip)) (.seq (.reg [⟨(some
  14), (.mv (.t 0)), none⟩, ⟨(some 2), (.mv (.k (.bool false))), none⟩, ⟨(some 3), (.mv (.t 14)), none⟩]) .ret)))⟩

/- schisma/fraction.New -/
def s122 : SFunc :=
  ⟨2, [(.c 4 2 true), (.t 5)], (.seq (.reg [⟨(some 4), (.alc [(.str (bytes [])), (.str (bytes []))]), none⟩, ⟨(some 5), (.mv (.k (.int .i64 0))), none⟩]) (.seq
  (.seq (.reg [⟨(some 6), (.mv (.t 1)), none⟩, ⟨(some 7), (.callR (.k (.fn 114 [])) [(.t 6)]), none⟩, ⟨(some 8), (.bin .eql (.t 7) (.k (.int .i64 0))), none⟩])
  (.cond (.t 8) (.seq (.reg [⟨(some 9), (.bld [(.str (bytes [])), (.str (bytes []))] []), none⟩, ⟨none, (.st 2 (.t 4) (.t 9)), none⟩, ⟨(some 5), (.mv (.k (.int
  .i64 17))), none⟩]) .ret) .skip)) (.seq (.reg [⟨(some 10), (.mv (.t 0)), none⟩, ⟨(some 11), (.mv (.t 1)), none⟩, ⟨(some 12), (.callR (.k (.fn 96 [])) [(.t
  10), (.t 11)]), none⟩, ⟨none, (.st 2 (.t 4) (.t 12)), none⟩, ⟨(some 5), (.mv (.k (.int .i64 0))), none⟩]) .ret)))⟩

/- schisma/whole.Of -/
def s123 : SFunc :=
  ⟨1, [(.t 2)], (.seq (.reg [⟨(some 2), (.mv (.k (.str (bytes [])))), none⟩]) (.seq (.reg [⟨(some 3), (.mv (.t 0)), none⟩, ⟨(some 4), (.callR (.k (.fn 161 []))
  [(.t 3)]), none⟩, ⟨(some 2), (.mv (.t 4)), none⟩]) .ret))⟩

/- schisma/fraction.Compare -/
def s124 : SFunc :=
  ⟨2, [(.t 4)], (.seq (.reg [⟨(some 2), (.box 2 (.t 0)), none⟩, ⟨(some 3), (.box 2 (.t 1)), none⟩, ⟨(some 4), (.mv (.k (.int .i64 0))), none⟩]) (.seq (.seq (.reg
  [⟨(some 14), (.ld 2 true (.t 2)), none⟩, ⟨(some 15), (.callR (.k (.fn 135 [])) [(.t 14)]), none⟩, ⟨(some 13), (.mv (.t 15)), none⟩, ⟨(some 16), (.ext 0 (.t
  13)), none⟩, ⟨(some 17), (.ext 1 (.t 13)), none⟩, ⟨(some 18), (.ext 2 (.t 13)), none⟩, ⟨(some 5), (.mv (.t 16)), none⟩, ⟨(some 6), (.mv (.t 17)), none⟩,
  ⟨(some 7), (.mv (.t 18)), none⟩]) (.seq (.reg [⟨(some 19), (.mv (.t 7)), none⟩]) (.cond (.t 19) (.seq (.reg [⟨(some 21), (.ld 2 true (.t 3)), none⟩, ⟨(some
  22), (.callR (.k (.fn 135 [])) [(.t 21)]), none⟩, ⟨(some 20), (.mv (.t 22)), none⟩, ⟨(some 23), (.ext 0 (.t 20)), none⟩, ⟨(some 24), (.ext 1 (.t 20)), none⟩,
  ⟨(some 25), (.ext 2 (.t 20)), none⟩, ⟨(some 8), (.mv (.t 23)), none⟩, ⟨(some 9), (.mv (.t 24)), none⟩, ⟨(some 10), (.mv (.t 25)), none⟩]) (.seq (.reg [⟨(some
  26), (.mv (.t 10)), none⟩]) (.cond (.t 26) (.seq (.seq (.reg [⟨(some 27), (.mv (.t 5)), none⟩, ⟨(some 28), (.mv (.t 9)), none⟩, ⟨(some 29), (.bin .mul (.t 27)
  (.t 28)), none⟩, ⟨(some 30), (.mv (.t 8)), none⟩, ⟨(some 31), (.mv (.t 6)), none⟩, ⟨(some 32), (.bin .mul (.t 30) (.t 31)), none⟩, ⟨(some 11), (.mv (.t 29)),
  none⟩, ⟨(some 12), (.mv (.t 32)), none⟩]) (.blk 0 (.seq (.reg [⟨(some 34), (.mv (.t 11)), none⟩, ⟨(some 35), (.mv (.t 12)), none⟩, ⟨(some 36), (.bin .lss (.t
  34) (.t 35)), none⟩, ⟨(some 33), (.mv (.t 36)), none⟩]) (.cond (.t 33) (.seq (.reg [⟨(some 4), (.mv (.k (.int .i64 (-1)))), none⟩]) .ret) (.seq (.reg [⟨(some
  38), (.mv (.t 11)), none⟩, ⟨(some 39), (.mv (.t 12)), none⟩, ⟨(some 40), (.bin .gtr (.t 38) (.t 39)), none⟩, ⟨(some 37), (.mv (.t 40)), none⟩]) (.cond (.t 37)
  (.seq (.reg [⟨(some 4), (.mv (.k (.int .i64 1))), none⟩]) .ret) .skip)))))) (.seq (.reg [⟨(some 4), (.mv (.k (.int .i64 0))), none⟩]) .ret)) .skip))) .skip)))
  (.seq (.seq (.reg [⟨(some 41), (.fad 1 (.t 2)), none⟩, ⟨(some 42), (.ld 1 false (.t 41)), none⟩, ⟨(some 43), (.fad 1 (.t 3)), none⟩, ⟨(some 44), (.ld 1 false
  (.t 43)), none⟩, ⟨(some 45), (.bin .eql (.t 42) (.t 44)), none⟩]) (.cond (.t 45) (.seq (.reg [⟨(some 46), (.fad 0 (.t 2)), none⟩, ⟨(some 47), (.ld 1 false (.t
  46)), none⟩, ⟨(some 48), (.fad 0 (.t 3)), none⟩, ⟨(some 49), (.ld 1 false (.t 48)), none⟩, ⟨(some 50), (.callR (.k (.fn 162 [])) [(.t 47), (.t 49)]), none⟩,
  ⟨(some 4), (.mv (.t 50)), none⟩]) .ret) .skip)) (.seq (.reg [⟨(some 51), (.fad 0 (.t 2)), none⟩, ⟨(some 52), (.ld 1 false (.t 51)), none⟩, ⟨(some 53), (.fad 1
  (.t 3)), none⟩, ⟨(some 54), (.ld 1 false (.t 53)), none⟩, ⟨(some 55), (.callR (.k (.fn 97 [])) [(.t 52), (.t 54)]), none⟩, ⟨(some 56), (.fad 0 (.t 3)), none⟩,
  ⟨(some 57), (.ld 1 false (.t 56)), none⟩, ⟨(some 58), (.fad 1 (.t 2)), none⟩, ⟨(some 59), (.ld 1 false (.t 58)), none⟩, ⟨(some 60), (.callR (.k (.fn 97 []))
  [(.t 57), (.t 59)]), none⟩, ⟨(some 61), (.callR (.k (.fn 162 [])) [(.t 55), (.t 60)]), none⟩, ⟨(some 4), (.mv (.t 61)), none⟩]) .ret))))⟩

/- schisma/lattice.check -/
def s125 : SFunc :=
  ⟨2, [(.t 4)], (.seq (.reg [⟨(some 4), (.mv (.k (.int .i64 0))), none⟩]) (.seq (.blk 0 (.seq (.reg [⟨(some 6), (.mv (.t 0)), none⟩, ⟨(some 7), (.bin .lss (.t 6)
  (.k (.int .i64 0))), none⟩, ⟨(some 8), (.mv (.t 7)), none⟩, ⟨(some 9), (.mv (.t 0)), (some (8, false))⟩, ⟨(some 10), (.bin .gtr (.t 9) (.k (.int .i64 12))),
  (some (8, false))⟩, ⟨(some 11), (.pick (.t 8) (.k (.bool true)) (.t 10)), none⟩, ⟨(some 5), (.mv (.t 11)), none⟩]) (.cond (.t 5) (.seq (.reg [⟨(some 4), (.mv
  (.k (.int .i64 3))), none⟩]) .ret) (.seq (.reg [⟨(some 13), (.mv (.t 1)), none⟩, ⟨(some 14), (.len (.t 13)), none⟩, ⟨(some 15), (.bin .gtr (.t 14) (.k (.int
  .i64 12))), none⟩, ⟨(some 12), (.mv (.t 15)), none⟩]) (.cond (.t 12) (.seq (.reg [⟨(some 4), (.mv (.k (.int .i64 4))), none⟩]) .ret) .skip))))) (.seq (.reg
  [⟨(some 16), (.mv (.t 1)), none⟩, ⟨(some 17), (.mv (.t 0)), none⟩, ⟨(some 18), (.callR (.k (.fn 163 [])) [(.t 16), (.t 17)]), none⟩, ⟨(some 4), (.mv (.t 18)),
  none⟩]) .ret)))⟩

def s126_0 : SCode :=
  .seq (.reg [⟨(some 9), (.bin .lss (.t 8) (.t 7)), none⟩]) (.seq (.cond (.t 9) .skip (.exit 0)) (.seq (.blk 1 (.seq (.reg [⟨(some 10), (.iad 1 (.t 6) (.t 8)),
  none⟩, ⟨(some 11), (.ld 1 false (.t 10)), none⟩, ⟨(some 5), (.mv (.t 11)), none⟩]) (.reg [⟨(some 12), (.mv (.t 3)), none⟩, ⟨(some 13), (.mv (.t 5)), none⟩,
  ⟨(some 14), (.callW (.k (.fn 164 [])) [(.t 13)]), none⟩, ⟨(some 15), (.bsl 1 [(.z true)] 1 [(0, (.t 14))]), none⟩, ⟨(some 16), (.app 1 (.t 12) (.t 15)),
  none⟩, ⟨(some 3), (.mv (.t 16)), none⟩]))) (.reg [⟨(some 17), (.bin .add (.t 8) (.k (.int .i64 1))), none⟩, ⟨(some 8), (.mv (.t 17)), none⟩])))

/- schisma/lattice.longsOf -/
def s126 : SFunc :=
  ⟨1, [(.t 2)], (.seq (.reg [⟨(some 2), (.mv (.k (.z true))), none⟩]) (.seq (.reg [⟨(some 3), (.mv (.k (.z true))), none⟩]) (.seq (.seq (.reg [⟨(some 6), (.mv (.t
  0)), none⟩, ⟨(some 7), (.len (.t 6)), none⟩, ⟨(some 8), (.mv (.k (.int .i64 0))), none⟩]) (.blk 0 (.loop s126_0))) (.seq (.reg [⟨(some 18), (.mv (.t 3)),
  none⟩, ⟨(some 2), (.mv (.t 18)), none⟩]) .ret))))⟩

end Go.Proofs.YtkccoijckckhmaaGreatDoor.Ev
