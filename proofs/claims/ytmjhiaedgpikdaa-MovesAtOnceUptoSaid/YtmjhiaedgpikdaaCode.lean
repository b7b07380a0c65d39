/- The functions of this program, read by the second machine: literals, and that they are what is read. Printed by a program of this claim's author. -/
import Derived.Test.YtmjhiaedgpikdaaRows
import Derived.Test.YtmjhiaedgpikdaaB11
namespace Go.Proofs.Ytmjhiaedgpikdaa
open Go.AI
def c3 : AFunc := ⟨53, [(.t 4)],
  (.seq (.region [⟨(some 3), (.box (.t 1)), none⟩, ⟨(some 4), (.mv (.c (.bool false))), none⟩])
  (.seq (.region [⟨(some 11), (.call (.c (.func 8 [] [])) []), none⟩, ⟨(some 5), (.mv (.t 11)), none⟩])
  (.seq (.region [⟨(some 13), (.mv (.t 0)), none⟩, ⟨(some 14), (.load (some 3) (.t 3)), none⟩, ⟨(some 15), (.call (.c (.func 9 [] [])) [(.t 13), (.t 14)]), none⟩, ⟨(some 12), (.mv (.t 15)), none⟩, ⟨(some 16), (.extract (.t 12) 0), none⟩, ⟨(some 17), (.extract (.t 12) 1), none⟩, ⟨(some 6), (.mv (.t 16)), none⟩, ⟨(some 7), (.mv (.t 17)), none⟩])
  (.seq (.region [⟨(some 19), (.mv (.t 0)), none⟩, ⟨(some 20), (.load (some 3) (.t 3)), none⟩, ⟨(some 21), (.call (.c (.func 10 [] [])) [(.t 19), (.t 20)]), none⟩, ⟨(some 18), (.mv (.t 21)), none⟩, ⟨(some 22), (.extract (.t 18) 0), none⟩, ⟨(some 23), (.extract (.t 18) 1), none⟩, ⟨(some 8), (.mv (.t 22)), none⟩, ⟨(some 9), (.mv (.t 23)), none⟩])
  (.seq (.seq (.region [⟨(some 24), (.mv (.t 5)), none⟩, ⟨(some 25), (.un .not (.t 24)), none⟩, ⟨(some 26), (.mv (.t 25)), none⟩, ⟨(some 27), (.mv (.t 7)), (some (26, false))⟩, ⟨(some 28), (.mv (.t 9)), (some (26, false))⟩, ⟨(some 29), (.bin .neq (.t 27) (.t 28)), (some (26, false))⟩, ⟨(some 30), (.pick (.t 26) (.c (.bool true)) (.t 29)), none⟩, ⟨(some 31), (.mv (.t 30)), none⟩, ⟨(some 32), (.mv (.t 6)), (some (31, false))⟩, ⟨(some 33), (.lenS (.t 32)), (some (31, false))⟩, ⟨(some 34), (.mv (.t 8)), (some (31, false))⟩, ⟨(some 35), (.lenS (.t 34)), (some (31, false))⟩, ⟨(some 36), (.bin .neq (.t 33) (.t 35)), (some (31, false))⟩, ⟨(some 37), (.pick (.t 31) (.c (.bool true)) (.t 36)), none⟩])
  (.cond (.t 37) (.seq (.region [⟨(some 4), (.mv (.c (.bool false))), none⟩])
  .ret) .skip))
  (.seq (.seq (.region [⟨(some 10), (.mv (.c (.int .i64 0))), none⟩])
  (.block 0 (.loop (.seq (.seq (.region [⟨(some 38), (.mv (.t 10)), none⟩, ⟨(some 39), (.mv (.t 6)), none⟩, ⟨(some 40), (.lenS (.t 39)), none⟩, ⟨(some 41), (.bin .lss (.t 38) (.t 40)), none⟩])
  (.cond (.t 41) .skip (.exit 0)))
  (.seq (.block 1 (.seq (.regionD [⟨⟨(some 44), (.mv (.t 6)), none⟩, []⟩, ⟨⟨(some 45), (.mv (.t 10)), none⟩, []⟩, ⟨⟨(some 46), (.idxAddr 6 (.t 44) (.t 45)), none⟩, []⟩, ⟨⟨(some 47), (.load (some 6) (.t 46)), none⟩, []⟩, ⟨⟨(some 48), (.mv (.t 8)), none⟩, []⟩, ⟨⟨(some 49), (.mv (.t 10)), none⟩, []⟩, ⟨⟨(some 50), (.idxAddr 6 (.t 48) (.t 49)), none⟩, []⟩, ⟨⟨(some 51), (.load (some 6) (.t 50)), none⟩, []⟩, ⟨⟨(some 52), (.cmp true (.flat [.int, .int, .int, .int, .int, .int]) (.t 47) (.t 51)), none⟩, []⟩])
  (.cond (.t 52) (.seq (.region [⟨(some 4), (.mv (.c (.bool false))), none⟩])
  .ret) .skip)))
  (.region [⟨(some 42), (.mv (.t 10)), none⟩, ⟨(some 43), (.bin .add (.t 42) (.c (.int .i64 1))), none⟩, ⟨(some 10), (.mv (.t 43)), none⟩]))))))
  (.seq (.region [⟨(some 4), (.mv (.c (.bool true))), none⟩])
  .ret)))))))⟩
def c4 : AFunc := ⟨158, [(.t 4)],
  (.seq (.region [⟨(some 3), (.box (.t 1)), none⟩, ⟨(some 4), (.mv (.c (.bool false))), none⟩])
  (.seq (.region [⟨(some 18), (.call (.c (.func 8 [] [])) []), none⟩, ⟨(some 5), (.mv (.t 18)), none⟩])
  (.seq (.region [⟨(some 20), (.mv (.t 0)), none⟩, ⟨(some 21), (.load (some 3) (.t 3)), none⟩, ⟨(some 22), (.call (.c (.func 9 [] [])) [(.t 20), (.t 21)]), none⟩, ⟨(some 19), (.mv (.t 22)), none⟩, ⟨(some 23), (.extract (.t 19) 0), none⟩, ⟨(some 24), (.extract (.t 19) 1), none⟩, ⟨(some 6), (.mv (.t 23)), none⟩, ⟨(some 7), (.mv (.t 24)), none⟩])
  (.seq (.seq (.region [⟨(some 25), (.mv (.t 7)), none⟩, ⟨(some 26), (.bin .neq (.t 25) (.c (.int .i64 0))), none⟩])
  (.cond (.t 26) (.seq (.region [⟨(some 27), (.mv (.t 5)), none⟩, ⟨(some 28), (.mv (.t 27)), none⟩, ⟨(some 29), (.mv (.t 6)), (some (28, true))⟩, ⟨(some 30), (.lenS (.t 29)), (some (28, true))⟩, ⟨(some 31), (.bin .eql (.t 30) (.c (.int .i64 0))), (some (28, true))⟩, ⟨(some 32), (.pick (.t 28) (.t 31) (.c (.bool false))), none⟩, ⟨(some 33), (.mv (.t 32)), none⟩, ⟨(some 34), (.mv (.t 7)), (some (33, true))⟩, ⟨(some 35), (.bin .eql (.t 34) (.c (.int .i64 1))), (some (33, true))⟩, ⟨(some 36), (.pick (.t 33) (.t 35) (.c (.bool false))), none⟩, ⟨(some 4), (.mv (.t 36)), none⟩])
  .ret) .skip))
  (.seq (.seq (.region [⟨(some 37), (.mv (.t 0)), none⟩, ⟨(some 38), (.lenS (.t 37)), none⟩, ⟨(some 39), (.bin .gtr (.t 38) (.c (.int .i64 200))), none⟩])
  (.cond (.t 39) (.seq (.region [⟨(some 40), (.mv (.t 5)), none⟩, ⟨(some 4), (.mv (.t 40)), none⟩])
  .ret) .skip))
  (.seq (.region [⟨(some 41), (.load (some 3) (.t 3)), none⟩, ⟨(some 42), (.call (.c (.func 11 [] [])) [(.c .nilslc), (.t 41)]), none⟩, ⟨(some 8), (.mv (.t 42)), none⟩])
  (.seq (.seq (.region [⟨(some 9), (.mv (.c (.int .i64 0))), none⟩])
  (.block 0 (.loop (.seq (.seq (.region [⟨(some 43), (.mv (.t 9)), none⟩, ⟨(some 44), (.mv (.t 0)), none⟩, ⟨(some 45), (.lenS (.t 44)), none⟩, ⟨(some 46), (.bin .lss (.t 43) (.t 45)), none⟩])
  (.cond (.t 46) .skip (.exit 0)))
  (.seq (.block 1 (.regionD [⟨⟨(some 49), (.mv (.t 8)), none⟩, []⟩, ⟨⟨(some 50), (.mv (.t 0)), none⟩, []⟩, ⟨⟨(some 51), (.mv (.t 9)), none⟩, []⟩, ⟨⟨(some 52), (.idxAddr 6 (.t 50) (.t 51)), none⟩, []⟩, ⟨⟨(some 53), (.fieldAddr 0 (.t 52)), none⟩, []⟩, ⟨⟨(some 54), (.load (some 3) (.t 53)), none⟩, []⟩, ⟨⟨(some 56), (.mv (.t 0)), none⟩, []⟩, ⟨⟨(some 57), (.mv (.t 9)), none⟩, []⟩, ⟨⟨(some 58), (.idxAddr 6 (.t 56) (.t 57)), none⟩, []⟩, ⟨⟨(some 59), (.fieldAddr 3 (.t 58)), none⟩, []⟩, ⟨⟨(some 60), (.load (some 3) (.t 59)), none⟩, []⟩, ⟨⟨(some 55), (.call (.c (.func 11 [] [])) [(.t 49), (.t 54)]), none⟩, [⟨(some 60), (.load (some 3) (.t 59)), none⟩]⟩, ⟨⟨(some 61), (.call (.c (.func 11 [] [])) [(.t 55), (.t 60)]), none⟩, []⟩, ⟨⟨(some 8), (.mv (.t 61)), none⟩, []⟩]))
  (.region [⟨(some 47), (.mv (.t 9)), none⟩, ⟨(some 48), (.bin .add (.t 47) (.c (.int .i64 1))), none⟩, ⟨(some 9), (.mv (.t 48)), none⟩]))))))
  (.seq (.region [⟨(some 62), (.bslice 4 0 [] []), none⟩, ⟨(some 63), (.mv (.t 8)), none⟩, ⟨(some 64), (.append 4 32 [(.int .i64 0), (.int .i64 0), (.int .u64 0), (.int .i64 0)] (.t 62) (.t 63)), none⟩, ⟨(some 10), (.mv (.t 64)), none⟩])
  (.seq (.seq (.region [⟨(some 11), (.mv (.c (.int .i64 0))), none⟩])
  (.block 2 (.loop (.seq (.seq (.region [⟨(some 65), (.mv (.t 11)), none⟩, ⟨(some 66), (.mv (.t 6)), none⟩, ⟨(some 67), (.lenS (.t 66)), none⟩, ⟨(some 68), (.bin .lss (.t 65) (.t 67)), none⟩])
  (.cond (.t 68) .skip (.exit 2)))
  (.seq (.block 3 (.seq (.region [⟨(some 71), (.mv (.t 10)), none⟩, ⟨(some 72), (.mv (.t 6)), none⟩, ⟨(some 73), (.mv (.t 11)), none⟩, ⟨(some 74), (.idxAddr 6 (.t 72) (.t 73)), none⟩, ⟨(some 75), (.fieldAddr 3 (.t 74)), none⟩, ⟨(some 76), (.load (some 3) (.t 75)), none⟩, ⟨(some 77), (.call (.c (.func 12 [] [])) [(.t 71), (.t 76)]), none⟩, ⟨(some 12), (.mv (.t 77)), none⟩])
  (.seq (.region [⟨(some 13), (.mv (.c (.bool false))), none⟩])
  (.seq (.seq (.region [⟨(some 14), (.mv (.c (.int .i64 0))), none⟩])
  (.block 4 (.loop (.seq (.seq (.region [⟨(some 78), (.mv (.t 14)), none⟩, ⟨(some 79), (.mv (.t 10)), none⟩, ⟨(some 80), (.lenS (.t 79)), none⟩, ⟨(some 81), (.bin .lss (.t 78) (.t 80)), none⟩])
  (.cond (.t 81) .skip (.exit 4)))
  (.seq (.block 5 (.seq (.regionD [⟨⟨(some 84), (.mv (.t 10)), none⟩, []⟩, ⟨⟨(some 85), (.mv (.t 14)), none⟩, []⟩, ⟨⟨(some 86), (.idxAddr 4 (.t 84) (.t 85)), none⟩, []⟩, ⟨⟨(some 87), (.fieldAddr 0 (.t 86)), none⟩, []⟩, ⟨⟨(some 88), (.load (some 3) (.t 87)), none⟩, []⟩, ⟨⟨(some 89), (.mv (.t 6)), none⟩, []⟩, ⟨⟨(some 90), (.mv (.t 11)), none⟩, []⟩, ⟨⟨(some 91), (.idxAddr 6 (.t 89) (.t 90)), none⟩, []⟩, ⟨⟨(some 92), (.fieldAddr 0 (.t 91)), none⟩, []⟩, ⟨⟨(some 93), (.load (some 3) (.t 92)), none⟩, []⟩, ⟨⟨(some 94), (.cmp false (.flat [.int, .int, .int]) (.t 88) (.t 93)), none⟩, []⟩])
  (.cond (.t 94) (.seq (.region [⟨(some 95), (.mv (.t 10)), none⟩, ⟨(some 96), (.mv (.t 14)), none⟩, ⟨(some 97), (.mv (.t 12)), none⟩, ⟨(some 98), (.idxAddr 4 (.t 95) (.t 96)), none⟩, ⟨(some 99), (.fieldAddr 3 (.t 98)), none⟩, ⟨none, (.store 1 (.t 99) (.t 97)), none⟩])
  (.region [⟨(some 13), (.mv (.c (.bool true))), none⟩])) .skip)))
  (.region [⟨(some 82), (.mv (.t 14)), none⟩, ⟨(some 83), (.bin .add (.t 82) (.c (.int .i64 1))), none⟩, ⟨(some 14), (.mv (.t 83)), none⟩]))))))
  (.seq (.region [⟨(some 100), (.mv (.t 13)), none⟩, ⟨(some 101), (.un .not (.t 100)), none⟩, ⟨(some 102), (.mv (.t 101)), none⟩, ⟨(some 103), (.mv (.t 12)), (some (102, false))⟩, ⟨(some 104), (.bin .lss (.t 103) (.c (.int .i64 0))), (some (102, false))⟩, ⟨(some 105), (.pick (.t 102) (.c (.bool true)) (.t 104)), none⟩])
  (.cond (.t 105) (.seq (.region [⟨(some 4), (.mv (.c (.bool false))), none⟩])
  .ret) .skip))))))
  (.region [⟨(some 69), (.mv (.t 11)), none⟩, ⟨(some 70), (.bin .add (.t 69) (.c (.int .i64 1))), none⟩, ⟨(some 11), (.mv (.t 70)), none⟩]))))))
  (.seq (.seq (.region [⟨(some 15), (.mv (.c (.int .i64 0))), none⟩])
  (.block 6 (.loop (.seq (.seq (.region [⟨(some 106), (.mv (.t 15)), none⟩, ⟨(some 107), (.mv (.t 10)), none⟩, ⟨(some 108), (.lenS (.t 107)), none⟩, ⟨(some 109), (.bin .lss (.t 106) (.t 108)), none⟩])
  (.cond (.t 109) .skip (.exit 6)))
  (.seq (.block 7 (.seq (.region [⟨(some 112), (.mv (.t 8)), none⟩, ⟨(some 113), (.mv (.t 15)), none⟩, ⟨(some 114), (.idxAddr 4 (.t 112) (.t 113)), none⟩, ⟨(some 115), (.fieldAddr 3 (.t 114)), none⟩, ⟨(some 116), (.load none (.t 115)), none⟩, ⟨(some 16), (.mv (.t 116)), none⟩])
  (.seq (.seq (.region [⟨(some 17), (.mv (.c (.int .i64 0))), none⟩])
  (.block 8 (.loop (.seq (.seq (.region [⟨(some 117), (.mv (.t 17)), none⟩, ⟨(some 118), (.mv (.t 0)), none⟩, ⟨(some 119), (.lenS (.t 118)), none⟩, ⟨(some 120), (.bin .lss (.t 117) (.t 119)), none⟩])
  (.cond (.t 120) .skip (.exit 8)))
  (.seq (.block 9 (.seq (.regionD [⟨⟨(some 123), (.mv (.t 0)), none⟩, []⟩, ⟨⟨(some 124), (.mv (.t 17)), none⟩, []⟩, ⟨⟨(some 125), (.idxAddr 6 (.t 123) (.t 124)), none⟩, []⟩, ⟨⟨(some 126), (.fieldAddr 0 (.t 125)), none⟩, []⟩, ⟨⟨(some 127), (.load (some 3) (.t 126)), none⟩, []⟩, ⟨⟨(some 128), (.mv (.t 10)), none⟩, []⟩, ⟨⟨(some 129), (.mv (.t 15)), none⟩, []⟩, ⟨⟨(some 130), (.idxAddr 4 (.t 128) (.t 129)), none⟩, []⟩, ⟨⟨(some 131), (.fieldAddr 0 (.t 130)), none⟩, []⟩, ⟨⟨(some 132), (.load (some 3) (.t 131)), none⟩, []⟩, ⟨⟨(some 133), (.cmp false (.flat [.int, .int, .int]) (.t 127) (.t 132)), none⟩, []⟩])
  (.cond (.t 133) (.region [⟨(some 134), (.mv (.t 8)), none⟩, ⟨(some 135), (.mv (.t 0)), none⟩, ⟨(some 136), (.mv (.t 17)), none⟩, ⟨(some 137), (.idxAddr 6 (.t 135) (.t 136)), none⟩, ⟨(some 138), (.fieldAddr 3 (.t 137)), none⟩, ⟨(some 139), (.load (some 3) (.t 138)), none⟩, ⟨(some 140), (.call (.c (.func 12 [] [])) [(.t 134), (.t 139)]), none⟩, ⟨(some 16), (.mv (.t 140)), none⟩]) .skip)))
  (.region [⟨(some 121), (.mv (.t 17)), none⟩, ⟨(some 122), (.bin .add (.t 121) (.c (.int .i64 1))), none⟩, ⟨(some 17), (.mv (.t 122)), none⟩]))))))
  (.seq (.regionD [⟨⟨(some 141), (.mv (.t 10)), none⟩, []⟩, ⟨⟨(some 142), (.mv (.t 15)), none⟩, []⟩, ⟨⟨(some 143), (.idxAddr 4 (.t 141) (.t 142)), none⟩, []⟩, ⟨⟨(some 144), (.fieldAddr 0 (.t 143)), none⟩, []⟩, ⟨⟨(some 145), (.load (some 3) (.t 144)), none⟩, []⟩, ⟨⟨(some 146), (.load (some 3) (.t 3)), none⟩, []⟩, ⟨⟨(some 147), (.cmp true (.flat [.int, .int, .int]) (.t 145) (.t 146)), none⟩, []⟩, ⟨⟨(some 148), (.mv (.t 147)), none⟩, []⟩, ⟨⟨(some 149), (.mv (.t 10)), (some (148, true))⟩, []⟩, ⟨⟨(some 150), (.mv (.t 15)), (some (148, true))⟩, []⟩, ⟨⟨(some 151), (.idxAddr 4 (.t 149) (.t 150)), (some (148, true))⟩, []⟩, ⟨⟨(some 152), (.fieldAddr 3 (.t 151)), (some (148, true))⟩, []⟩, ⟨⟨(some 153), (.load none (.t 152)), (some (148, true))⟩, []⟩, ⟨⟨(some 154), (.mv (.t 16)), (some (148, true))⟩, []⟩, ⟨⟨(some 155), (.bin .neq (.t 153) (.t 154)), (some (148, true))⟩, []⟩, ⟨⟨(some 156), (.pick (.t 148) (.t 155) (.c (.bool false))), none⟩, []⟩])
  (.cond (.t 156) (.seq (.region [⟨(some 4), (.mv (.c (.bool false))), none⟩])
  .ret) .skip)))))
  (.region [⟨(some 110), (.mv (.t 15)), none⟩, ⟨(some 111), (.bin .add (.t 110) (.c (.int .i64 1))), none⟩, ⟨(some 15), (.mv (.t 111)), none⟩]))))))
  (.seq (.region [⟨(some 157), (.mv (.t 5)), none⟩, ⟨(some 4), (.mv (.t 157)), none⟩])
  .ret)))))))))))⟩
def c5 : AFunc := ⟨73, [(.t 4)],
  (.seq (.region [⟨(some 3), (.box (.t 1)), none⟩, ⟨(some 4), (.mv (.c (.bool false))), none⟩])
  (.seq (.region [⟨(some 11), (.call (.c (.func 8 [] [])) []), none⟩, ⟨(some 5), (.mv (.t 11)), none⟩])
  (.seq (.region [⟨(some 13), (.mv (.t 0)), none⟩, ⟨(some 14), (.load (some 3) (.t 3)), none⟩, ⟨(some 15), (.call (.c (.func 9 [] [])) [(.t 13), (.t 14)]), none⟩, ⟨(some 12), (.mv (.t 15)), none⟩, ⟨(some 16), (.extract (.t 12) 0), none⟩, ⟨(some 17), (.extract (.t 12) 1), none⟩, ⟨(some 6), (.mv (.t 16)), none⟩, ⟨(some 7), (.mv (.t 17)), none⟩])
  (.seq (.seq (.region [⟨(some 18), (.mv (.t 7)), none⟩, ⟨(some 19), (.bin .neq (.t 18) (.c (.int .i64 0))), none⟩])
  (.cond (.t 19) (.seq (.region [⟨(some 20), (.mv (.t 5)), none⟩, ⟨(some 4), (.mv (.t 20)), none⟩])
  .ret) .skip))
  (.seq (.region [⟨(some 8), (.mv (.c (.int .i64 0))), none⟩])
  (.seq (.seq (.region [⟨(some 9), (.mv (.c (.int .i64 0))), none⟩])
  (.block 0 (.loop (.seq (.seq (.region [⟨(some 21), (.mv (.t 9)), none⟩, ⟨(some 22), (.mv (.t 0)), none⟩, ⟨(some 23), (.lenS (.t 22)), none⟩, ⟨(some 24), (.bin .lss (.t 21) (.t 23)), none⟩])
  (.cond (.t 24) .skip (.exit 0)))
  (.seq (.block 1 (.seq (.regionD [⟨⟨(some 27), (.mv (.t 0)), none⟩, []⟩, ⟨⟨(some 28), (.mv (.t 9)), none⟩, []⟩, ⟨⟨(some 29), (.idxAddr 6 (.t 27) (.t 28)), none⟩, []⟩, ⟨⟨(some 30), (.fieldAddr 0 (.t 29)), none⟩, []⟩, ⟨⟨(some 31), (.load (some 3) (.t 30)), none⟩, []⟩, ⟨⟨(some 32), (.mv (.t 0)), none⟩, []⟩, ⟨⟨(some 33), (.mv (.t 9)), none⟩, []⟩, ⟨⟨(some 34), (.idxAddr 6 (.t 32) (.t 33)), none⟩, []⟩, ⟨⟨(some 35), (.fieldAddr 3 (.t 34)), none⟩, []⟩, ⟨⟨(some 36), (.load (some 3) (.t 35)), none⟩, []⟩, ⟨⟨(some 37), (.cmp true (.flat [.int, .int, .int]) (.t 31) (.t 36)), none⟩, []⟩])
  (.cond (.t 37) (.region [⟨(some 38), (.mv (.t 8)), none⟩, ⟨(some 39), (.bin .add (.t 38) (.c (.int .i64 1))), none⟩, ⟨(some 8), (.mv (.t 39)), none⟩]) .skip)))
  (.region [⟨(some 25), (.mv (.t 9)), none⟩, ⟨(some 26), (.bin .add (.t 25) (.c (.int .i64 1))), none⟩, ⟨(some 9), (.mv (.t 26)), none⟩]))))))
  (.seq (.seq (.region [⟨(some 10), (.mv (.c (.int .i64 0))), none⟩])
  (.block 2 (.loop (.seq (.seq (.region [⟨(some 40), (.mv (.t 10)), none⟩, ⟨(some 41), (.mv (.t 6)), none⟩, ⟨(some 42), (.lenS (.t 41)), none⟩, ⟨(some 43), (.bin .lss (.t 40) (.t 42)), none⟩])
  (.cond (.t 43) .skip (.exit 2)))
  (.seq (.block 3 (.seq (.regionD [⟨⟨(some 46), (.mv (.t 6)), none⟩, []⟩, ⟨⟨(some 47), (.mv (.t 10)), none⟩, []⟩, ⟨⟨(some 48), (.idxAddr 6 (.t 46) (.t 47)), none⟩, []⟩, ⟨⟨(some 49), (.fieldAddr 0 (.t 48)), none⟩, []⟩, ⟨⟨(some 50), (.load (some 3) (.t 49)), none⟩, []⟩, ⟨⟨(some 51), (.mv (.t 6)), none⟩, []⟩, ⟨⟨(some 52), (.mv (.t 10)), none⟩, []⟩, ⟨⟨(some 53), (.idxAddr 6 (.t 51) (.t 52)), none⟩, []⟩, ⟨⟨(some 54), (.fieldAddr 3 (.t 53)), none⟩, []⟩, ⟨⟨(some 55), (.load (some 3) (.t 54)), none⟩, []⟩, ⟨⟨(some 56), (.cmp false (.flat [.int, .int, .int]) (.t 50) (.t 55)), none⟩, []⟩])
  (.cond (.t 56) (.seq (.region [⟨(some 4), (.mv (.c (.bool false))), none⟩])
  .ret) .skip)))
  (.region [⟨(some 44), (.mv (.t 10)), none⟩, ⟨(some 45), (.bin .add (.t 44) (.c (.int .i64 1))), none⟩, ⟨(some 10), (.mv (.t 45)), none⟩]))))))
  (.seq (.region [⟨(some 57), (.mv (.t 5)), none⟩, ⟨(some 58), (.mv (.t 57)), none⟩, ⟨(some 59), (.mv (.t 6)), (some (58, true))⟩, ⟨(some 60), (.lenS (.t 59)), (some (58, true))⟩, ⟨(some 61), (.mv (.t 8)), (some (58, true))⟩, ⟨(some 62), (.bin .geq (.t 60) (.t 61)), (some (58, true))⟩, ⟨(some 63), (.pick (.t 58) (.t 62) (.c (.bool false))), none⟩, ⟨(some 64), (.mv (.t 63)), none⟩, ⟨(some 65), (.mv (.t 6)), (some (64, true))⟩, ⟨(some 66), (.lenS (.t 65)), (some (64, true))⟩, ⟨(some 67), (.mv (.t 8)), (some (64, true))⟩, ⟨(some 68), (.mv (.t 8)), (some (64, true))⟩, ⟨(some 69), (.bin .quo (.t 68) (.c (.int .i64 2))), (some (64, true))⟩, ⟨(some 70), (.bin .add (.t 67) (.t 69)), (some (64, true))⟩, ⟨(some 71), (.bin .leq (.t 66) (.t 70)), (some (64, true))⟩, ⟨(some 72), (.pick (.t 64) (.t 71) (.c (.bool false))), none⟩, ⟨(some 4), (.mv (.t 72)), none⟩])
  .ret))))))))⟩
def c6 : AFunc := ⟨137, [(.t 4)],
  (.seq (.region [⟨(some 4), (.mv (.c (.bool false))), none⟩])
  (.seq (.region [⟨(some 18), (.call (.c (.func 8 [] [])) []), none⟩, ⟨(some 5), (.mv (.t 18)), none⟩])
  (.seq (.region [⟨(some 19), (.mv (.t 0)), none⟩, ⟨(some 20), (.bin .and (.t 19) (.c (.int .i64 31))), none⟩, ⟨(some 21), (.bin .add (.c (.int .i64 1)) (.t 20)), none⟩, ⟨(some 6), (.mv (.t 21)), none⟩])
  (.seq (.region [⟨(some 7), (.mv (.c .nilslc)), none⟩])
  (.seq (.region [⟨(some 8), (.mv (.c .nilslc)), none⟩])
  (.seq (.region [⟨(some 9), (.mv (.c .nilslc)), none⟩])
  (.seq (.seq (.region [⟨(some 10), (.mv (.c (.int .i64 0))), none⟩])
  (.block 0 (.loop (.seq (.seq (.region [⟨(some 22), (.mv (.t 10)), none⟩, ⟨(some 23), (.mv (.t 6)), none⟩, ⟨(some 24), (.bin .lss (.t 22) (.t 23)), none⟩])
  (.cond (.t 24) .skip (.exit 0)))
  (.seq (.block 1 (.seq (.region [⟨(some 27), (.mv (.t 7)), none⟩, ⟨(some 28), (.mv (.t 10)), none⟩, ⟨(some 29), (.call (.c (.func 13 [] [])) [(.t 28)]), none⟩, ⟨(some 30), (.mv (.t 10)), none⟩, ⟨(some 31), (.bin .add (.t 30) (.c (.int .i64 1))), none⟩, ⟨(some 32), (.call (.c (.func 13 [] [])) [(.t 31)]), none⟩, ⟨(some 33), (.build [(.int .i64 0), (.int .i64 0), (.int .u64 0), (.int .i64 0), (.int .i64 0), (.int .u64 0)] [(0, 3, (.t 29)), (3, 3, (.t 32))]), none⟩, ⟨(some 34), (.bslice 6 1 [(.int .i64 0), (.int .i64 0), (.int .u64 0), (.int .i64 0), (.int .i64 0), (.int .u64 0)] [(0, 6, (.t 33))]), none⟩, ⟨(some 35), (.append 6 48 [(.int .i64 0), (.int .i64 0), (.int .u64 0), (.int .i64 0), (.int .i64 0), (.int .u64 0)] (.t 27) (.t 34)), none⟩, ⟨(some 7), (.mv (.t 35)), none⟩])
  (.seq (.region [⟨(some 36), (.mv (.t 8)), none⟩, ⟨(some 37), (.mv (.t 10)), none⟩, ⟨(some 38), (.bin .add (.t 37) (.c (.int .i64 1))), none⟩, ⟨(some 39), (.call (.c (.func 13 [] [])) [(.t 38)]), none⟩, ⟨(some 40), (.mv (.t 10)), none⟩, ⟨(some 41), (.call (.c (.func 13 [] [])) [(.t 40)]), none⟩, ⟨(some 42), (.build [(.int .i64 0), (.int .i64 0), (.int .u64 0), (.int .i64 0), (.int .i64 0), (.int .u64 0)] [(0, 3, (.t 39)), (3, 3, (.t 41))]), none⟩, ⟨(some 43), (.bslice 6 1 [(.int .i64 0), (.int .i64 0), (.int .u64 0), (.int .i64 0), (.int .i64 0), (.int .u64 0)] [(0, 6, (.t 42))]), none⟩, ⟨(some 44), (.append 6 48 [(.int .i64 0), (.int .i64 0), (.int .u64 0), (.int .i64 0), (.int .i64 0), (.int .u64 0)] (.t 36) (.t 43)), none⟩, ⟨(some 8), (.mv (.t 44)), none⟩])
  (.regionD [⟨⟨(some 45), (.mv (.t 9)), none⟩, []⟩, ⟨⟨(some 46), (.mv (.t 10)), none⟩, []⟩, ⟨⟨(some 48), (.mv (.t 10)), none⟩, []⟩, ⟨⟨(some 49), (.bin .add (.t 48) (.c (.int .i64 1))), none⟩, []⟩, ⟨⟨(some 50), (.mv (.t 1)), none⟩, []⟩, ⟨⟨(some 51), (.bin .and (.t 50) (.c (.int .i64 31))), none⟩, []⟩, ⟨⟨(some 52), (.bin .add (.t 49) (.t 51)), none⟩, []⟩, ⟨⟨(some 53), (.mv (.t 6)), none⟩, []⟩, ⟨⟨(some 54), (.bin .rem (.t 52) (.t 53)), none⟩, []⟩, ⟨⟨(some 47), (.call (.c (.func 13 [] [])) [(.t 46)]), none⟩, []⟩, ⟨⟨(some 55), (.call (.c (.func 13 [] [])) [(.t 54)]), none⟩, []⟩, ⟨⟨(some 56), (.build [(.int .i64 0), (.int .i64 0), (.int .u64 0), (.int .i64 0), (.int .i64 0), (.int .u64 0)] [(0, 3, (.t 47)), (3, 3, (.t 55))]), none⟩, []⟩, ⟨⟨(some 57), (.bslice 6 1 [(.int .i64 0), (.int .i64 0), (.int .u64 0), (.int .i64 0), (.int .i64 0), (.int .u64 0)] [(0, 6, (.t 56))]), none⟩, []⟩, ⟨⟨(some 58), (.append 6 48 [(.int .i64 0), (.int .i64 0), (.int .u64 0), (.int .i64 0), (.int .i64 0), (.int .u64 0)] (.t 45) (.t 57)), none⟩, []⟩, ⟨⟨(some 9), (.mv (.t 58)), none⟩, []⟩]))))
  (.region [⟨(some 25), (.mv (.t 10)), none⟩, ⟨(some 26), (.bin .add (.t 25) (.c (.int .i64 1))), none⟩, ⟨(some 10), (.mv (.t 26)), none⟩]))))))
  (.seq (.region [⟨(some 60), (.mv (.t 7)), none⟩, ⟨(some 61), (.call (.c (.func 13 [] [])) [(.c (.int .i64 99))]), none⟩, ⟨(some 62), (.call (.c (.func 9 [] [])) [(.t 60), (.t 61)]), none⟩, ⟨(some 59), (.mv (.t 62)), none⟩, ⟨(some 63), (.extract (.t 59) 0), none⟩, ⟨(some 64), (.extract (.t 59) 1), none⟩, ⟨(some 11), (.mv (.t 63)), none⟩, ⟨(some 12), (.mv (.t 64)), none⟩])
  (.seq (.region [⟨(some 66), (.mv (.t 8)), none⟩, ⟨(some 67), (.call (.c (.func 13 [] [])) [(.c (.int .i64 99))]), none⟩, ⟨(some 68), (.call (.c (.func 9 [] [])) [(.t 66), (.t 67)]), none⟩, ⟨(some 65), (.mv (.t 68)), none⟩, ⟨(some 69), (.extract (.t 65) 0), none⟩, ⟨(some 70), (.extract (.t 65) 1), none⟩, ⟨(some 13), (.mv (.t 69)), none⟩, ⟨(some 14), (.mv (.t 70)), none⟩])
  (.seq (.region [⟨(some 72), (.mv (.t 9)), none⟩, ⟨(some 73), (.call (.c (.func 13 [] [])) [(.c (.int .i64 99))]), none⟩, ⟨(some 74), (.call (.c (.func 9 [] [])) [(.t 72), (.t 73)]), none⟩, ⟨(some 71), (.mv (.t 74)), none⟩, ⟨(some 75), (.extract (.t 71) 0), none⟩, ⟨(some 76), (.extract (.t 71) 1), none⟩, ⟨(some 15), (.mv (.t 75)), none⟩, ⟨(some 16), (.mv (.t 76)), none⟩])
  (.seq (.seq (.region [⟨(some 77), (.mv (.t 12)), none⟩, ⟨(some 78), (.bin .neq (.t 77) (.c (.int .i64 0))), none⟩, ⟨(some 79), (.mv (.t 78)), none⟩, ⟨(some 80), (.mv (.t 14)), (some (79, false))⟩, ⟨(some 81), (.bin .neq (.t 80) (.c (.int .i64 0))), (some (79, false))⟩, ⟨(some 82), (.pick (.t 79) (.c (.bool true)) (.t 81)), none⟩, ⟨(some 83), (.mv (.t 82)), none⟩, ⟨(some 84), (.mv (.t 16)), (some (83, false))⟩, ⟨(some 85), (.bin .neq (.t 84) (.c (.int .i64 0))), (some (83, false))⟩, ⟨(some 86), (.pick (.t 83) (.c (.bool true)) (.t 85)), none⟩, ⟨(some 87), (.mv (.t 86)), none⟩, ⟨(some 88), (.mv (.t 11)), (some (87, false))⟩, ⟨(some 89), (.lenS (.t 88)), (some (87, false))⟩, ⟨(some 90), (.mv (.t 6)), (some (87, false))⟩, ⟨(some 91), (.bin .neq (.t 89) (.t 90)), (some (87, false))⟩, ⟨(some 92), (.pick (.t 87) (.c (.bool true)) (.t 91)), none⟩, ⟨(some 93), (.mv (.t 92)), none⟩, ⟨(some 94), (.mv (.t 13)), (some (93, false))⟩, ⟨(some 95), (.lenS (.t 94)), (some (93, false))⟩, ⟨(some 96), (.mv (.t 6)), (some (93, false))⟩, ⟨(some 97), (.bin .neq (.t 95) (.t 96)), (some (93, false))⟩, ⟨(some 98), (.pick (.t 93) (.c (.bool true)) (.t 97)), none⟩, ⟨(some 99), (.mv (.t 98)), none⟩, ⟨(some 100), (.mv (.t 15)), (some (99, false))⟩, ⟨(some 101), (.lenS (.t 100)), (some (99, false))⟩, ⟨(some 102), (.mv (.t 6)), (some (99, false))⟩, ⟨(some 103), (.mv (.t 6)), (some (99, false))⟩, ⟨(some 104), (.bin .quo (.t 103) (.c (.int .i64 2))), (some (99, false))⟩, ⟨(some 105), (.bin .add (.t 102) (.t 104)), (some (99, false))⟩, ⟨(some 106), (.bin .gtr (.t 101) (.t 105)), (some (99, false))⟩, ⟨(some 107), (.pick (.t 99) (.c (.bool true)) (.t 106)), none⟩])
  (.cond (.t 107) (.seq (.region [⟨(some 4), (.mv (.c (.bool false))), none⟩])
  .ret) .skip))
  (.seq (.seq (.region [⟨(some 17), (.mv (.c (.int .i64 0))), none⟩])
  (.block 2 (.loop (.seq (.seq (.region [⟨(some 108), (.mv (.t 17)), none⟩, ⟨(some 109), (.mv (.t 6)), none⟩, ⟨(some 110), (.bin .lss (.t 108) (.t 109)), none⟩])
  (.cond (.t 110) .skip (.exit 2)))
  (.seq (.block 3 (.seq (.regionD [⟨⟨(some 113), (.mv (.t 11)), none⟩, []⟩, ⟨⟨(some 114), (.mv (.t 17)), none⟩, []⟩, ⟨⟨(some 115), (.idxAddr 6 (.t 113) (.t 114)), none⟩, []⟩, ⟨⟨(some 116), (.load (some 6) (.t 115)), none⟩, []⟩, ⟨⟨(some 117), (.mv (.t 7)), none⟩, []⟩, ⟨⟨(some 118), (.mv (.t 17)), none⟩, []⟩, ⟨⟨(some 119), (.idxAddr 6 (.t 117) (.t 118)), none⟩, []⟩, ⟨⟨(some 120), (.load (some 6) (.t 119)), none⟩, []⟩, ⟨⟨(some 121), (.cmp true (.flat [.int, .int, .int, .int, .int, .int]) (.t 116) (.t 120)), none⟩, []⟩, ⟨⟨(some 122), (.mv (.t 121)), none⟩, []⟩, ⟨⟨(some 123), (.mv (.t 13)), (some (122, false))⟩, []⟩, ⟨⟨(some 124), (.mv (.t 17)), (some (122, false))⟩, []⟩, ⟨⟨(some 125), (.idxAddr 6 (.t 123) (.t 124)), (some (122, false))⟩, []⟩, ⟨⟨(some 126), (.load (some 6) (.t 125)), (some (122, false))⟩, []⟩, ⟨⟨(some 127), (.mv (.t 8)), (some (122, false))⟩, []⟩, ⟨⟨(some 128), (.mv (.t 6)), (some (122, false))⟩, []⟩, ⟨⟨(some 129), (.bin .sub (.t 128) (.c (.int .i64 1))), (some (122, false))⟩, []⟩, ⟨⟨(some 130), (.mv (.t 17)), (some (122, false))⟩, []⟩, ⟨⟨(some 131), (.bin .sub (.t 129) (.t 130)), (some (122, false))⟩, []⟩, ⟨⟨(some 132), (.idxAddr 6 (.t 127) (.t 131)), (some (122, false))⟩, []⟩, ⟨⟨(some 133), (.load (some 6) (.t 132)), (some (122, false))⟩, []⟩, ⟨⟨(some 134), (.cmp true (.flat [.int, .int, .int, .int, .int, .int]) (.t 126) (.t 133)), (some (122, false))⟩, []⟩, ⟨⟨(some 135), (.pick (.t 122) (.c (.bool true)) (.t 134)), none⟩, []⟩])
  (.cond (.t 135) (.seq (.region [⟨(some 4), (.mv (.c (.bool false))), none⟩])
  .ret) .skip)))
  (.region [⟨(some 111), (.mv (.t 17)), none⟩, ⟨(some 112), (.bin .add (.t 111) (.c (.int .i64 1))), none⟩, ⟨(some 17), (.mv (.t 112)), none⟩]))))))
  (.seq (.region [⟨(some 136), (.mv (.t 5)), none⟩, ⟨(some 4), (.mv (.t 136)), none⟩])
  .ret)))))))))))))⟩
def c7 : AFunc := ⟨68, [(.t 4)],
  (.seq (.region [⟨(some 3), (.box (.t 1)), none⟩, ⟨(some 4), (.mv (.c (.bool false))), none⟩])
  (.seq (.region [⟨(some 11), (.call (.c (.func 8 [] [])) []), none⟩, ⟨(some 5), (.mv (.t 11)), none⟩])
  (.seq (.region [⟨(some 6), (.mv (.c .nilslc)), none⟩])
  (.seq (.seq (.region [⟨(some 7), (.mv (.c (.int .i64 0))), none⟩])
  (.block 0 (.loop (.seq (.seq (.region [⟨(some 12), (.mv (.t 7)), none⟩, ⟨(some 13), (.mv (.t 0)), none⟩, ⟨(some 14), (.lenS (.t 13)), none⟩, ⟨(some 15), (.bin .lss (.t 12) (.t 14)), none⟩])
  (.cond (.t 15) .skip (.exit 0)))
  (.seq (.block 1 (.region [⟨(some 18), (.mv (.t 6)), none⟩, ⟨(some 19), (.mv (.t 0)), none⟩, ⟨(some 20), (.mv (.t 7)), none⟩, ⟨(some 21), (.idxAddr 6 (.t 19) (.t 20)), none⟩, ⟨(some 22), (.fieldAddr 0 (.t 21)), none⟩, ⟨(some 23), (.load (some 3) (.t 22)), none⟩, ⟨(some 24), (.mv (.t 7)), none⟩, ⟨(some 25), (.bin .and (.t 24) (.c (.int .i64 1023))), none⟩, ⟨(some 26), (.bin .mul (.c (.int .i64 2)) (.t 25)), none⟩, ⟨(some 27), (.bin .add (.t 26) (.c (.int .i64 1))), none⟩, ⟨(some 28), (.conv .u64 (.t 27)), none⟩, ⟨(some 29), (.build [(.int .i64 0), (.int .i64 0), (.int .u64 0)] [(0, 1, (.c (.int .i64 1))), (2, 1, (.t 28))]), none⟩, ⟨(some 30), (.build [(.int .i64 0), (.int .i64 0), (.int .u64 0), (.int .i64 0), (.int .i64 0), (.int .u64 0)] [(0, 3, (.t 23)), (3, 3, (.t 29))]), none⟩, ⟨(some 31), (.bslice 6 1 [(.int .i64 0), (.int .i64 0), (.int .u64 0), (.int .i64 0), (.int .i64 0), (.int .u64 0)] [(0, 6, (.t 30))]), none⟩, ⟨(some 32), (.append 6 48 [(.int .i64 0), (.int .i64 0), (.int .u64 0), (.int .i64 0), (.int .i64 0), (.int .u64 0)] (.t 18) (.t 31)), none⟩, ⟨(some 6), (.mv (.t 32)), none⟩]))
  (.region [⟨(some 16), (.mv (.t 7)), none⟩, ⟨(some 17), (.bin .add (.t 16) (.c (.int .i64 1))), none⟩, ⟨(some 7), (.mv (.t 17)), none⟩]))))))
  (.seq (.region [⟨(some 34), (.mv (.t 6)), none⟩, ⟨(some 35), (.load (some 3) (.t 3)), none⟩, ⟨(some 36), (.call (.c (.func 9 [] [])) [(.t 34), (.t 35)]), none⟩, ⟨(some 33), (.mv (.t 36)), none⟩, ⟨(some 37), (.extract (.t 33) 0), none⟩, ⟨(some 38), (.extract (.t 33) 1), none⟩, ⟨(some 8), (.mv (.t 37)), none⟩, ⟨(some 9), (.mv (.t 38)), none⟩])
  (.seq (.seq (.region [⟨(some 39), (.mv (.t 9)), none⟩, ⟨(some 40), (.bin .neq (.t 39) (.c (.int .i64 0))), none⟩])
  (.cond (.t 40) (.seq (.region [⟨(some 41), (.mv (.t 5)), none⟩, ⟨(some 42), (.mv (.t 41)), none⟩, ⟨(some 43), (.mv (.t 8)), (some (42, true))⟩, ⟨(some 44), (.lenS (.t 43)), (some (42, true))⟩, ⟨(some 45), (.bin .eql (.t 44) (.c (.int .i64 0))), (some (42, true))⟩, ⟨(some 46), (.pick (.t 42) (.t 45) (.c (.bool false))), none⟩, ⟨(some 4), (.mv (.t 46)), none⟩])
  .ret) .skip))
  (.seq (.seq (.region [⟨(some 47), (.mv (.t 8)), none⟩, ⟨(some 48), (.lenS (.t 47)), none⟩, ⟨(some 49), (.mv (.t 6)), none⟩, ⟨(some 50), (.lenS (.t 49)), none⟩, ⟨(some 51), (.bin .neq (.t 48) (.t 50)), none⟩])
  (.cond (.t 51) (.seq (.region [⟨(some 4), (.mv (.c (.bool false))), none⟩])
  .ret) .skip))
  (.seq (.seq (.region [⟨(some 10), (.mv (.c (.int .i64 0))), none⟩])
  (.block 2 (.loop (.seq (.seq (.region [⟨(some 52), (.mv (.t 10)), none⟩, ⟨(some 53), (.mv (.t 8)), none⟩, ⟨(some 54), (.lenS (.t 53)), none⟩, ⟨(some 55), (.bin .lss (.t 52) (.t 54)), none⟩])
  (.cond (.t 55) .skip (.exit 2)))
  (.seq (.block 3 (.seq (.regionD [⟨⟨(some 58), (.mv (.t 8)), none⟩, []⟩, ⟨⟨(some 59), (.mv (.t 10)), none⟩, []⟩, ⟨⟨(some 60), (.idxAddr 6 (.t 58) (.t 59)), none⟩, []⟩, ⟨⟨(some 61), (.load (some 6) (.t 60)), none⟩, []⟩, ⟨⟨(some 62), (.mv (.t 6)), none⟩, []⟩, ⟨⟨(some 63), (.mv (.t 10)), none⟩, []⟩, ⟨⟨(some 64), (.idxAddr 6 (.t 62) (.t 63)), none⟩, []⟩, ⟨⟨(some 65), (.load (some 6) (.t 64)), none⟩, []⟩, ⟨⟨(some 66), (.cmp true (.flat [.int, .int, .int, .int, .int, .int]) (.t 61) (.t 65)), none⟩, []⟩])
  (.cond (.t 66) (.seq (.region [⟨(some 4), (.mv (.c (.bool false))), none⟩])
  .ret) .skip)))
  (.region [⟨(some 56), (.mv (.t 10)), none⟩, ⟨(some 57), (.bin .add (.t 56) (.c (.int .i64 1))), none⟩, ⟨(some 10), (.mv (.t 57)), none⟩]))))))
  (.seq (.region [⟨(some 67), (.mv (.t 5)), none⟩, ⟨(some 4), (.mv (.t 67)), none⟩])
  .ret)))))))))⟩
def c8 : AFunc := ⟨69, [(.t 0)],
  (.seq (.region [⟨(some 0), (.mv (.c (.bool false))), none⟩])
  (.seq (.region [⟨(some 6), (.call (.c (.func 13 [] [])) [(.c (.int .i64 0))]), none⟩, ⟨(some 7), (.call (.c (.func 13 [] [])) [(.c (.int .i64 1))]), none⟩, ⟨(some 8), (.build [(.int .i64 0), (.int .i64 0), (.int .u64 0), (.int .i64 0), (.int .i64 0), (.int .u64 0)] [(0, 3, (.t 6)), (3, 3, (.t 7))]), none⟩, ⟨(some 9), (.call (.c (.func 13 [] [])) [(.c (.int .i64 1))]), none⟩, ⟨(some 10), (.call (.c (.func 13 [] [])) [(.c (.int .i64 0))]), none⟩, ⟨(some 11), (.build [(.int .i64 0), (.int .i64 0), (.int .u64 0), (.int .i64 0), (.int .i64 0), (.int .u64 0)] [(0, 3, (.t 9)), (3, 3, (.t 10))]), none⟩, ⟨(some 12), (.bslice 6 2 [(.int .i64 0), (.int .i64 0), (.int .u64 0), (.int .i64 0), (.int .i64 0), (.int .u64 0), (.int .i64 0), (.int .i64 0), (.int .u64 0), (.int .i64 0), (.int .i64 0), (.int .u64 0)] [(0, 6, (.t 8)), (6, 6, (.t 11))]), none⟩, ⟨(some 13), (.call (.c (.func 13 [] [])) [(.c (.int .i64 2))]), none⟩, ⟨(some 14), (.call (.c (.func 9 [] [])) [(.t 12), (.t 13)]), none⟩, ⟨(some 5), (.mv (.t 14)), none⟩, ⟨(some 15), (.extract (.t 5) 0), none⟩, ⟨(some 16), (.extract (.t 5) 1), none⟩, ⟨(some 1), (.mv (.t 15)), none⟩, ⟨(some 2), (.mv (.t 16)), none⟩])
  (.seq (.region [⟨(some 18), (.call (.c (.func 13 [] [])) [(.c (.int .i64 0))]), none⟩, ⟨(some 19), (.call (.c (.func 13 [] [])) [(.c (.int .i64 1))]), none⟩, ⟨(some 20), (.build [(.int .i64 0), (.int .i64 0), (.int .u64 0), (.int .i64 0), (.int .i64 0), (.int .u64 0)] [(0, 3, (.t 18)), (3, 3, (.t 19))]), none⟩, ⟨(some 21), (.call (.c (.func 13 [] [])) [(.c (.int .i64 1))]), none⟩, ⟨(some 22), (.build [(.int .i64 0), (.int .i64 0), (.int .u64 0)] [(0, 1, (.c (.int .i64 1))), (2, 1, (.c (.int .u64 15)))]), none⟩, ⟨(some 23), (.build [(.int .i64 0), (.int .i64 0), (.int .u64 0), (.int .i64 0), (.int .i64 0), (.int .u64 0)] [(0, 3, (.t 21)), (3, 3, (.t 22))]), none⟩, ⟨(some 24), (.bslice 6 2 [(.int .i64 0), (.int .i64 0), (.int .u64 0), (.int .i64 0), (.int .i64 0), (.int .u64 0), (.int .i64 0), (.int .i64 0), (.int .u64 0), (.int .i64 0), (.int .i64 0), (.int .u64 0)] [(0, 6, (.t 20)), (6, 6, (.t 23))]), none⟩, ⟨(some 25), (.call (.c (.func 13 [] [])) [(.c (.int .i64 2))]), none⟩, ⟨(some 26), (.call (.c (.func 9 [] [])) [(.t 24), (.t 25)]), none⟩, ⟨(some 17), (.mv (.t 26)), none⟩, ⟨(some 27), (.extract (.t 17) 0), none⟩, ⟨(some 28), (.extract (.t 17) 1), none⟩, ⟨(some 3), (.mv (.t 27)), none⟩, ⟨(some 4), (.mv (.t 28)), none⟩])
  (.seq (.regionD [⟨⟨(some 29), (.mv (.t 2)), none⟩, []⟩, ⟨⟨(some 30), (.bin .eql (.t 29) (.c (.int .i64 0))), none⟩, []⟩, ⟨⟨(some 31), (.mv (.t 30)), none⟩, []⟩, ⟨⟨(some 32), (.mv (.t 4)), (some (31, true))⟩, []⟩, ⟨⟨(some 33), (.bin .eql (.t 32) (.c (.int .i64 0))), (some (31, true))⟩, []⟩, ⟨⟨(some 34), (.pick (.t 31) (.t 33) (.c (.bool false))), none⟩, []⟩, ⟨⟨(some 35), (.mv (.t 34)), none⟩, []⟩, ⟨⟨(some 36), (.mv (.t 1)), (some (35, true))⟩, []⟩, ⟨⟨(some 37), (.lenS (.t 36)), (some (35, true))⟩, []⟩, ⟨⟨(some 38), (.bin .eql (.t 37) (.c (.int .i64 3))), (some (35, true))⟩, []⟩, ⟨⟨(some 39), (.pick (.t 35) (.t 38) (.c (.bool false))), none⟩, []⟩, ⟨⟨(some 40), (.mv (.t 39)), none⟩, []⟩, ⟨⟨(some 41), (.mv (.t 1)), (some (40, true))⟩, []⟩, ⟨⟨(some 42), (.idxAddr 6 (.t 41) (.c (.int .i64 0))), (some (40, true))⟩, []⟩, ⟨⟨(some 43), (.fieldAddr 0 (.t 42)), (some (40, true))⟩, []⟩, ⟨⟨(some 44), (.load (some 3) (.t 43)), (some (40, true))⟩, []⟩, ⟨⟨(some 45), (.call (.c (.func 13 [] [])) [(.c (.int .i64 2))]), (some (40, true))⟩, [⟨(some 44), (.load (some 3) (.t 43)), (some (40, true))⟩]⟩, ⟨⟨(some 46), (.cmp false (.flat [.int, .int, .int]) (.t 44) (.t 45)), (some (40, true))⟩, []⟩, ⟨⟨(some 47), (.pick (.t 40) (.t 46) (.c (.bool false))), none⟩, []⟩, ⟨⟨(some 48), (.mv (.t 47)), none⟩, []⟩, ⟨⟨(some 49), (.mv (.t 1)), (some (48, true))⟩, []⟩, ⟨⟨(some 50), (.idxAddr 6 (.t 49) (.c (.int .i64 2))), (some (48, true))⟩, []⟩, ⟨⟨(some 51), (.fieldAddr 3 (.t 50)), (some (48, true))⟩, []⟩, ⟨⟨(some 52), (.load (some 3) (.t 51)), (some (48, true))⟩, []⟩, ⟨⟨(some 53), (.call (.c (.func 13 [] [])) [(.c (.int .i64 2))]), (some (48, true))⟩, [⟨(some 52), (.load (some 3) (.t 51)), (some (48, true))⟩]⟩, ⟨⟨(some 54), (.cmp false (.flat [.int, .int, .int]) (.t 52) (.t 53)), (some (48, true))⟩, []⟩, ⟨⟨(some 55), (.pick (.t 48) (.t 54) (.c (.bool false))), none⟩, []⟩, ⟨⟨(some 56), (.mv (.t 55)), none⟩, []⟩, ⟨⟨(some 57), (.mv (.t 3)), (some (56, true))⟩, []⟩, ⟨⟨(some 58), (.lenS (.t 57)), (some (56, true))⟩, []⟩, ⟨⟨(some 59), (.bin .eql (.t 58) (.c (.int .i64 2))), (some (56, true))⟩, []⟩, ⟨⟨(some 60), (.pick (.t 56) (.t 59) (.c (.bool false))), none⟩, []⟩, ⟨⟨(some 61), (.mv (.t 60)), none⟩, []⟩, ⟨⟨(some 62), (.mv (.t 3)), (some (61, true))⟩, []⟩, ⟨⟨(some 63), (.idxAddr 6 (.t 62) (.c (.int .i64 0))), (some (61, true))⟩, []⟩, ⟨⟨(some 64), (.fieldAddr 0 (.t 63)), (some (61, true))⟩, []⟩, ⟨⟨(some 65), (.load (some 3) (.t 64)), (some (61, true))⟩, []⟩, ⟨⟨(some 66), (.call (.c (.func 13 [] [])) [(.c (.int .i64 0))]), (some (61, true))⟩, [⟨(some 65), (.load (some 3) (.t 64)), (some (61, true))⟩]⟩, ⟨⟨(some 67), (.cmp false (.flat [.int, .int, .int]) (.t 65) (.t 66)), (some (61, true))⟩, []⟩, ⟨⟨(some 68), (.pick (.t 61) (.t 67) (.c (.bool false))), none⟩, []⟩, ⟨⟨(some 0), (.mv (.t 68)), none⟩, []⟩])
  .ret))))⟩
def c9 : AFunc := ⟨67, [(.t 4), (.t 5)],
  (.seq (.region [⟨(some 3), (.box (.t 1)), none⟩, ⟨(some 4), (.mv (.c .nilslc)), none⟩, ⟨(some 5), (.mv (.c (.int .i64 0))), none⟩])
  (.seq (.seq (.region [⟨(some 11), (.mv (.t 0)), none⟩, ⟨(some 12), (.load (some 3) (.t 3)), none⟩, ⟨(some 13), (.call (.c (.func 14 [] [])) [(.t 11), (.t 12)]), none⟩, ⟨(some 14), (.un .not (.t 13)), none⟩])
  (.cond (.t 14) (.seq (.region [⟨(some 4), (.mv (.c .nilslc)), none⟩, ⟨(some 5), (.mv (.c (.int .i64 1))), none⟩])
  .ret) .skip))
  (.seq (.region [⟨(some 15), (.mv (.t 0)), none⟩, ⟨(some 16), (.call (.c (.func 16 [] [])) [(.t 15)]), none⟩, ⟨(some 17), (.call (.c (.func 15 [] [])) [(.t 16), (.c (.func 17 [] []))]), none⟩, ⟨(some 6), (.alloc [.nilslc]), none⟩, ⟨none, (.store 1 (.t 6) (.t 17)), none⟩])
  (.seq (.region [⟨(some 7), (.mv (.c .nilslc)), none⟩])
  (.seq (.block 0 (.loop (.seq (.seq (.region [⟨(some 18), (.load none (.t 6)), none⟩, ⟨(some 19), (.lenS (.t 18)), none⟩, ⟨(some 20), (.bin .gtr (.t 19) (.c (.int .i64 0))), none⟩])
  (.cond (.t 20) .skip (.exit 0)))
  (.block 1 (.seq (.region [⟨(some 21), (.load none (.t 6)), none⟩, ⟨(some 22), (.mkFunc 19 [] [(.t 6)]), none⟩, ⟨(some 23), (.call (.c (.func 18 [] [])) [(.t 21), (.t 22)]), none⟩, ⟨(some 8), (.mv (.t 23)), none⟩])
  (.seq (.seq (.region [⟨(some 24), (.mv (.t 8)), none⟩, ⟨(some 25), (.bin .geq (.t 24) (.c (.int .i64 0))), none⟩])
  (.cond (.t 25) (.seq (.region [⟨(some 26), (.mv (.t 7)), none⟩, ⟨(some 27), (.load none (.t 6)), none⟩, ⟨(some 28), (.mv (.t 8)), none⟩, ⟨(some 29), (.idxAddr 6 (.t 27) (.t 28)), none⟩, ⟨(some 30), (.load (some 6) (.t 29)), none⟩, ⟨(some 31), (.bslice 6 1 [(.int .i64 0), (.int .i64 0), (.int .u64 0), (.int .i64 0), (.int .i64 0), (.int .u64 0)] [(0, 6, (.t 30))]), none⟩, ⟨(some 32), (.append 6 48 [(.int .i64 0), (.int .i64 0), (.int .u64 0), (.int .i64 0), (.int .i64 0), (.int .u64 0)] (.t 26) (.t 31)), none⟩, ⟨(some 7), (.mv (.t 32)), none⟩])
  (.seq (.region [⟨(some 33), (.load none (.t 6)), none⟩, ⟨(some 34), (.mv (.t 8)), none⟩, ⟨(some 35), (.mv (.t 8)), none⟩, ⟨(some 36), (.bin .add (.t 35) (.c (.int .i64 1))), none⟩, ⟨(some 37), (.call (.c (.func 22 [] [])) [(.t 33), (.t 34), (.t 36)]), none⟩, ⟨none, (.store 1 (.t 6) (.t 37)), none⟩])
  (.exit 1))) .skip))
  (.seq (.region [⟨(some 38), (.load none (.t 6)), none⟩, ⟨(some 39), (.idxAddr 6 (.t 38) (.c (.int .i64 0))), none⟩, ⟨(some 40), (.fieldAddr 0 (.t 39)), none⟩, ⟨(some 41), (.load (some 3) (.t 40)), none⟩, ⟨(some 9), (.alloc [(.int .i64 0), (.int .i64 0), (.int .u64 0)]), none⟩, ⟨none, (.store 3 (.t 9) (.t 41)), none⟩])
  (.seq (.region [⟨(some 42), (.mv (.t 7)), none⟩, ⟨(some 43), (.load (some 3) (.t 3)), none⟩, ⟨(some 44), (.load (some 3) (.t 9)), none⟩, ⟨(some 45), (.build [(.int .i64 0), (.int .i64 0), (.int .u64 0), (.int .i64 0), (.int .i64 0), (.int .u64 0)] [(0, 3, (.t 43)), (3, 3, (.t 44))]), none⟩, ⟨(some 46), (.bslice 6 1 [(.int .i64 0), (.int .i64 0), (.int .u64 0), (.int .i64 0), (.int .i64 0), (.int .u64 0)] [(0, 6, (.t 45))]), none⟩, ⟨(some 47), (.append 6 48 [(.int .i64 0), (.int .i64 0), (.int .u64 0), (.int .i64 0), (.int .i64 0), (.int .u64 0)] (.t 42) (.t 46)), none⟩, ⟨(some 7), (.mv (.t 47)), none⟩])
  (.seq (.region [⟨(some 48), (.load none (.t 6)), none⟩, ⟨(some 49), (.lenS (.t 48)), none⟩, ⟨(some 50), (.mv (.c (.int .i64 0))), none⟩])
  (.block 2 (.loop (.seq (.region [⟨(some 51), (.bin .lss (.t 50) (.t 49)), none⟩])
  (.seq (.cond (.t 51) .skip (.exit 2))
  (.seq (.block 3 (.seq (.region [⟨(some 52), (.mv (.t 50)), none⟩, ⟨(some 10), (.mv (.t 52)), none⟩])
  (.seq (.regionD [⟨⟨(some 53), (.load none (.t 6)), none⟩, []⟩, ⟨⟨(some 54), (.mv (.t 10)), none⟩, []⟩, ⟨⟨(some 55), (.idxAddr 6 (.t 53) (.t 54)), none⟩, []⟩, ⟨⟨(some 56), (.fieldAddr 3 (.t 55)), none⟩, []⟩, ⟨⟨(some 57), (.load (some 3) (.t 56)), none⟩, []⟩, ⟨⟨(some 58), (.load (some 3) (.t 9)), none⟩, []⟩, ⟨⟨(some 59), (.cmp false (.flat [.int, .int, .int]) (.t 57) (.t 58)), none⟩, []⟩])
  (.cond (.t 59) (.region [⟨(some 60), (.load none (.t 6)), none⟩, ⟨(some 61), (.mv (.t 10)), none⟩, ⟨(some 62), (.load (some 3) (.t 3)), none⟩, ⟨(some 63), (.idxAddr 6 (.t 60) (.t 61)), none⟩, ⟨(some 64), (.fieldAddr 3 (.t 63)), none⟩, ⟨none, (.store 3 (.t 64) (.t 62)), none⟩]) .skip))))
  (.region [⟨(some 65), (.bin .add (.t 50) (.c (.int .i64 1))), none⟩, ⟨(some 50), (.mv (.t 65)), none⟩])))))))))))))))
  (.seq (.region [⟨(some 66), (.mv (.t 7)), none⟩, ⟨(some 4), (.mv (.t 66)), none⟩, ⟨(some 5), (.mv (.c (.int .i64 0))), none⟩])
  .ret))))))⟩
def c10 : AFunc := ⟨95, [(.t 4), (.t 5)],
  (.seq (.region [⟨(some 3), (.box (.t 1)), none⟩, ⟨(some 4), (.mv (.c .nilslc)), none⟩, ⟨(some 5), (.mv (.c (.int .i64 0))), none⟩])
  (.seq (.seq (.region [⟨(some 13), (.mv (.t 0)), none⟩, ⟨(some 14), (.load (some 3) (.t 3)), none⟩, ⟨(some 15), (.call (.c (.func 23 [] [])) [(.t 13), (.t 14)]), none⟩, ⟨(some 16), (.un .not (.t 15)), none⟩])
  (.cond (.t 16) (.seq (.region [⟨(some 4), (.mv (.c .nilslc)), none⟩, ⟨(some 5), (.mv (.c (.int .i64 1))), none⟩])
  .ret) .skip))
  (.seq (.region [⟨(some 6), (.mv (.c .nilslc)), none⟩])
  (.seq (.seq (.region [⟨(some 7), (.mv (.c (.int .i64 0))), none⟩])
  (.block 0 (.loop (.seq (.seq (.region [⟨(some 17), (.mv (.t 7)), none⟩, ⟨(some 18), (.mv (.t 0)), none⟩, ⟨(some 19), (.lenS (.t 18)), none⟩, ⟨(some 20), (.bin .lss (.t 17) (.t 19)), none⟩])
  (.cond (.t 20) .skip (.exit 0)))
  (.seq (.block 1 (.seq (.regionD [⟨⟨(some 23), (.mv (.t 0)), none⟩, []⟩, ⟨⟨(some 24), (.mv (.t 7)), none⟩, []⟩, ⟨⟨(some 25), (.idxAddr 6 (.t 23) (.t 24)), none⟩, []⟩, ⟨⟨(some 26), (.fieldAddr 0 (.t 25)), none⟩, []⟩, ⟨⟨(some 27), (.load (some 3) (.t 26)), none⟩, []⟩, ⟨⟨(some 28), (.mv (.t 0)), none⟩, []⟩, ⟨⟨(some 29), (.mv (.t 7)), none⟩, []⟩, ⟨⟨(some 30), (.idxAddr 6 (.t 28) (.t 29)), none⟩, []⟩, ⟨⟨(some 31), (.fieldAddr 3 (.t 30)), none⟩, []⟩, ⟨⟨(some 32), (.load (some 3) (.t 31)), none⟩, []⟩, ⟨⟨(some 33), (.cmp true (.flat [.int, .int, .int]) (.t 27) (.t 32)), none⟩, []⟩])
  (.cond (.t 33) (.region [⟨(some 34), (.mv (.t 6)), none⟩, ⟨(some 35), (.mv (.t 0)), none⟩, ⟨(some 36), (.mv (.t 7)), none⟩, ⟨(some 37), (.idxAddr 6 (.t 35) (.t 36)), none⟩, ⟨(some 38), (.load (some 6) (.t 37)), none⟩, ⟨(some 39), (.bslice 6 1 [(.int .i64 0), (.int .i64 0), (.int .u64 0), (.int .i64 0), (.int .i64 0), (.int .u64 0)] [(0, 6, (.t 38))]), none⟩, ⟨(some 40), (.append 6 48 [(.int .i64 0), (.int .i64 0), (.int .u64 0), (.int .i64 0), (.int .i64 0), (.int .u64 0)] (.t 34) (.t 39)), none⟩, ⟨(some 6), (.mv (.t 40)), none⟩]) .skip)))
  (.region [⟨(some 21), (.mv (.t 7)), none⟩, ⟨(some 22), (.bin .add (.t 21) (.c (.int .i64 1))), none⟩, ⟨(some 7), (.mv (.t 22)), none⟩]))))))
  (.seq (.region [⟨(some 8), (.mv (.c .nilslc)), none⟩])
  (.seq (.block 2 (.loop (.seq (.seq (.region [⟨(some 41), (.mv (.t 6)), none⟩, ⟨(some 42), (.lenS (.t 41)), none⟩, ⟨(some 43), (.bin .gtr (.t 42) (.c (.int .i64 0))), none⟩])
  (.cond (.t 43) .skip (.exit 2)))
  (.block 3 (.seq (.region [⟨(some 44), (.mv (.t 6)), none⟩, ⟨(some 45), (.call (.c (.func 24 [] [])) [(.t 44)]), none⟩, ⟨(some 9), (.mv (.t 45)), none⟩])
  (.seq (.seq (.region [⟨(some 46), (.mv (.t 9)), none⟩, ⟨(some 47), (.bin .lss (.t 46) (.c (.int .i64 0))), none⟩])
  (.cond (.t 47) (.seq (.region [⟨(some 48), (.mv (.t 6)), none⟩, ⟨(some 49), (.idxAddr 6 (.t 48) (.c (.int .i64 0))), none⟩, ⟨(some 50), (.fieldAddr 0 (.t 49)), none⟩, ⟨(some 51), (.load (some 3) (.t 50)), none⟩, ⟨(some 10), (.alloc [(.int .i64 0), (.int .i64 0), (.int .u64 0)]), none⟩, ⟨none, (.store 3 (.t 10) (.t 51)), none⟩])
  (.seq (.region [⟨(some 52), (.mv (.t 8)), none⟩, ⟨(some 53), (.load (some 3) (.t 3)), none⟩, ⟨(some 54), (.load (some 3) (.t 10)), none⟩, ⟨(some 55), (.build [(.int .i64 0), (.int .i64 0), (.int .u64 0), (.int .i64 0), (.int .i64 0), (.int .u64 0)] [(0, 3, (.t 53)), (3, 3, (.t 54))]), none⟩, ⟨(some 56), (.bslice 6 1 [(.int .i64 0), (.int .i64 0), (.int .u64 0), (.int .i64 0), (.int .i64 0), (.int .u64 0)] [(0, 6, (.t 55))]), none⟩, ⟨(some 57), (.append 6 48 [(.int .i64 0), (.int .i64 0), (.int .u64 0), (.int .i64 0), (.int .i64 0), (.int .u64 0)] (.t 52) (.t 56)), none⟩, ⟨(some 8), (.mv (.t 57)), none⟩])
  (.seq (.seq (.region [⟨(some 11), (.mv (.c (.int .i64 0))), none⟩])
  (.block 4 (.loop (.seq (.seq (.region [⟨(some 58), (.mv (.t 11)), none⟩, ⟨(some 59), (.mv (.t 6)), none⟩, ⟨(some 60), (.lenS (.t 59)), none⟩, ⟨(some 61), (.bin .lss (.t 58) (.t 60)), none⟩])
  (.cond (.t 61) .skip (.exit 4)))
  (.seq (.block 5 (.seq (.regionD [⟨⟨(some 64), (.mv (.t 6)), none⟩, []⟩, ⟨⟨(some 65), (.mv (.t 11)), none⟩, []⟩, ⟨⟨(some 66), (.idxAddr 6 (.t 64) (.t 65)), none⟩, []⟩, ⟨⟨(some 67), (.fieldAddr 3 (.t 66)), none⟩, []⟩, ⟨⟨(some 68), (.load (some 3) (.t 67)), none⟩, []⟩, ⟨⟨(some 69), (.load (some 3) (.t 10)), none⟩, []⟩, ⟨⟨(some 70), (.cmp false (.flat [.int, .int, .int]) (.t 68) (.t 69)), none⟩, []⟩])
  (.cond (.t 70) (.region [⟨(some 71), (.mv (.t 6)), none⟩, ⟨(some 72), (.mv (.t 11)), none⟩, ⟨(some 73), (.load (some 3) (.t 3)), none⟩, ⟨(some 74), (.idxAddr 6 (.t 71) (.t 72)), none⟩, ⟨(some 75), (.fieldAddr 3 (.t 74)), none⟩, ⟨none, (.store 3 (.t 75) (.t 73)), none⟩]) .skip)))
  (.region [⟨(some 62), (.mv (.t 11)), none⟩, ⟨(some 63), (.bin .add (.t 62) (.c (.int .i64 1))), none⟩, ⟨(some 11), (.mv (.t 63)), none⟩]))))))
  (.exit 3)))) .skip))
  (.seq (.region [⟨(some 76), (.mv (.t 8)), none⟩, ⟨(some 77), (.mv (.t 6)), none⟩, ⟨(some 78), (.mv (.t 9)), none⟩, ⟨(some 79), (.idxAddr 6 (.t 77) (.t 78)), none⟩, ⟨(some 80), (.load (some 6) (.t 79)), none⟩, ⟨(some 81), (.bslice 6 1 [(.int .i64 0), (.int .i64 0), (.int .u64 0), (.int .i64 0), (.int .i64 0), (.int .u64 0)] [(0, 6, (.t 80))]), none⟩, ⟨(some 82), (.append 6 48 [(.int .i64 0), (.int .i64 0), (.int .u64 0), (.int .i64 0), (.int .i64 0), (.int .u64 0)] (.t 76) (.t 81)), none⟩, ⟨(some 8), (.mv (.t 82)), none⟩])
  (.seq (.region [⟨(some 12), (.mv (.c .nilslc)), none⟩])
  (.seq (.region [⟨(some 83), (.mv (.t 12)), none⟩, ⟨(some 84), (.mv (.t 6)), none⟩, ⟨(some 85), (.mv (.t 9)), none⟩, ⟨(some 86), (.slice 6 (.t 84) none (some (.t 85)) none), none⟩, ⟨(some 87), (.append 6 48 [(.int .i64 0), (.int .i64 0), (.int .u64 0), (.int .i64 0), (.int .i64 0), (.int .u64 0)] (.t 83) (.t 86)), none⟩, ⟨(some 12), (.mv (.t 87)), none⟩])
  (.region [⟨(some 88), (.mv (.t 12)), none⟩, ⟨(some 89), (.mv (.t 6)), none⟩, ⟨(some 90), (.mv (.t 9)), none⟩, ⟨(some 91), (.bin .add (.t 90) (.c (.int .i64 1))), none⟩, ⟨(some 92), (.slice 6 (.t 89) (some (.t 91)) none none), none⟩, ⟨(some 93), (.append 6 48 [(.int .i64 0), (.int .i64 0), (.int .u64 0), (.int .i64 0), (.int .i64 0), (.int .u64 0)] (.t 88) (.t 92)), none⟩, ⟨(some 6), (.mv (.t 93)), none⟩]))))))))))
  (.seq (.region [⟨(some 94), (.mv (.t 8)), none⟩, ⟨(some 4), (.mv (.t 94)), none⟩, ⟨(some 5), (.mv (.c (.int .i64 0))), none⟩])
  .ret)))))))⟩
def c11 : AFunc := ⟨20, [(.t 4)],
  (.seq (.region [⟨(some 3), (.box (.t 1)), none⟩, ⟨(some 4), (.mv (.c .nilslc)), none⟩])
  (.seq (.seq (.region [⟨(some 5), (.mv (.t 0)), none⟩, ⟨(some 6), (.load (some 3) (.t 3)), none⟩, ⟨(some 7), (.call (.c (.func 12 [] [])) [(.t 5), (.t 6)]), none⟩, ⟨(some 8), (.bin .geq (.t 7) (.c (.int .i64 0))), none⟩])
  (.cond (.t 8) (.seq (.region [⟨(some 9), (.mv (.t 0)), none⟩, ⟨(some 4), (.mv (.t 9)), none⟩])
  .ret) .skip))
  (.seq (.regionD [⟨⟨(some 10), (.bslice 4 0 [] []), none⟩, []⟩, ⟨⟨(some 11), (.mv (.t 0)), none⟩, []⟩, ⟨⟨(some 13), (.load (some 3) (.t 3)), none⟩, []⟩, ⟨⟨(some 14), (.mv (.t 0)), none⟩, []⟩, ⟨⟨(some 15), (.lenS (.t 14)), none⟩, []⟩, ⟨⟨(some 16), (.bin .add (.c (.int .i64 100)) (.t 15)), none⟩, []⟩, ⟨⟨(some 17), (.build [(.int .i64 0), (.int .i64 0), (.int .u64 0), (.int .i64 0)] [(0, 3, (.t 13)), (3, 1, (.t 16))]), none⟩, []⟩, ⟨⟨(some 18), (.bslice 4 1 [(.int .i64 0), (.int .i64 0), (.int .u64 0), (.int .i64 0)] [(0, 4, (.t 17))]), none⟩, []⟩, ⟨⟨(some 12), (.append 4 32 [(.int .i64 0), (.int .i64 0), (.int .u64 0), (.int .i64 0)] (.t 10) (.t 11)), none⟩, [⟨(some 13), (.load (some 3) (.t 3)), none⟩]⟩, ⟨⟨(some 19), (.append 4 32 [(.int .i64 0), (.int .i64 0), (.int .u64 0), (.int .i64 0)] (.t 12) (.t 18)), none⟩, []⟩, ⟨⟨(some 4), (.mv (.t 19)), none⟩, []⟩])
  .ret)))⟩
def c12 : AFunc := ⟨24, [(.t 4)],
  (.seq (.region [⟨(some 3), (.box (.t 1)), none⟩, ⟨(some 4), (.mv (.c (.int .i64 0))), none⟩])
  (.seq (.seq (.region [⟨(some 5), (.mv (.c (.int .i64 0))), none⟩])
  (.block 0 (.loop (.seq (.seq (.region [⟨(some 6), (.mv (.t 5)), none⟩, ⟨(some 7), (.mv (.t 0)), none⟩, ⟨(some 8), (.lenS (.t 7)), none⟩, ⟨(some 9), (.bin .lss (.t 6) (.t 8)), none⟩])
  (.cond (.t 9) .skip (.exit 0)))
  (.seq (.block 1 (.seq (.regionD [⟨⟨(some 12), (.mv (.t 0)), none⟩, []⟩, ⟨⟨(some 13), (.mv (.t 5)), none⟩, []⟩, ⟨⟨(some 14), (.idxAddr 4 (.t 12) (.t 13)), none⟩, []⟩, ⟨⟨(some 15), (.fieldAddr 0 (.t 14)), none⟩, []⟩, ⟨⟨(some 16), (.load (some 3) (.t 15)), none⟩, []⟩, ⟨⟨(some 17), (.load (some 3) (.t 3)), none⟩, []⟩, ⟨⟨(some 18), (.cmp false (.flat [.int, .int, .int]) (.t 16) (.t 17)), none⟩, []⟩])
  (.cond (.t 18) (.seq (.region [⟨(some 19), (.mv (.t 0)), none⟩, ⟨(some 20), (.mv (.t 5)), none⟩, ⟨(some 21), (.idxAddr 4 (.t 19) (.t 20)), none⟩, ⟨(some 22), (.fieldAddr 3 (.t 21)), none⟩, ⟨(some 23), (.load none (.t 22)), none⟩, ⟨(some 4), (.mv (.t 23)), none⟩])
  .ret) .skip)))
  (.region [⟨(some 10), (.mv (.t 5)), none⟩, ⟨(some 11), (.bin .add (.t 10) (.c (.int .i64 1))), none⟩, ⟨(some 5), (.mv (.t 11)), none⟩]))))))
  (.seq (.region [⟨(some 4), (.mv (.c (.int .i64 (-1)))), none⟩])
  .ret)))⟩
def c13 : AFunc := ⟨5, [(.ld (some 3) 2)],
  (.seq (.region [⟨(some 2), (.alloc [(.int .i64 0), (.int .i64 0), (.int .u64 0)]), none⟩])
  (.seq (.region [⟨(some 3), (.mv (.t 0)), none⟩, ⟨(some 4), (.build [(.int .i64 0), (.int .i64 0), (.int .u64 0)] [(1, 1, (.t 3))]), none⟩, ⟨none, (.store 3 (.t 2) (.t 4)), none⟩])
  .ret))⟩
def c14 : AFunc := ⟨56, [(.t 4)],
  (.seq (.region [⟨(some 3), (.box (.t 1)), none⟩, ⟨(some 4), (.mv (.c (.bool false))), none⟩])
  (.seq (.region [⟨(some 8), .mkMap, none⟩, ⟨(some 9), (.load (some 3) (.t 3)), none⟩, ⟨none, (.mapSet [.int, .int, .int] true (.t 8) (.t 9) (.c (.int .i64 1))), none⟩, ⟨(some 10), (.mv (.t 8)), none⟩, ⟨(some 5), (.mv (.t 10)), none⟩])
  (.seq (.seq (.region [⟨(some 11), (.mv (.t 0)), none⟩, ⟨(some 12), (.lenS (.t 11)), none⟩, ⟨(some 13), (.mv (.c (.int .i64 0))), none⟩])
  (.block 0 (.loop (.seq (.region [⟨(some 14), (.bin .lss (.t 13) (.t 12)), none⟩])
  (.seq (.cond (.t 14) .skip (.exit 0))
  (.seq (.block 1 (.seq (.region [⟨(some 15), (.idxAddr 6 (.t 11) (.t 13)), none⟩, ⟨(some 16), (.load (some 6) (.t 15)), none⟩, ⟨(some 7), (.alloc [(.int .i64 0), (.int .i64 0), (.int .u64 0), (.int .i64 0), (.int .i64 0), (.int .u64 0)]), none⟩, ⟨none, (.store 6 (.t 7) (.t 16)), none⟩])
  (.seq (.regionD [⟨⟨(some 17), (.mv (.t 5)), none⟩, []⟩, ⟨⟨(some 18), (.fieldAddr 0 (.t 7)), none⟩, []⟩, ⟨⟨(some 19), (.load (some 3) (.t 18)), none⟩, []⟩, ⟨⟨(some 20), (.lookup (.int .i64 0) [.int, .int, .int] true (.t 17) (.t 19) false), none⟩, []⟩, ⟨⟨(some 21), (.bin .add (.t 20) (.c (.int .i64 1))), none⟩, []⟩, ⟨⟨(some 22), (.mapEntry (.int .i64 0) [.int, .int, .int] true (.t 17) (.t 19)), none⟩, [⟨(some 20), (.lookup (.int .i64 0) [.int, .int, .int] true (.t 17) (.t 19) false), none⟩]⟩, ⟨⟨(some 23), (.extract (.t 22) 1), none⟩, []⟩, ⟨⟨none, (.entryStore (.t 17) (.t 23) (.t 21)), none⟩, []⟩])
  (.seq (.region [⟨(some 24), (.fieldAddr 0 (.t 7)), none⟩, ⟨(some 25), (.load (some 3) (.t 24)), none⟩, ⟨(some 26), (.call (.c (.func 25 [] [])) [(.t 25)]), none⟩, ⟨(some 27), (.un .not (.t 26)), none⟩, ⟨(some 28), (.mv (.t 27)), none⟩, ⟨(some 29), (.mv (.t 5)), (some (28, false))⟩, ⟨(some 30), (.fieldAddr 0 (.t 7)), (some (28, false))⟩, ⟨(some 31), (.load (some 3) (.t 30)), (some (28, false))⟩, ⟨(some 32), (.lookup (.int .i64 0) [.int, .int, .int] true (.t 29) (.t 31) false), (some (28, false))⟩, ⟨(some 33), (.bin .gtr (.t 32) (.c (.int .i64 1))), (some (28, false))⟩, ⟨(some 34), (.pick (.t 28) (.c (.bool true)) (.t 33)), none⟩, ⟨(some 35), (.mv (.t 34)), none⟩, ⟨(some 36), (.fieldAddr 3 (.t 7)), (some (35, false))⟩, ⟨(some 37), (.load (some 3) (.t 36)), (some (35, false))⟩, ⟨(some 38), (.load (some 3) (.t 3)), (some (35, false))⟩, ⟨(some 39), (.cmp false (.flat [.int, .int, .int]) (.t 37) (.t 38)), (some (35, false))⟩, ⟨(some 40), (.pick (.t 35) (.c (.bool true)) (.t 39)), none⟩, ⟨(some 41), (.mv (.t 40)), none⟩, ⟨(some 42), (.fieldAddr 3 (.t 7)), (some (41, false))⟩, ⟨(some 43), (.fieldAddr 0 (.t 42)), (some (41, false))⟩, ⟨(some 44), (.load none (.t 43)), (some (41, false))⟩, ⟨(some 45), (.bin .lss (.t 44) (.c (.int .i64 0))), (some (41, false))⟩, ⟨(some 46), (.pick (.t 41) (.c (.bool true)) (.t 45)), none⟩, ⟨(some 47), (.mv (.t 46)), none⟩, ⟨(some 48), (.fieldAddr 3 (.t 7)), (some (47, false))⟩, ⟨(some 49), (.fieldAddr 0 (.t 48)), (some (47, false))⟩, ⟨(some 50), (.load none (.t 49)), (some (47, false))⟩, ⟨(some 51), (.bin .gtr (.t 50) (.c (.int .i64 3))), (some (47, false))⟩, ⟨(some 52), (.pick (.t 47) (.c (.bool true)) (.t 51)), none⟩])
  (.cond (.t 52) (.seq (.region [⟨(some 4), (.mv (.c (.bool false))), none⟩])
  .ret) .skip)))))
  (.region [⟨(some 53), (.bin .add (.t 13) (.c (.int .i64 1))), none⟩, ⟨(some 13), (.mv (.t 53)), none⟩])))))))
  (.seq (.region [⟨(some 54), (.load (some 3) (.t 3)), none⟩, ⟨(some 55), (.call (.c (.func 25 [] [])) [(.t 54)]), none⟩, ⟨(some 4), (.mv (.t 55)), none⟩])
  .ret))))⟩
def c15 : AFunc := ⟨42, [(.t 4)],
  (.seq (.region [⟨(some 4), (.mv (.c .nilslc)), none⟩])
  (.seq (.region [⟨(some 8), (.mv (.t 0)), none⟩, ⟨(some 9), (.mv (.t 1)), none⟩, ⟨(some 10), (.call (.c (.func 18 [] [])) [(.t 8), (.t 9)]), none⟩, ⟨(some 5), (.mv (.t 10)), none⟩])
  (.seq (.seq (.region [⟨(some 11), (.mv (.t 5)), none⟩, ⟨(some 12), (.bin .eql (.t 11) (.c (.int .i64 (-1)))), none⟩])
  (.cond (.t 12) (.seq (.region [⟨(some 13), (.mv (.t 0)), none⟩, ⟨(some 4), (.mv (.t 13)), none⟩])
  .ret) .skip))
  (.seq (.seq (.region [⟨(some 14), (.mv (.t 5)), none⟩, ⟨(some 15), (.bin .add (.t 14) (.c (.int .i64 1))), none⟩, ⟨(some 6), (.mv (.t 15)), none⟩])
  (.block 0 (.loop (.seq (.seq (.region [⟨(some 16), (.mv (.t 6)), none⟩, ⟨(some 17), (.mv (.t 0)), none⟩, ⟨(some 18), (.lenS (.t 17)), none⟩, ⟨(some 19), (.bin .lss (.t 16) (.t 18)), none⟩])
  (.cond (.t 19) .skip (.exit 0)))
  (.seq (.block 1 (.seq (.region [⟨(some 22), (.mv (.t 0)), none⟩, ⟨(some 23), (.mv (.t 6)), none⟩, ⟨(some 24), (.idxAddr 6 (.t 22) (.t 23)), none⟩, ⟨(some 25), (.load (some 6) (.t 24)), none⟩, ⟨(some 7), (.alloc [(.int .i64 0), (.int .i64 0), (.int .u64 0), (.int .i64 0), (.int .i64 0), (.int .u64 0)]), none⟩, ⟨none, (.store 6 (.t 7) (.t 25)), none⟩])
  (.seq (.region [⟨(some 26), (.mv (.t 1)), none⟩, ⟨(some 27), (.load (some 6) (.t 7)), none⟩, ⟨(some 28), (.call (.t 26) [(.t 27)]), none⟩, ⟨(some 29), (.un .not (.t 28)), none⟩])
  (.cond (.t 29) (.seq (.region [⟨(some 30), (.mv (.t 0)), none⟩, ⟨(some 31), (.mv (.t 5)), none⟩, ⟨(some 32), (.load (some 6) (.t 7)), none⟩, ⟨(some 33), (.idxAddr 6 (.t 30) (.t 31)), none⟩, ⟨none, (.store 6 (.t 33) (.t 32)), none⟩])
  (.region [⟨(some 34), (.mv (.t 5)), none⟩, ⟨(some 35), (.bin .add (.t 34) (.c (.int .i64 1))), none⟩, ⟨(some 5), (.mv (.t 35)), none⟩])) .skip))))
  (.region [⟨(some 20), (.mv (.t 6)), none⟩, ⟨(some 21), (.bin .add (.t 20) (.c (.int .i64 1))), none⟩, ⟨(some 6), (.mv (.t 21)), none⟩]))))))
  (.seq (.region [⟨(some 36), (.mv (.t 0)), none⟩, ⟨(some 37), (.mv (.t 5)), none⟩, ⟨(some 38), (.slice 6 (.t 36) (some (.t 37)) none none), none⟩, ⟨none, (.clear [(.int .i64 0), (.int .i64 0), (.int .u64 0), (.int .i64 0), (.int .i64 0), (.int .u64 0)] (.t 38)), none⟩])
  (.seq (.region [⟨(some 39), (.mv (.t 0)), none⟩, ⟨(some 40), (.mv (.t 5)), none⟩, ⟨(some 41), (.slice 6 (.t 39) none (some (.t 40)) none), none⟩, ⟨(some 4), (.mv (.t 41)), none⟩])
  .ret))))))⟩
def c16 : AFunc := ⟨8, [(.t 2)],
  (.seq (.region [⟨(some 2), (.mv (.c .nilslc)), none⟩])
  (.seq (.seq (.region [⟨(some 3), (.mv (.t 0)), none⟩, ⟨(some 4), (.cmp false .slc (.t 3) (.c .nilslc)), none⟩])
  (.cond (.t 4) (.seq (.region [⟨(some 2), (.mv (.c .nilslc)), none⟩])
  .ret) .skip))
  (.seq (.region [⟨(some 5), (.bslice 6 0 [] []), none⟩, ⟨(some 6), (.mv (.t 0)), none⟩, ⟨(some 7), (.append 6 48 [(.int .i64 0), (.int .i64 0), (.int .u64 0), (.int .i64 0), (.int .i64 0), (.int .u64 0)] (.t 5) (.t 6)), none⟩, ⟨(some 2), (.mv (.t 7)), none⟩])
  .ret)))⟩
def c17 : AFunc := ⟨8, [(.t 2)],
  (.seq (.region [⟨(some 1), (.box (.t 0)), none⟩, ⟨(some 2), (.mv (.c (.bool false))), none⟩])
  (.seq (.region [⟨(some 3), (.fieldAddr 0 (.t 1)), none⟩, ⟨(some 4), (.load (some 3) (.t 3)), none⟩, ⟨(some 5), (.fieldAddr 3 (.t 1)), none⟩, ⟨(some 6), (.load (some 3) (.t 5)), none⟩, ⟨(some 7), (.cmp false (.flat [.int, .int, .int]) (.t 4) (.t 6)), none⟩, ⟨(some 2), (.mv (.t 7)), none⟩])
  .ret))⟩
def c18 : AFunc := ⟨19, [(.t 4)],
  (.seq (.region [⟨(some 4), (.mv (.c (.int .i64 0))), none⟩])
  (.seq (.seq (.region [⟨(some 6), (.mv (.t 0)), none⟩, ⟨(some 7), (.lenS (.t 6)), none⟩, ⟨(some 8), (.mv (.c (.int .i64 0))), none⟩])
  (.block 0 (.loop (.seq (.region [⟨(some 9), (.bin .lss (.t 8) (.t 7)), none⟩])
  (.seq (.cond (.t 9) .skip (.exit 0))
  (.seq (.block 1 (.seq (.region [⟨(some 10), (.mv (.t 8)), none⟩, ⟨(some 5), (.mv (.t 10)), none⟩])
  (.seq (.region [⟨(some 11), (.mv (.t 1)), none⟩, ⟨(some 12), (.mv (.t 0)), none⟩, ⟨(some 13), (.mv (.t 5)), none⟩, ⟨(some 14), (.idxAddr 6 (.t 12) (.t 13)), none⟩, ⟨(some 15), (.load (some 6) (.t 14)), none⟩, ⟨(some 16), (.call (.t 11) [(.t 15)]), none⟩])
  (.cond (.t 16) (.seq (.region [⟨(some 17), (.mv (.t 5)), none⟩, ⟨(some 4), (.mv (.t 17)), none⟩])
  .ret) .skip))))
  (.region [⟨(some 18), (.bin .add (.t 8) (.c (.int .i64 1))), none⟩, ⟨(some 8), (.mv (.t 18)), none⟩])))))))
  (.seq (.region [⟨(some 4), (.mv (.c (.int .i64 (-1)))), none⟩])
  .ret)))⟩
def c19 : AFunc := ⟨8, [(.t 3)],
  (.seq (.region [⟨(some 2), (.box (.t 0)), none⟩, ⟨(some 3), (.mv (.c (.bool false))), none⟩])
  (.seq (.region [⟨(some 4), (.load none (.t 1)), none⟩, ⟨(some 5), (.mkFunc 21 [] [(.t 2)]), none⟩, ⟨(some 6), (.call (.c (.func 20 [] [])) [(.t 4), (.t 5)]), none⟩, ⟨(some 7), (.un .not (.t 6)), none⟩, ⟨(some 3), (.mv (.t 7)), none⟩])
  .ret))⟩
def c20 : AFunc := ⟨9, [(.t 4)],
  (.seq (.region [⟨(some 4), (.mv (.c (.bool false))), none⟩])
  (.seq (.region [⟨(some 5), (.mv (.t 0)), none⟩, ⟨(some 6), (.mv (.t 1)), none⟩, ⟨(some 7), (.call (.c (.func 18 [] [])) [(.t 5), (.t 6)]), none⟩, ⟨(some 8), (.bin .geq (.t 7) (.c (.int .i64 0))), none⟩, ⟨(some 4), (.mv (.t 8)), none⟩])
  .ret))⟩
def c21 : AFunc := ⟨16, [(.t 3)],
  (.seq (.region [⟨(some 2), (.box (.t 0)), none⟩, ⟨(some 3), (.mv (.c (.bool false))), none⟩])
  (.seq (.region [⟨(some 4), (.fieldAddr 0 (.t 2)), none⟩, ⟨(some 5), (.load (some 3) (.t 4)), none⟩, ⟨(some 6), (.fieldAddr 0 (.t 1)), none⟩, ⟨(some 7), (.load (some 3) (.t 6)), none⟩, ⟨(some 8), (.cmp true (.flat [.int, .int, .int]) (.t 5) (.t 7)), none⟩, ⟨(some 9), (.mv (.t 8)), none⟩, ⟨(some 10), (.fieldAddr 3 (.t 2)), (some (9, true))⟩, ⟨(some 11), (.load (some 3) (.t 10)), (some (9, true))⟩, ⟨(some 12), (.fieldAddr 0 (.t 1)), (some (9, true))⟩, ⟨(some 13), (.load (some 3) (.t 12)), (some (9, true))⟩, ⟨(some 14), (.cmp false (.flat [.int, .int, .int]) (.t 11) (.t 13)), (some (9, true))⟩, ⟨(some 15), (.pick (.t 9) (.t 14) (.c (.bool false))), none⟩, ⟨(some 3), (.mv (.t 15)), none⟩])
  .ret))⟩
def c22 : AFunc := ⟨33, [(.t 6)],
  (.seq (.region [⟨(some 6), (.mv (.c .nilslc)), none⟩])
  (.seq (.region [⟨(some 8), (.mv (.t 0)), none⟩, ⟨(some 9), (.mv (.t 1)), none⟩, ⟨(some 10), (.mv (.t 2)), none⟩, ⟨(some 11), (.mv (.t 0)), none⟩, ⟨(some 12), (.lenS (.t 11)), none⟩, ⟨(some 13), (.slice 6 (.t 8) (some (.t 9)) (some (.t 10)) (some (.t 12))), none⟩])
  (.seq (.seq (.region [⟨(some 14), (.mv (.t 1)), none⟩, ⟨(some 15), (.mv (.t 2)), none⟩, ⟨(some 16), (.bin .eql (.t 14) (.t 15)), none⟩])
  (.cond (.t 16) (.seq (.region [⟨(some 17), (.mv (.t 0)), none⟩, ⟨(some 6), (.mv (.t 17)), none⟩])
  .ret) .skip))
  (.seq (.region [⟨(some 18), (.mv (.t 0)), none⟩, ⟨(some 19), (.lenS (.t 18)), none⟩, ⟨(some 7), (.mv (.t 19)), none⟩])
  (.seq (.regionD [⟨⟨(some 20), (.mv (.t 0)), none⟩, []⟩, ⟨⟨(some 21), (.mv (.t 1)), none⟩, []⟩, ⟨⟨(some 22), (.slice 6 (.t 20) none (some (.t 21)) none), none⟩, []⟩, ⟨⟨(some 23), (.mv (.t 0)), none⟩, []⟩, ⟨⟨(some 24), (.mv (.t 2)), none⟩, []⟩, ⟨⟨(some 25), (.slice 6 (.t 23) (some (.t 24)) none none), none⟩, []⟩, ⟨⟨(some 26), (.append 6 48 [(.int .i64 0), (.int .i64 0), (.int .u64 0), (.int .i64 0), (.int .i64 0), (.int .u64 0)] (.t 22) (.t 25)), none⟩, []⟩, ⟨⟨(some 0), (.mv (.t 26)), none⟩, []⟩])
  (.seq (.region [⟨(some 27), (.mv (.t 0)), none⟩, ⟨(some 28), (.mv (.t 0)), none⟩, ⟨(some 29), (.lenS (.t 28)), none⟩, ⟨(some 30), (.mv (.t 7)), none⟩, ⟨(some 31), (.slice 6 (.t 27) (some (.t 29)) (some (.t 30)) none), none⟩, ⟨none, (.clear [(.int .i64 0), (.int .i64 0), (.int .u64 0), (.int .i64 0), (.int .i64 0), (.int .u64 0)] (.t 31)), none⟩])
  (.seq (.region [⟨(some 32), (.mv (.t 0)), none⟩, ⟨(some 6), (.mv (.t 32)), none⟩])
  .ret)))))))⟩
def c23 : AFunc := ⟨75, [(.t 4)],
  (.seq (.region [⟨(some 3), (.box (.t 1)), none⟩, ⟨(some 4), (.mv (.c (.bool false))), none⟩])
  (.seq (.seq (.region [⟨(some 7), (.load (some 3) (.t 3)), none⟩, ⟨(some 8), (.call (.c (.func 26 [] [])) [(.t 7)]), none⟩, ⟨(some 9), (.un .not (.t 8)), none⟩])
  (.cond (.t 9) (.seq (.region [⟨(some 4), (.mv (.c (.bool false))), none⟩])
  .ret) .skip))
  (.seq (.seq (.region [⟨(some 5), (.mv (.c (.int .i64 0))), none⟩])
  (.block 0 (.loop (.seq (.seq (.region [⟨(some 10), (.mv (.t 5)), none⟩, ⟨(some 11), (.mv (.t 0)), none⟩, ⟨(some 12), (.lenS (.t 11)), none⟩, ⟨(some 13), (.bin .lss (.t 10) (.t 12)), none⟩])
  (.cond (.t 13) .skip (.exit 0)))
  (.seq (.block 1 (.seq (.seq (.regionD [⟨⟨(some 16), (.mv (.t 0)), none⟩, []⟩, ⟨⟨(some 17), (.mv (.t 5)), none⟩, []⟩, ⟨⟨(some 18), (.idxAddr 6 (.t 16) (.t 17)), none⟩, []⟩, ⟨⟨(some 19), (.fieldAddr 0 (.t 18)), none⟩, []⟩, ⟨⟨(some 20), (.load (some 3) (.t 19)), none⟩, []⟩, ⟨⟨(some 21), (.call (.c (.func 26 [] [])) [(.t 20)]), none⟩, []⟩, ⟨⟨(some 22), (.un .not (.t 21)), none⟩, []⟩, ⟨⟨(some 23), (.mv (.t 22)), none⟩, []⟩, ⟨⟨(some 24), (.mv (.t 0)), (some (23, false))⟩, []⟩, ⟨⟨(some 25), (.mv (.t 5)), (some (23, false))⟩, []⟩, ⟨⟨(some 26), (.idxAddr 6 (.t 24) (.t 25)), (some (23, false))⟩, []⟩, ⟨⟨(some 27), (.fieldAddr 0 (.t 26)), (some (23, false))⟩, []⟩, ⟨⟨(some 28), (.load (some 3) (.t 27)), (some (23, false))⟩, []⟩, ⟨⟨(some 29), (.load (some 3) (.t 3)), (some (23, false))⟩, []⟩, ⟨⟨(some 30), (.cmp false (.flat [.int, .int, .int]) (.t 28) (.t 29)), (some (23, false))⟩, []⟩, ⟨⟨(some 31), (.pick (.t 23) (.c (.bool true)) (.t 30)), none⟩, []⟩, ⟨⟨(some 32), (.mv (.t 31)), none⟩, []⟩, ⟨⟨(some 33), (.mv (.t 0)), (some (32, false))⟩, []⟩, ⟨⟨(some 34), (.mv (.t 5)), (some (32, false))⟩, []⟩, ⟨⟨(some 35), (.idxAddr 6 (.t 33) (.t 34)), (some (32, false))⟩, []⟩, ⟨⟨(some 36), (.fieldAddr 3 (.t 35)), (some (32, false))⟩, []⟩, ⟨⟨(some 37), (.load (some 3) (.t 36)), (some (32, false))⟩, []⟩, ⟨⟨(some 38), (.load (some 3) (.t 3)), (some (32, false))⟩, []⟩, ⟨⟨(some 39), (.cmp false (.flat [.int, .int, .int]) (.t 37) (.t 38)), (some (32, false))⟩, []⟩, ⟨⟨(some 40), (.pick (.t 32) (.c (.bool true)) (.t 39)), none⟩, []⟩, ⟨⟨(some 41), (.mv (.t 40)), none⟩, []⟩, ⟨⟨(some 42), (.mv (.t 0)), (some (41, false))⟩, []⟩, ⟨⟨(some 43), (.mv (.t 5)), (some (41, false))⟩, []⟩, ⟨⟨(some 44), (.idxAddr 6 (.t 42) (.t 43)), (some (41, false))⟩, []⟩, ⟨⟨(some 45), (.fieldAddr 3 (.t 44)), (some (41, false))⟩, []⟩, ⟨⟨(some 46), (.fieldAddr 0 (.t 45)), (some (41, false))⟩, []⟩, ⟨⟨(some 47), (.load none (.t 46)), (some (41, false))⟩, []⟩, ⟨⟨(some 48), (.bin .lss (.t 47) (.c (.int .i64 0))), (some (41, false))⟩, []⟩, ⟨⟨(some 49), (.pick (.t 41) (.c (.bool true)) (.t 48)), none⟩, []⟩, ⟨⟨(some 50), (.mv (.t 49)), none⟩, []⟩, ⟨⟨(some 51), (.mv (.t 0)), (some (50, false))⟩, []⟩, ⟨⟨(some 52), (.mv (.t 5)), (some (50, false))⟩, []⟩, ⟨⟨(some 53), (.idxAddr 6 (.t 51) (.t 52)), (some (50, false))⟩, []⟩, ⟨⟨(some 54), (.fieldAddr 3 (.t 53)), (some (50, false))⟩, []⟩, ⟨⟨(some 55), (.fieldAddr 0 (.t 54)), (some (50, false))⟩, []⟩, ⟨⟨(some 56), (.load none (.t 55)), (some (50, false))⟩, []⟩, ⟨⟨(some 57), (.bin .gtr (.t 56) (.c (.int .i64 3))), (some (50, false))⟩, []⟩, ⟨⟨(some 58), (.pick (.t 50) (.c (.bool true)) (.t 57)), none⟩, []⟩])
  (.cond (.t 58) (.seq (.region [⟨(some 4), (.mv (.c (.bool false))), none⟩])
  .ret) .skip))
  (.seq (.region [⟨(some 6), (.mv (.c (.int .i64 0))), none⟩])
  (.block 2 (.loop (.seq (.seq (.region [⟨(some 59), (.mv (.t 6)), none⟩, ⟨(some 60), (.mv (.t 5)), none⟩, ⟨(some 61), (.bin .lss (.t 59) (.t 60)), none⟩])
  (.cond (.t 61) .skip (.exit 2)))
  (.seq (.block 3 (.seq (.regionD [⟨⟨(some 64), (.mv (.t 0)), none⟩, []⟩, ⟨⟨(some 65), (.mv (.t 6)), none⟩, []⟩, ⟨⟨(some 66), (.idxAddr 6 (.t 64) (.t 65)), none⟩, []⟩, ⟨⟨(some 67), (.fieldAddr 0 (.t 66)), none⟩, []⟩, ⟨⟨(some 68), (.load (some 3) (.t 67)), none⟩, []⟩, ⟨⟨(some 69), (.mv (.t 0)), none⟩, []⟩, ⟨⟨(some 70), (.mv (.t 5)), none⟩, []⟩, ⟨⟨(some 71), (.idxAddr 6 (.t 69) (.t 70)), none⟩, []⟩, ⟨⟨(some 72), (.fieldAddr 0 (.t 71)), none⟩, []⟩, ⟨⟨(some 73), (.load (some 3) (.t 72)), none⟩, []⟩, ⟨⟨(some 74), (.cmp false (.flat [.int, .int, .int]) (.t 68) (.t 73)), none⟩, []⟩])
  (.cond (.t 74) (.seq (.region [⟨(some 4), (.mv (.c (.bool false))), none⟩])
  .ret) .skip)))
  (.region [⟨(some 62), (.mv (.t 6)), none⟩, ⟨(some 63), (.bin .add (.t 62) (.c (.int .i64 1))), none⟩, ⟨(some 6), (.mv (.t 63)), none⟩]))))))))
  (.region [⟨(some 14), (.mv (.t 5)), none⟩, ⟨(some 15), (.bin .add (.t 14) (.c (.int .i64 1))), none⟩, ⟨(some 5), (.mv (.t 15)), none⟩]))))))
  (.seq (.region [⟨(some 4), (.mv (.c (.bool true))), none⟩])
  .ret))))⟩
def c24 : AFunc := ⟨40, [(.t 2)],
  (.seq (.region [⟨(some 2), (.mv (.c (.int .i64 0))), none⟩])
  (.seq (.seq (.region [⟨(some 3), (.mv (.c (.int .i64 0))), none⟩])
  (.block 0 (.loop (.seq (.seq (.region [⟨(some 6), (.mv (.t 3)), none⟩, ⟨(some 7), (.mv (.t 0)), none⟩, ⟨(some 8), (.lenS (.t 7)), none⟩, ⟨(some 9), (.bin .lss (.t 6) (.t 8)), none⟩])
  (.cond (.t 9) .skip (.exit 0)))
  (.seq (.block 1 (.seq (.region [⟨(some 4), (.mv (.c (.bool false))), none⟩])
  (.seq (.seq (.region [⟨(some 5), (.mv (.c (.int .i64 0))), none⟩])
  (.block 2 (.loop (.seq (.seq (.region [⟨(some 12), (.mv (.t 5)), none⟩, ⟨(some 13), (.mv (.t 0)), none⟩, ⟨(some 14), (.lenS (.t 13)), none⟩, ⟨(some 15), (.bin .lss (.t 12) (.t 14)), none⟩])
  (.cond (.t 15) .skip (.exit 2)))
  (.seq (.block 3 (.regionD [⟨⟨(some 18), (.mv (.t 4)), none⟩, []⟩, ⟨⟨(some 19), (.mv (.t 18)), none⟩, []⟩, ⟨⟨(some 20), (.mv (.t 5)), (some (19, false))⟩, []⟩, ⟨⟨(some 21), (.mv (.t 3)), (some (19, false))⟩, []⟩, ⟨⟨(some 22), (.bin .neq (.t 20) (.t 21)), (some (19, false))⟩, []⟩, ⟨⟨(some 23), (.mv (.t 22)), (some (19, false))⟩, []⟩, ⟨⟨(some 24), (.mv (.t 0)), (some (23, true))⟩, []⟩, ⟨⟨(some 25), (.mv (.t 5)), (some (23, true))⟩, []⟩, ⟨⟨(some 26), (.idxAddr 6 (.t 24) (.t 25)), (some (23, true))⟩, []⟩, ⟨⟨(some 27), (.fieldAddr 3 (.t 26)), (some (23, true))⟩, []⟩, ⟨⟨(some 28), (.load (some 3) (.t 27)), (some (23, true))⟩, []⟩, ⟨⟨(some 29), (.mv (.t 0)), (some (23, true))⟩, []⟩, ⟨⟨(some 30), (.mv (.t 3)), (some (23, true))⟩, []⟩, ⟨⟨(some 31), (.idxAddr 6 (.t 29) (.t 30)), (some (23, true))⟩, []⟩, ⟨⟨(some 32), (.fieldAddr 0 (.t 31)), (some (23, true))⟩, []⟩, ⟨⟨(some 33), (.load (some 3) (.t 32)), (some (23, true))⟩, []⟩, ⟨⟨(some 34), (.cmp false (.flat [.int, .int, .int]) (.t 28) (.t 33)), (some (23, true))⟩, []⟩, ⟨⟨(some 35), (.pick (.t 23) (.t 34) (.c (.bool false))), (some (19, false))⟩, []⟩, ⟨⟨(some 36), (.pick (.t 19) (.c (.bool true)) (.t 35)), none⟩, []⟩, ⟨⟨(some 4), (.mv (.t 36)), none⟩, []⟩]))
  (.region [⟨(some 16), (.mv (.t 5)), none⟩, ⟨(some 17), (.bin .add (.t 16) (.c (.int .i64 1))), none⟩, ⟨(some 5), (.mv (.t 17)), none⟩]))))))
  (.seq (.region [⟨(some 37), (.mv (.t 4)), none⟩, ⟨(some 38), (.un .not (.t 37)), none⟩])
  (.cond (.t 38) (.seq (.region [⟨(some 39), (.mv (.t 3)), none⟩, ⟨(some 2), (.mv (.t 39)), none⟩])
  .ret) .skip)))))
  (.region [⟨(some 10), (.mv (.t 3)), none⟩, ⟨(some 11), (.bin .add (.t 10) (.c (.int .i64 1))), none⟩, ⟨(some 3), (.mv (.t 11)), none⟩]))))))
  (.seq (.region [⟨(some 2), (.mv (.c (.int .i64 (-1)))), none⟩])
  .ret)))⟩
def c25 : AFunc := ⟨21, [(.t 2)],
  (.seq (.region [⟨(some 1), (.box (.t 0)), none⟩, ⟨(some 2), (.mv (.c (.bool false))), none⟩])
  (.seq (.region [⟨(some 3), (.fieldAddr 0 (.t 1)), none⟩, ⟨(some 4), (.load none (.t 3)), none⟩, ⟨(some 5), (.bin .eql (.t 4) (.c (.int .i64 0))), none⟩, ⟨(some 6), (.mv (.t 5)), none⟩, ⟨(some 7), (.fieldAddr 0 (.t 1)), (some (6, false))⟩, ⟨(some 8), (.load none (.t 7)), (some (6, false))⟩, ⟨(some 9), (.bin .eql (.t 8) (.c (.int .i64 3))), (some (6, false))⟩, ⟨(some 10), (.pick (.t 6) (.c (.bool true)) (.t 9)), none⟩, ⟨(some 11), (.mv (.t 10)), none⟩, ⟨(some 12), (.fieldAddr 1 (.t 1)), (some (11, true))⟩, ⟨(some 13), (.load none (.t 12)), (some (11, true))⟩, ⟨(some 14), (.bin .geq (.t 13) (.c (.int .i64 0))), (some (11, true))⟩, ⟨(some 15), (.pick (.t 11) (.t 14) (.c (.bool false))), none⟩, ⟨(some 16), (.mv (.t 15)), none⟩, ⟨(some 17), (.fieldAddr 2 (.t 1)), (some (16, true))⟩, ⟨(some 18), (.load none (.t 17)), (some (16, true))⟩, ⟨(some 19), (.bin .eql (.t 18) (.c (.int .u64 0))), (some (16, true))⟩, ⟨(some 20), (.pick (.t 16) (.t 19) (.c (.bool false))), none⟩, ⟨(some 2), (.mv (.t 20)), none⟩])
  .ret))⟩
def c26 : AFunc := ⟨21, [(.t 2)],
  (.seq (.region [⟨(some 1), (.box (.t 0)), none⟩, ⟨(some 2), (.mv (.c (.bool false))), none⟩])
  (.seq (.region [⟨(some 3), (.fieldAddr 0 (.t 1)), none⟩, ⟨(some 4), (.load none (.t 3)), none⟩, ⟨(some 5), (.bin .eql (.t 4) (.c (.int .i64 0))), none⟩, ⟨(some 6), (.mv (.t 5)), none⟩, ⟨(some 7), (.fieldAddr 0 (.t 1)), (some (6, false))⟩, ⟨(some 8), (.load none (.t 7)), (some (6, false))⟩, ⟨(some 9), (.bin .eql (.t 8) (.c (.int .i64 3))), (some (6, false))⟩, ⟨(some 10), (.pick (.t 6) (.c (.bool true)) (.t 9)), none⟩, ⟨(some 11), (.mv (.t 10)), none⟩, ⟨(some 12), (.fieldAddr 1 (.t 1)), (some (11, true))⟩, ⟨(some 13), (.load none (.t 12)), (some (11, true))⟩, ⟨(some 14), (.bin .geq (.t 13) (.c (.int .i64 0))), (some (11, true))⟩, ⟨(some 15), (.pick (.t 11) (.t 14) (.c (.bool false))), none⟩, ⟨(some 16), (.mv (.t 15)), none⟩, ⟨(some 17), (.fieldAddr 2 (.t 1)), (some (16, true))⟩, ⟨(some 18), (.load none (.t 17)), (some (16, true))⟩, ⟨(some 19), (.bin .eql (.t 18) (.c (.int .u64 0))), (some (16, true))⟩, ⟨(some 20), (.pick (.t 16) (.t 19) (.c (.bool false))), none⟩, ⟨(some 2), (.mv (.t 20)), none⟩])
  .ret))⟩
theorem tr3 : trF Try.prog 3 = some c3 := by kernel_rfl
theorem ok3 : okF c3 = true := by kernel_rfl
theorem tr4 : trF Try.prog 4 = some c4 := by kernel_rfl
theorem ok4 : okF c4 = true := by kernel_rfl
theorem tr5 : trF Try.prog 5 = some c5 := by kernel_rfl
theorem ok5 : okF c5 = true := by kernel_rfl
theorem tr6 : trF Try.prog 6 = some c6 := by kernel_rfl
theorem ok6 : okF c6 = true := by kernel_rfl
theorem tr7 : trF Try.prog 7 = some c7 := by kernel_rfl
theorem ok7 : okF c7 = true := by kernel_rfl
theorem tr8 : trF Try.prog 8 = some c8 := by kernel_rfl
theorem ok8 : okF c8 = true := by kernel_rfl
theorem tr9 : trF Try.prog 9 = some c9 := by kernel_rfl
theorem ok9 : okF c9 = true := by kernel_rfl
theorem tr10 : trF Try.prog 10 = some c10 := by kernel_rfl
theorem ok10 : okF c10 = true := by kernel_rfl
theorem tr11 : trF Try.prog 11 = some c11 := by kernel_rfl
theorem ok11 : okF c11 = true := by kernel_rfl
theorem tr12 : trF Try.prog 12 = some c12 := by kernel_rfl
theorem ok12 : okF c12 = true := by kernel_rfl
theorem tr13 : trF Try.prog 13 = some c13 := by kernel_rfl
theorem ok13 : okF c13 = true := by kernel_rfl
theorem tr14 : trF Try.prog 14 = some c14 := by kernel_rfl
theorem ok14 : okF c14 = true := by kernel_rfl
theorem tr15 : trF Try.prog 15 = some c15 := by kernel_rfl
theorem ok15 : okF c15 = true := by kernel_rfl
theorem tr16 : trF Try.prog 16 = some c16 := by kernel_rfl
theorem ok16 : okF c16 = true := by kernel_rfl
theorem tr17 : trF Try.prog 17 = some c17 := by kernel_rfl
theorem ok17 : okF c17 = true := by kernel_rfl
theorem tr18 : trF Try.prog 18 = some c18 := by kernel_rfl
theorem ok18 : okF c18 = true := by kernel_rfl
theorem tr19 : trF Try.prog 19 = some c19 := by kernel_rfl
theorem ok19 : okF c19 = true := by kernel_rfl
theorem tr20 : trF Try.prog 20 = some c20 := by kernel_rfl
theorem ok20 : okF c20 = true := by kernel_rfl
theorem tr21 : trF Try.prog 21 = some c21 := by kernel_rfl
theorem ok21 : okF c21 = true := by kernel_rfl
theorem tr22 : trF Try.prog 22 = some c22 := by kernel_rfl
theorem ok22 : okF c22 = true := by kernel_rfl
theorem tr23 : trF Try.prog 23 = some c23 := by kernel_rfl
theorem ok23 : okF c23 = true := by kernel_rfl
theorem tr24 : trF Try.prog 24 = some c24 := by kernel_rfl
theorem ok24 : okF c24 = true := by kernel_rfl
theorem tr25 : trF Try.prog 25 = some c25 := by kernel_rfl
theorem ok25 : okF c25 = true := by kernel_rfl
theorem tr26 : trF Try.prog 26 = some c26 := by kernel_rfl
theorem ok26 : okF c26 = true := by kernel_rfl
def ft : Nat → Option AFunc
  | 3 => some c3
  | 4 => some c4
  | 5 => some c5
  | 6 => some c6
  | 7 => some c7
  | 8 => some c8
  | 9 => some c9
  | 10 => some c10
  | 11 => some c11
  | 12 => some c12
  | 13 => some c13
  | 14 => some c14
  | 15 => some c15
  | 16 => some c16
  | 17 => some c17
  | 18 => some c18
  | 19 => some c19
  | 20 => some c20
  | 21 => some c21
  | 22 => some c22
  | 23 => some c23
  | 24 => some c24
  | 25 => some c25
  | 26 => some c26
  | _ => none
theorem ft_ok : ∀ f fn, ft f = some fn → trF Try.prog f = some fn ∧ okF fn = true := by
  intro f fn h
  unfold ft at h
  split at h <;> first
    | (cases h; exact ⟨tr3, ok3⟩)
    | (cases h; exact ⟨tr4, ok4⟩)
    | (cases h; exact ⟨tr5, ok5⟩)
    | (cases h; exact ⟨tr6, ok6⟩)
    | (cases h; exact ⟨tr7, ok7⟩)
    | (cases h; exact ⟨tr8, ok8⟩)
    | (cases h; exact ⟨tr9, ok9⟩)
    | (cases h; exact ⟨tr10, ok10⟩)
    | (cases h; exact ⟨tr11, ok11⟩)
    | (cases h; exact ⟨tr12, ok12⟩)
    | (cases h; exact ⟨tr13, ok13⟩)
    | (cases h; exact ⟨tr14, ok14⟩)
    | (cases h; exact ⟨tr15, ok15⟩)
    | (cases h; exact ⟨tr16, ok16⟩)
    | (cases h; exact ⟨tr17, ok17⟩)
    | (cases h; exact ⟨tr18, ok18⟩)
    | (cases h; exact ⟨tr19, ok19⟩)
    | (cases h; exact ⟨tr20, ok20⟩)
    | (cases h; exact ⟨tr21, ok21⟩)
    | (cases h; exact ⟨tr22, ok22⟩)
    | (cases h; exact ⟨tr23, ok23⟩)
    | (cases h; exact ⟨tr24, ok24⟩)
    | (cases h; exact ⟨tr25, ok25⟩)
    | (cases h; exact ⟨tr26, ok26⟩)
    | cases h
def aenv : Env := ⟨ft, fun _ => none⟩
def md : Nat → Go.AI.Mode
  | 9 => .R
  | 18 => .R
  | 19 => .R
  | 20 => .R
  | 21 => .R
  | 15 => .S
  | 16 => .S
  | 22 => .S
  | _ => .P
def pr : Nat → Option Prim
  | 16 => some (.clone 6 48)
  | _ => none
def env : DEnv := ⟨ft, md, fun _ => none, pr⟩
theorem pr_ok : ∀ f p, env.prim f = some p → ∃ z, aenv.ft f = some (primF p z) ∧ aenv.ext f = none := by
  intro f p h
  have h : pr f = some p := h
  unfold pr at h
  split at h <;> first
    | (cases h; exact ⟨[(.int .i64 0), (.int .i64 0), (.int .u64 0), (.int .i64 0), (.int .i64 0), (.int .u64 0)], (show some c16 = some (primF (.clone 6 48) [(.int .i64 0), (.int .i64 0), (.int .u64 0), (.int .i64 0), (.int .i64 0), (.int .u64 0)]) by kernel_rfl), rfl⟩)
    | cases h
theorem env_ok : ∀ f fn, env.ft f = some fn → aenv.ft f = some fn ∧ aenv.ext f = none ∧ okF fn = true := fun f fn h => ⟨h, rfl, (ft_ok f fn h).2⟩
end Go.Proofs.Ytmjhiaedgpikdaa
