/- The second part of the resolved code. -/
import Derived.Test.YtdajenjajmofiaaGreatDoorWCodeBA
set_option linter.unusedSimpArgs false
set_option linter.unusedVariables false
set_option maxRecDepth 100000
namespace Go.Proofs.YtdajenjajmofiaaGreatDoor
open Go Go.Fsl
/-- (*errata/bucket.Queue).Pop -/
def r193 : RFn := ⟨39, [.c 2 true 2, .c 3 false 1], .seq (.reg [
    ⟨(some 1), .box (.t 0), none, []⟩,
    ⟨(some 2), .alloc [.i 0, .i 0] 317, none, []⟩,
    ⟨(some 3), .alloc [.i 0] 28, none, []⟩])
  (.seq (.seq (.reg [
    ⟨(some 6), .load false 1 (.t 1), none, []⟩,
    ⟨(some 7), .eqp false (.t 6) (.c (.nilp)), none, []⟩])
  (.cond (.t 7) (.seq (.reg [
     ⟨(some 8), .build [.i 0, .i 0] [], none, []⟩,
     ⟨none, .store 2 (.t 2) (.t 8), none, []⟩,
     ⟨none, .store 1 (.t 3) (.c (.i 1)), none, []⟩])
   (.ret)) (.skip)))
  (.seq (.reg [
    ⟨none, .store 1 (.t 3) (.c (.i 10)), none, []⟩])
  (.seq (.seq (.reg [
    ⟨(some 9), .load false 1 (.t 1), none, []⟩,
    ⟨(some 10), .call (.fn 227) [.t 9], none, []⟩])
  (.block 0 (.rangef (.t 10) [11, 12] (.seq (.reg [
      ⟨(some 4), .mov (.t 11), none, []⟩])
    (.reg [
      ⟨(some 5), .mov (.t 12), none, []⟩])) (.block 1 (.seq (.reg [
       ⟨(some 13), .mov (.t 4), none, []⟩,
       ⟨(some 14), .mov (.t 5), none, []⟩,
       ⟨(some 15), .iaddr 1 (.t 14) (.c (.i 0)), none, []⟩,
       ⟨(some 16), .load false 1 (.t 15), none, []⟩,
       ⟨(some 17), .build [.i 0, .i 0] [(0, 1, (.t 13)), (1, 1, (.t 16))], none, []⟩,
       ⟨none, .store 2 (.t 2) (.t 17), none, []⟩,
       ⟨none, .store 1 (.t 3) (.c (.i 0)), none, []⟩])
     (.seq (.reg [
       ⟨(some 18), .load false 1 (.t 1), none, []⟩,
       ⟨(some 19), .nilck (.t 18), none, []⟩,
       ⟨(some 20), .faddr 0 (.t 19), none, []⟩,
       ⟨(some 21), .load false 1 (.t 20), none, []⟩,
       ⟨(some 22), .mov (.t 4), none, []⟩,
       ⟨(some 23), .mov (.t 5), none, []⟩,
       ⟨(some 24), .slc false 1 (.t 23) (some (.c (.i 1))) none none, none, []⟩,
       ⟨(some 25), .iaddr 1 (.t 21) (.t 22), none, []⟩,
       ⟨none, .store 1 (.t 25) (.t 24), none, []⟩])
     (.seq (.reg [
       ⟨(some 26), .load false 1 (.t 1), none, []⟩,
       ⟨(some 27), .mov (.t 4), none, []⟩,
       ⟨(some 28), .nilck (.t 26), none, []⟩,
       ⟨(some 29), .faddr 3 (.t 28), none, []⟩,
       ⟨none, .store 1 (.t 29) (.t 27), none, []⟩])
     (.seq (.reg [
       ⟨(some 30), .load false 1 (.t 1), none, []⟩,
       ⟨(some 31), .nilck (.t 30), none, []⟩,
       ⟨(some 32), .faddr 2 (.t 31), none, []⟩,
       ⟨(some 33), .load false 1 (.t 32), none, []⟩,
       ⟨(some 34), .bin .sub (.t 33) (.c (.i 1)), none, []⟩,
       ⟨(some 35), .nilck (.t 30), none, []⟩,
       ⟨(some 36), .faddr 2 (.t 35), none, []⟩,
       ⟨none, .store 1 (.t 36) (.t 34), none, []⟩])
     (.exit 0)))))))))
  (.seq (.reg [
    ⟨(some 37), .load true 2 (.t 2), none, []⟩,
    ⟨(some 38), .load false 1 (.t 3), none, []⟩,
    ⟨none, .store 2 (.t 2) (.t 37), none, [(38, .load false 1 (.t 3), none)]⟩,
    ⟨none, .store 1 (.t 3) (.t 38), none, []⟩])
  (.ret)))))⟩
theorem r193_is : IsFn Tryz.prog 193 r193 := ⟨Tryz.f193, by kernel_rfl, by kernel_rfl⟩
/-- (*errata/dawg.Dawg).Ends -/
def r194 : RFn := ⟨21, [.t 4, .t 5], .seq (.reg [
    ⟨(some 4), .mov (.c (.b false)), none, []⟩,
    ⟨(some 5), .mov (.c (.i 0)), none, []⟩])
  (.seq (.reg [
    ⟨(some 9), .mov (.t 0), none, []⟩,
    ⟨(some 10), .mov (.t 1), none, []⟩,
    ⟨(some 11), .call (.fn 228) [.t 9, .t 10], none, []⟩,
    ⟨(some 8), .mov (.t 11), none, []⟩,
    ⟨(some 12), .ext (.t 8) 0, none, []⟩,
    ⟨(some 13), .ext (.t 8) 1, none, []⟩,
    ⟨(some 6), .mov (.t 12), none, []⟩,
    ⟨(some 7), .mov (.t 13), none, []⟩])
  (.seq (.seq (.reg [
    ⟨(some 14), .mov (.t 7), none, []⟩,
    ⟨(some 15), .bin .neq (.t 14) (.c (.i 0)), none, []⟩])
  (.cond (.t 15) (.seq (.reg [
     ⟨(some 16), .mov (.t 7), none, []⟩,
     ⟨(some 4), .mov (.c (.b false)), none, []⟩,
     ⟨(some 5), .mov (.t 16), none, []⟩])
   (.ret)) (.skip)))
  (.seq (.reg [
    ⟨(some 17), .mov (.t 6), none, []⟩,
    ⟨(some 18), .nilck (.t 17), none, []⟩,
    ⟨(some 19), .faddr 1 (.t 18), none, []⟩,
    ⟨(some 20), .load false 1 (.t 19), none, []⟩,
    ⟨(some 4), .mov (.t 20), none, []⟩,
    ⟨(some 5), .mov (.c (.i 0)), none, []⟩])
  (.ret))))⟩
theorem r194_is : IsFn Tryz.prog 194 r194 := ⟨Tryz.f194, by kernel_rfl, by kernel_rfl⟩
/-- (*errata/search.run).from -/
def r195 : RFn := ⟨156, [], .seq (.reg [
    ⟨(some 4), .box (.t 1), none, []⟩])
  (.seq (.reg [
    ⟨(some 20), .mov (.t 0), none, []⟩,
    ⟨(some 21), .nilck (.t 20), none, []⟩,
    ⟨(some 22), .faddr 0 (.t 21), none, []⟩,
    ⟨(some 23), .load false 1 (.t 22), none, []⟩,
    ⟨(some 24), .faddr 1 (.t 4), none, []⟩,
    ⟨(some 25), .load false 1 (.t 24), none, []⟩,
    ⟨(some 26), .call (.fn 229) [.t 23, .t 25], none, []⟩,
    ⟨(some 19), .mov (.t 26), none, []⟩,
    ⟨(some 27), .ext (.t 19) 0, none, []⟩,
    ⟨(some 28), .ext (.t 19) 1, none, []⟩,
    ⟨(some 6), .mov (.t 27), none, []⟩,
    ⟨(some 7), .mov (.t 28), none, []⟩])
  (.seq (.reg [
    ⟨(some 29), .faddr 0 (.t 4), none, []⟩,
    ⟨(some 30), .load false 1 (.t 29), none, []⟩,
    ⟨(some 31), .mov (.t 0), none, []⟩,
    ⟨(some 32), .nilck (.t 31), none, []⟩,
    ⟨(some 33), .faddr 2 (.t 32), none, []⟩,
    ⟨(some 34), .load false 1 (.t 33), none, []⟩,
    ⟨(some 35), .len false (.t 34), none, []⟩,
    ⟨(some 36), .bin .lss (.t 30) (.t 35), none, []⟩,
    ⟨(some 8), .mov (.t 36), none, []⟩])
  (.seq (.seq (.reg [
    ⟨(some 37), .mov (.t 6), none, []⟩,
    ⟨(some 38), .len false (.t 37), none, []⟩,
    ⟨(some 39), .mov (.c (.i 0)), none, []⟩])
  (.block 0 (.loop (.seq (.reg [
      ⟨(some 40), .bin .lss (.t 39) (.t 38), none, []⟩])
    (.seq (.cond (.t 40) (.skip) (.exit 0))
    (.seq (.block 1 (.seq (.reg [
       ⟨(some 41), .iaddr 2 (.t 37) (.t 39), none, []⟩,
       ⟨(some 42), .load true 2 (.t 41), none, []⟩,
       ⟨(some 10), .alloc [.v (.int .i32 0), .i 0] 190, none, []⟩,
       ⟨none, .store 2 (.t 10) (.t 42), none, []⟩])
     (.seq (.reg [
       ⟨(some 43), .faddr 0 (.t 4), none, []⟩,
       ⟨(some 44), .load false 1 (.t 43), none, []⟩,
       ⟨(some 45), .faddr 1 (.t 10), none, []⟩,
       ⟨(some 46), .load false 1 (.t 45), none, []⟩,
       ⟨(some 47), .faddr 2 (.t 4), none, []⟩,
       ⟨(some 48), .load false 1 (.t 47), none, []⟩,
       ⟨(some 49), .faddr 0 (.t 10), none, []⟩,
       ⟨(some 50), .load false 1 (.t 49), none, []⟩,
       ⟨(some 51), .cvs (.t 50), none, []⟩,
       ⟨(some 52), .bin .add (.t 48) (.t 51), none, []⟩,
       ⟨(some 53), .build [.i 0, .i 0, .v (.string ⟨#[]⟩)] [(0, 1, (.t 44)), (1, 1, (.t 46)), (2, 1, (.t 52))], none, []⟩,
       ⟨(some 11), .alloc [.i 0, .i 0, .v (.string ⟨#[]⟩)] 315, none, []⟩,
       ⟨none, .store 3 (.t 11) (.t 53), none, []⟩])
     (.seq (.reg [
       ⟨(some 54), .mov (.t 0), none, []⟩,
       ⟨(some 55), .load true 3 (.t 11), none, []⟩,
       ⟨(some 56), .mov (.t 2), none, []⟩,
       ⟨(some 57), .bin .add (.t 56) (.c (.i 255)), none, []⟩,
       ⟨(some 58), .call (.fn 192) [.t 54, .t 55, .t 57], none, []⟩])
     (.seq (.seq (.reg [
       ⟨(some 59), .mov (.t 8), none, []⟩,
       ⟨(some 60), .un .not (.t 59), none, []⟩])
     (.cond (.t 60) (.exit 1) (.skip)))
     (.seq (.reg [
       ⟨(some 61), .faddr 0 (.t 11), none, []⟩,
       ⟨(some 62), .load false 1 (.t 61), none, []⟩,
       ⟨(some 63), .bin .add (.t 62) (.c (.i 1)), none, []⟩,
       ⟨(some 64), .faddr 0 (.t 11), none, []⟩,
       ⟨none, .store 1 (.t 64) (.t 63), none, []⟩])
     (.seq (.reg [
       ⟨(some 12), .mov (.c (.i 255)), none, []⟩])
     (.seq (.seq (.reg [
       ⟨(some 65), .faddr 0 (.t 10), none, []⟩,
       ⟨(some 66), .load false 1 (.t 65), none, []⟩,
       ⟨(some 67), .mov (.t 0), none, []⟩,
       ⟨(some 68), .nilck (.t 67), none, []⟩,
       ⟨(some 69), .faddr 2 (.t 68), none, []⟩,
       ⟨(some 70), .load false 1 (.t 69), none, []⟩,
       ⟨(some 71), .faddr 0 (.t 4), none, []⟩,
       ⟨(some 72), .load false 1 (.t 71), none, []⟩,
       ⟨(some 73), .iaddr 1 (.t 70) (.t 72), none, []⟩,
       ⟨(some 74), .load false 1 (.t 73), none, []⟩,
       ⟨(some 75), .bin .eql (.t 66) (.t 74), none, []⟩])
     (.cond (.t 75) (.reg [
        ⟨(some 12), .mov (.c (.i 0)), none, []⟩]) (.skip)))
     (.reg [
       ⟨(some 76), .mov (.t 0), none, []⟩,
       ⟨(some 77), .load true 3 (.t 11), none, []⟩,
       ⟨(some 78), .mov (.t 2), none, []⟩,
       ⟨(some 79), .mov (.t 12), none, []⟩,
       ⟨(some 80), .bin .add (.t 78) (.t 79), none, []⟩,
       ⟨(some 81), .call (.fn 192) [.t 76, .t 77, .t 80], none, []⟩])))))))))
    (.reg [
      ⟨(some 82), .bin .add (.t 39) (.c (.i 1)), none, []⟩,
      ⟨(some 39), .mov (.t 82), none, []⟩])))))))
  (.seq (.seq (.reg [
    ⟨(some 83), .mov (.t 8), none, []⟩])
  (.cond (.t 83) (.reg [
     ⟨(some 84), .mov (.t 0), none, []⟩,
     ⟨(some 85), .faddr 0 (.t 4), none, []⟩,
     ⟨(some 86), .load false 1 (.t 85), none, []⟩,
     ⟨(some 87), .bin .add (.t 86) (.c (.i 1)), none, []⟩,
     ⟨(some 88), .faddr 1 (.t 4), none, []⟩,
     ⟨(some 89), .load false 1 (.t 88), none, []⟩,
     ⟨(some 90), .faddr 2 (.t 4), none, []⟩,
     ⟨(some 91), .load false 1 (.t 90), none, []⟩,
     ⟨(some 92), .build [.i 0, .i 0, .v (.string ⟨#[]⟩)] [(0, 1, (.t 87)), (1, 1, (.t 89)), (2, 1, (.t 91))], none, []⟩,
     ⟨(some 93), .mov (.t 2), none, []⟩,
     ⟨(some 94), .bin .add (.t 93) (.c (.i 255)), none, []⟩,
     ⟨(some 95), .call (.fn 192) [.t 84, .t 92, .t 94], none, []⟩]) (.skip)))
  (.seq (.reg [
    ⟨(some 96), .mov (.t 0), none, []⟩,
    ⟨(some 97), .nilck (.t 96), none, []⟩,
    ⟨(some 98), .faddr 4 (.t 97), none, []⟩,
    ⟨(some 99), .load false 1 (.t 98), none, []⟩,
    ⟨(some 100), .faddr 0 (.t 4), none, []⟩,
    ⟨(some 101), .load false 1 (.t 100), none, []⟩,
    ⟨(some 102), .iaddr 1 (.t 99) (.t 101), none, []⟩,
    ⟨(some 103), .load false 1 (.t 102), none, []⟩,
    ⟨(some 104), .len false (.t 103), none, []⟩,
    ⟨(some 105), .mov (.c (.i 0)), none, []⟩])
  (.block 2 (.loop (.seq (.reg [
      ⟨(some 106), .bin .lss (.t 105) (.t 104), none, []⟩])
    (.seq (.cond (.t 106) (.skip) (.exit 2))
    (.seq (.block 3 (.seq (.reg [
       ⟨(some 107), .iaddr 1 (.t 103) (.t 105), none, []⟩,
       ⟨(some 108), .load false 1 (.t 107), none, []⟩,
       ⟨(some 14), .mov (.t 108), none, []⟩])
     (.seq (.reg [
       ⟨(some 111), .load true 3 (.t 4), none, []⟩,
       ⟨(some 110), .mov (.t 0), none, []⟩,
       ⟨(some 112), .mov (.t 0), none, []⟩,
       ⟨(some 113), .nilck (.t 112), none, []⟩,
       ⟨(some 114), .faddr 3 (.t 113), none, []⟩,
       ⟨(some 115), .load false 1 (.t 114), none, []⟩,
       ⟨(some 116), .mov (.t 14), none, []⟩,
       ⟨(some 117), .iaddr 1 (.t 115) (.t 116), none, []⟩,
       ⟨(some 118), .load false 1 (.t 117), none, []⟩,
       ⟨(some 119), .call (.fn 230) [.t 110, .t 111, .t 118], none, []⟩,
       ⟨(some 109), .mov (.t 119), none, []⟩,
       ⟨(some 120), .ext (.t 109) 0, none, []⟩,
       ⟨(some 121), .ext (.t 109) 1, none, []⟩,
       ⟨(some 15), .alloc [.i 0, .i 0, .v (.string ⟨#[]⟩)] 315, none, []⟩,
       ⟨none, .store 3 (.t 15) (.t 120), none, []⟩,
       ⟨(some 16), .mov (.t 121), none, []⟩])
     (.seq (.seq (.reg [
       ⟨(some 122), .mov (.t 16), none, []⟩,
       ⟨(some 123), .un .not (.t 122), none, []⟩])
     (.cond (.t 123) (.exit 3) (.skip)))
     (.seq (.reg [
       ⟨(some 125), .mov (.t 0), none, []⟩,
       ⟨(some 126), .nilck (.t 125), none, []⟩,
       ⟨(some 127), .faddr 1 (.t 126), none, []⟩,
       ⟨(some 128), .load false 1 (.t 127), none, []⟩,
       ⟨(some 129), .mov (.t 14), none, []⟩,
       ⟨(some 130), .iaddr 3 (.t 128) (.t 129), none, []⟩,
       ⟨(some 131), .faddr 0 (.t 130), none, []⟩,
       ⟨(some 132), .load false 1 (.t 131), none, []⟩,
       ⟨(some 133), .call (.fn 109) [.t 132], none, []⟩,
       ⟨(some 124), .mov (.t 133), none, []⟩,
       ⟨(some 134), .ext (.t 124) 0, none, []⟩,
       ⟨(some 135), .ext (.t 124) 1, none, []⟩,
       ⟨(some 17), .mov (.t 134), none, []⟩,
       ⟨(some 18), .mov (.t 135), none, []⟩])
     (.seq (.reg [
       ⟨(some 136), .faddr 0 (.t 15), none, []⟩,
       ⟨(some 137), .load false 1 (.t 136), none, []⟩,
       ⟨(some 138), .mov (.t 17), none, []⟩,
       ⟨(some 139), .len false (.t 138), none, []⟩,
       ⟨(some 140), .bin .add (.t 137) (.t 139), none, []⟩,
       ⟨(some 141), .faddr 0 (.t 15), none, []⟩,
       ⟨none, .store 1 (.t 141) (.t 140), none, []⟩])
     (.reg [
       ⟨(some 143), .load true 3 (.t 15), none, []⟩,
       ⟨(some 142), .mov (.t 0), none, []⟩,
       ⟨(some 144), .mov (.t 2), none, []⟩,
       ⟨(some 145), .mov (.t 0), none, []⟩,
       ⟨(some 146), .nilck (.t 145), none, []⟩,
       ⟨(some 147), .faddr 1 (.t 146), none, []⟩,
       ⟨(some 148), .load false 1 (.t 147), none, []⟩,
       ⟨(some 149), .mov (.t 14), none, []⟩,
       ⟨(some 150), .iaddr 3 (.t 148) (.t 149), none, []⟩,
       ⟨(some 151), .faddr 2 (.t 150), none, []⟩,
       ⟨(some 152), .load false 1 (.t 151), none, []⟩,
       ⟨(some 153), .bin .add (.t 144) (.t 152), none, []⟩,
       ⟨(some 154), .call (.fn 192) [.t 142, .t 143, .t 153], none, []⟩])))))))
    (.reg [
      ⟨(some 155), .bin .add (.t 105) (.c (.i 1)), none, []⟩,
      ⟨(some 105), .mov (.t 155), none, []⟩])))))))))))⟩
theorem r195_is : IsFn Tryz.prog 195 r195 := ⟨Tryz.f195, by kernel_rfl, by kernel_rfl⟩
/-- slices.pdqsortCmpFunc[errata/api.Cand] -/
def r196 : RFn := ⟨148, [], .seq (.reg [
    ⟨(some 10), .mov (.c (.b true)), none, []⟩])
  (.seq (.reg [
    ⟨(some 11), .mov (.c (.b true)), none, []⟩])
  (.block 0 (.loop (.block 1 (.seq (.reg [
       ⟨(some 21), .mov (.t 2), none, []⟩,
       ⟨(some 22), .mov (.t 1), none, []⟩,
       ⟨(some 23), .bin .sub (.t 21) (.t 22), none, []⟩,
       ⟨(some 12), .mov (.t 23), none, []⟩])
     (.seq (.seq (.reg [
       ⟨(some 24), .mov (.t 12), none, []⟩,
       ⟨(some 25), .bin .leq (.t 24) (.c (.i 12)), none, []⟩])
     (.cond (.t 25) (.seq (.reg [
        ⟨(some 26), .mov (.t 0), none, []⟩,
        ⟨(some 27), .mov (.t 1), none, []⟩,
        ⟨(some 28), .mov (.t 2), none, []⟩,
        ⟨(some 29), .mov (.t 4), none, []⟩,
        ⟨(some 30), .call (.fn 231) [.t 26, .t 27, .t 28, .t 29], none, []⟩])
      (.ret)) (.skip)))
     (.seq (.seq (.reg [
       ⟨(some 31), .mov (.t 3), none, []⟩,
       ⟨(some 32), .bin .eql (.t 31) (.c (.i 0)), none, []⟩])
     (.cond (.t 32) (.seq (.reg [
        ⟨(some 33), .mov (.t 0), none, []⟩,
        ⟨(some 34), .mov (.t 1), none, []⟩,
        ⟨(some 35), .mov (.t 2), none, []⟩,
        ⟨(some 36), .mov (.t 4), none, []⟩,
        ⟨(some 37), .call (.fn 232) [.t 33, .t 34, .t 35, .t 36], none, []⟩])
      (.ret)) (.skip)))
     (.seq (.seq (.reg [
       ⟨(some 38), .mov (.t 10), none, []⟩,
       ⟨(some 39), .un .not (.t 38), none, []⟩])
     (.cond (.t 39) (.seq (.reg [
        ⟨(some 40), .mov (.t 0), none, []⟩,
        ⟨(some 41), .mov (.t 1), none, []⟩,
        ⟨(some 42), .mov (.t 2), none, []⟩,
        ⟨(some 43), .mov (.t 4), none, []⟩,
        ⟨(some 44), .call (.fn 233) [.t 40, .t 41, .t 42, .t 43], none, []⟩])
      (.reg [
        ⟨(some 45), .mov (.t 3), none, []⟩,
        ⟨(some 46), .bin .sub (.t 45) (.c (.i 1)), none, []⟩,
        ⟨(some 3), .mov (.t 46), none, []⟩])) (.skip)))
     (.seq (.reg [
       ⟨(some 48), .mov (.t 0), none, []⟩,
       ⟨(some 49), .mov (.t 1), none, []⟩,
       ⟨(some 50), .mov (.t 2), none, []⟩,
       ⟨(some 51), .mov (.t 4), none, []⟩,
       ⟨(some 52), .call (.fn 234) [.t 48, .t 49, .t 50, .t 51], none, []⟩,
       ⟨(some 47), .mov (.t 52), none, []⟩,
       ⟨(some 53), .ext (.t 47) 0, none, []⟩,
       ⟨(some 54), .ext (.t 47) 1, none, []⟩,
       ⟨(some 13), .mov (.t 53), none, []⟩,
       ⟨(some 14), .mov (.t 54), none, []⟩])
     (.seq (.seq (.reg [
       ⟨(some 55), .mov (.t 14), none, []⟩,
       ⟨(some 56), .bin .eql (.t 55) (.c (.i 2)), none, []⟩])
     (.cond (.t 56) (.seq (.reg [
        ⟨(some 57), .mov (.t 0), none, []⟩,
        ⟨(some 58), .mov (.t 1), none, []⟩,
        ⟨(some 59), .mov (.t 2), none, []⟩,
        ⟨(some 60), .mov (.t 4), none, []⟩,
        ⟨(some 61), .call (.fn 235) [.t 57, .t 58, .t 59, .t 60], none, []⟩])
      (.seq (.reg [
        ⟨(some 62), .mov (.t 2), none, []⟩,
        ⟨(some 63), .bin .sub (.t 62) (.c (.i 1)), none, []⟩,
        ⟨(some 64), .mov (.t 13), none, []⟩,
        ⟨(some 65), .mov (.t 1), none, []⟩,
        ⟨(some 66), .bin .sub (.t 64) (.t 65), none, []⟩,
        ⟨(some 67), .bin .sub (.t 63) (.t 66), none, []⟩,
        ⟨(some 13), .mov (.t 67), none, []⟩])
      (.reg [
        ⟨(some 14), .mov (.c (.i 1)), none, []⟩]))) (.skip)))
     (.seq (.seq (.reg [
       ⟨(some 68), .mov (.t 10), none, []⟩,
       ⟨(some 69), .mov (.t 68), none, []⟩,
       ⟨(some 70), .mov (.t 11), (some (69, true)), []⟩,
       ⟨(some 71), .pick (.t 69) (.t 70) (.c (.b false)), none, []⟩,
       ⟨(some 72), .mov (.t 71), none, []⟩,
       ⟨(some 73), .mov (.t 14), (some (72, true)), []⟩,
       ⟨(some 74), .bin .eql (.t 73) (.c (.i 1)), (some (72, true)), []⟩,
       ⟨(some 75), .pick (.t 72) (.t 74) (.c (.b false)), none, []⟩])
     (.cond (.t 75) (.seq (.reg [
        ⟨(some 76), .mov (.t 0), none, []⟩,
        ⟨(some 77), .mov (.t 1), none, []⟩,
        ⟨(some 78), .mov (.t 2), none, []⟩,
        ⟨(some 79), .mov (.t 4), none, []⟩,
        ⟨(some 80), .call (.fn 236) [.t 76, .t 77, .t 78, .t 79], none, []⟩])
      (.cond (.t 80) (.ret) (.skip))) (.skip)))
     (.seq (.seq (.reg [
       ⟨(some 81), .mov (.t 1), none, []⟩,
       ⟨(some 82), .bin .gtr (.t 81) (.c (.i 0)), none, []⟩,
       ⟨(some 83), .mov (.t 82), none, []⟩,
       ⟨(some 84), .mov (.t 4), (some (83, true)), []⟩,
       ⟨(some 85), .mov (.t 0), (some (83, true)), []⟩,
       ⟨(some 86), .mov (.t 1), (some (83, true)), []⟩,
       ⟨(some 87), .bin .sub (.t 86) (.c (.i 1)), (some (83, true)), []⟩,
       ⟨(some 88), .iaddr 3 (.t 85) (.t 87), (some (83, true)), []⟩,
       ⟨(some 89), .load true 3 (.t 88), (some (83, true)), []⟩,
       ⟨(some 90), .mov (.t 0), (some (83, true)), []⟩,
       ⟨(some 91), .mov (.t 13), (some (83, true)), []⟩,
       ⟨(some 92), .iaddr 3 (.t 90) (.t 91), (some (83, true)), []⟩,
       ⟨(some 93), .load true 3 (.t 92), (some (83, true)), []⟩,
       ⟨(some 94), .call (.val (.t 84)) [.t 89, .t 93], (some (83, true)), []⟩,
       ⟨(some 95), .bin .lss (.t 94) (.c (.i 0)), (some (83, true)), []⟩,
       ⟨(some 96), .un .not (.t 95), (some (83, true)), []⟩,
       ⟨(some 97), .pick (.t 83) (.t 96) (.c (.b false)), none, []⟩])
     (.cond (.t 97) (.seq (.reg [
        ⟨(some 98), .mov (.t 0), none, []⟩,
        ⟨(some 99), .mov (.t 1), none, []⟩,
        ⟨(some 100), .mov (.t 2), none, []⟩,
        ⟨(some 101), .mov (.t 13), none, []⟩,
        ⟨(some 102), .mov (.t 4), none, []⟩,
        ⟨(some 103), .call (.fn 237) [.t 98, .t 99, .t 100, .t 101, .t 102], none, []⟩,
        ⟨(some 15), .mov (.t 103), none, []⟩])
      (.seq (.reg [
        ⟨(some 104), .mov (.t 15), none, []⟩,
        ⟨(some 1), .mov (.t 104), none, []⟩])
      (.exit 1))) (.skip)))
     (.seq (.reg [
       ⟨(some 106), .mov (.t 0), none, []⟩,
       ⟨(some 107), .mov (.t 1), none, []⟩,
       ⟨(some 108), .mov (.t 2), none, []⟩,
       ⟨(some 109), .mov (.t 13), none, []⟩,
       ⟨(some 110), .mov (.t 4), none, []⟩,
       ⟨(some 111), .call (.fn 238) [.t 106, .t 107, .t 108, .t 109, .t 110], none, []⟩,
       ⟨(some 105), .mov (.t 111), none, []⟩,
       ⟨(some 112), .ext (.t 105) 0, none, []⟩,
       ⟨(some 113), .ext (.t 105) 1, none, []⟩,
       ⟨(some 16), .mov (.t 112), none, []⟩,
       ⟨(some 17), .mov (.t 113), none, []⟩])
     (.seq (.reg [
       ⟨(some 114), .mov (.t 17), none, []⟩,
       ⟨(some 11), .mov (.t 114), none, []⟩])
     (.seq (.reg [
       ⟨(some 115), .mov (.t 16), none, []⟩,
       ⟨(some 116), .mov (.t 1), none, []⟩,
       ⟨(some 117), .bin .sub (.t 115) (.t 116), none, []⟩,
       ⟨(some 118), .mov (.t 2), none, []⟩,
       ⟨(some 119), .mov (.t 16), none, []⟩,
       ⟨(some 120), .bin .sub (.t 118) (.t 119), none, []⟩,
       ⟨(some 18), .mov (.t 117), none, []⟩,
       ⟨(some 19), .mov (.t 120), none, []⟩])
     (.seq (.reg [
       ⟨(some 121), .mov (.t 12), none, []⟩,
       ⟨(some 122), .bin .quo (.t 121) (.c (.i 8)), none, []⟩,
       ⟨(some 20), .mov (.t 122), none, []⟩])
     (.seq (.reg [
       ⟨(some 123), .mov (.t 18), none, []⟩,
       ⟨(some 124), .mov (.t 19), none, []⟩,
       ⟨(some 125), .bin .lss (.t 123) (.t 124), none, []⟩])
     (.cond (.t 125) (.seq (.reg [
        ⟨(some 126), .mov (.t 18), none, []⟩,
        ⟨(some 127), .mov (.t 20), none, []⟩,
        ⟨(some 128), .bin .geq (.t 126) (.t 127), none, []⟩,
        ⟨(some 10), .mov (.t 128), none, []⟩])
      (.seq (.reg [
        ⟨(some 129), .mov (.t 0), none, []⟩,
        ⟨(some 130), .mov (.t 1), none, []⟩,
        ⟨(some 131), .mov (.t 16), none, []⟩,
        ⟨(some 132), .mov (.t 3), none, []⟩,
        ⟨(some 133), .mov (.t 4), none, []⟩,
        ⟨(some 134), .call (.fn 196) [.t 129, .t 130, .t 131, .t 132, .t 133], none, []⟩])
      (.reg [
        ⟨(some 135), .mov (.t 16), none, []⟩,
        ⟨(some 136), .bin .add (.t 135) (.c (.i 1)), none, []⟩,
        ⟨(some 1), .mov (.t 136), none, []⟩]))) (.seq (.reg [
        ⟨(some 137), .mov (.t 19), none, []⟩,
        ⟨(some 138), .mov (.t 20), none, []⟩,
        ⟨(some 139), .bin .geq (.t 137) (.t 138), none, []⟩,
        ⟨(some 10), .mov (.t 139), none, []⟩])
      (.seq (.reg [
        ⟨(some 140), .mov (.t 0), none, []⟩,
        ⟨(some 141), .mov (.t 16), none, []⟩,
        ⟨(some 142), .bin .add (.t 141) (.c (.i 1)), none, []⟩,
        ⟨(some 143), .mov (.t 2), none, []⟩,
        ⟨(some 144), .mov (.t 3), none, []⟩,
        ⟨(some 145), .mov (.t 4), none, []⟩,
        ⟨(some 146), .call (.fn 196) [.t 140, .t 142, .t 143, .t 144, .t 145], none, []⟩])
      (.reg [
        ⟨(some 147), .mov (.t 16), none, []⟩,
        ⟨(some 2), .mov (.t 147), none, []⟩])))))))))))))))))))))⟩
theorem r196_is : IsFn Tryz.prog 196 r196 := ⟨Tryz.f196, by kernel_rfl, by kernel_rfl⟩
/-- math/bits.Len -/
def r197 : RFn := ⟨8, [.t 2], .seq (.reg [
    ⟨(some 2), .mov (.c (.i 0)), none, []⟩])
  (.seq (.cond (.c (.b false)) (.seq (.reg [
     ⟨(some 3), .mov (.t 0), none, []⟩,
     ⟨(some 4), .cvi .u32 (.t 3), none, []⟩,
     ⟨(some 5), .call (.fn 239) [.t 4], none, []⟩,
     ⟨(some 2), .mov (.t 5), none, []⟩])
   (.ret)) (.skip))
  (.seq (.reg [
    ⟨(some 6), .mov (.t 0), none, []⟩,
    ⟨(some 7), .call (.fn 214) [.t 6], none, []⟩,
    ⟨(some 2), .mov (.t 7), none, []⟩])
  (.ret)))⟩
theorem r197_is : IsFn Tryz.prog 197 r197 := ⟨Tryz.f197, by kernel_rfl, by kernel_rfl⟩
/-- cmp.isNaN[string] -/
def r198 : RFn := ⟨6, [.t 2], .seq (.reg [
    ⟨(some 2), .mov (.c (.b false)), none, []⟩])
  (.seq (.reg [
    ⟨(some 3), .mov (.t 0), none, []⟩,
    ⟨(some 4), .mov (.t 0), none, []⟩,
    ⟨(some 5), .bin .neq (.t 3) (.t 4), none, []⟩,
    ⟨(some 2), .mov (.t 5), none, []⟩])
  (.ret))⟩
theorem r198_is : IsFn Tryz.prog 198 r198 := ⟨Tryz.f198, by kernel_rfl, by kernel_rfl⟩
/-- cmp.Compare[int] -/
def r199 : RFn := ⟨20, [.t 4], .seq (.reg [
    ⟨(some 4), .mov (.c (.i 0)), none, []⟩])
  (.seq (.reg [
    ⟨(some 7), .mov (.t 0), none, []⟩,
    ⟨(some 8), .call (.fn 240) [.t 7], none, []⟩,
    ⟨(some 5), .mov (.t 8), none, []⟩])
  (.seq (.reg [
    ⟨(some 9), .mov (.t 1), none, []⟩,
    ⟨(some 10), .call (.fn 240) [.t 9], none, []⟩,
    ⟨(some 6), .mov (.t 10), none, []⟩])
  (.seq (.seq (.reg [
    ⟨(some 11), .mov (.t 5), none, []⟩])
  (.cond (.t 11) (.seq (.seq (.reg [
     ⟨(some 12), .mov (.t 6), none, []⟩])
   (.cond (.t 12) (.seq (.reg [
      ⟨(some 4), .mov (.c (.i 0)), none, []⟩])
    (.ret)) (.skip)))
   (.seq (.reg [
     ⟨(some 4), .mov (.c (.i (-1))), none, []⟩])
   (.ret))) (.skip)))
  (.seq (.seq (.reg [
    ⟨(some 13), .mov (.t 6), none, []⟩])
  (.cond (.t 13) (.seq (.reg [
     ⟨(some 4), .mov (.c (.i 1)), none, []⟩])
   (.ret)) (.skip)))
  (.seq (.seq (.reg [
    ⟨(some 14), .mov (.t 0), none, []⟩,
    ⟨(some 15), .mov (.t 1), none, []⟩,
    ⟨(some 16), .bin .lss (.t 14) (.t 15), none, []⟩])
  (.cond (.t 16) (.seq (.reg [
     ⟨(some 4), .mov (.c (.i (-1))), none, []⟩])
   (.ret)) (.skip)))
  (.seq (.seq (.reg [
    ⟨(some 17), .mov (.t 0), none, []⟩,
    ⟨(some 18), .mov (.t 1), none, []⟩,
    ⟨(some 19), .bin .gtr (.t 17) (.t 18), none, []⟩])
  (.cond (.t 19) (.seq (.reg [
     ⟨(some 4), .mov (.c (.i 1)), none, []⟩])
   (.ret)) (.skip)))
  (.seq (.reg [
    ⟨(some 4), .mov (.c (.i 0)), none, []⟩])
  (.ret))))))))⟩
theorem r199_is : IsFn Tryz.prog 199 r199 := ⟨Tryz.f199, by kernel_rfl, by kernel_rfl⟩
/-- math/bits.Len64 -/
def r214 : RFn := ⟨25, [.t 2], .seq (.reg [
    ⟨(some 2), .mov (.c (.i 0)), none, []⟩])
  (.seq (.seq (.reg [
    ⟨(some 3), .mov (.t 0), none, []⟩,
    ⟨(some 4), .bin .geq (.t 3) (.c (.v (.int .u64 4294967296))), none, []⟩])
  (.cond (.t 4) (.seq (.reg [
     ⟨(some 5), .mov (.t 0), none, []⟩,
     ⟨(some 6), .bin .shr (.t 5) (.c (.v (.int .u64 32))), none, []⟩,
     ⟨(some 0), .mov (.t 6), none, []⟩])
   (.reg [
     ⟨(some 2), .mov (.c (.i 32)), none, []⟩])) (.skip)))
  (.seq (.seq (.reg [
    ⟨(some 7), .mov (.t 0), none, []⟩,
    ⟨(some 8), .bin .geq (.t 7) (.c (.v (.int .u64 65536))), none, []⟩])
  (.cond (.t 8) (.seq (.reg [
     ⟨(some 9), .mov (.t 0), none, []⟩,
     ⟨(some 10), .bin .shr (.t 9) (.c (.v (.int .u64 16))), none, []⟩,
     ⟨(some 0), .mov (.t 10), none, []⟩])
   (.reg [
     ⟨(some 11), .mov (.t 2), none, []⟩,
     ⟨(some 12), .bin .add (.t 11) (.c (.i 16)), none, []⟩,
     ⟨(some 2), .mov (.t 12), none, []⟩])) (.skip)))
  (.seq (.seq (.reg [
    ⟨(some 13), .mov (.t 0), none, []⟩,
    ⟨(some 14), .bin .geq (.t 13) (.c (.v (.int .u64 256))), none, []⟩])
  (.cond (.t 14) (.seq (.reg [
     ⟨(some 15), .mov (.t 0), none, []⟩,
     ⟨(some 16), .bin .shr (.t 15) (.c (.v (.int .u64 8))), none, []⟩,
     ⟨(some 0), .mov (.t 16), none, []⟩])
   (.reg [
     ⟨(some 17), .mov (.t 2), none, []⟩,
     ⟨(some 18), .bin .add (.t 17) (.c (.i 8)), none, []⟩,
     ⟨(some 2), .mov (.t 18), none, []⟩])) (.skip)))
  (.seq (.reg [
    ⟨(some 19), .mov (.t 2), none, []⟩,
    ⟨(some 20), .mov (.t 0), none, []⟩,
    ⟨(some 21), .cvi .u8 (.t 20), none, []⟩,
    ⟨(some 22), .idx (.c (.v (.string ⟨#[0, 1, 2, 2, 3, 3, 3, 3, 4, 4, 4, 4, 4, 4, 4, 4, 5, 5, 5, 5, 5, 5, 5, 5, 5, 5, 5, 5, 5, 5, 5, 5, 6, 6, 6, 6, 6, 6, 6, 6, 6, 6, 6, 6, 6, 6, 6, 6, 6, 6, 6, 6, 6, 6, 6, 6, 6, 6, 6, 6, 6, 6, 6, 6, 7, 7, 7, 7, 7, 7, 7, 7, 7, 7, 7, 7, 7, 7, 7, 7, 7, 7, 7, 7, 7, 7, 7, 7, 7, 7, 7, 7, 7, 7, 7, 7, 7, 7, 7, 7, 7, 7, 7, 7, 7, 7, 7, 7, 7, 7, 7, 7, 7, 7, 7, 7, 7, 7, 7, 7, 7, 7, 7, 7, 7, 7, 7, 7, 8, 8, 8, 8, 8, 8, 8, 8, 8, 8, 8, 8, 8, 8, 8, 8, 8, 8, 8, 8, 8, 8, 8, 8, 8, 8, 8, 8, 8, 8, 8, 8, 8, 8, 8, 8, 8, 8, 8, 8, 8, 8, 8, 8, 8, 8, 8, 8, 8, 8, 8, 8, 8, 8, 8, 8, 8, 8, 8, 8, 8, 8, 8, 8, 8, 8, 8, 8, 8, 8, 8, 8, 8, 8, 8, 8, 8, 8, 8, 8, 8, 8, 8, 8, 8, 8, 8, 8, 8, 8, 8, 8, 8, 8, 8, 8, 8, 8, 8, 8, 8, 8, 8, 8, 8, 8, 8, 8, 8, 8, 8, 8, 8, 8, 8, 8, 8, 8, 8, 8, 8, 8, 8, 8, 8, 8, 8, 8]⟩))) (.t 21), none, []⟩,
    ⟨(some 23), .cvi .i64 (.t 22), none, []⟩,
    ⟨(some 24), .bin .add (.t 19) (.t 23), none, []⟩,
    ⟨(some 2), .mov (.t 24), none, []⟩])
  (.ret)))))⟩
theorem r214_is : IsFn Tryz.prog 214 r214 := ⟨Tryz.f214, by kernel_rfl, by kernel_rfl⟩
/-- unicode/utf8.appendRuneNonASCII -/
def r218 : RFn := ⟨78, [.t 4], .seq (.reg [
    ⟨(some 4), .mov (.c (.nils)), none, []⟩])
  (.seq (.reg [
    ⟨(some 6), .mov (.t 1), none, []⟩,
    ⟨(some 7), .cvi .u32 (.t 6), none, []⟩,
    ⟨(some 5), .mov (.t 7), none, []⟩])
  (.block 0 (.seq (.reg [
     ⟨(some 12), .mov (.t 5), none, []⟩,
     ⟨(some 13), .bin .leq (.t 12) (.c (.v (.int .u32 2047))), none, []⟩,
     ⟨(some 11), .mov (.t 13), none, []⟩])
   (.cond (.t 11) (.seq (.reg [
      ⟨(some 14), .mov (.t 0), none, []⟩,
      ⟨(some 15), .mov (.t 1), none, []⟩,
      ⟨(some 16), .bin .shr (.t 15) (.c (.v (.int .u64 6))), none, []⟩,
      ⟨(some 17), .cvi .u8 (.t 16), none, []⟩,
      ⟨(some 18), .bin .or (.c (.v (.int .u8 192))) (.t 17), none, []⟩,
      ⟨(some 19), .mov (.t 1), none, []⟩,
      ⟨(some 20), .cvi .u8 (.t 19), none, []⟩,
      ⟨(some 21), .bin .and (.t 20) (.c (.v (.int .u8 63))), none, []⟩,
      ⟨(some 22), .bin .or (.c (.v (.int .u8 128))) (.t 21), none, []⟩,
      ⟨(some 23), .bslice 1 [.v (.int .u8 0)] 2 [(0, 1, (.t 18)), (1, 1, (.t 22))], none, []⟩,
      ⟨(some 24), .append 1 1 [.v (.int .u8 0)] 5 (.t 14) (.t 23), none, []⟩,
      ⟨(some 4), .mov (.t 24), none, []⟩])
    (.ret)) (.seq (.seq (.reg [
      ⟨(some 26), .mov (.t 5), none, []⟩,
      ⟨(some 27), .bin .lss (.t 26) (.c (.v (.int .u32 55296))), none, []⟩,
      ⟨(some 25), .mov (.t 27), none, []⟩])
    (.cond (.t 25) (.skip) (.reg [
       ⟨(some 28), .mov (.t 5), none, []⟩,
       ⟨(some 29), .bin .lss (.c (.v (.int .u32 57343))) (.t 28), none, []⟩,
       ⟨(some 30), .mov (.t 29), none, []⟩,
       ⟨(some 31), .mov (.t 5), (some (30, true)), []⟩,
       ⟨(some 32), .bin .leq (.t 31) (.c (.v (.int .u32 65535))), (some (30, true)), []⟩,
       ⟨(some 33), .pick (.t 30) (.t 32) (.c (.b false)), none, []⟩,
       ⟨(some 25), .mov (.t 33), none, []⟩])))
    (.cond (.t 25) (.seq (.reg [
       ⟨(some 34), .mov (.t 0), none, []⟩,
       ⟨(some 35), .mov (.t 1), none, []⟩,
       ⟨(some 36), .bin .shr (.t 35) (.c (.v (.int .u64 12))), none, []⟩,
       ⟨(some 37), .cvi .u8 (.t 36), none, []⟩,
       ⟨(some 38), .bin .or (.c (.v (.int .u8 224))) (.t 37), none, []⟩,
       ⟨(some 39), .mov (.t 1), none, []⟩,
       ⟨(some 40), .bin .shr (.t 39) (.c (.v (.int .u64 6))), none, []⟩,
       ⟨(some 41), .cvi .u8 (.t 40), none, []⟩,
       ⟨(some 42), .bin .and (.t 41) (.c (.v (.int .u8 63))), none, []⟩,
       ⟨(some 43), .bin .or (.c (.v (.int .u8 128))) (.t 42), none, []⟩,
       ⟨(some 44), .mov (.t 1), none, []⟩,
       ⟨(some 45), .cvi .u8 (.t 44), none, []⟩,
       ⟨(some 46), .bin .and (.t 45) (.c (.v (.int .u8 63))), none, []⟩,
       ⟨(some 47), .bin .or (.c (.v (.int .u8 128))) (.t 46), none, []⟩,
       ⟨(some 48), .bslice 1 [.v (.int .u8 0)] 3 [(0, 1, (.t 38)), (1, 1, (.t 43)), (2, 1, (.t 47))], none, []⟩,
       ⟨(some 49), .append 1 1 [.v (.int .u8 0)] 5 (.t 34) (.t 48), none, []⟩,
       ⟨(some 4), .mov (.t 49), none, []⟩])
     (.ret)) (.seq (.reg [
       ⟨(some 51), .mov (.t 5), none, []⟩,
       ⟨(some 52), .bin .gtr (.t 51) (.c (.v (.int .u32 65535))), none, []⟩,
       ⟨(some 53), .mov (.t 52), none, []⟩,
       ⟨(some 54), .mov (.t 5), (some (53, true)), []⟩,
       ⟨(some 55), .bin .leq (.t 54) (.c (.v (.int .u32 1114111))), (some (53, true)), []⟩,
       ⟨(some 56), .pick (.t 53) (.t 55) (.c (.b false)), none, []⟩,
       ⟨(some 50), .mov (.t 56), none, []⟩])
     (.cond (.t 50) (.seq (.reg [
        ⟨(some 57), .mov (.t 0), none, []⟩,
        ⟨(some 58), .mov (.t 1), none, []⟩,
        ⟨(some 59), .bin .shr (.t 58) (.c (.v (.int .u64 18))), none, []⟩,
        ⟨(some 60), .cvi .u8 (.t 59), none, []⟩,
        ⟨(some 61), .bin .or (.c (.v (.int .u8 240))) (.t 60), none, []⟩,
        ⟨(some 62), .mov (.t 1), none, []⟩,
        ⟨(some 63), .bin .shr (.t 62) (.c (.v (.int .u64 12))), none, []⟩,
        ⟨(some 64), .cvi .u8 (.t 63), none, []⟩,
        ⟨(some 65), .bin .and (.t 64) (.c (.v (.int .u8 63))), none, []⟩,
        ⟨(some 66), .bin .or (.c (.v (.int .u8 128))) (.t 65), none, []⟩,
        ⟨(some 67), .mov (.t 1), none, []⟩,
        ⟨(some 68), .bin .shr (.t 67) (.c (.v (.int .u64 6))), none, []⟩,
        ⟨(some 69), .cvi .u8 (.t 68), none, []⟩,
        ⟨(some 70), .bin .and (.t 69) (.c (.v (.int .u8 63))), none, []⟩,
        ⟨(some 71), .bin .or (.c (.v (.int .u8 128))) (.t 70), none, []⟩,
        ⟨(some 72), .mov (.t 1), none, []⟩,
        ⟨(some 73), .cvi .u8 (.t 72), none, []⟩,
        ⟨(some 74), .bin .and (.t 73) (.c (.v (.int .u8 63))), none, []⟩,
        ⟨(some 75), .bin .or (.c (.v (.int .u8 128))) (.t 74), none, []⟩,
        ⟨(some 76), .bslice 1 [.v (.int .u8 0)] 4 [(0, 1, (.t 61)), (1, 1, (.t 66)), (2, 1, (.t 71)), (3, 1, (.t 75))], none, []⟩,
        ⟨(some 77), .append 1 1 [.v (.int .u8 0)] 5 (.t 57) (.t 76), none, []⟩,
        ⟨(some 4), .mov (.t 77), none, []⟩])
      (.ret)) (.seq (.reg [
        ⟨(some 8), .mov (.t 0), none, []⟩,
        ⟨(some 9), .bslice 1 [.v (.int .u8 0)] 3 [(0, 1, (.c (.v (.int .u8 239)))), (1, 1, (.c (.v (.int .u8 191)))), (2, 1, (.c (.v (.int .u8 189))))], none, []⟩,
        ⟨(some 10), .append 1 1 [.v (.int .u8 0)] 5 (.t 8) (.t 9), none, []⟩,
        ⟨(some 4), .mov (.t 10), none, []⟩])
      (.ret))))))))))⟩
theorem r218_is : IsFn Tryz.prog 218 r218 := ⟨Tryz.f218, by kernel_rfl, by kernel_rfl⟩
/-- (*errata/match.Machine).put -/
def r219 : RFn := ⟨81, [], .seq (.reg [
    ⟨(some 6), .mov (.c (.i 0)), none, []⟩])
  (.seq (.seq (.reg [
    ⟨(some 11), .mov (.t 1), none, []⟩,
    ⟨(some 12), .len false (.t 11), none, []⟩,
    ⟨(some 13), .mov (.c (.i 0)), none, []⟩])
  (.block 0 (.loop (.seq (.reg [
      ⟨(some 14), .bin .lss (.t 13) (.t 12), none, []⟩])
    (.seq (.cond (.t 14) (.skip) (.exit 0))
    (.seq (.block 1 (.seq (.reg [
       ⟨(some 15), .mov (.t 13), none, []⟩,
       ⟨(some 16), .iaddr 1 (.t 11) (.t 13), none, []⟩,
       ⟨(some 17), .load false 1 (.t 16), none, []⟩,
       ⟨(some 7), .mov (.t 15), none, []⟩,
       ⟨(some 8), .mov (.t 17), none, []⟩])
     (.seq (.reg [
       ⟨(some 19), .mov (.t 0), none, []⟩,
       ⟨(some 20), .nilck (.t 19), none, []⟩,
       ⟨(some 21), .faddr 0 (.t 20), none, []⟩,
       ⟨(some 22), .load false 1 (.t 21), none, []⟩,
       ⟨(some 23), .mov (.t 6), none, []⟩,
       ⟨(some 24), .iaddr 4 (.t 22) (.t 23), none, []⟩,
       ⟨(some 25), .faddr 0 (.t 24), none, []⟩,
       ⟨(some 26), .load false 1 (.t 25), none, []⟩,
       ⟨(some 27), .mov (.t 8), none, []⟩,
       ⟨(some 28), .lookup (.one .i) (.i 0) true (.t 26) (.t 27), none, []⟩,
       ⟨(some 18), .mov (.t 28), none, []⟩,
       ⟨(some 29), .ext (.t 18) 0, none, []⟩,
       ⟨(some 30), .ext (.t 18) 1, none, []⟩,
       ⟨(some 9), .mov (.t 29), none, []⟩,
       ⟨(some 10), .mov (.t 30), none, []⟩])
     (.seq (.seq (.reg [
       ⟨(some 31), .mov (.t 10), none, []⟩,
       ⟨(some 32), .un .not (.t 31), none, []⟩])
     (.cond (.t 32) (.seq (.reg [
        ⟨(some 33), .mov (.t 0), none, []⟩,
        ⟨(some 34), .nilck (.t 33), none, []⟩,
        ⟨(some 35), .faddr 0 (.t 34), none, []⟩,
        ⟨(some 36), .load false 1 (.t 35), none, []⟩,
        ⟨(some 37), .len false (.t 36), none, []⟩,
        ⟨(some 9), .mov (.t 37), none, []⟩])
      (.seq (.reg [
        ⟨(some 38), .mov (.t 0), none, []⟩,
        ⟨(some 39), .nilck (.t 38), none, []⟩,
        ⟨(some 40), .faddr 0 (.t 39), none, []⟩,
        ⟨(some 41), .load false 1 (.t 40), none, []⟩,
        ⟨(some 42), .mov (.t 6), none, []⟩,
        ⟨(some 43), .iaddr 4 (.t 41) (.t 42), none, []⟩,
        ⟨(some 44), .faddr 0 (.t 43), none, []⟩,
        ⟨(some 45), .load false 1 (.t 44), none, []⟩,
        ⟨(some 46), .mov (.t 8), none, []⟩,
        ⟨(some 47), .mov (.t 9), none, []⟩,
        ⟨none, .mapupd (.one .i) (.t 45) (.t 46) (.t 47), none, []⟩])
      (.reg [
        ⟨(some 48), .mov (.t 0), none, []⟩,
        ⟨(some 49), .mov (.t 0), none, []⟩,
        ⟨(some 50), .nilck (.t 49), none, []⟩,
        ⟨(some 51), .faddr 0 (.t 50), none, []⟩,
        ⟨(some 52), .load false 1 (.t 51), none, []⟩,
        ⟨(some 53), .mkmap, none, []⟩,
        ⟨(some 54), .mov (.t 7), none, []⟩,
        ⟨(some 55), .bin .add (.t 54) (.c (.i 1)), none, []⟩,
        ⟨(some 56), .build [.v (.map none), .i 0, .i 0, .nils] [(0, 1, (.t 53)), (2, 1, (.t 55))], none, []⟩,
        ⟨(some 57), .bslice 4 [.v (.map none), .i 0, .i 0, .nils] 1 [(0, 4, (.t 56))], none, []⟩,
        ⟨(some 58), .append 4 48 [.v (.map none), .i 0, .i 0, .nils] 347 (.t 52) (.t 57), none, []⟩,
        ⟨(some 59), .nilck (.t 48), none, []⟩,
        ⟨(some 60), .faddr 0 (.t 59), none, []⟩,
        ⟨none, .store 1 (.t 60) (.t 58), none, []⟩]))) (.skip)))
     (.reg [
       ⟨(some 61), .mov (.t 9), none, []⟩,
       ⟨(some 6), .mov (.t 61), none, []⟩])))))
    (.reg [
      ⟨(some 62), .bin .add (.t 13) (.c (.i 1)), none, []⟩,
      ⟨(some 13), .mov (.t 62), none, []⟩])))))))
  (.reg [
    ⟨(some 63), .mov (.t 0), none, []⟩,
    ⟨(some 64), .nilck (.t 63), none, []⟩,
    ⟨(some 65), .faddr 0 (.t 64), none, []⟩,
    ⟨(some 66), .load false 1 (.t 65), none, []⟩,
    ⟨(some 67), .mov (.t 6), none, []⟩,
    ⟨(some 68), .mov (.t 0), none, []⟩,
    ⟨(some 69), .nilck (.t 68), none, []⟩,
    ⟨(some 70), .faddr 0 (.t 69), none, []⟩,
    ⟨(some 71), .load false 1 (.t 70), none, []⟩,
    ⟨(some 72), .mov (.t 6), none, []⟩,
    ⟨(some 73), .iaddr 4 (.t 71) (.t 72), none, []⟩,
    ⟨(some 74), .faddr 3 (.t 73), none, []⟩,
    ⟨(some 75), .load false 1 (.t 74), none, []⟩,
    ⟨(some 76), .mov (.t 2), none, []⟩,
    ⟨(some 77), .bslice 1 [.i 0] 1 [(0, 1, (.t 76))], none, []⟩,
    ⟨(some 78), .append 1 8 [.i 0] 3 (.t 75) (.t 77), none, [(66, .load false 1 (.t 65), none)]⟩,
    ⟨(some 79), .iaddr 4 (.t 66) (.t 67), none, []⟩,
    ⟨(some 80), .faddr 3 (.t 79), none, []⟩,
    ⟨none, .store 1 (.t 80) (.t 78), none, []⟩]))⟩
theorem r219_is : IsFn Tryz.prog 219 r219 := ⟨Tryz.f219, by kernel_rfl, by kernel_rfl⟩
/-- (*errata/match.Machine).link -/
def r220 : RFn := ⟨53, [], .seq (.reg [
    ⟨(some 6), .bslice 1 [.i 0] 1 [(0, 1, (.c (.i 0)))], none, []⟩,
    ⟨(some 2), .mov (.t 6), none, []⟩])
  (.block 0 (.loop (.seq (.seq (.reg [
      ⟨(some 7), .mov (.t 2), none, []⟩,
      ⟨(some 8), .len false (.t 7), none, []⟩,
      ⟨(some 9), .bin .gtr (.t 8) (.c (.i 0)), none, []⟩])
    (.cond (.t 9) (.skip) (.exit 0)))
    (.block 1 (.seq (.reg [
       ⟨(some 10), .mov (.t 2), none, []⟩,
       ⟨(some 11), .iaddr 1 (.t 10) (.c (.i 0)), none, []⟩,
       ⟨(some 12), .load false 1 (.t 11), none, []⟩,
       ⟨(some 3), .mov (.t 12), none, []⟩])
     (.seq (.reg [
       ⟨(some 13), .mov (.t 2), none, []⟩,
       ⟨(some 14), .slc false 1 (.t 13) (some (.c (.i 1))) none none, none, []⟩,
       ⟨(some 2), .mov (.t 14), none, []⟩])
     (.seq (.reg [
       ⟨(some 15), .mov (.t 0), none, []⟩,
       ⟨(some 16), .nilck (.t 15), none, []⟩,
       ⟨(some 17), .faddr 0 (.t 16), none, []⟩,
       ⟨(some 18), .load false 1 (.t 17), none, []⟩,
       ⟨(some 19), .mov (.t 3), none, []⟩,
       ⟨(some 20), .iaddr 4 (.t 18) (.t 19), none, []⟩,
       ⟨(some 21), .faddr 0 (.t 20), none, []⟩,
       ⟨(some 22), .load false 1 (.t 21), none, []⟩,
       ⟨(some 23), .mrange (.t 22), none, []⟩])
     (.block 2 (.loop (.seq (.reg [
         ⟨(some 24), .next false (.t 23), none, []⟩,
         ⟨(some 25), .ext (.t 24) 0, none, []⟩])
       (.seq (.cond (.t 25) (.skip) (.exit 2))
       (.block 3 (.seq (.reg [
          ⟨(some 26), .entry (.t 23), none, []⟩,
          ⟨(some 27), .ext (.t 26) 0, none, []⟩,
          ⟨(some 28), .ext (.t 26) 1, none, []⟩,
          ⟨(some 4), .mov (.t 27), none, []⟩,
          ⟨(some 5), .mov (.t 28), none, []⟩])
        (.seq (.seq (.reg [
          ⟨(some 29), .mov (.t 3), none, []⟩,
          ⟨(some 30), .bin .neq (.t 29) (.c (.i 0)), none, []⟩])
        (.cond (.t 30) (.reg [
           ⟨(some 31), .mov (.t 0), none, []⟩,
           ⟨(some 32), .nilck (.t 31), none, []⟩,
           ⟨(some 33), .faddr 0 (.t 32), none, []⟩,
           ⟨(some 34), .load false 1 (.t 33), none, []⟩,
           ⟨(some 35), .mov (.t 5), none, []⟩,
           ⟨(some 36), .mov (.t 0), none, []⟩,
           ⟨(some 37), .mov (.t 0), none, []⟩,
           ⟨(some 38), .nilck (.t 37), none, []⟩,
           ⟨(some 39), .faddr 0 (.t 38), none, []⟩,
           ⟨(some 40), .load false 1 (.t 39), none, []⟩,
           ⟨(some 41), .mov (.t 3), none, []⟩,
           ⟨(some 42), .iaddr 4 (.t 40) (.t 41), none, []⟩,
           ⟨(some 43), .faddr 1 (.t 42), none, []⟩,
           ⟨(some 44), .load false 1 (.t 43), none, []⟩,
           ⟨(some 45), .mov (.t 4), none, []⟩,
           ⟨(some 46), .call (.fn 222) [.t 36, .t 44, .t 45], none, [(34, .load false 1 (.t 33), none)]⟩,
           ⟨(some 47), .iaddr 4 (.t 34) (.t 35), none, []⟩,
           ⟨(some 48), .faddr 1 (.t 47), none, []⟩,
           ⟨none, .store 1 (.t 48) (.t 46), none, []⟩]) (.skip)))
        (.reg [
          ⟨(some 49), .mov (.t 2), none, []⟩,
          ⟨(some 50), .mov (.t 5), none, []⟩,
          ⟨(some 51), .bslice 1 [.i 0] 1 [(0, 1, (.t 50))], none, []⟩,
          ⟨(some 52), .append 1 8 [.i 0] 3 (.t 49) (.t 51), none, []⟩,
          ⟨(some 2), .mov (.t 52), none, []⟩])))))))))))))))⟩
theorem r220_is : IsFn Tryz.prog 220 r220 := ⟨Tryz.f220, by kernel_rfl, by kernel_rfl⟩
/-- errata/match.token -/
def r221 : RFn := ⟨20, [.t 2, .t 3], .seq (.reg [
    ⟨(some 2), .mov (.c (.nils)), none, []⟩,
    ⟨(some 3), .mov (.c (.i 0)), none, []⟩])
  (.seq (.reg [
    ⟨(some 7), .mov (.t 0), none, []⟩,
    ⟨(some 8), .call (.fn 109) [.t 7], none, []⟩,
    ⟨(some 6), .mov (.t 8), none, []⟩,
    ⟨(some 9), .ext (.t 6) 0, none, []⟩,
    ⟨(some 10), .ext (.t 6) 1, none, []⟩,
    ⟨(some 4), .mov (.t 9), none, []⟩,
    ⟨(some 5), .mov (.t 10), none, []⟩])
  (.seq (.seq (.reg [
    ⟨(some 11), .mov (.t 5), none, []⟩,
    ⟨(some 12), .bin .eql (.t 11) (.c (.i 0)), none, []⟩,
    ⟨(some 13), .mov (.t 12), none, []⟩,
    ⟨(some 14), .mov (.t 4), (some (13, true)), []⟩,
    ⟨(some 15), .len false (.t 14), (some (13, true)), []⟩,
    ⟨(some 16), .bin .gtr (.t 15) (.c (.i 64)), (some (13, true)), []⟩,
    ⟨(some 17), .pick (.t 13) (.t 16) (.c (.b false)), none, []⟩])
  (.cond (.t 17) (.seq (.reg [
     ⟨(some 2), .mov (.c (.nils)), none, []⟩,
     ⟨(some 3), .mov (.c (.i 5)), none, []⟩])
   (.ret)) (.skip)))
  (.seq (.reg [
    ⟨(some 18), .mov (.t 4), none, []⟩,
    ⟨(some 19), .mov (.t 5), none, []⟩,
    ⟨(some 2), .mov (.t 18), none, []⟩,
    ⟨(some 3), .mov (.t 19), none, []⟩])
  (.ret))))⟩
theorem r221_is : IsFn Tryz.prog 221 r221 := ⟨Tryz.f221, by kernel_rfl, by kernel_rfl⟩
/-- (*errata/match.Machine).step -/
def r222 : RFn := ⟨34, [.t 6], .seq (.reg [
    ⟨(some 6), .mov (.c (.i 0)), none, []⟩])
  (.scope (.seq (.skip)
   (.seq (.block 0 (.loop (.block 1 (.seq (.seq (.reg [
        ⟨(some 10), .mov (.t 0), none, []⟩,
        ⟨(some 11), .nilck (.t 10), none, []⟩,
        ⟨(some 12), .faddr 0 (.t 11), none, []⟩,
        ⟨(some 13), .load false 1 (.t 12), none, []⟩,
        ⟨(some 14), .mov (.t 1), none, []⟩,
        ⟨(some 15), .iaddr 4 (.t 13) (.t 14), none, []⟩,
        ⟨(some 16), .faddr 0 (.t 15), none, []⟩,
        ⟨(some 17), .load false 1 (.t 16), none, []⟩,
        ⟨(some 18), .mov (.t 2), none, []⟩,
        ⟨(some 19), .lookup (.one .i) (.i 0) true (.t 17) (.t 18), none, []⟩,
        ⟨(some 9), .mov (.t 19), none, []⟩,
        ⟨(some 20), .ext (.t 9) 0, none, []⟩,
        ⟨(some 21), .ext (.t 9) 1, none, []⟩,
        ⟨(some 7), .mov (.t 20), none, []⟩,
        ⟨(some 8), .mov (.t 21), none, []⟩])
      (.seq (.reg [
        ⟨(some 22), .mov (.t 8), none, []⟩])
      (.cond (.t 22) (.seq (.reg [
         ⟨(some 23), .mov (.t 7), none, []⟩,
         ⟨(some 6), .mov (.t 23), none, []⟩])
       (.ret)) (.skip))))
      (.seq (.seq (.reg [
        ⟨(some 24), .mov (.t 1), none, []⟩,
        ⟨(some 25), .bin .eql (.t 24) (.c (.i 0)), none, []⟩])
      (.cond (.t 25) (.exit 0) (.skip)))
      (.reg [
        ⟨(some 26), .mov (.t 0), none, []⟩,
        ⟨(some 27), .nilck (.t 26), none, []⟩,
        ⟨(some 28), .faddr 0 (.t 27), none, []⟩,
        ⟨(some 29), .load false 1 (.t 28), none, []⟩,
        ⟨(some 30), .mov (.t 1), none, []⟩,
        ⟨(some 31), .iaddr 4 (.t 29) (.t 30), none, []⟩,
        ⟨(some 32), .faddr 1 (.t 31), none, []⟩,
        ⟨(some 33), .load false 1 (.t 32), none, []⟩,
        ⟨(some 1), .mov (.t 33), none, []⟩]))))))
   (.seq (.reg [
     ⟨(some 6), .mov (.c (.i 0)), none, []⟩])
   (.ret)))))⟩
theorem r222_is : IsFn Tryz.prog 222 r222 := ⟨Tryz.f222, by kernel_rfl, by kernel_rfl⟩
/-- (*errata/match.Machine).ends -/
def r223 : RFn := ⟨6, [.t 4], .seq (.reg [
    ⟨(some 2), .box (.t 0), none, []⟩,
    ⟨(some 3), .box (.t 1), none, []⟩,
    ⟨(some 4), .mov (.c (.v (.nilFunc))), none, []⟩])
  (.seq (.reg [
    ⟨(some 5), .mkfn 252 [.t 2, .t 3], none, []⟩,
    ⟨(some 4), .mov (.t 5), none, []⟩])
  (.ret))⟩
theorem r223_is : IsFn Tryz.prog 223 r223 := ⟨Tryz.f223, by kernel_rfl, by kernel_rfl⟩
/-- slices.SortFunc[[]errata/match.Hit,errata/match.Hit] -/
def r224 : RFn := ⟨14, [], .seq (.reg [
    ⟨(some 5), .mov (.t 0), none, []⟩,
    ⟨(some 6), .len false (.t 5), none, []⟩,
    ⟨(some 4), .mov (.t 6), none, []⟩])
  (.reg [
    ⟨(some 7), .mov (.t 0), none, []⟩,
    ⟨(some 8), .mov (.t 4), none, []⟩,
    ⟨(some 9), .mov (.t 4), none, []⟩,
    ⟨(some 10), .cvi .u64 (.t 9), none, []⟩,
    ⟨(some 11), .call (.fn 197) [.t 10], none, []⟩,
    ⟨(some 12), .mov (.t 1), none, []⟩,
    ⟨(some 13), .call (.fn 253) [.t 7, .c (.i 0), .t 8, .t 11, .t 12], none, []⟩])⟩
theorem r224_is : IsFn Tryz.prog 224 r224 := ⟨Tryz.f224, by kernel_rfl, by kernel_rfl⟩
/-- (*errata/match.Machine).Hits$1 -/
def r225 : RFn := ⟨17, [.t 4], .seq (.reg [
    ⟨(some 2), .box (.t 0), none, []⟩,
    ⟨(some 3), .box (.t 1), none, []⟩,
    ⟨(some 4), .mov (.c (.i 0)), none, []⟩])
  (.seq (.reg [
    ⟨(some 5), .faddr 0 (.t 2), none, []⟩,
    ⟨(some 6), .load false 1 (.t 5), none, []⟩,
    ⟨(some 7), .faddr 0 (.t 3), none, []⟩,
    ⟨(some 8), .load false 1 (.t 7), none, []⟩,
    ⟨(some 10), .faddr 1 (.t 2), none, []⟩,
    ⟨(some 11), .load false 1 (.t 10), none, []⟩,
    ⟨(some 12), .faddr 1 (.t 3), none, []⟩,
    ⟨(some 13), .load false 1 (.t 12), none, []⟩,
    ⟨(some 9), .call (.fn 199) [.t 6, .t 8], none, [(11, .load false 1 (.t 10), none), (13, .load false 1 (.t 12), none)]⟩,
    ⟨(some 14), .call (.fn 199) [.t 11, .t 13], none, []⟩,
    ⟨(some 15), .bslice 1 [.i 0] 2 [(0, 1, (.t 9)), (1, 1, (.t 14))], none, []⟩,
    ⟨(some 16), .call (.fn 183) [.t 15], none, []⟩,
    ⟨(some 4), .mov (.t 16), none, []⟩])
  (.ret))⟩
theorem r225_is : IsFn Tryz.prog 225 r225 := ⟨Tryz.f225, by kernel_rfl, by kernel_rfl⟩
/-- (*errata/bucket.Queue).Push -/
def r226 : RFn := ⟨64, [.t 6], .seq (.reg [
    ⟨(some 6), .mov (.c (.i 0)), none, []⟩])
  (.seq (.block 0 (.seq (.reg [
     ⟨(some 8), .mov (.t 0), none, []⟩,
     ⟨(some 9), .eqp false (.t 8) (.c (.nilp)), none, []⟩,
     ⟨(some 7), .mov (.t 9), none, []⟩])
   (.cond (.t 7) (.seq (.reg [
      ⟨(some 6), .mov (.c (.i 1)), none, []⟩])
    (.ret)) (.seq (.reg [
      ⟨(some 11), .mov (.t 1), none, []⟩,
      ⟨(some 12), .mov (.t 0), none, []⟩,
      ⟨(some 13), .nilck (.t 12), none, []⟩,
      ⟨(some 14), .faddr 3 (.t 13), none, []⟩,
      ⟨(some 15), .load false 1 (.t 14), none, []⟩,
      ⟨(some 16), .bin .lss (.t 11) (.t 15), none, []⟩,
      ⟨(some 17), .mov (.t 16), none, []⟩,
      ⟨(some 18), .mov (.t 1), (some (17, false)), []⟩,
      ⟨(some 19), .mov (.t 0), (some (17, false)), []⟩,
      ⟨(some 20), .nilck (.t 19), (some (17, false)), []⟩,
      ⟨(some 21), .faddr 1 (.t 20), (some (17, false)), []⟩,
      ⟨(some 22), .load false 1 (.t 21), (some (17, false)), []⟩,
      ⟨(some 23), .bin .gtr (.t 18) (.t 22), (some (17, false)), []⟩,
      ⟨(some 24), .pick (.t 17) (.c (.b true)) (.t 23), none, []⟩,
      ⟨(some 10), .mov (.t 24), none, []⟩])
    (.cond (.t 10) (.seq (.reg [
       ⟨(some 6), .mov (.c (.i 2)), none, []⟩])
     (.ret)) (.skip))))))
  (.seq (.block 1 (.loop (.seq (.seq (.reg [
      ⟨(some 25), .mov (.t 0), none, []⟩,
      ⟨(some 26), .nilck (.t 25), none, []⟩,
      ⟨(some 27), .faddr 0 (.t 26), none, []⟩,
      ⟨(some 28), .load false 1 (.t 27), none, []⟩,
      ⟨(some 29), .len false (.t 28), none, []⟩,
      ⟨(some 30), .mov (.t 1), none, []⟩,
      ⟨(some 31), .bin .leq (.t 29) (.t 30), none, []⟩])
    (.cond (.t 31) (.skip) (.exit 1)))
    (.block 2 (.reg [
       ⟨(some 32), .mov (.t 0), none, []⟩,
       ⟨(some 33), .mov (.t 0), none, []⟩,
       ⟨(some 34), .nilck (.t 33), none, []⟩,
       ⟨(some 35), .faddr 0 (.t 34), none, []⟩,
       ⟨(some 36), .load false 1 (.t 35), none, []⟩,
       ⟨(some 37), .bslice 1 [.nils] 1 [(0, 1, (.c (.nils)))], none, []⟩,
       ⟨(some 38), .append 1 24 [.nils] 141 (.t 36) (.t 37), none, []⟩,
       ⟨(some 39), .nilck (.t 32), none, []⟩,
       ⟨(some 40), .faddr 0 (.t 39), none, []⟩,
       ⟨none, .store 1 (.t 40) (.t 38), none, []⟩])))))
  (.seq (.reg [
    ⟨(some 41), .mov (.t 0), none, []⟩,
    ⟨(some 42), .nilck (.t 41), none, []⟩,
    ⟨(some 43), .faddr 0 (.t 42), none, []⟩,
    ⟨(some 44), .load false 1 (.t 43), none, []⟩,
    ⟨(some 45), .mov (.t 1), none, []⟩,
    ⟨(some 46), .mov (.t 0), none, []⟩,
    ⟨(some 47), .nilck (.t 46), none, []⟩,
    ⟨(some 48), .faddr 0 (.t 47), none, []⟩,
    ⟨(some 49), .load false 1 (.t 48), none, []⟩,
    ⟨(some 50), .mov (.t 1), none, []⟩,
    ⟨(some 51), .iaddr 1 (.t 49) (.t 50), none, []⟩,
    ⟨(some 52), .load false 1 (.t 51), none, []⟩,
    ⟨(some 53), .mov (.t 2), none, []⟩,
    ⟨(some 54), .bslice 1 [.i 0] 1 [(0, 1, (.t 53))], none, []⟩,
    ⟨(some 55), .append 1 8 [.i 0] 3 (.t 52) (.t 54), none, [(44, .load false 1 (.t 43), none)]⟩,
    ⟨(some 56), .iaddr 1 (.t 44) (.t 45), none, []⟩,
    ⟨none, .store 1 (.t 56) (.t 55), none, []⟩])
  (.seq (.reg [
    ⟨(some 57), .mov (.t 0), none, []⟩,
    ⟨(some 58), .nilck (.t 57), none, []⟩,
    ⟨(some 59), .faddr 2 (.t 58), none, []⟩,
    ⟨(some 60), .load false 1 (.t 59), none, []⟩,
    ⟨(some 61), .bin .add (.t 60) (.c (.i 1)), none, []⟩,
    ⟨(some 62), .nilck (.t 57), none, []⟩,
    ⟨(some 63), .faddr 2 (.t 62), none, []⟩,
    ⟨none, .store 1 (.t 63) (.t 61), none, []⟩])
  (.seq (.reg [
    ⟨(some 6), .mov (.c (.i 0)), none, []⟩])
  (.ret))))))⟩
theorem r226_is : IsFn Tryz.prog 226 r226 := ⟨Tryz.f226, by kernel_rfl, by kernel_rfl⟩
/-- (*errata/bucket.Queue).full -/
def r227 : RFn := ⟨4, [.t 2], .seq (.reg [
    ⟨(some 1), .box (.t 0), none, []⟩,
    ⟨(some 2), .mov (.c (.v (.nilFunc))), none, []⟩])
  (.seq (.reg [
    ⟨(some 3), .mkfn 254 [.t 1], none, []⟩,
    ⟨(some 2), .mov (.t 3), none, []⟩])
  (.ret))⟩
theorem r227_is : IsFn Tryz.prog 227 r227 := ⟨Tryz.f227, by kernel_rfl, by kernel_rfl⟩
/-- (*errata/dawg.Dawg).state -/
def r228 : RFn := ⟨27, [.t 4, .t 5], .seq (.reg [
    ⟨(some 4), .mov (.c (.nilp)), none, []⟩,
    ⟨(some 5), .mov (.c (.i 0)), none, []⟩])
  (.seq (.block 0 (.seq (.reg [
     ⟨(some 7), .mov (.t 0), none, []⟩,
     ⟨(some 8), .eqp false (.t 7) (.c (.nilp)), none, []⟩,
     ⟨(some 6), .mov (.t 8), none, []⟩])
   (.cond (.t 6) (.seq (.reg [
      ⟨(some 4), .mov (.c (.nilp)), none, []⟩,
      ⟨(some 5), .mov (.c (.i 1)), none, []⟩])
    (.ret)) (.seq (.reg [
      ⟨(some 10), .mov (.t 1), none, []⟩,
      ⟨(some 11), .bin .lss (.t 10) (.c (.i 0)), none, []⟩,
      ⟨(some 12), .mov (.t 11), none, []⟩,
      ⟨(some 13), .mov (.t 1), (some (12, false)), []⟩,
      ⟨(some 14), .mov (.t 0), (some (12, false)), []⟩,
      ⟨(some 15), .nilck (.t 14), (some (12, false)), []⟩,
      ⟨(some 16), .faddr 0 (.t 15), (some (12, false)), []⟩,
      ⟨(some 17), .load false 1 (.t 16), (some (12, false)), []⟩,
      ⟨(some 18), .len false (.t 17), (some (12, false)), []⟩,
      ⟨(some 19), .bin .geq (.t 13) (.t 18), (some (12, false)), []⟩,
      ⟨(some 20), .pick (.t 12) (.c (.b true)) (.t 19), none, []⟩,
      ⟨(some 9), .mov (.t 20), none, []⟩])
    (.cond (.t 9) (.seq (.reg [
       ⟨(some 4), .mov (.c (.nilp)), none, []⟩,
       ⟨(some 5), .mov (.c (.i 2)), none, []⟩])
     (.ret)) (.skip))))))
  (.seq (.reg [
    ⟨(some 21), .mov (.t 0), none, []⟩,
    ⟨(some 22), .nilck (.t 21), none, []⟩,
    ⟨(some 23), .faddr 0 (.t 22), none, []⟩,
    ⟨(some 24), .load false 1 (.t 23), none, []⟩,
    ⟨(some 25), .mov (.t 1), none, []⟩,
    ⟨(some 26), .iaddr 3 (.t 24) (.t 25), none, []⟩,
    ⟨(some 4), .mov (.t 26), none, []⟩,
    ⟨(some 5), .mov (.c (.i 0)), none, []⟩])
  (.ret)))⟩
theorem r228_is : IsFn Tryz.prog 228 r228 := ⟨Tryz.f228, by kernel_rfl, by kernel_rfl⟩
/-- (*errata/dawg.Dawg).Out -/
def r229 : RFn := ⟨22, [.t 4, .t 5], .seq (.reg [
    ⟨(some 4), .mov (.c (.nils)), none, []⟩,
    ⟨(some 5), .mov (.c (.i 0)), none, []⟩])
  (.seq (.reg [
    ⟨(some 9), .mov (.t 0), none, []⟩,
    ⟨(some 10), .mov (.t 1), none, []⟩,
    ⟨(some 11), .call (.fn 228) [.t 9, .t 10], none, []⟩,
    ⟨(some 8), .mov (.t 11), none, []⟩,
    ⟨(some 12), .ext (.t 8) 0, none, []⟩,
    ⟨(some 13), .ext (.t 8) 1, none, []⟩,
    ⟨(some 6), .mov (.t 12), none, []⟩,
    ⟨(some 7), .mov (.t 13), none, []⟩])
  (.seq (.seq (.reg [
    ⟨(some 14), .mov (.t 7), none, []⟩,
    ⟨(some 15), .bin .neq (.t 14) (.c (.i 0)), none, []⟩])
  (.cond (.t 15) (.seq (.reg [
     ⟨(some 16), .mov (.t 7), none, []⟩,
     ⟨(some 4), .mov (.c (.nils)), none, []⟩,
     ⟨(some 5), .mov (.t 16), none, []⟩])
   (.ret)) (.skip)))
  (.seq (.reg [
    ⟨(some 17), .mov (.t 6), none, []⟩,
    ⟨(some 18), .nilck (.t 17), none, []⟩,
    ⟨(some 19), .faddr 0 (.t 18), none, []⟩,
    ⟨(some 20), .load false 1 (.t 19), none, []⟩,
    ⟨(some 21), .call (.fn 255) [.t 20], none, []⟩,
    ⟨(some 4), .mov (.t 21), none, []⟩,
    ⟨(some 5), .mov (.c (.i 0)), none, []⟩])
  (.ret))))⟩
theorem r229_is : IsFn Tryz.prog 229 r229 := ⟨Tryz.f229, by kernel_rfl, by kernel_rfl⟩
/-- (*errata/search.run).along -/
def r230 : RFn := ⟨42, [.c 6 true 3, .t 7], .seq (.reg [
    ⟨(some 4), .box (.t 1), none, []⟩,
    ⟨(some 6), .alloc [.i 0, .i 0, .v (.string ⟨#[]⟩)] 315, none, []⟩,
    ⟨(some 7), .mov (.c (.b false)), none, []⟩])
  (.seq (.seq (.reg [
    ⟨(some 12), .mov (.t 2), none, []⟩,
    ⟨(some 13), .len false (.t 12), none, []⟩,
    ⟨(some 14), .mov (.c (.i 0)), none, []⟩])
  (.block 0 (.loop (.seq (.reg [
      ⟨(some 15), .bin .lss (.t 14) (.t 13), none, []⟩])
    (.seq (.cond (.t 15) (.skip) (.exit 0))
    (.seq (.block 1 (.seq (.reg [
       ⟨(some 16), .iaddr 1 (.t 12) (.t 14), none, []⟩,
       ⟨(some 17), .load false 1 (.t 16), none, []⟩,
       ⟨(some 9), .mov (.t 17), none, []⟩])
     (.seq (.reg [
       ⟨(some 19), .mov (.t 0), none, []⟩,
       ⟨(some 20), .nilck (.t 19), none, []⟩,
       ⟨(some 21), .faddr 0 (.t 20), none, []⟩,
       ⟨(some 22), .load false 1 (.t 21), none, []⟩,
       ⟨(some 23), .faddr 1 (.t 4), none, []⟩,
       ⟨(some 24), .load false 1 (.t 23), none, []⟩,
       ⟨(some 25), .mov (.t 9), none, []⟩,
       ⟨(some 26), .call (.fn 256) [.t 22, .t 24, .t 25], none, []⟩,
       ⟨(some 18), .mov (.t 26), none, []⟩,
       ⟨(some 27), .ext (.t 18) 0, none, []⟩,
       ⟨(some 28), .ext (.t 18) 1, none, []⟩,
       ⟨(some 10), .mov (.t 27), none, []⟩,
       ⟨(some 11), .mov (.t 28), none, []⟩])
     (.seq (.seq (.reg [
       ⟨(some 29), .mov (.t 11), none, []⟩,
       ⟨(some 30), .bin .neq (.t 29) (.c (.i 0)), none, []⟩])
     (.cond (.t 30) (.seq (.reg [
        ⟨(some 31), .load true 3 (.t 4), none, []⟩,
        ⟨none, .store 3 (.t 6) (.t 31), none, []⟩,
        ⟨(some 7), .mov (.c (.b false)), none, []⟩])
      (.ret)) (.skip)))
     (.reg [
       ⟨(some 32), .mov (.t 10), none, []⟩,
       ⟨(some 33), .faddr 2 (.t 4), none, []⟩,
       ⟨(some 34), .load false 1 (.t 33), none, []⟩,
       ⟨(some 35), .mov (.t 9), none, []⟩,
       ⟨(some 36), .cvs (.t 35), none, []⟩,
       ⟨(some 37), .bin .add (.t 34) (.t 36), none, []⟩,
       ⟨(some 38), .faddr 1 (.t 4), none, []⟩,
       ⟨none, .store 1 (.t 38) (.t 32), none, []⟩,
       ⟨(some 39), .faddr 2 (.t 4), none, []⟩,
       ⟨none, .store 1 (.t 39) (.t 37), none, []⟩])))))
    (.reg [
      ⟨(some 40), .bin .add (.t 14) (.c (.i 1)), none, []⟩,
      ⟨(some 14), .mov (.t 40), none, []⟩])))))))
  (.seq (.reg [
    ⟨(some 41), .load true 3 (.t 4), none, []⟩,
    ⟨none, .store 3 (.t 6) (.t 41), none, []⟩,
    ⟨(some 7), .mov (.c (.b true)), none, []⟩])
  (.ret)))⟩
theorem r230_is : IsFn Tryz.prog 230 r230 := ⟨Tryz.f230, by kernel_rfl, by kernel_rfl⟩
/-- slices.insertionSortCmpFunc[errata/api.Cand] -/
def r231 : RFn := ⟨53, [], .seq (.reg [
    ⟨(some 10), .mov (.t 1), none, []⟩,
    ⟨(some 11), .bin .add (.t 10) (.c (.i 1)), none, []⟩,
    ⟨(some 8), .mov (.t 11), none, []⟩])
  (.block 0 (.loop (.seq (.seq (.reg [
      ⟨(some 12), .mov (.t 8), none, []⟩,
      ⟨(some 13), .mov (.t 2), none, []⟩,
      ⟨(some 14), .bin .lss (.t 12) (.t 13), none, []⟩])
    (.cond (.t 14) (.skip) (.exit 0)))
    (.seq (.block 1 (.seq (.reg [
       ⟨(some 17), .mov (.t 8), none, []⟩,
       ⟨(some 9), .mov (.t 17), none, []⟩])
     (.block 2 (.loop (.seq (.seq (.reg [
         ⟨(some 18), .mov (.t 9), none, []⟩,
         ⟨(some 19), .mov (.t 1), none, []⟩,
         ⟨(some 20), .bin .gtr (.t 18) (.t 19), none, []⟩,
         ⟨(some 21), .mov (.t 20), none, []⟩,
         ⟨(some 22), .mov (.t 3), (some (21, true)), []⟩,
         ⟨(some 23), .mov (.t 0), (some (21, true)), []⟩,
         ⟨(some 24), .mov (.t 9), (some (21, true)), []⟩,
         ⟨(some 25), .iaddr 3 (.t 23) (.t 24), (some (21, true)), []⟩,
         ⟨(some 26), .load true 3 (.t 25), (some (21, true)), []⟩,
         ⟨(some 27), .mov (.t 0), (some (21, true)), []⟩,
         ⟨(some 28), .mov (.t 9), (some (21, true)), []⟩,
         ⟨(some 29), .bin .sub (.t 28) (.c (.i 1)), (some (21, true)), []⟩,
         ⟨(some 30), .iaddr 3 (.t 27) (.t 29), (some (21, true)), []⟩,
         ⟨(some 31), .load true 3 (.t 30), (some (21, true)), []⟩,
         ⟨(some 32), .call (.val (.t 22)) [.t 26, .t 31], (some (21, true)), []⟩,
         ⟨(some 33), .bin .lss (.t 32) (.c (.i 0)), (some (21, true)), []⟩,
         ⟨(some 34), .pick (.t 21) (.t 33) (.c (.b false)), none, []⟩])
       (.cond (.t 34) (.skip) (.exit 2)))
       (.seq (.block 3 (.reg [
          ⟨(some 37), .mov (.t 0), none, []⟩,
          ⟨(some 38), .mov (.t 9), none, []⟩,
          ⟨(some 39), .mov (.t 0), none, []⟩,
          ⟨(some 40), .mov (.t 9), none, []⟩,
          ⟨(some 41), .bin .sub (.t 40) (.c (.i 1)), none, []⟩,
          ⟨(some 42), .mov (.t 0), none, []⟩,
          ⟨(some 43), .mov (.t 9), none, []⟩,
          ⟨(some 44), .bin .sub (.t 43) (.c (.i 1)), none, []⟩,
          ⟨(some 45), .iaddr 3 (.t 42) (.t 44), none, []⟩,
          ⟨(some 46), .load true 3 (.t 45), none, []⟩,
          ⟨(some 47), .mov (.t 0), none, []⟩,
          ⟨(some 48), .mov (.t 9), none, []⟩,
          ⟨(some 49), .iaddr 3 (.t 47) (.t 48), none, []⟩,
          ⟨(some 50), .load true 3 (.t 49), none, []⟩,
          ⟨(some 51), .iaddr 3 (.t 37) (.t 38), none, []⟩,
          ⟨none, .store 3 (.t 51) (.t 46), none, []⟩,
          ⟨(some 52), .iaddr 3 (.t 39) (.t 41), none, []⟩,
          ⟨none, .store 3 (.t 52) (.t 50), none, []⟩]))
       (.reg [
         ⟨(some 35), .mov (.t 9), none, []⟩,
         ⟨(some 36), .bin .sub (.t 35) (.c (.i 1)), none, []⟩,
         ⟨(some 9), .mov (.t 36), none, []⟩])))))))
    (.reg [
      ⟨(some 15), .mov (.t 8), none, []⟩,
      ⟨(some 16), .bin .add (.t 15) (.c (.i 1)), none, []⟩,
      ⟨(some 8), .mov (.t 16), none, []⟩])))))⟩
theorem r231_is : IsFn Tryz.prog 231 r231 := ⟨Tryz.f231, by kernel_rfl, by kernel_rfl⟩
/-- slices.heapSortCmpFunc[errata/api.Cand] -/
def r232 : RFn := ⟨60, [], .seq (.reg [
    ⟨(some 13), .mov (.t 1), none, []⟩,
    ⟨(some 8), .mov (.t 13), none, []⟩])
  (.seq (.reg [
    ⟨(some 9), .mov (.c (.i 0)), none, []⟩])
  (.seq (.reg [
    ⟨(some 14), .mov (.t 2), none, []⟩,
    ⟨(some 15), .mov (.t 1), none, []⟩,
    ⟨(some 16), .bin .sub (.t 14) (.t 15), none, []⟩,
    ⟨(some 10), .mov (.t 16), none, []⟩])
  (.seq (.seq (.reg [
    ⟨(some 17), .mov (.t 10), none, []⟩,
    ⟨(some 18), .bin .sub (.t 17) (.c (.i 1)), none, []⟩,
    ⟨(some 19), .bin .quo (.t 18) (.c (.i 2)), none, []⟩,
    ⟨(some 11), .mov (.t 19), none, []⟩])
  (.block 0 (.loop (.seq (.seq (.reg [
      ⟨(some 20), .mov (.t 11), none, []⟩,
      ⟨(some 21), .bin .geq (.t 20) (.c (.i 0)), none, []⟩])
    (.cond (.t 21) (.skip) (.exit 0)))
    (.seq (.block 1 (.reg [
       ⟨(some 24), .mov (.t 0), none, []⟩,
       ⟨(some 25), .mov (.t 11), none, []⟩,
       ⟨(some 26), .mov (.t 10), none, []⟩,
       ⟨(some 27), .mov (.t 8), none, []⟩,
       ⟨(some 28), .mov (.t 3), none, []⟩,
       ⟨(some 29), .call (.fn 257) [.t 24, .t 25, .t 26, .t 27, .t 28], none, []⟩]))
    (.reg [
      ⟨(some 22), .mov (.t 11), none, []⟩,
      ⟨(some 23), .bin .sub (.t 22) (.c (.i 1)), none, []⟩,
      ⟨(some 11), .mov (.t 23), none, []⟩]))))))
  (.seq (.reg [
    ⟨(some 30), .mov (.t 10), none, []⟩,
    ⟨(some 31), .bin .sub (.t 30) (.c (.i 1)), none, []⟩,
    ⟨(some 12), .mov (.t 31), none, []⟩])
  (.block 2 (.loop (.seq (.seq (.reg [
      ⟨(some 32), .mov (.t 12), none, []⟩,
      ⟨(some 33), .bin .geq (.t 32) (.c (.i 0)), none, []⟩])
    (.cond (.t 33) (.skip) (.exit 2)))
    (.seq (.block 3 (.seq (.reg [
       ⟨(some 36), .mov (.t 0), none, []⟩,
       ⟨(some 37), .mov (.t 8), none, []⟩,
       ⟨(some 38), .mov (.t 0), none, []⟩,
       ⟨(some 39), .mov (.t 8), none, []⟩,
       ⟨(some 40), .mov (.t 12), none, []⟩,
       ⟨(some 41), .bin .add (.t 39) (.t 40), none, []⟩,
       ⟨(some 42), .mov (.t 0), none, []⟩,
       ⟨(some 43), .mov (.t 8), none, []⟩,
       ⟨(some 44), .mov (.t 12), none, []⟩,
       ⟨(some 45), .bin .add (.t 43) (.t 44), none, []⟩,
       ⟨(some 46), .iaddr 3 (.t 42) (.t 45), none, []⟩,
       ⟨(some 47), .load true 3 (.t 46), none, []⟩,
       ⟨(some 48), .mov (.t 0), none, []⟩,
       ⟨(some 49), .mov (.t 8), none, []⟩,
       ⟨(some 50), .iaddr 3 (.t 48) (.t 49), none, []⟩,
       ⟨(some 51), .load true 3 (.t 50), none, []⟩,
       ⟨(some 52), .iaddr 3 (.t 36) (.t 37), none, []⟩,
       ⟨none, .store 3 (.t 52) (.t 47), none, []⟩,
       ⟨(some 53), .iaddr 3 (.t 38) (.t 41), none, []⟩,
       ⟨none, .store 3 (.t 53) (.t 51), none, []⟩])
     (.reg [
       ⟨(some 54), .mov (.t 0), none, []⟩,
       ⟨(some 55), .mov (.t 9), none, []⟩,
       ⟨(some 56), .mov (.t 12), none, []⟩,
       ⟨(some 57), .mov (.t 8), none, []⟩,
       ⟨(some 58), .mov (.t 3), none, []⟩,
       ⟨(some 59), .call (.fn 257) [.t 54, .t 55, .t 56, .t 57, .t 58], none, []⟩])))
    (.reg [
      ⟨(some 34), .mov (.t 12), none, []⟩,
      ⟨(some 35), .bin .sub (.t 34) (.c (.i 1)), none, []⟩,
      ⟨(some 12), .mov (.t 35), none, []⟩])))))))))⟩
theorem r232_is : IsFn Tryz.prog 232 r232 := ⟨Tryz.f232, by kernel_rfl, by kernel_rfl⟩
/-- slices.breakPatternsCmpFunc[errata/api.Cand] -/
def r233 : RFn := ⟨67, [], .seq (.reg [
    ⟨(some 13), .mov (.t 2), none, []⟩,
    ⟨(some 14), .mov (.t 1), none, []⟩,
    ⟨(some 15), .bin .sub (.t 13) (.t 14), none, []⟩,
    ⟨(some 8), .mov (.t 15), none, []⟩])
  (.seq (.reg [
    ⟨(some 16), .mov (.t 8), none, []⟩,
    ⟨(some 17), .bin .geq (.t 16) (.c (.i 8)), none, []⟩])
  (.cond (.t 17) (.seq (.reg [
     ⟨(some 18), .mov (.t 8), none, []⟩,
     ⟨(some 19), .cvi .u64 (.t 18), none, []⟩,
     ⟨(some 9), .alloc [.v (.int .u64 0)] 391, none, []⟩,
     ⟨none, .store 1 (.t 9) (.t 19), none, []⟩])
   (.seq (.reg [
     ⟨(some 20), .mov (.t 8), none, []⟩,
     ⟨(some 21), .call (.fn 258) [.t 20], none, []⟩,
     ⟨(some 10), .mov (.t 21), none, []⟩])
   (.seq (.reg [
     ⟨(some 22), .mov (.t 1), none, []⟩,
     ⟨(some 23), .mov (.t 8), none, []⟩,
     ⟨(some 24), .bin .quo (.t 23) (.c (.i 4)), none, []⟩,
     ⟨(some 25), .bin .mul (.t 24) (.c (.i 2)), none, []⟩,
     ⟨(some 26), .bin .add (.t 22) (.t 25), none, []⟩,
     ⟨(some 27), .bin .sub (.t 26) (.c (.i 1)), none, []⟩,
     ⟨(some 11), .mov (.t 27), none, []⟩])
   (.block 0 (.loop (.seq (.seq (.reg [
       ⟨(some 28), .mov (.t 11), none, []⟩,
       ⟨(some 29), .mov (.t 1), none, []⟩,
       ⟨(some 30), .mov (.t 8), none, []⟩,
       ⟨(some 31), .bin .quo (.t 30) (.c (.i 4)), none, []⟩,
       ⟨(some 32), .bin .mul (.t 31) (.c (.i 2)), none, []⟩,
       ⟨(some 33), .bin .add (.t 29) (.t 32), none, []⟩,
       ⟨(some 34), .bin .add (.t 33) (.c (.i 1)), none, []⟩,
       ⟨(some 35), .bin .leq (.t 28) (.t 34), none, []⟩])
     (.cond (.t 35) (.skip) (.exit 0)))
     (.seq (.block 1 (.seq (.reg [
        ⟨(some 38), .call (.fn 259) [.t 9], none, []⟩,
        ⟨(some 39), .mov (.t 10), none, []⟩,
        ⟨(some 40), .bin .sub (.t 39) (.c (.v (.int .u64 1))), none, []⟩,
        ⟨(some 41), .bin .and (.t 38) (.t 40), none, []⟩,
        ⟨(some 42), .cvi .i64 (.t 41), none, []⟩,
        ⟨(some 12), .mov (.t 42), none, []⟩])
      (.seq (.seq (.reg [
        ⟨(some 43), .mov (.t 12), none, []⟩,
        ⟨(some 44), .mov (.t 8), none, []⟩,
        ⟨(some 45), .bin .geq (.t 43) (.t 44), none, []⟩])
      (.cond (.t 45) (.reg [
         ⟨(some 46), .mov (.t 12), none, []⟩,
         ⟨(some 47), .mov (.t 8), none, []⟩,
         ⟨(some 48), .bin .sub (.t 46) (.t 47), none, []⟩,
         ⟨(some 12), .mov (.t 48), none, []⟩]) (.skip)))
      (.reg [
        ⟨(some 49), .mov (.t 0), none, []⟩,
        ⟨(some 50), .mov (.t 11), none, []⟩,
        ⟨(some 51), .mov (.t 0), none, []⟩,
        ⟨(some 52), .mov (.t 1), none, []⟩,
        ⟨(some 53), .mov (.t 12), none, []⟩,
        ⟨(some 54), .bin .add (.t 52) (.t 53), none, []⟩,
        ⟨(some 55), .mov (.t 0), none, []⟩,
        ⟨(some 56), .mov (.t 1), none, []⟩,
        ⟨(some 57), .mov (.t 12), none, []⟩,
        ⟨(some 58), .bin .add (.t 56) (.t 57), none, []⟩,
        ⟨(some 59), .iaddr 3 (.t 55) (.t 58), none, []⟩,
        ⟨(some 60), .load true 3 (.t 59), none, []⟩,
        ⟨(some 61), .mov (.t 0), none, []⟩,
        ⟨(some 62), .mov (.t 11), none, []⟩,
        ⟨(some 63), .iaddr 3 (.t 61) (.t 62), none, []⟩,
        ⟨(some 64), .load true 3 (.t 63), none, []⟩,
        ⟨(some 65), .iaddr 3 (.t 49) (.t 50), none, []⟩,
        ⟨none, .store 3 (.t 65) (.t 60), none, []⟩,
        ⟨(some 66), .iaddr 3 (.t 51) (.t 54), none, []⟩,
        ⟨none, .store 3 (.t 66) (.t 64), none, []⟩]))))
     (.reg [
       ⟨(some 36), .mov (.t 11), none, []⟩,
       ⟨(some 37), .bin .add (.t 36) (.c (.i 1)), none, []⟩,
       ⟨(some 11), .mov (.t 37), none, []⟩])))))))) (.skip)))⟩
theorem r233_is : IsFn Tryz.prog 233 r233 := ⟨Tryz.f233, by kernel_rfl, by kernel_rfl⟩
/-- slices.choosePivotCmpFunc[errata/api.Cand] -/
def r234 : RFn := ⟨63, [.t 8, .t 9], .seq (.reg [
    ⟨(some 8), .mov (.c (.i 0)), none, []⟩,
    ⟨(some 9), .mov (.c (.i 0)), none, []⟩])
  (.seq (.reg [
    ⟨(some 15), .mov (.t 2), none, []⟩,
    ⟨(some 16), .mov (.t 1), none, []⟩,
    ⟨(some 17), .bin .sub (.t 15) (.t 16), none, []⟩,
    ⟨(some 10), .mov (.t 17), none, []⟩])
  (.seq (.reg [
    ⟨(some 11), .alloc [.i 0] 3, none, []⟩])
  (.seq (.reg [
    ⟨(some 18), .mov (.t 1), none, []⟩,
    ⟨(some 19), .mov (.t 10), none, []⟩,
    ⟨(some 20), .bin .quo (.t 19) (.c (.i 4)), none, []⟩,
    ⟨(some 21), .bin .mul (.t 20) (.c (.i 1)), none, []⟩,
    ⟨(some 22), .bin .add (.t 18) (.t 21), none, []⟩,
    ⟨(some 12), .mov (.t 22), none, []⟩])
  (.seq (.reg [
    ⟨(some 23), .mov (.t 1), none, []⟩,
    ⟨(some 24), .mov (.t 10), none, []⟩,
    ⟨(some 25), .bin .quo (.t 24) (.c (.i 4)), none, []⟩,
    ⟨(some 26), .bin .mul (.t 25) (.c (.i 2)), none, []⟩,
    ⟨(some 27), .bin .add (.t 23) (.t 26), none, []⟩,
    ⟨(some 13), .mov (.t 27), none, []⟩])
  (.seq (.reg [
    ⟨(some 28), .mov (.t 1), none, []⟩,
    ⟨(some 29), .mov (.t 10), none, []⟩,
    ⟨(some 30), .bin .quo (.t 29) (.c (.i 4)), none, []⟩,
    ⟨(some 31), .bin .mul (.t 30) (.c (.i 3)), none, []⟩,
    ⟨(some 32), .bin .add (.t 28) (.t 31), none, []⟩,
    ⟨(some 14), .mov (.t 32), none, []⟩])
  (.seq (.seq (.reg [
    ⟨(some 33), .mov (.t 10), none, []⟩,
    ⟨(some 34), .bin .geq (.t 33) (.c (.i 8)), none, []⟩])
  (.cond (.t 34) (.seq (.seq (.reg [
     ⟨(some 35), .mov (.t 10), none, []⟩,
     ⟨(some 36), .bin .geq (.t 35) (.c (.i 50)), none, []⟩])
   (.cond (.t 36) (.seq (.reg [
      ⟨(some 37), .mov (.t 0), none, []⟩,
      ⟨(some 38), .mov (.t 12), none, []⟩,
      ⟨(some 39), .mov (.t 3), none, []⟩,
      ⟨(some 40), .call (.fn 260) [.t 37, .t 38, .t 11, .t 39], none, []⟩,
      ⟨(some 12), .mov (.t 40), none, []⟩])
    (.seq (.reg [
      ⟨(some 41), .mov (.t 0), none, []⟩,
      ⟨(some 42), .mov (.t 13), none, []⟩,
      ⟨(some 43), .mov (.t 3), none, []⟩,
      ⟨(some 44), .call (.fn 260) [.t 41, .t 42, .t 11, .t 43], none, []⟩,
      ⟨(some 13), .mov (.t 44), none, []⟩])
    (.reg [
      ⟨(some 45), .mov (.t 0), none, []⟩,
      ⟨(some 46), .mov (.t 14), none, []⟩,
      ⟨(some 47), .mov (.t 3), none, []⟩,
      ⟨(some 48), .call (.fn 260) [.t 45, .t 46, .t 11, .t 47], none, []⟩,
      ⟨(some 14), .mov (.t 48), none, []⟩]))) (.skip)))
   (.reg [
     ⟨(some 49), .mov (.t 0), none, []⟩,
     ⟨(some 50), .mov (.t 12), none, []⟩,
     ⟨(some 51), .mov (.t 13), none, []⟩,
     ⟨(some 52), .mov (.t 14), none, []⟩,
     ⟨(some 53), .mov (.t 3), none, []⟩,
     ⟨(some 54), .call (.fn 261) [.t 49, .t 50, .t 51, .t 52, .t 11, .t 53], none, []⟩,
     ⟨(some 13), .mov (.t 54), none, []⟩])) (.skip)))
  (.seq (.reg [
    ⟨(some 55), .load false 1 (.t 11), none, []⟩])
  (.block 0 (.seq (.reg [
     ⟨(some 58), .bin .eql (.t 55) (.c (.i 0)), none, []⟩,
     ⟨(some 57), .mov (.t 58), none, []⟩])
   (.cond (.t 57) (.seq (.reg [
      ⟨(some 59), .mov (.t 13), none, []⟩,
      ⟨(some 8), .mov (.t 59), none, []⟩,
      ⟨(some 9), .mov (.c (.i 1)), none, []⟩])
    (.ret)) (.seq (.reg [
      ⟨(some 61), .bin .eql (.t 55) (.c (.i 12)), none, []⟩,
      ⟨(some 60), .mov (.t 61), none, []⟩])
    (.cond (.t 60) (.seq (.reg [
       ⟨(some 62), .mov (.t 13), none, []⟩,
       ⟨(some 8), .mov (.t 62), none, []⟩,
       ⟨(some 9), .mov (.c (.i 2)), none, []⟩])
     (.ret)) (.seq (.reg [
       ⟨(some 56), .mov (.t 13), none, []⟩,
       ⟨(some 8), .mov (.t 56), none, []⟩,
       ⟨(some 9), .mov (.c (.i 0)), none, []⟩])
     (.ret))))))))))))))⟩
theorem r234_is : IsFn Tryz.prog 234 r234 := ⟨Tryz.f234, by kernel_rfl, by kernel_rfl⟩
/-- slices.reverseRangeCmpFunc[errata/api.Cand] -/
def r235 : RFn := ⟨34, [], .seq (.reg [
    ⟨(some 10), .mov (.t 1), none, []⟩,
    ⟨(some 8), .mov (.t 10), none, []⟩])
  (.seq (.reg [
    ⟨(some 11), .mov (.t 2), none, []⟩,
    ⟨(some 12), .bin .sub (.t 11) (.c (.i 1)), none, []⟩,
    ⟨(some 9), .mov (.t 12), none, []⟩])
  (.block 0 (.loop (.seq (.seq (.reg [
      ⟨(some 13), .mov (.t 8), none, []⟩,
      ⟨(some 14), .mov (.t 9), none, []⟩,
      ⟨(some 15), .bin .lss (.t 13) (.t 14), none, []⟩])
    (.cond (.t 15) (.skip) (.exit 0)))
    (.block 1 (.seq (.reg [
       ⟨(some 16), .mov (.t 0), none, []⟩,
       ⟨(some 17), .mov (.t 8), none, []⟩,
       ⟨(some 18), .mov (.t 0), none, []⟩,
       ⟨(some 19), .mov (.t 9), none, []⟩,
       ⟨(some 20), .mov (.t 0), none, []⟩,
       ⟨(some 21), .mov (.t 9), none, []⟩,
       ⟨(some 22), .iaddr 3 (.t 20) (.t 21), none, []⟩,
       ⟨(some 23), .load true 3 (.t 22), none, []⟩,
       ⟨(some 24), .mov (.t 0), none, []⟩,
       ⟨(some 25), .mov (.t 8), none, []⟩,
       ⟨(some 26), .iaddr 3 (.t 24) (.t 25), none, []⟩,
       ⟨(some 27), .load true 3 (.t 26), none, []⟩,
       ⟨(some 28), .iaddr 3 (.t 16) (.t 17), none, []⟩,
       ⟨none, .store 3 (.t 28) (.t 23), none, []⟩,
       ⟨(some 29), .iaddr 3 (.t 18) (.t 19), none, []⟩,
       ⟨none, .store 3 (.t 29) (.t 27), none, []⟩])
     (.seq (.reg [
       ⟨(some 30), .mov (.t 8), none, []⟩,
       ⟨(some 31), .bin .add (.t 30) (.c (.i 1)), none, []⟩,
       ⟨(some 8), .mov (.t 31), none, []⟩])
     (.reg [
       ⟨(some 32), .mov (.t 9), none, []⟩,
       ⟨(some 33), .bin .sub (.t 32) (.c (.i 1)), none, []⟩,
       ⟨(some 9), .mov (.t 33), none, []⟩]))))))))⟩
theorem r235_is : IsFn Tryz.prog 235 r235 := ⟨Tryz.f235, by kernel_rfl, by kernel_rfl⟩
/-- slices.partialInsertionSortCmpFunc[errata/api.Cand] -/
def r236 : RFn := ⟨141, [.t 8], .seq (.reg [
    ⟨(some 8), .mov (.c (.b false)), none, []⟩])
  (.seq (.reg [
    ⟨(some 13), .mov (.t 1), none, []⟩,
    ⟨(some 14), .bin .add (.t 13) (.c (.i 1)), none, []⟩,
    ⟨(some 9), .mov (.t 14), none, []⟩])
  (.seq (.seq (.reg [
    ⟨(some 10), .mov (.c (.i 0)), none, []⟩])
  (.block 0 (.loop (.seq (.seq (.reg [
      ⟨(some 15), .mov (.t 10), none, []⟩,
      ⟨(some 16), .bin .lss (.t 15) (.c (.i 5)), none, []⟩])
    (.cond (.t 16) (.skip) (.exit 0)))
    (.seq (.block 1 (.seq (.block 2 (.loop (.seq (.seq (.reg [
         ⟨(some 19), .mov (.t 9), none, []⟩,
         ⟨(some 20), .mov (.t 2), none, []⟩,
         ⟨(some 21), .bin .lss (.t 19) (.t 20), none, []⟩,
         ⟨(some 22), .mov (.t 21), none, []⟩,
         ⟨(some 23), .mov (.t 3), (some (22, true)), []⟩,
         ⟨(some 24), .mov (.t 0), (some (22, true)), []⟩,
         ⟨(some 25), .mov (.t 9), (some (22, true)), []⟩,
         ⟨(some 26), .iaddr 3 (.t 24) (.t 25), (some (22, true)), []⟩,
         ⟨(some 27), .load true 3 (.t 26), (some (22, true)), []⟩,
         ⟨(some 28), .mov (.t 0), (some (22, true)), []⟩,
         ⟨(some 29), .mov (.t 9), (some (22, true)), []⟩,
         ⟨(some 30), .bin .sub (.t 29) (.c (.i 1)), (some (22, true)), []⟩,
         ⟨(some 31), .iaddr 3 (.t 28) (.t 30), (some (22, true)), []⟩,
         ⟨(some 32), .load true 3 (.t 31), (some (22, true)), []⟩,
         ⟨(some 33), .call (.val (.t 23)) [.t 27, .t 32], (some (22, true)), []⟩,
         ⟨(some 34), .bin .lss (.t 33) (.c (.i 0)), (some (22, true)), []⟩,
         ⟨(some 35), .un .not (.t 34), (some (22, true)), []⟩,
         ⟨(some 36), .pick (.t 22) (.t 35) (.c (.b false)), none, []⟩])
       (.cond (.t 36) (.skip) (.exit 2)))
       (.block 3 (.reg [
          ⟨(some 37), .mov (.t 9), none, []⟩,
          ⟨(some 38), .bin .add (.t 37) (.c (.i 1)), none, []⟩,
          ⟨(some 9), .mov (.t 38), none, []⟩])))))
     (.seq (.seq (.reg [
       ⟨(some 39), .mov (.t 9), none, []⟩,
       ⟨(some 40), .mov (.t 2), none, []⟩,
       ⟨(some 41), .bin .eql (.t 39) (.t 40), none, []⟩])
     (.cond (.t 41) (.seq (.reg [
        ⟨(some 8), .mov (.c (.b true)), none, []⟩])
      (.ret)) (.skip)))
     (.seq (.seq (.reg [
       ⟨(some 42), .mov (.t 2), none, []⟩,
       ⟨(some 43), .mov (.t 1), none, []⟩,
       ⟨(some 44), .bin .sub (.t 42) (.t 43), none, []⟩,
       ⟨(some 45), .bin .lss (.t 44) (.c (.i 50)), none, []⟩])
     (.cond (.t 45) (.seq (.reg [
        ⟨(some 8), .mov (.c (.b false)), none, []⟩])
      (.ret)) (.skip)))
     (.seq (.reg [
       ⟨(some 46), .mov (.t 0), none, []⟩,
       ⟨(some 47), .mov (.t 9), none, []⟩,
       ⟨(some 48), .mov (.t 0), none, []⟩,
       ⟨(some 49), .mov (.t 9), none, []⟩,
       ⟨(some 50), .bin .sub (.t 49) (.c (.i 1)), none, []⟩,
       ⟨(some 51), .mov (.t 0), none, []⟩,
       ⟨(some 52), .mov (.t 9), none, []⟩,
       ⟨(some 53), .bin .sub (.t 52) (.c (.i 1)), none, []⟩,
       ⟨(some 54), .iaddr 3 (.t 51) (.t 53), none, []⟩,
       ⟨(some 55), .load true 3 (.t 54), none, []⟩,
       ⟨(some 56), .mov (.t 0), none, []⟩,
       ⟨(some 57), .mov (.t 9), none, []⟩,
       ⟨(some 58), .iaddr 3 (.t 56) (.t 57), none, []⟩,
       ⟨(some 59), .load true 3 (.t 58), none, []⟩,
       ⟨(some 60), .iaddr 3 (.t 46) (.t 47), none, []⟩,
       ⟨none, .store 3 (.t 60) (.t 55), none, []⟩,
       ⟨(some 61), .iaddr 3 (.t 48) (.t 50), none, []⟩,
       ⟨none, .store 3 (.t 61) (.t 59), none, []⟩])
     (.seq (.seq (.reg [
       ⟨(some 62), .mov (.t 9), none, []⟩,
       ⟨(some 63), .mov (.t 1), none, []⟩,
       ⟨(some 64), .bin .sub (.t 62) (.t 63), none, []⟩,
       ⟨(some 65), .bin .geq (.t 64) (.c (.i 2)), none, []⟩])
     (.cond (.t 65) (.seq (.reg [
        ⟨(some 66), .mov (.t 9), none, []⟩,
        ⟨(some 67), .bin .sub (.t 66) (.c (.i 1)), none, []⟩,
        ⟨(some 11), .mov (.t 67), none, []⟩])
      (.block 4 (.loop (.seq (.seq (.reg [
          ⟨(some 68), .mov (.t 11), none, []⟩,
          ⟨(some 69), .bin .geq (.t 68) (.c (.i 1)), none, []⟩])
        (.cond (.t 69) (.skip) (.exit 4)))
        (.seq (.block 5 (.seq (.seq (.reg [
           ⟨(some 72), .mov (.t 3), none, []⟩,
           ⟨(some 73), .mov (.t 0), none, []⟩,
           ⟨(some 74), .mov (.t 11), none, []⟩,
           ⟨(some 75), .iaddr 3 (.t 73) (.t 74), none, []⟩,
           ⟨(some 76), .load true 3 (.t 75), none, []⟩,
           ⟨(some 77), .mov (.t 0), none, []⟩,
           ⟨(some 78), .mov (.t 11), none, []⟩,
           ⟨(some 79), .bin .sub (.t 78) (.c (.i 1)), none, []⟩,
           ⟨(some 80), .iaddr 3 (.t 77) (.t 79), none, []⟩,
           ⟨(some 81), .load true 3 (.t 80), none, []⟩,
           ⟨(some 82), .call (.val (.t 72)) [.t 76, .t 81], none, []⟩,
           ⟨(some 83), .bin .lss (.t 82) (.c (.i 0)), none, []⟩,
           ⟨(some 84), .un .not (.t 83), none, []⟩])
         (.cond (.t 84) (.exit 4) (.skip)))
         (.reg [
           ⟨(some 85), .mov (.t 0), none, []⟩,
           ⟨(some 86), .mov (.t 11), none, []⟩,
           ⟨(some 87), .mov (.t 0), none, []⟩,
           ⟨(some 88), .mov (.t 11), none, []⟩,
           ⟨(some 89), .bin .sub (.t 88) (.c (.i 1)), none, []⟩,
           ⟨(some 90), .mov (.t 0), none, []⟩,
           ⟨(some 91), .mov (.t 11), none, []⟩,
           ⟨(some 92), .bin .sub (.t 91) (.c (.i 1)), none, []⟩,
           ⟨(some 93), .iaddr 3 (.t 90) (.t 92), none, []⟩,
           ⟨(some 94), .load true 3 (.t 93), none, []⟩,
           ⟨(some 95), .mov (.t 0), none, []⟩,
           ⟨(some 96), .mov (.t 11), none, []⟩,
           ⟨(some 97), .iaddr 3 (.t 95) (.t 96), none, []⟩,
           ⟨(some 98), .load true 3 (.t 97), none, []⟩,
           ⟨(some 99), .iaddr 3 (.t 85) (.t 86), none, []⟩,
           ⟨none, .store 3 (.t 99) (.t 94), none, []⟩,
           ⟨(some 100), .iaddr 3 (.t 87) (.t 89), none, []⟩,
           ⟨none, .store 3 (.t 100) (.t 98), none, []⟩])))
        (.reg [
          ⟨(some 70), .mov (.t 11), none, []⟩,
          ⟨(some 71), .bin .sub (.t 70) (.c (.i 1)), none, []⟩,
          ⟨(some 11), .mov (.t 71), none, []⟩])))))) (.skip)))
     (.seq (.reg [
       ⟨(some 101), .mov (.t 2), none, []⟩,
       ⟨(some 102), .mov (.t 9), none, []⟩,
       ⟨(some 103), .bin .sub (.t 101) (.t 102), none, []⟩,
       ⟨(some 104), .bin .geq (.t 103) (.c (.i 2)), none, []⟩])
     (.cond (.t 104) (.seq (.reg [
        ⟨(some 105), .mov (.t 9), none, []⟩,
        ⟨(some 106), .bin .add (.t 105) (.c (.i 1)), none, []⟩,
        ⟨(some 12), .mov (.t 106), none, []⟩])
      (.block 6 (.loop (.seq (.seq (.reg [
          ⟨(some 107), .mov (.t 12), none, []⟩,
          ⟨(some 108), .mov (.t 2), none, []⟩,
          ⟨(some 109), .bin .lss (.t 107) (.t 108), none, []⟩])
        (.cond (.t 109) (.skip) (.exit 6)))
        (.seq (.block 7 (.seq (.seq (.reg [
           ⟨(some 112), .mov (.t 3), none, []⟩,
           ⟨(some 113), .mov (.t 0), none, []⟩,
           ⟨(some 114), .mov (.t 12), none, []⟩,
           ⟨(some 115), .iaddr 3 (.t 113) (.t 114), none, []⟩,
           ⟨(some 116), .load true 3 (.t 115), none, []⟩,
           ⟨(some 117), .mov (.t 0), none, []⟩,
           ⟨(some 118), .mov (.t 12), none, []⟩,
           ⟨(some 119), .bin .sub (.t 118) (.c (.i 1)), none, []⟩,
           ⟨(some 120), .iaddr 3 (.t 117) (.t 119), none, []⟩,
           ⟨(some 121), .load true 3 (.t 120), none, []⟩,
           ⟨(some 122), .call (.val (.t 112)) [.t 116, .t 121], none, []⟩,
           ⟨(some 123), .bin .lss (.t 122) (.c (.i 0)), none, []⟩,
           ⟨(some 124), .un .not (.t 123), none, []⟩])
         (.cond (.t 124) (.exit 6) (.skip)))
         (.reg [
           ⟨(some 125), .mov (.t 0), none, []⟩,
           ⟨(some 126), .mov (.t 12), none, []⟩,
           ⟨(some 127), .mov (.t 0), none, []⟩,
           ⟨(some 128), .mov (.t 12), none, []⟩,
           ⟨(some 129), .bin .sub (.t 128) (.c (.i 1)), none, []⟩,
           ⟨(some 130), .mov (.t 0), none, []⟩,
           ⟨(some 131), .mov (.t 12), none, []⟩,
           ⟨(some 132), .bin .sub (.t 131) (.c (.i 1)), none, []⟩,
           ⟨(some 133), .iaddr 3 (.t 130) (.t 132), none, []⟩,
           ⟨(some 134), .load true 3 (.t 133), none, []⟩,
           ⟨(some 135), .mov (.t 0), none, []⟩,
           ⟨(some 136), .mov (.t 12), none, []⟩,
           ⟨(some 137), .iaddr 3 (.t 135) (.t 136), none, []⟩,
           ⟨(some 138), .load true 3 (.t 137), none, []⟩,
           ⟨(some 139), .iaddr 3 (.t 125) (.t 126), none, []⟩,
           ⟨none, .store 3 (.t 139) (.t 134), none, []⟩,
           ⟨(some 140), .iaddr 3 (.t 127) (.t 129), none, []⟩,
           ⟨none, .store 3 (.t 140) (.t 138), none, []⟩])))
        (.reg [
          ⟨(some 110), .mov (.t 12), none, []⟩,
          ⟨(some 111), .bin .add (.t 110) (.c (.i 1)), none, []⟩,
          ⟨(some 12), .mov (.t 111), none, []⟩])))))) (.skip)))))))))
    (.reg [
      ⟨(some 17), .mov (.t 10), none, []⟩,
      ⟨(some 18), .bin .add (.t 17) (.c (.i 1)), none, []⟩,
      ⟨(some 10), .mov (.t 18), none, []⟩]))))))
  (.seq (.reg [
    ⟨(some 8), .mov (.c (.b false)), none, []⟩])
  (.ret))))⟩
theorem r236_is : IsFn Tryz.prog 236 r236 := ⟨Tryz.f236, by kernel_rfl, by kernel_rfl⟩
/-- slices.partitionEqualCmpFunc[errata/api.Cand] -/
def r237 : RFn := ⟨90, [.t 10], .seq (.reg [
    ⟨(some 10), .mov (.c (.i 0)), none, []⟩])
  (.seq (.reg [
    ⟨(some 13), .mov (.t 0), none, []⟩,
    ⟨(some 14), .mov (.t 1), none, []⟩,
    ⟨(some 15), .mov (.t 0), none, []⟩,
    ⟨(some 16), .mov (.t 3), none, []⟩,
    ⟨(some 17), .mov (.t 0), none, []⟩,
    ⟨(some 18), .mov (.t 3), none, []⟩,
    ⟨(some 19), .iaddr 3 (.t 17) (.t 18), none, []⟩,
    ⟨(some 20), .load true 3 (.t 19), none, []⟩,
    ⟨(some 21), .mov (.t 0), none, []⟩,
    ⟨(some 22), .mov (.t 1), none, []⟩,
    ⟨(some 23), .iaddr 3 (.t 21) (.t 22), none, []⟩,
    ⟨(some 24), .load true 3 (.t 23), none, []⟩,
    ⟨(some 25), .iaddr 3 (.t 13) (.t 14), none, []⟩,
    ⟨none, .store 3 (.t 25) (.t 20), none, []⟩,
    ⟨(some 26), .iaddr 3 (.t 15) (.t 16), none, []⟩,
    ⟨none, .store 3 (.t 26) (.t 24), none, []⟩])
  (.seq (.reg [
    ⟨(some 27), .mov (.t 1), none, []⟩,
    ⟨(some 28), .bin .add (.t 27) (.c (.i 1)), none, []⟩,
    ⟨(some 29), .mov (.t 2), none, []⟩,
    ⟨(some 30), .bin .sub (.t 29) (.c (.i 1)), none, []⟩,
    ⟨(some 11), .mov (.t 28), none, []⟩,
    ⟨(some 12), .mov (.t 30), none, []⟩])
  (.seq (.block 0 (.loop (.block 1 (.seq (.block 2 (.loop (.seq (.seq (.reg [
         ⟨(some 31), .mov (.t 11), none, []⟩,
         ⟨(some 32), .mov (.t 12), none, []⟩,
         ⟨(some 33), .bin .leq (.t 31) (.t 32), none, []⟩,
         ⟨(some 34), .mov (.t 33), none, []⟩,
         ⟨(some 35), .mov (.t 4), (some (34, true)), []⟩,
         ⟨(some 36), .mov (.t 0), (some (34, true)), []⟩,
         ⟨(some 37), .mov (.t 1), (some (34, true)), []⟩,
         ⟨(some 38), .iaddr 3 (.t 36) (.t 37), (some (34, true)), []⟩,
         ⟨(some 39), .load true 3 (.t 38), (some (34, true)), []⟩,
         ⟨(some 40), .mov (.t 0), (some (34, true)), []⟩,
         ⟨(some 41), .mov (.t 11), (some (34, true)), []⟩,
         ⟨(some 42), .iaddr 3 (.t 40) (.t 41), (some (34, true)), []⟩,
         ⟨(some 43), .load true 3 (.t 42), (some (34, true)), []⟩,
         ⟨(some 44), .call (.val (.t 35)) [.t 39, .t 43], (some (34, true)), []⟩,
         ⟨(some 45), .bin .lss (.t 44) (.c (.i 0)), (some (34, true)), []⟩,
         ⟨(some 46), .un .not (.t 45), (some (34, true)), []⟩,
         ⟨(some 47), .pick (.t 34) (.t 46) (.c (.b false)), none, []⟩])
       (.cond (.t 47) (.skip) (.exit 2)))
       (.block 3 (.reg [
          ⟨(some 48), .mov (.t 11), none, []⟩,
          ⟨(some 49), .bin .add (.t 48) (.c (.i 1)), none, []⟩,
          ⟨(some 11), .mov (.t 49), none, []⟩])))))
     (.seq (.block 4 (.loop (.seq (.seq (.reg [
         ⟨(some 50), .mov (.t 11), none, []⟩,
         ⟨(some 51), .mov (.t 12), none, []⟩,
         ⟨(some 52), .bin .leq (.t 50) (.t 51), none, []⟩,
         ⟨(some 53), .mov (.t 52), none, []⟩,
         ⟨(some 54), .mov (.t 4), (some (53, true)), []⟩,
         ⟨(some 55), .mov (.t 0), (some (53, true)), []⟩,
         ⟨(some 56), .mov (.t 1), (some (53, true)), []⟩,
         ⟨(some 57), .iaddr 3 (.t 55) (.t 56), (some (53, true)), []⟩,
         ⟨(some 58), .load true 3 (.t 57), (some (53, true)), []⟩,
         ⟨(some 59), .mov (.t 0), (some (53, true)), []⟩,
         ⟨(some 60), .mov (.t 12), (some (53, true)), []⟩,
         ⟨(some 61), .iaddr 3 (.t 59) (.t 60), (some (53, true)), []⟩,
         ⟨(some 62), .load true 3 (.t 61), (some (53, true)), []⟩,
         ⟨(some 63), .call (.val (.t 54)) [.t 58, .t 62], (some (53, true)), []⟩,
         ⟨(some 64), .bin .lss (.t 63) (.c (.i 0)), (some (53, true)), []⟩,
         ⟨(some 65), .pick (.t 53) (.t 64) (.c (.b false)), none, []⟩])
       (.cond (.t 65) (.skip) (.exit 4)))
       (.block 5 (.reg [
          ⟨(some 66), .mov (.t 12), none, []⟩,
          ⟨(some 67), .bin .sub (.t 66) (.c (.i 1)), none, []⟩,
          ⟨(some 12), .mov (.t 67), none, []⟩])))))
     (.seq (.seq (.reg [
       ⟨(some 68), .mov (.t 11), none, []⟩,
       ⟨(some 69), .mov (.t 12), none, []⟩,
       ⟨(some 70), .bin .gtr (.t 68) (.t 69), none, []⟩])
     (.cond (.t 70) (.exit 0) (.skip)))
     (.seq (.reg [
       ⟨(some 71), .mov (.t 0), none, []⟩,
       ⟨(some 72), .mov (.t 11), none, []⟩,
       ⟨(some 73), .mov (.t 0), none, []⟩,
       ⟨(some 74), .mov (.t 12), none, []⟩,
       ⟨(some 75), .mov (.t 0), none, []⟩,
       ⟨(some 76), .mov (.t 12), none, []⟩,
       ⟨(some 77), .iaddr 3 (.t 75) (.t 76), none, []⟩,
       ⟨(some 78), .load true 3 (.t 77), none, []⟩,
       ⟨(some 79), .mov (.t 0), none, []⟩,
       ⟨(some 80), .mov (.t 11), none, []⟩,
       ⟨(some 81), .iaddr 3 (.t 79) (.t 80), none, []⟩,
       ⟨(some 82), .load true 3 (.t 81), none, []⟩,
       ⟨(some 83), .iaddr 3 (.t 71) (.t 72), none, []⟩,
       ⟨none, .store 3 (.t 83) (.t 78), none, []⟩,
       ⟨(some 84), .iaddr 3 (.t 73) (.t 74), none, []⟩,
       ⟨none, .store 3 (.t 84) (.t 82), none, []⟩])
     (.seq (.reg [
       ⟨(some 85), .mov (.t 11), none, []⟩,
       ⟨(some 86), .bin .add (.t 85) (.c (.i 1)), none, []⟩,
       ⟨(some 11), .mov (.t 86), none, []⟩])
     (.reg [
       ⟨(some 87), .mov (.t 12), none, []⟩,
       ⟨(some 88), .bin .sub (.t 87) (.c (.i 1)), none, []⟩,
       ⟨(some 12), .mov (.t 88), none, []⟩])))))))))
  (.seq (.reg [
    ⟨(some 89), .mov (.t 11), none, []⟩,
    ⟨(some 10), .mov (.t 89), none, []⟩])
  (.ret)))))⟩
theorem r237_is : IsFn Tryz.prog 237 r237 := ⟨Tryz.f237, by kernel_rfl, by kernel_rfl⟩
/-- slices.partitionCmpFunc[errata/api.Cand] -/
def r238 : RFn := ⟨178, [.t 10, .t 11], .seq (.reg [
    ⟨(some 10), .mov (.c (.i 0)), none, []⟩,
    ⟨(some 11), .mov (.c (.b false)), none, []⟩])
  (.seq (.reg [
    ⟨(some 14), .mov (.t 0), none, []⟩,
    ⟨(some 15), .mov (.t 1), none, []⟩,
    ⟨(some 16), .mov (.t 0), none, []⟩,
    ⟨(some 17), .mov (.t 3), none, []⟩,
    ⟨(some 18), .mov (.t 0), none, []⟩,
    ⟨(some 19), .mov (.t 3), none, []⟩,
    ⟨(some 20), .iaddr 3 (.t 18) (.t 19), none, []⟩,
    ⟨(some 21), .load true 3 (.t 20), none, []⟩,
    ⟨(some 22), .mov (.t 0), none, []⟩,
    ⟨(some 23), .mov (.t 1), none, []⟩,
    ⟨(some 24), .iaddr 3 (.t 22) (.t 23), none, []⟩,
    ⟨(some 25), .load true 3 (.t 24), none, []⟩,
    ⟨(some 26), .iaddr 3 (.t 14) (.t 15), none, []⟩,
    ⟨none, .store 3 (.t 26) (.t 21), none, []⟩,
    ⟨(some 27), .iaddr 3 (.t 16) (.t 17), none, []⟩,
    ⟨none, .store 3 (.t 27) (.t 25), none, []⟩])
  (.seq (.reg [
    ⟨(some 28), .mov (.t 1), none, []⟩,
    ⟨(some 29), .bin .add (.t 28) (.c (.i 1)), none, []⟩,
    ⟨(some 30), .mov (.t 2), none, []⟩,
    ⟨(some 31), .bin .sub (.t 30) (.c (.i 1)), none, []⟩,
    ⟨(some 12), .mov (.t 29), none, []⟩,
    ⟨(some 13), .mov (.t 31), none, []⟩])
  (.seq (.block 0 (.loop (.seq (.seq (.reg [
      ⟨(some 32), .mov (.t 12), none, []⟩,
      ⟨(some 33), .mov (.t 13), none, []⟩,
      ⟨(some 34), .bin .leq (.t 32) (.t 33), none, []⟩,
      ⟨(some 35), .mov (.t 34), none, []⟩,
      ⟨(some 36), .mov (.t 4), (some (35, true)), []⟩,
      ⟨(some 37), .mov (.t 0), (some (35, true)), []⟩,
      ⟨(some 38), .mov (.t 12), (some (35, true)), []⟩,
      ⟨(some 39), .iaddr 3 (.t 37) (.t 38), (some (35, true)), []⟩,
      ⟨(some 40), .load true 3 (.t 39), (some (35, true)), []⟩,
      ⟨(some 41), .mov (.t 0), (some (35, true)), []⟩,
      ⟨(some 42), .mov (.t 1), (some (35, true)), []⟩,
      ⟨(some 43), .iaddr 3 (.t 41) (.t 42), (some (35, true)), []⟩,
      ⟨(some 44), .load true 3 (.t 43), (some (35, true)), []⟩,
      ⟨(some 45), .call (.val (.t 36)) [.t 40, .t 44], (some (35, true)), []⟩,
      ⟨(some 46), .bin .lss (.t 45) (.c (.i 0)), (some (35, true)), []⟩,
      ⟨(some 47), .pick (.t 35) (.t 46) (.c (.b false)), none, []⟩])
    (.cond (.t 47) (.skip) (.exit 0)))
    (.block 1 (.reg [
       ⟨(some 48), .mov (.t 12), none, []⟩,
       ⟨(some 49), .bin .add (.t 48) (.c (.i 1)), none, []⟩,
       ⟨(some 12), .mov (.t 49), none, []⟩])))))
  (.seq (.block 2 (.loop (.seq (.seq (.reg [
      ⟨(some 50), .mov (.t 12), none, []⟩,
      ⟨(some 51), .mov (.t 13), none, []⟩,
      ⟨(some 52), .bin .leq (.t 50) (.t 51), none, []⟩,
      ⟨(some 53), .mov (.t 52), none, []⟩,
      ⟨(some 54), .mov (.t 4), (some (53, true)), []⟩,
      ⟨(some 55), .mov (.t 0), (some (53, true)), []⟩,
      ⟨(some 56), .mov (.t 13), (some (53, true)), []⟩,
      ⟨(some 57), .iaddr 3 (.t 55) (.t 56), (some (53, true)), []⟩,
      ⟨(some 58), .load true 3 (.t 57), (some (53, true)), []⟩,
      ⟨(some 59), .mov (.t 0), (some (53, true)), []⟩,
      ⟨(some 60), .mov (.t 1), (some (53, true)), []⟩,
      ⟨(some 61), .iaddr 3 (.t 59) (.t 60), (some (53, true)), []⟩,
      ⟨(some 62), .load true 3 (.t 61), (some (53, true)), []⟩,
      ⟨(some 63), .call (.val (.t 54)) [.t 58, .t 62], (some (53, true)), []⟩,
      ⟨(some 64), .bin .lss (.t 63) (.c (.i 0)), (some (53, true)), []⟩,
      ⟨(some 65), .un .not (.t 64), (some (53, true)), []⟩,
      ⟨(some 66), .pick (.t 53) (.t 65) (.c (.b false)), none, []⟩])
    (.cond (.t 66) (.skip) (.exit 2)))
    (.block 3 (.reg [
       ⟨(some 67), .mov (.t 13), none, []⟩,
       ⟨(some 68), .bin .sub (.t 67) (.c (.i 1)), none, []⟩,
       ⟨(some 13), .mov (.t 68), none, []⟩])))))
  (.seq (.seq (.reg [
    ⟨(some 69), .mov (.t 12), none, []⟩,
    ⟨(some 70), .mov (.t 13), none, []⟩,
    ⟨(some 71), .bin .gtr (.t 69) (.t 70), none, []⟩])
  (.cond (.t 71) (.seq (.reg [
     ⟨(some 72), .mov (.t 0), none, []⟩,
     ⟨(some 73), .mov (.t 13), none, []⟩,
     ⟨(some 74), .mov (.t 0), none, []⟩,
     ⟨(some 75), .mov (.t 1), none, []⟩,
     ⟨(some 76), .mov (.t 0), none, []⟩,
     ⟨(some 77), .mov (.t 1), none, []⟩,
     ⟨(some 78), .iaddr 3 (.t 76) (.t 77), none, []⟩,
     ⟨(some 79), .load true 3 (.t 78), none, []⟩,
     ⟨(some 80), .mov (.t 0), none, []⟩,
     ⟨(some 81), .mov (.t 13), none, []⟩,
     ⟨(some 82), .iaddr 3 (.t 80) (.t 81), none, []⟩,
     ⟨(some 83), .load true 3 (.t 82), none, []⟩,
     ⟨(some 84), .iaddr 3 (.t 72) (.t 73), none, []⟩,
     ⟨none, .store 3 (.t 84) (.t 79), none, []⟩,
     ⟨(some 85), .iaddr 3 (.t 74) (.t 75), none, []⟩,
     ⟨none, .store 3 (.t 85) (.t 83), none, []⟩])
   (.seq (.reg [
     ⟨(some 86), .mov (.t 13), none, []⟩,
     ⟨(some 10), .mov (.t 86), none, []⟩,
     ⟨(some 11), .mov (.c (.b true)), none, []⟩])
   (.ret))) (.skip)))
  (.seq (.reg [
    ⟨(some 87), .mov (.t 0), none, []⟩,
    ⟨(some 88), .mov (.t 12), none, []⟩,
    ⟨(some 89), .mov (.t 0), none, []⟩,
    ⟨(some 90), .mov (.t 13), none, []⟩,
    ⟨(some 91), .mov (.t 0), none, []⟩,
    ⟨(some 92), .mov (.t 13), none, []⟩,
    ⟨(some 93), .iaddr 3 (.t 91) (.t 92), none, []⟩,
    ⟨(some 94), .load true 3 (.t 93), none, []⟩,
    ⟨(some 95), .mov (.t 0), none, []⟩,
    ⟨(some 96), .mov (.t 12), none, []⟩,
    ⟨(some 97), .iaddr 3 (.t 95) (.t 96), none, []⟩,
    ⟨(some 98), .load true 3 (.t 97), none, []⟩,
    ⟨(some 99), .iaddr 3 (.t 87) (.t 88), none, []⟩,
    ⟨none, .store 3 (.t 99) (.t 94), none, []⟩,
    ⟨(some 100), .iaddr 3 (.t 89) (.t 90), none, []⟩,
    ⟨none, .store 3 (.t 100) (.t 98), none, []⟩])
  (.seq (.reg [
    ⟨(some 101), .mov (.t 12), none, []⟩,
    ⟨(some 102), .bin .add (.t 101) (.c (.i 1)), none, []⟩,
    ⟨(some 12), .mov (.t 102), none, []⟩])
  (.seq (.reg [
    ⟨(some 103), .mov (.t 13), none, []⟩,
    ⟨(some 104), .bin .sub (.t 103) (.c (.i 1)), none, []⟩,
    ⟨(some 13), .mov (.t 104), none, []⟩])
  (.seq (.block 4 (.loop (.block 5 (.seq (.block 6 (.loop (.seq (.seq (.reg [
         ⟨(some 105), .mov (.t 12), none, []⟩,
         ⟨(some 106), .mov (.t 13), none, []⟩,
         ⟨(some 107), .bin .leq (.t 105) (.t 106), none, []⟩,
         ⟨(some 108), .mov (.t 107), none, []⟩,
         ⟨(some 109), .mov (.t 4), (some (108, true)), []⟩,
         ⟨(some 110), .mov (.t 0), (some (108, true)), []⟩,
         ⟨(some 111), .mov (.t 12), (some (108, true)), []⟩,
         ⟨(some 112), .iaddr 3 (.t 110) (.t 111), (some (108, true)), []⟩,
         ⟨(some 113), .load true 3 (.t 112), (some (108, true)), []⟩,
         ⟨(some 114), .mov (.t 0), (some (108, true)), []⟩,
         ⟨(some 115), .mov (.t 1), (some (108, true)), []⟩,
         ⟨(some 116), .iaddr 3 (.t 114) (.t 115), (some (108, true)), []⟩,
         ⟨(some 117), .load true 3 (.t 116), (some (108, true)), []⟩,
         ⟨(some 118), .call (.val (.t 109)) [.t 113, .t 117], (some (108, true)), []⟩,
         ⟨(some 119), .bin .lss (.t 118) (.c (.i 0)), (some (108, true)), []⟩,
         ⟨(some 120), .pick (.t 108) (.t 119) (.c (.b false)), none, []⟩])
       (.cond (.t 120) (.skip) (.exit 6)))
       (.block 7 (.reg [
          ⟨(some 121), .mov (.t 12), none, []⟩,
          ⟨(some 122), .bin .add (.t 121) (.c (.i 1)), none, []⟩,
          ⟨(some 12), .mov (.t 122), none, []⟩])))))
     (.seq (.block 8 (.loop (.seq (.seq (.reg [
         ⟨(some 123), .mov (.t 12), none, []⟩,
         ⟨(some 124), .mov (.t 13), none, []⟩,
         ⟨(some 125), .bin .leq (.t 123) (.t 124), none, []⟩,
         ⟨(some 126), .mov (.t 125), none, []⟩,
         ⟨(some 127), .mov (.t 4), (some (126, true)), []⟩,
         ⟨(some 128), .mov (.t 0), (some (126, true)), []⟩,
         ⟨(some 129), .mov (.t 13), (some (126, true)), []⟩,
         ⟨(some 130), .iaddr 3 (.t 128) (.t 129), (some (126, true)), []⟩,
         ⟨(some 131), .load true 3 (.t 130), (some (126, true)), []⟩,
         ⟨(some 132), .mov (.t 0), (some (126, true)), []⟩,
         ⟨(some 133), .mov (.t 1), (some (126, true)), []⟩,
         ⟨(some 134), .iaddr 3 (.t 132) (.t 133), (some (126, true)), []⟩,
         ⟨(some 135), .load true 3 (.t 134), (some (126, true)), []⟩,
         ⟨(some 136), .call (.val (.t 127)) [.t 131, .t 135], (some (126, true)), []⟩,
         ⟨(some 137), .bin .lss (.t 136) (.c (.i 0)), (some (126, true)), []⟩,
         ⟨(some 138), .un .not (.t 137), (some (126, true)), []⟩,
         ⟨(some 139), .pick (.t 126) (.t 138) (.c (.b false)), none, []⟩])
       (.cond (.t 139) (.skip) (.exit 8)))
       (.block 9 (.reg [
          ⟨(some 140), .mov (.t 13), none, []⟩,
          ⟨(some 141), .bin .sub (.t 140) (.c (.i 1)), none, []⟩,
          ⟨(some 13), .mov (.t 141), none, []⟩])))))
     (.seq (.seq (.reg [
       ⟨(some 142), .mov (.t 12), none, []⟩,
       ⟨(some 143), .mov (.t 13), none, []⟩,
       ⟨(some 144), .bin .gtr (.t 142) (.t 143), none, []⟩])
     (.cond (.t 144) (.exit 4) (.skip)))
     (.seq (.reg [
       ⟨(some 145), .mov (.t 0), none, []⟩,
       ⟨(some 146), .mov (.t 12), none, []⟩,
       ⟨(some 147), .mov (.t 0), none, []⟩,
       ⟨(some 148), .mov (.t 13), none, []⟩,
       ⟨(some 149), .mov (.t 0), none, []⟩,
       ⟨(some 150), .mov (.t 13), none, []⟩,
       ⟨(some 151), .iaddr 3 (.t 149) (.t 150), none, []⟩,
       ⟨(some 152), .load true 3 (.t 151), none, []⟩,
       ⟨(some 153), .mov (.t 0), none, []⟩,
       ⟨(some 154), .mov (.t 12), none, []⟩,
       ⟨(some 155), .iaddr 3 (.t 153) (.t 154), none, []⟩,
       ⟨(some 156), .load true 3 (.t 155), none, []⟩,
       ⟨(some 157), .iaddr 3 (.t 145) (.t 146), none, []⟩,
       ⟨none, .store 3 (.t 157) (.t 152), none, []⟩,
       ⟨(some 158), .iaddr 3 (.t 147) (.t 148), none, []⟩,
       ⟨none, .store 3 (.t 158) (.t 156), none, []⟩])
     (.seq (.reg [
       ⟨(some 159), .mov (.t 12), none, []⟩,
       ⟨(some 160), .bin .add (.t 159) (.c (.i 1)), none, []⟩,
       ⟨(some 12), .mov (.t 160), none, []⟩])
     (.reg [
       ⟨(some 161), .mov (.t 13), none, []⟩,
       ⟨(some 162), .bin .sub (.t 161) (.c (.i 1)), none, []⟩,
       ⟨(some 13), .mov (.t 162), none, []⟩])))))))))
  (.seq (.reg [
    ⟨(some 163), .mov (.t 0), none, []⟩,
    ⟨(some 164), .mov (.t 13), none, []⟩,
    ⟨(some 165), .mov (.t 0), none, []⟩,
    ⟨(some 166), .mov (.t 1), none, []⟩,
    ⟨(some 167), .mov (.t 0), none, []⟩,
    ⟨(some 168), .mov (.t 1), none, []⟩,
    ⟨(some 169), .iaddr 3 (.t 167) (.t 168), none, []⟩,
    ⟨(some 170), .load true 3 (.t 169), none, []⟩,
    ⟨(some 171), .mov (.t 0), none, []⟩,
    ⟨(some 172), .mov (.t 13), none, []⟩,
    ⟨(some 173), .iaddr 3 (.t 171) (.t 172), none, []⟩,
    ⟨(some 174), .load true 3 (.t 173), none, []⟩,
    ⟨(some 175), .iaddr 3 (.t 163) (.t 164), none, []⟩,
    ⟨none, .store 3 (.t 175) (.t 170), none, []⟩,
    ⟨(some 176), .iaddr 3 (.t 165) (.t 166), none, []⟩,
    ⟨none, .store 3 (.t 176) (.t 174), none, []⟩])
  (.seq (.reg [
    ⟨(some 177), .mov (.t 13), none, []⟩,
    ⟨(some 10), .mov (.t 177), none, []⟩,
    ⟨(some 11), .mov (.c (.b false)), none, []⟩])
  (.ret))))))))))))⟩
theorem r238_is : IsFn Tryz.prog 238 r238 := ⟨Tryz.f238, by kernel_rfl, by kernel_rfl⟩
/-- math/bits.Len32 -/
def r239 : RFn := ⟨19, [.t 2], .seq (.reg [
    ⟨(some 2), .mov (.c (.i 0)), none, []⟩])
  (.seq (.seq (.reg [
    ⟨(some 3), .mov (.t 0), none, []⟩,
    ⟨(some 4), .bin .geq (.t 3) (.c (.v (.int .u32 65536))), none, []⟩])
  (.cond (.t 4) (.seq (.reg [
     ⟨(some 5), .mov (.t 0), none, []⟩,
     ⟨(some 6), .bin .shr (.t 5) (.c (.v (.int .u64 16))), none, []⟩,
     ⟨(some 0), .mov (.t 6), none, []⟩])
   (.reg [
     ⟨(some 2), .mov (.c (.i 16)), none, []⟩])) (.skip)))
  (.seq (.seq (.reg [
    ⟨(some 7), .mov (.t 0), none, []⟩,
    ⟨(some 8), .bin .geq (.t 7) (.c (.v (.int .u32 256))), none, []⟩])
  (.cond (.t 8) (.seq (.reg [
     ⟨(some 9), .mov (.t 0), none, []⟩,
     ⟨(some 10), .bin .shr (.t 9) (.c (.v (.int .u64 8))), none, []⟩,
     ⟨(some 0), .mov (.t 10), none, []⟩])
   (.reg [
     ⟨(some 11), .mov (.t 2), none, []⟩,
     ⟨(some 12), .bin .add (.t 11) (.c (.i 8)), none, []⟩,
     ⟨(some 2), .mov (.t 12), none, []⟩])) (.skip)))
  (.seq (.reg [
    ⟨(some 13), .mov (.t 2), none, []⟩,
    ⟨(some 14), .mov (.t 0), none, []⟩,
    ⟨(some 15), .cvi .u8 (.t 14), none, []⟩,
    ⟨(some 16), .idx (.c (.v (.string ⟨#[0, 1, 2, 2, 3, 3, 3, 3, 4, 4, 4, 4, 4, 4, 4, 4, 5, 5, 5, 5, 5, 5, 5, 5, 5, 5, 5, 5, 5, 5, 5, 5, 6, 6, 6, 6, 6, 6, 6, 6, 6, 6, 6, 6, 6, 6, 6, 6, 6, 6, 6, 6, 6, 6, 6, 6, 6, 6, 6, 6, 6, 6, 6, 6, 7, 7, 7, 7, 7, 7, 7, 7, 7, 7, 7, 7, 7, 7, 7, 7, 7, 7, 7, 7, 7, 7, 7, 7, 7, 7, 7, 7, 7, 7, 7, 7, 7, 7, 7, 7, 7, 7, 7, 7, 7, 7, 7, 7, 7, 7, 7, 7, 7, 7, 7, 7, 7, 7, 7, 7, 7, 7, 7, 7, 7, 7, 7, 7, 8, 8, 8, 8, 8, 8, 8, 8, 8, 8, 8, 8, 8, 8, 8, 8, 8, 8, 8, 8, 8, 8, 8, 8, 8, 8, 8, 8, 8, 8, 8, 8, 8, 8, 8, 8, 8, 8, 8, 8, 8, 8, 8, 8, 8, 8, 8, 8, 8, 8, 8, 8, 8, 8, 8, 8, 8, 8, 8, 8, 8, 8, 8, 8, 8, 8, 8, 8, 8, 8, 8, 8, 8, 8, 8, 8, 8, 8, 8, 8, 8, 8, 8, 8, 8, 8, 8, 8, 8, 8, 8, 8, 8, 8, 8, 8, 8, 8, 8, 8, 8, 8, 8, 8, 8, 8, 8, 8, 8, 8, 8, 8, 8, 8, 8, 8, 8, 8, 8, 8, 8, 8, 8, 8, 8, 8, 8, 8]⟩))) (.t 15), none, []⟩,
    ⟨(some 17), .cvi .i64 (.t 16), none, []⟩,
    ⟨(some 18), .bin .add (.t 13) (.t 17), none, []⟩,
    ⟨(some 2), .mov (.t 18), none, []⟩])
  (.ret))))⟩
theorem r239_is : IsFn Tryz.prog 239 r239 := ⟨Tryz.f239, by kernel_rfl, by kernel_rfl⟩
/-- cmp.isNaN[int] -/
def r240 : RFn := ⟨6, [.t 2], .seq (.reg [
    ⟨(some 2), .mov (.c (.b false)), none, []⟩])
  (.seq (.reg [
    ⟨(some 3), .mov (.t 0), none, []⟩,
    ⟨(some 4), .mov (.t 0), none, []⟩,
    ⟨(some 5), .bin .neq (.t 3) (.t 4), none, []⟩,
    ⟨(some 2), .mov (.t 5), none, []⟩])
  (.ret))⟩
theorem r240_is : IsFn Tryz.prog 240 r240 := ⟨Tryz.f240, by kernel_rfl, by kernel_rfl⟩
/-- (*errata/match.Machine).ends$1 -/
def r252 : RFn := ⟨25, [], .block 0 (.loop (.block 1 (.seq (.seq (.reg [
       ⟨(some 5), .load false 1 (.t 1), none, []⟩,
       ⟨(some 9), .load false 1 (.t 2), none, []⟩,
       ⟨(some 4), .mov (.t 0), none, []⟩,
       ⟨(some 6), .nilck (.t 5), none, []⟩,
       ⟨(some 7), .faddr 0 (.t 6), none, []⟩,
       ⟨(some 8), .load false 1 (.t 7), none, []⟩,
       ⟨(some 10), .iaddr 4 (.t 8) (.t 9), none, []⟩,
       ⟨(some 11), .call (.val (.t 4)) [.t 10], none, []⟩,
       ⟨(some 12), .un .not (.t 11), none, []⟩,
       ⟨(some 13), .mov (.t 12), none, []⟩,
       ⟨(some 14), .load false 1 (.t 2), (some (13, false)), []⟩,
       ⟨(some 15), .bin .eql (.t 14) (.c (.i 0)), (some (13, false)), []⟩,
       ⟨(some 16), .pick (.t 13) (.c (.b true)) (.t 15), none, []⟩])
     (.cond (.t 16) (.ret) (.skip)))
     (.reg [
       ⟨(some 17), .load false 1 (.t 1), none, []⟩,
       ⟨(some 21), .load false 1 (.t 2), none, []⟩,
       ⟨(some 18), .nilck (.t 17), none, []⟩,
       ⟨(some 19), .faddr 0 (.t 18), none, []⟩,
       ⟨(some 20), .load false 1 (.t 19), none, []⟩,
       ⟨(some 22), .iaddr 4 (.t 20) (.t 21), none, []⟩,
       ⟨(some 23), .faddr 1 (.t 22), none, []⟩,
       ⟨(some 24), .load false 1 (.t 23), none, []⟩,
       ⟨none, .store 1 (.t 2) (.t 24), none, []⟩]))))⟩
theorem r252_is : IsFn Tryz.prog 252 r252 := ⟨Tryz.f252, by kernel_rfl, by kernel_rfl⟩
/-- slices.pdqsortCmpFunc[errata/match.Hit] -/
def r253 : RFn := ⟨148, [], .seq (.reg [
    ⟨(some 10), .mov (.c (.b true)), none, []⟩])
  (.seq (.reg [
    ⟨(some 11), .mov (.c (.b true)), none, []⟩])
  (.block 0 (.loop (.block 1 (.seq (.reg [
       ⟨(some 21), .mov (.t 2), none, []⟩,
       ⟨(some 22), .mov (.t 1), none, []⟩,
       ⟨(some 23), .bin .sub (.t 21) (.t 22), none, []⟩,
       ⟨(some 12), .mov (.t 23), none, []⟩])
     (.seq (.seq (.reg [
       ⟨(some 24), .mov (.t 12), none, []⟩,
       ⟨(some 25), .bin .leq (.t 24) (.c (.i 12)), none, []⟩])
     (.cond (.t 25) (.seq (.reg [
        ⟨(some 26), .mov (.t 0), none, []⟩,
        ⟨(some 27), .mov (.t 1), none, []⟩,
        ⟨(some 28), .mov (.t 2), none, []⟩,
        ⟨(some 29), .mov (.t 4), none, []⟩,
        ⟨(some 30), .call (.fn 273) [.t 26, .t 27, .t 28, .t 29], none, []⟩])
      (.ret)) (.skip)))
     (.seq (.seq (.reg [
       ⟨(some 31), .mov (.t 3), none, []⟩,
       ⟨(some 32), .bin .eql (.t 31) (.c (.i 0)), none, []⟩])
     (.cond (.t 32) (.seq (.reg [
        ⟨(some 33), .mov (.t 0), none, []⟩,
        ⟨(some 34), .mov (.t 1), none, []⟩,
        ⟨(some 35), .mov (.t 2), none, []⟩,
        ⟨(some 36), .mov (.t 4), none, []⟩,
        ⟨(some 37), .call (.fn 274) [.t 33, .t 34, .t 35, .t 36], none, []⟩])
      (.ret)) (.skip)))
     (.seq (.seq (.reg [
       ⟨(some 38), .mov (.t 10), none, []⟩,
       ⟨(some 39), .un .not (.t 38), none, []⟩])
     (.cond (.t 39) (.seq (.reg [
        ⟨(some 40), .mov (.t 0), none, []⟩,
        ⟨(some 41), .mov (.t 1), none, []⟩,
        ⟨(some 42), .mov (.t 2), none, []⟩,
        ⟨(some 43), .mov (.t 4), none, []⟩,
        ⟨(some 44), .call (.fn 275) [.t 40, .t 41, .t 42, .t 43], none, []⟩])
      (.reg [
        ⟨(some 45), .mov (.t 3), none, []⟩,
        ⟨(some 46), .bin .sub (.t 45) (.c (.i 1)), none, []⟩,
        ⟨(some 3), .mov (.t 46), none, []⟩])) (.skip)))
     (.seq (.reg [
       ⟨(some 48), .mov (.t 0), none, []⟩,
       ⟨(some 49), .mov (.t 1), none, []⟩,
       ⟨(some 50), .mov (.t 2), none, []⟩,
       ⟨(some 51), .mov (.t 4), none, []⟩,
       ⟨(some 52), .call (.fn 276) [.t 48, .t 49, .t 50, .t 51], none, []⟩,
       ⟨(some 47), .mov (.t 52), none, []⟩,
       ⟨(some 53), .ext (.t 47) 0, none, []⟩,
       ⟨(some 54), .ext (.t 47) 1, none, []⟩,
       ⟨(some 13), .mov (.t 53), none, []⟩,
       ⟨(some 14), .mov (.t 54), none, []⟩])
     (.seq (.seq (.reg [
       ⟨(some 55), .mov (.t 14), none, []⟩,
       ⟨(some 56), .bin .eql (.t 55) (.c (.i 2)), none, []⟩])
     (.cond (.t 56) (.seq (.reg [
        ⟨(some 57), .mov (.t 0), none, []⟩,
        ⟨(some 58), .mov (.t 1), none, []⟩,
        ⟨(some 59), .mov (.t 2), none, []⟩,
        ⟨(some 60), .mov (.t 4), none, []⟩,
        ⟨(some 61), .call (.fn 277) [.t 57, .t 58, .t 59, .t 60], none, []⟩])
      (.seq (.reg [
        ⟨(some 62), .mov (.t 2), none, []⟩,
        ⟨(some 63), .bin .sub (.t 62) (.c (.i 1)), none, []⟩,
        ⟨(some 64), .mov (.t 13), none, []⟩,
        ⟨(some 65), .mov (.t 1), none, []⟩,
        ⟨(some 66), .bin .sub (.t 64) (.t 65), none, []⟩,
        ⟨(some 67), .bin .sub (.t 63) (.t 66), none, []⟩,
        ⟨(some 13), .mov (.t 67), none, []⟩])
      (.reg [
        ⟨(some 14), .mov (.c (.i 1)), none, []⟩]))) (.skip)))
     (.seq (.seq (.reg [
       ⟨(some 68), .mov (.t 10), none, []⟩,
       ⟨(some 69), .mov (.t 68), none, []⟩,
       ⟨(some 70), .mov (.t 11), (some (69, true)), []⟩,
       ⟨(some 71), .pick (.t 69) (.t 70) (.c (.b false)), none, []⟩,
       ⟨(some 72), .mov (.t 71), none, []⟩,
       ⟨(some 73), .mov (.t 14), (some (72, true)), []⟩,
       ⟨(some 74), .bin .eql (.t 73) (.c (.i 1)), (some (72, true)), []⟩,
       ⟨(some 75), .pick (.t 72) (.t 74) (.c (.b false)), none, []⟩])
     (.cond (.t 75) (.seq (.reg [
        ⟨(some 76), .mov (.t 0), none, []⟩,
        ⟨(some 77), .mov (.t 1), none, []⟩,
        ⟨(some 78), .mov (.t 2), none, []⟩,
        ⟨(some 79), .mov (.t 4), none, []⟩,
        ⟨(some 80), .call (.fn 278) [.t 76, .t 77, .t 78, .t 79], none, []⟩])
      (.cond (.t 80) (.ret) (.skip))) (.skip)))
     (.seq (.seq (.reg [
       ⟨(some 81), .mov (.t 1), none, []⟩,
       ⟨(some 82), .bin .gtr (.t 81) (.c (.i 0)), none, []⟩,
       ⟨(some 83), .mov (.t 82), none, []⟩,
       ⟨(some 84), .mov (.t 4), (some (83, true)), []⟩,
       ⟨(some 85), .mov (.t 0), (some (83, true)), []⟩,
       ⟨(some 86), .mov (.t 1), (some (83, true)), []⟩,
       ⟨(some 87), .bin .sub (.t 86) (.c (.i 1)), (some (83, true)), []⟩,
       ⟨(some 88), .iaddr 2 (.t 85) (.t 87), (some (83, true)), []⟩,
       ⟨(some 89), .load true 2 (.t 88), (some (83, true)), []⟩,
       ⟨(some 90), .mov (.t 0), (some (83, true)), []⟩,
       ⟨(some 91), .mov (.t 13), (some (83, true)), []⟩,
       ⟨(some 92), .iaddr 2 (.t 90) (.t 91), (some (83, true)), []⟩,
       ⟨(some 93), .load true 2 (.t 92), (some (83, true)), []⟩,
       ⟨(some 94), .call (.val (.t 84)) [.t 89, .t 93], (some (83, true)), []⟩,
       ⟨(some 95), .bin .lss (.t 94) (.c (.i 0)), (some (83, true)), []⟩,
       ⟨(some 96), .un .not (.t 95), (some (83, true)), []⟩,
       ⟨(some 97), .pick (.t 83) (.t 96) (.c (.b false)), none, []⟩])
     (.cond (.t 97) (.seq (.reg [
        ⟨(some 98), .mov (.t 0), none, []⟩,
        ⟨(some 99), .mov (.t 1), none, []⟩,
        ⟨(some 100), .mov (.t 2), none, []⟩,
        ⟨(some 101), .mov (.t 13), none, []⟩,
        ⟨(some 102), .mov (.t 4), none, []⟩,
        ⟨(some 103), .call (.fn 279) [.t 98, .t 99, .t 100, .t 101, .t 102], none, []⟩,
        ⟨(some 15), .mov (.t 103), none, []⟩])
      (.seq (.reg [
        ⟨(some 104), .mov (.t 15), none, []⟩,
        ⟨(some 1), .mov (.t 104), none, []⟩])
      (.exit 1))) (.skip)))
     (.seq (.reg [
       ⟨(some 106), .mov (.t 0), none, []⟩,
       ⟨(some 107), .mov (.t 1), none, []⟩,
       ⟨(some 108), .mov (.t 2), none, []⟩,
       ⟨(some 109), .mov (.t 13), none, []⟩,
       ⟨(some 110), .mov (.t 4), none, []⟩,
       ⟨(some 111), .call (.fn 280) [.t 106, .t 107, .t 108, .t 109, .t 110], none, []⟩,
       ⟨(some 105), .mov (.t 111), none, []⟩,
       ⟨(some 112), .ext (.t 105) 0, none, []⟩,
       ⟨(some 113), .ext (.t 105) 1, none, []⟩,
       ⟨(some 16), .mov (.t 112), none, []⟩,
       ⟨(some 17), .mov (.t 113), none, []⟩])
     (.seq (.reg [
       ⟨(some 114), .mov (.t 17), none, []⟩,
       ⟨(some 11), .mov (.t 114), none, []⟩])
     (.seq (.reg [
       ⟨(some 115), .mov (.t 16), none, []⟩,
       ⟨(some 116), .mov (.t 1), none, []⟩,
       ⟨(some 117), .bin .sub (.t 115) (.t 116), none, []⟩,
       ⟨(some 118), .mov (.t 2), none, []⟩,
       ⟨(some 119), .mov (.t 16), none, []⟩,
       ⟨(some 120), .bin .sub (.t 118) (.t 119), none, []⟩,
       ⟨(some 18), .mov (.t 117), none, []⟩,
       ⟨(some 19), .mov (.t 120), none, []⟩])
     (.seq (.reg [
       ⟨(some 121), .mov (.t 12), none, []⟩,
       ⟨(some 122), .bin .quo (.t 121) (.c (.i 8)), none, []⟩,
       ⟨(some 20), .mov (.t 122), none, []⟩])
     (.seq (.reg [
       ⟨(some 123), .mov (.t 18), none, []⟩,
       ⟨(some 124), .mov (.t 19), none, []⟩,
       ⟨(some 125), .bin .lss (.t 123) (.t 124), none, []⟩])
     (.cond (.t 125) (.seq (.reg [
        ⟨(some 126), .mov (.t 18), none, []⟩,
        ⟨(some 127), .mov (.t 20), none, []⟩,
        ⟨(some 128), .bin .geq (.t 126) (.t 127), none, []⟩,
        ⟨(some 10), .mov (.t 128), none, []⟩])
      (.seq (.reg [
        ⟨(some 129), .mov (.t 0), none, []⟩,
        ⟨(some 130), .mov (.t 1), none, []⟩,
        ⟨(some 131), .mov (.t 16), none, []⟩,
        ⟨(some 132), .mov (.t 3), none, []⟩,
        ⟨(some 133), .mov (.t 4), none, []⟩,
        ⟨(some 134), .call (.fn 253) [.t 129, .t 130, .t 131, .t 132, .t 133], none, []⟩])
      (.reg [
        ⟨(some 135), .mov (.t 16), none, []⟩,
        ⟨(some 136), .bin .add (.t 135) (.c (.i 1)), none, []⟩,
        ⟨(some 1), .mov (.t 136), none, []⟩]))) (.seq (.reg [
        ⟨(some 137), .mov (.t 19), none, []⟩,
        ⟨(some 138), .mov (.t 20), none, []⟩,
        ⟨(some 139), .bin .geq (.t 137) (.t 138), none, []⟩,
        ⟨(some 10), .mov (.t 139), none, []⟩])
      (.seq (.reg [
        ⟨(some 140), .mov (.t 0), none, []⟩,
        ⟨(some 141), .mov (.t 16), none, []⟩,
        ⟨(some 142), .bin .add (.t 141) (.c (.i 1)), none, []⟩,
        ⟨(some 143), .mov (.t 2), none, []⟩,
        ⟨(some 144), .mov (.t 3), none, []⟩,
        ⟨(some 145), .mov (.t 4), none, []⟩,
        ⟨(some 146), .call (.fn 253) [.t 140, .t 142, .t 143, .t 144, .t 145], none, []⟩])
      (.reg [
        ⟨(some 147), .mov (.t 16), none, []⟩,
        ⟨(some 2), .mov (.t 147), none, []⟩])))))))))))))))))))))⟩
theorem r253_is : IsFn Tryz.prog 253 r253 := ⟨Tryz.f253, by kernel_rfl, by kernel_rfl⟩
/-- (*errata/bucket.Queue).full$1 -/
def r254 : RFn := ⟨37, [], .scope (.seq (.skip)
   (.seq (.reg [
     ⟨(some 4), .load false 1 (.t 1), none, []⟩,
     ⟨(some 5), .nilck (.t 4), none, []⟩,
     ⟨(some 6), .faddr 3 (.t 5), none, []⟩,
     ⟨(some 7), .load false 1 (.t 6), none, []⟩,
     ⟨(some 3), .mov (.t 7), none, []⟩])
   (.block 0 (.loop (.seq (.seq (.reg [
       ⟨(some 8), .mov (.t 3), none, []⟩,
       ⟨(some 9), .load false 1 (.t 1), none, []⟩,
       ⟨(some 10), .nilck (.t 9), none, []⟩,
       ⟨(some 11), .faddr 0 (.t 10), none, []⟩,
       ⟨(some 12), .load false 1 (.t 11), none, []⟩,
       ⟨(some 13), .len false (.t 12), none, []⟩,
       ⟨(some 14), .bin .lss (.t 8) (.t 13), none, []⟩])
     (.cond (.t 14) (.skip) (.exit 0)))
     (.seq (.block 1 (.seq (.seq (.reg [
        ⟨(some 17), .load false 1 (.t 1), none, []⟩,
        ⟨(some 18), .nilck (.t 17), none, []⟩,
        ⟨(some 19), .faddr 0 (.t 18), none, []⟩,
        ⟨(some 20), .load false 1 (.t 19), none, []⟩,
        ⟨(some 21), .mov (.t 3), none, []⟩,
        ⟨(some 22), .iaddr 1 (.t 20) (.t 21), none, []⟩,
        ⟨(some 23), .load false 1 (.t 22), none, []⟩,
        ⟨(some 24), .len false (.t 23), none, []⟩,
        ⟨(some 25), .bin .eql (.t 24) (.c (.i 0)), none, []⟩])
      (.cond (.t 25) (.exit 1) (.skip)))
      (.seq (.reg [
        ⟨(some 26), .mov (.t 0), none, []⟩,
        ⟨(some 27), .mov (.t 3), none, []⟩,
        ⟨(some 28), .load false 1 (.t 1), none, []⟩,
        ⟨(some 29), .nilck (.t 28), none, []⟩,
        ⟨(some 30), .faddr 0 (.t 29), none, []⟩,
        ⟨(some 31), .load false 1 (.t 30), none, []⟩,
        ⟨(some 32), .mov (.t 3), none, []⟩,
        ⟨(some 33), .iaddr 1 (.t 31) (.t 32), none, []⟩,
        ⟨(some 34), .load false 1 (.t 33), none, []⟩,
        ⟨(some 35), .call (.val (.t 26)) [.t 27, .t 34], none, []⟩,
        ⟨(some 36), .un .not (.t 35), none, []⟩])
      (.cond (.t 36) (.exit 0) (.skip)))))
     (.reg [
       ⟨(some 15), .mov (.t 3), none, []⟩,
       ⟨(some 16), .bin .add (.t 15) (.c (.i 1)), none, []⟩,
       ⟨(some 3), .mov (.t 16), none, []⟩])))))))⟩
theorem r254_is : IsFn Tryz.prog 254 r254 := ⟨Tryz.f254, by kernel_rfl, by kernel_rfl⟩
/-- slices.Clone[[]errata/dawg.Edge,errata/dawg.Edge] -/
def r255 : RFn := ⟨8, [.t 2], .seq (.reg [
    ⟨(some 2), .mov (.c (.nils)), none, []⟩])
  (.seq (.seq (.reg [
    ⟨(some 3), .mov (.t 0), none, []⟩,
    ⟨(some 4), .eqs false (.t 3), none, []⟩])
  (.cond (.t 4) (.seq (.reg [
     ⟨(some 2), .mov (.c (.nils)), none, []⟩])
   (.ret)) (.skip)))
  (.seq (.reg [
    ⟨(some 5), .bslice 2 [.v (.int .i32 0), .i 0] 0 [], none, []⟩,
    ⟨(some 6), .mov (.t 0), none, []⟩,
    ⟨(some 7), .append 2 16 [.v (.int .i32 0), .i 0] 190 (.t 5) (.t 6), none, []⟩,
    ⟨(some 2), .mov (.t 7), none, []⟩])
  (.ret)))⟩
theorem r255_is : IsFn Tryz.prog 255 r255 := ⟨Tryz.f255, by kernel_rfl, by kernel_rfl⟩
/-- (*errata/dawg.Dawg).Next -/
def r256 : RFn := ⟨37, [.t 6, .t 7], .seq (.reg [
    ⟨(some 6), .mov (.c (.i 0)), none, []⟩,
    ⟨(some 7), .mov (.c (.i 0)), none, []⟩])
  (.seq (.reg [
    ⟨(some 13), .mov (.t 0), none, []⟩,
    ⟨(some 14), .mov (.t 1), none, []⟩,
    ⟨(some 15), .call (.fn 228) [.t 13, .t 14], none, []⟩,
    ⟨(some 12), .mov (.t 15), none, []⟩,
    ⟨(some 16), .ext (.t 12) 0, none, []⟩,
    ⟨(some 17), .ext (.t 12) 1, none, []⟩,
    ⟨(some 8), .mov (.t 16), none, []⟩,
    ⟨(some 9), .mov (.t 17), none, []⟩])
  (.seq (.seq (.reg [
    ⟨(some 18), .mov (.t 9), none, []⟩,
    ⟨(some 19), .bin .neq (.t 18) (.c (.i 0)), none, []⟩])
  (.cond (.t 19) (.seq (.reg [
     ⟨(some 20), .mov (.t 9), none, []⟩,
     ⟨(some 6), .mov (.c (.i 0)), none, []⟩,
     ⟨(some 7), .mov (.t 20), none, []⟩])
   (.ret)) (.skip)))
  (.seq (.reg [
    ⟨(some 22), .mov (.t 8), none, []⟩,
    ⟨(some 23), .mov (.t 2), none, []⟩,
    ⟨(some 24), .call (.fn 153) [.t 22, .t 23], none, []⟩,
    ⟨(some 21), .mov (.t 24), none, []⟩,
    ⟨(some 25), .ext (.t 21) 0, none, []⟩,
    ⟨(some 26), .ext (.t 21) 1, none, []⟩,
    ⟨(some 10), .mov (.t 25), none, []⟩,
    ⟨(some 11), .mov (.t 26), none, []⟩])
  (.seq (.seq (.reg [
    ⟨(some 27), .mov (.t 11), none, []⟩,
    ⟨(some 28), .un .not (.t 27), none, []⟩])
  (.cond (.t 28) (.seq (.reg [
     ⟨(some 6), .mov (.c (.i 0)), none, []⟩,
     ⟨(some 7), .mov (.c (.i 10)), none, []⟩])
   (.ret)) (.skip)))
  (.seq (.reg [
    ⟨(some 29), .mov (.t 8), none, []⟩,
    ⟨(some 30), .nilck (.t 29), none, []⟩,
    ⟨(some 31), .faddr 0 (.t 30), none, []⟩,
    ⟨(some 32), .load false 1 (.t 31), none, []⟩,
    ⟨(some 33), .mov (.t 10), none, []⟩,
    ⟨(some 34), .iaddr 2 (.t 32) (.t 33), none, []⟩,
    ⟨(some 35), .faddr 1 (.t 34), none, []⟩,
    ⟨(some 36), .load false 1 (.t 35), none, []⟩,
    ⟨(some 6), .mov (.t 36), none, []⟩,
    ⟨(some 7), .mov (.c (.i 0)), none, []⟩])
  (.ret))))))⟩
theorem r256_is : IsFn Tryz.prog 256 r256 := ⟨Tryz.f256, by kernel_rfl, by kernel_rfl⟩
/-- slices.siftDownCmpFunc[errata/api.Cand] -/
def r257 : RFn := ⟨82, [], .seq (.reg [
    ⟨(some 12), .mov (.t 1), none, []⟩,
    ⟨(some 10), .mov (.t 12), none, []⟩])
  (.block 0 (.loop (.block 1 (.seq (.reg [
       ⟨(some 13), .mov (.t 10), none, []⟩,
       ⟨(some 14), .bin .mul (.c (.i 2)) (.t 13), none, []⟩,
       ⟨(some 15), .bin .add (.t 14) (.c (.i 1)), none, []⟩,
       ⟨(some 11), .mov (.t 15), none, []⟩])
     (.seq (.seq (.reg [
       ⟨(some 16), .mov (.t 11), none, []⟩,
       ⟨(some 17), .mov (.t 2), none, []⟩,
       ⟨(some 18), .bin .geq (.t 16) (.t 17), none, []⟩])
     (.cond (.t 18) (.exit 0) (.skip)))
     (.seq (.seq (.reg [
       ⟨(some 19), .mov (.t 11), none, []⟩,
       ⟨(some 20), .bin .add (.t 19) (.c (.i 1)), none, []⟩,
       ⟨(some 21), .mov (.t 2), none, []⟩,
       ⟨(some 22), .bin .lss (.t 20) (.t 21), none, []⟩,
       ⟨(some 23), .mov (.t 22), none, []⟩,
       ⟨(some 24), .mov (.t 4), (some (23, true)), []⟩,
       ⟨(some 25), .mov (.t 0), (some (23, true)), []⟩,
       ⟨(some 26), .mov (.t 3), (some (23, true)), []⟩,
       ⟨(some 27), .mov (.t 11), (some (23, true)), []⟩,
       ⟨(some 28), .bin .add (.t 26) (.t 27), (some (23, true)), []⟩,
       ⟨(some 29), .iaddr 3 (.t 25) (.t 28), (some (23, true)), []⟩,
       ⟨(some 30), .load true 3 (.t 29), (some (23, true)), []⟩,
       ⟨(some 31), .mov (.t 0), (some (23, true)), []⟩,
       ⟨(some 32), .mov (.t 3), (some (23, true)), []⟩,
       ⟨(some 33), .mov (.t 11), (some (23, true)), []⟩,
       ⟨(some 34), .bin .add (.t 32) (.t 33), (some (23, true)), []⟩,
       ⟨(some 35), .bin .add (.t 34) (.c (.i 1)), (some (23, true)), []⟩,
       ⟨(some 36), .iaddr 3 (.t 31) (.t 35), (some (23, true)), []⟩,
       ⟨(some 37), .load true 3 (.t 36), (some (23, true)), []⟩,
       ⟨(some 38), .call (.val (.t 24)) [.t 30, .t 37], (some (23, true)), []⟩,
       ⟨(some 39), .bin .lss (.t 38) (.c (.i 0)), (some (23, true)), []⟩,
       ⟨(some 40), .pick (.t 23) (.t 39) (.c (.b false)), none, []⟩])
     (.cond (.t 40) (.reg [
        ⟨(some 41), .mov (.t 11), none, []⟩,
        ⟨(some 42), .bin .add (.t 41) (.c (.i 1)), none, []⟩,
        ⟨(some 11), .mov (.t 42), none, []⟩]) (.skip)))
     (.seq (.seq (.reg [
       ⟨(some 43), .mov (.t 4), none, []⟩,
       ⟨(some 44), .mov (.t 0), none, []⟩,
       ⟨(some 45), .mov (.t 3), none, []⟩,
       ⟨(some 46), .mov (.t 10), none, []⟩,
       ⟨(some 47), .bin .add (.t 45) (.t 46), none, []⟩,
       ⟨(some 48), .iaddr 3 (.t 44) (.t 47), none, []⟩,
       ⟨(some 49), .load true 3 (.t 48), none, []⟩,
       ⟨(some 50), .mov (.t 0), none, []⟩,
       ⟨(some 51), .mov (.t 3), none, []⟩,
       ⟨(some 52), .mov (.t 11), none, []⟩,
       ⟨(some 53), .bin .add (.t 51) (.t 52), none, []⟩,
       ⟨(some 54), .iaddr 3 (.t 50) (.t 53), none, []⟩,
       ⟨(some 55), .load true 3 (.t 54), none, []⟩,
       ⟨(some 56), .call (.val (.t 43)) [.t 49, .t 55], none, []⟩,
       ⟨(some 57), .bin .lss (.t 56) (.c (.i 0)), none, []⟩,
       ⟨(some 58), .un .not (.t 57), none, []⟩])
     (.cond (.t 58) (.ret) (.skip)))
     (.seq (.reg [
       ⟨(some 59), .mov (.t 0), none, []⟩,
       ⟨(some 60), .mov (.t 3), none, []⟩,
       ⟨(some 61), .mov (.t 10), none, []⟩,
       ⟨(some 62), .bin .add (.t 60) (.t 61), none, []⟩,
       ⟨(some 63), .mov (.t 0), none, []⟩,
       ⟨(some 64), .mov (.t 3), none, []⟩,
       ⟨(some 65), .mov (.t 11), none, []⟩,
       ⟨(some 66), .bin .add (.t 64) (.t 65), none, []⟩,
       ⟨(some 67), .mov (.t 0), none, []⟩,
       ⟨(some 68), .mov (.t 3), none, []⟩,
       ⟨(some 69), .mov (.t 11), none, []⟩,
       ⟨(some 70), .bin .add (.t 68) (.t 69), none, []⟩,
       ⟨(some 71), .iaddr 3 (.t 67) (.t 70), none, []⟩,
       ⟨(some 72), .load true 3 (.t 71), none, []⟩,
       ⟨(some 73), .mov (.t 0), none, []⟩,
       ⟨(some 74), .mov (.t 3), none, []⟩,
       ⟨(some 75), .mov (.t 10), none, []⟩,
       ⟨(some 76), .bin .add (.t 74) (.t 75), none, []⟩,
       ⟨(some 77), .iaddr 3 (.t 73) (.t 76), none, []⟩,
       ⟨(some 78), .load true 3 (.t 77), none, []⟩,
       ⟨(some 79), .iaddr 3 (.t 59) (.t 62), none, []⟩,
       ⟨none, .store 3 (.t 79) (.t 72), none, []⟩,
       ⟨(some 80), .iaddr 3 (.t 63) (.t 66), none, []⟩,
       ⟨none, .store 3 (.t 80) (.t 78), none, []⟩])
     (.reg [
       ⟨(some 81), .mov (.t 11), none, []⟩,
       ⟨(some 10), .mov (.t 81), none, []⟩])))))))))⟩
theorem r257_is : IsFn Tryz.prog 257 r257 := ⟨Tryz.f257, by kernel_rfl, by kernel_rfl⟩
/-- slices.nextPowerOfTwo -/
def r258 : RFn := ⟨7, [.t 2], .seq (.reg [
    ⟨(some 2), .mov (.c (.v (.int .u64 0))), none, []⟩])
  (.seq (.reg [
    ⟨(some 3), .mov (.t 0), none, []⟩,
    ⟨(some 4), .cvi .u64 (.t 3), none, []⟩,
    ⟨(some 5), .call (.fn 197) [.t 4], none, []⟩,
    ⟨(some 6), .bin .shl (.c (.v (.int .u64 1))) (.t 5), none, []⟩,
    ⟨(some 2), .mov (.t 6), none, []⟩])
  (.ret))⟩
theorem r258_is : IsFn Tryz.prog 258 r258 := ⟨Tryz.f258, by kernel_rfl, by kernel_rfl⟩
/-- (*slices.xorshift).Next -/
def r259 : RFn := ⟨33, [.t 2], .seq (.reg [
    ⟨(some 2), .mov (.c (.v (.int .u64 0))), none, []⟩])
  (.seq (.reg [
    ⟨(some 3), .mov (.t 0), none, []⟩,
    ⟨(some 4), .nilck (.t 3), none, []⟩,
    ⟨(some 5), .load false 1 (.t 4), none, []⟩,
    ⟨(some 6), .mov (.t 0), none, []⟩,
    ⟨(some 7), .nilck (.t 6), none, []⟩,
    ⟨(some 8), .load false 1 (.t 7), none, []⟩,
    ⟨(some 9), .bin .shl (.t 8) (.c (.v (.int .u64 13))), none, []⟩,
    ⟨(some 10), .bin .xor (.t 5) (.t 9), none, []⟩,
    ⟨(some 11), .nilck (.t 3), none, []⟩,
    ⟨none, .store 1 (.t 11) (.t 10), none, []⟩])
  (.seq (.reg [
    ⟨(some 12), .mov (.t 0), none, []⟩,
    ⟨(some 13), .nilck (.t 12), none, []⟩,
    ⟨(some 14), .load false 1 (.t 13), none, []⟩,
    ⟨(some 15), .mov (.t 0), none, []⟩,
    ⟨(some 16), .nilck (.t 15), none, []⟩,
    ⟨(some 17), .load false 1 (.t 16), none, []⟩,
    ⟨(some 18), .bin .shr (.t 17) (.c (.v (.int .u64 7))), none, []⟩,
    ⟨(some 19), .bin .xor (.t 14) (.t 18), none, []⟩,
    ⟨(some 20), .nilck (.t 12), none, []⟩,
    ⟨none, .store 1 (.t 20) (.t 19), none, []⟩])
  (.seq (.reg [
    ⟨(some 21), .mov (.t 0), none, []⟩,
    ⟨(some 22), .nilck (.t 21), none, []⟩,
    ⟨(some 23), .load false 1 (.t 22), none, []⟩,
    ⟨(some 24), .mov (.t 0), none, []⟩,
    ⟨(some 25), .nilck (.t 24), none, []⟩,
    ⟨(some 26), .load false 1 (.t 25), none, []⟩,
    ⟨(some 27), .bin .shl (.t 26) (.c (.v (.int .u64 17))), none, []⟩,
    ⟨(some 28), .bin .xor (.t 23) (.t 27), none, []⟩,
    ⟨(some 29), .nilck (.t 21), none, []⟩,
    ⟨none, .store 1 (.t 29) (.t 28), none, []⟩])
  (.seq (.reg [
    ⟨(some 30), .mov (.t 0), none, []⟩,
    ⟨(some 31), .nilck (.t 30), none, []⟩,
    ⟨(some 32), .load false 1 (.t 31), none, []⟩,
    ⟨(some 2), .mov (.t 32), none, []⟩])
  (.ret)))))⟩
theorem r259_is : IsFn Tryz.prog 259 r259 := ⟨Tryz.f259, by kernel_rfl, by kernel_rfl⟩
/-- slices.medianAdjacentCmpFunc[errata/api.Cand] -/
def r260 : RFn := ⟨18, [.t 8], .seq (.reg [
    ⟨(some 8), .mov (.c (.i 0)), none, []⟩])
  (.seq (.reg [
    ⟨(some 9), .mov (.t 0), none, []⟩,
    ⟨(some 10), .mov (.t 1), none, []⟩,
    ⟨(some 11), .bin .sub (.t 10) (.c (.i 1)), none, []⟩,
    ⟨(some 12), .mov (.t 1), none, []⟩,
    ⟨(some 13), .mov (.t 1), none, []⟩,
    ⟨(some 14), .bin .add (.t 13) (.c (.i 1)), none, []⟩,
    ⟨(some 15), .mov (.t 2), none, []⟩,
    ⟨(some 16), .mov (.t 3), none, []⟩,
    ⟨(some 17), .call (.fn 261) [.t 9, .t 11, .t 12, .t 14, .t 15, .t 16], none, []⟩,
    ⟨(some 8), .mov (.t 17), none, []⟩])
  (.ret))⟩
theorem r260_is : IsFn Tryz.prog 260 r260 := ⟨Tryz.f260, by kernel_rfl, by kernel_rfl⟩
/-- slices.medianCmpFunc[errata/api.Cand] -/
def r261 : RFn := ⟨41, [.t 12], .seq (.reg [
    ⟨(some 12), .mov (.c (.i 0)), none, []⟩])
  (.seq (.reg [
    ⟨(some 14), .mov (.t 0), none, []⟩,
    ⟨(some 15), .mov (.t 1), none, []⟩,
    ⟨(some 16), .mov (.t 2), none, []⟩,
    ⟨(some 17), .mov (.t 4), none, []⟩,
    ⟨(some 18), .mov (.t 5), none, []⟩,
    ⟨(some 19), .call (.fn 281) [.t 14, .t 15, .t 16, .t 17, .t 18], none, []⟩,
    ⟨(some 13), .mov (.t 19), none, []⟩,
    ⟨(some 20), .ext (.t 13) 0, none, []⟩,
    ⟨(some 21), .ext (.t 13) 1, none, []⟩,
    ⟨(some 1), .mov (.t 20), none, []⟩,
    ⟨(some 2), .mov (.t 21), none, []⟩])
  (.seq (.reg [
    ⟨(some 23), .mov (.t 0), none, []⟩,
    ⟨(some 24), .mov (.t 2), none, []⟩,
    ⟨(some 25), .mov (.t 3), none, []⟩,
    ⟨(some 26), .mov (.t 4), none, []⟩,
    ⟨(some 27), .mov (.t 5), none, []⟩,
    ⟨(some 28), .call (.fn 281) [.t 23, .t 24, .t 25, .t 26, .t 27], none, []⟩,
    ⟨(some 22), .mov (.t 28), none, []⟩,
    ⟨(some 29), .ext (.t 22) 0, none, []⟩,
    ⟨(some 30), .ext (.t 22) 1, none, []⟩,
    ⟨(some 2), .mov (.t 29), none, []⟩,
    ⟨(some 3), .mov (.t 30), none, []⟩])
  (.seq (.reg [
    ⟨(some 32), .mov (.t 0), none, []⟩,
    ⟨(some 33), .mov (.t 1), none, []⟩,
    ⟨(some 34), .mov (.t 2), none, []⟩,
    ⟨(some 35), .mov (.t 4), none, []⟩,
    ⟨(some 36), .mov (.t 5), none, []⟩,
    ⟨(some 37), .call (.fn 281) [.t 32, .t 33, .t 34, .t 35, .t 36], none, []⟩,
    ⟨(some 31), .mov (.t 37), none, []⟩,
    ⟨(some 38), .ext (.t 31) 0, none, []⟩,
    ⟨(some 39), .ext (.t 31) 1, none, []⟩,
    ⟨(some 1), .mov (.t 38), none, []⟩,
    ⟨(some 2), .mov (.t 39), none, []⟩])
  (.seq (.reg [
    ⟨(some 40), .mov (.t 2), none, []⟩,
    ⟨(some 12), .mov (.t 40), none, []⟩])
  (.ret)))))⟩
theorem r261_is : IsFn Tryz.prog 261 r261 := ⟨Tryz.f261, by kernel_rfl, by kernel_rfl⟩
/-- slices.insertionSortCmpFunc[errata/match.Hit] -/
def r273 : RFn := ⟨53, [], .seq (.reg [
    ⟨(some 10), .mov (.t 1), none, []⟩,
    ⟨(some 11), .bin .add (.t 10) (.c (.i 1)), none, []⟩,
    ⟨(some 8), .mov (.t 11), none, []⟩])
  (.block 0 (.loop (.seq (.seq (.reg [
      ⟨(some 12), .mov (.t 8), none, []⟩,
      ⟨(some 13), .mov (.t 2), none, []⟩,
      ⟨(some 14), .bin .lss (.t 12) (.t 13), none, []⟩])
    (.cond (.t 14) (.skip) (.exit 0)))
    (.seq (.block 1 (.seq (.reg [
       ⟨(some 17), .mov (.t 8), none, []⟩,
       ⟨(some 9), .mov (.t 17), none, []⟩])
     (.block 2 (.loop (.seq (.seq (.reg [
         ⟨(some 18), .mov (.t 9), none, []⟩,
         ⟨(some 19), .mov (.t 1), none, []⟩,
         ⟨(some 20), .bin .gtr (.t 18) (.t 19), none, []⟩,
         ⟨(some 21), .mov (.t 20), none, []⟩,
         ⟨(some 22), .mov (.t 3), (some (21, true)), []⟩,
         ⟨(some 23), .mov (.t 0), (some (21, true)), []⟩,
         ⟨(some 24), .mov (.t 9), (some (21, true)), []⟩,
         ⟨(some 25), .iaddr 2 (.t 23) (.t 24), (some (21, true)), []⟩,
         ⟨(some 26), .load true 2 (.t 25), (some (21, true)), []⟩,
         ⟨(some 27), .mov (.t 0), (some (21, true)), []⟩,
         ⟨(some 28), .mov (.t 9), (some (21, true)), []⟩,
         ⟨(some 29), .bin .sub (.t 28) (.c (.i 1)), (some (21, true)), []⟩,
         ⟨(some 30), .iaddr 2 (.t 27) (.t 29), (some (21, true)), []⟩,
         ⟨(some 31), .load true 2 (.t 30), (some (21, true)), []⟩,
         ⟨(some 32), .call (.val (.t 22)) [.t 26, .t 31], (some (21, true)), []⟩,
         ⟨(some 33), .bin .lss (.t 32) (.c (.i 0)), (some (21, true)), []⟩,
         ⟨(some 34), .pick (.t 21) (.t 33) (.c (.b false)), none, []⟩])
       (.cond (.t 34) (.skip) (.exit 2)))
       (.seq (.block 3 (.reg [
          ⟨(some 37), .mov (.t 0), none, []⟩,
          ⟨(some 38), .mov (.t 9), none, []⟩,
          ⟨(some 39), .mov (.t 0), none, []⟩,
          ⟨(some 40), .mov (.t 9), none, []⟩,
          ⟨(some 41), .bin .sub (.t 40) (.c (.i 1)), none, []⟩,
          ⟨(some 42), .mov (.t 0), none, []⟩,
          ⟨(some 43), .mov (.t 9), none, []⟩,
          ⟨(some 44), .bin .sub (.t 43) (.c (.i 1)), none, []⟩,
          ⟨(some 45), .iaddr 2 (.t 42) (.t 44), none, []⟩,
          ⟨(some 46), .load true 2 (.t 45), none, []⟩,
          ⟨(some 47), .mov (.t 0), none, []⟩,
          ⟨(some 48), .mov (.t 9), none, []⟩,
          ⟨(some 49), .iaddr 2 (.t 47) (.t 48), none, []⟩,
          ⟨(some 50), .load true 2 (.t 49), none, []⟩,
          ⟨(some 51), .iaddr 2 (.t 37) (.t 38), none, []⟩,
          ⟨none, .store 2 (.t 51) (.t 46), none, []⟩,
          ⟨(some 52), .iaddr 2 (.t 39) (.t 41), none, []⟩,
          ⟨none, .store 2 (.t 52) (.t 50), none, []⟩]))
       (.reg [
         ⟨(some 35), .mov (.t 9), none, []⟩,
         ⟨(some 36), .bin .sub (.t 35) (.c (.i 1)), none, []⟩,
         ⟨(some 9), .mov (.t 36), none, []⟩])))))))
    (.reg [
      ⟨(some 15), .mov (.t 8), none, []⟩,
      ⟨(some 16), .bin .add (.t 15) (.c (.i 1)), none, []⟩,
      ⟨(some 8), .mov (.t 16), none, []⟩])))))⟩
theorem r273_is : IsFn Tryz.prog 273 r273 := ⟨Tryz.f273, by kernel_rfl, by kernel_rfl⟩
/-- slices.heapSortCmpFunc[errata/match.Hit] -/
def r274 : RFn := ⟨60, [], .seq (.reg [
    ⟨(some 13), .mov (.t 1), none, []⟩,
    ⟨(some 8), .mov (.t 13), none, []⟩])
  (.seq (.reg [
    ⟨(some 9), .mov (.c (.i 0)), none, []⟩])
  (.seq (.reg [
    ⟨(some 14), .mov (.t 2), none, []⟩,
    ⟨(some 15), .mov (.t 1), none, []⟩,
    ⟨(some 16), .bin .sub (.t 14) (.t 15), none, []⟩,
    ⟨(some 10), .mov (.t 16), none, []⟩])
  (.seq (.seq (.reg [
    ⟨(some 17), .mov (.t 10), none, []⟩,
    ⟨(some 18), .bin .sub (.t 17) (.c (.i 1)), none, []⟩,
    ⟨(some 19), .bin .quo (.t 18) (.c (.i 2)), none, []⟩,
    ⟨(some 11), .mov (.t 19), none, []⟩])
  (.block 0 (.loop (.seq (.seq (.reg [
      ⟨(some 20), .mov (.t 11), none, []⟩,
      ⟨(some 21), .bin .geq (.t 20) (.c (.i 0)), none, []⟩])
    (.cond (.t 21) (.skip) (.exit 0)))
    (.seq (.block 1 (.reg [
       ⟨(some 24), .mov (.t 0), none, []⟩,
       ⟨(some 25), .mov (.t 11), none, []⟩,
       ⟨(some 26), .mov (.t 10), none, []⟩,
       ⟨(some 27), .mov (.t 8), none, []⟩,
       ⟨(some 28), .mov (.t 3), none, []⟩,
       ⟨(some 29), .call (.fn 295) [.t 24, .t 25, .t 26, .t 27, .t 28], none, []⟩]))
    (.reg [
      ⟨(some 22), .mov (.t 11), none, []⟩,
      ⟨(some 23), .bin .sub (.t 22) (.c (.i 1)), none, []⟩,
      ⟨(some 11), .mov (.t 23), none, []⟩]))))))
  (.seq (.reg [
    ⟨(some 30), .mov (.t 10), none, []⟩,
    ⟨(some 31), .bin .sub (.t 30) (.c (.i 1)), none, []⟩,
    ⟨(some 12), .mov (.t 31), none, []⟩])
  (.block 2 (.loop (.seq (.seq (.reg [
      ⟨(some 32), .mov (.t 12), none, []⟩,
      ⟨(some 33), .bin .geq (.t 32) (.c (.i 0)), none, []⟩])
    (.cond (.t 33) (.skip) (.exit 2)))
    (.seq (.block 3 (.seq (.reg [
       ⟨(some 36), .mov (.t 0), none, []⟩,
       ⟨(some 37), .mov (.t 8), none, []⟩,
       ⟨(some 38), .mov (.t 0), none, []⟩,
       ⟨(some 39), .mov (.t 8), none, []⟩,
       ⟨(some 40), .mov (.t 12), none, []⟩,
       ⟨(some 41), .bin .add (.t 39) (.t 40), none, []⟩,
       ⟨(some 42), .mov (.t 0), none, []⟩,
       ⟨(some 43), .mov (.t 8), none, []⟩,
       ⟨(some 44), .mov (.t 12), none, []⟩,
       ⟨(some 45), .bin .add (.t 43) (.t 44), none, []⟩,
       ⟨(some 46), .iaddr 2 (.t 42) (.t 45), none, []⟩,
       ⟨(some 47), .load true 2 (.t 46), none, []⟩,
       ⟨(some 48), .mov (.t 0), none, []⟩,
       ⟨(some 49), .mov (.t 8), none, []⟩,
       ⟨(some 50), .iaddr 2 (.t 48) (.t 49), none, []⟩,
       ⟨(some 51), .load true 2 (.t 50), none, []⟩,
       ⟨(some 52), .iaddr 2 (.t 36) (.t 37), none, []⟩,
       ⟨none, .store 2 (.t 52) (.t 47), none, []⟩,
       ⟨(some 53), .iaddr 2 (.t 38) (.t 41), none, []⟩,
       ⟨none, .store 2 (.t 53) (.t 51), none, []⟩])
     (.reg [
       ⟨(some 54), .mov (.t 0), none, []⟩,
       ⟨(some 55), .mov (.t 9), none, []⟩,
       ⟨(some 56), .mov (.t 12), none, []⟩,
       ⟨(some 57), .mov (.t 8), none, []⟩,
       ⟨(some 58), .mov (.t 3), none, []⟩,
       ⟨(some 59), .call (.fn 295) [.t 54, .t 55, .t 56, .t 57, .t 58], none, []⟩])))
    (.reg [
      ⟨(some 34), .mov (.t 12), none, []⟩,
      ⟨(some 35), .bin .sub (.t 34) (.c (.i 1)), none, []⟩,
      ⟨(some 12), .mov (.t 35), none, []⟩])))))))))⟩
theorem r274_is : IsFn Tryz.prog 274 r274 := ⟨Tryz.f274, by kernel_rfl, by kernel_rfl⟩
/-- slices.breakPatternsCmpFunc[errata/match.Hit] -/
def r275 : RFn := ⟨67, [], .seq (.reg [
    ⟨(some 13), .mov (.t 2), none, []⟩,
    ⟨(some 14), .mov (.t 1), none, []⟩,
    ⟨(some 15), .bin .sub (.t 13) (.t 14), none, []⟩,
    ⟨(some 8), .mov (.t 15), none, []⟩])
  (.seq (.reg [
    ⟨(some 16), .mov (.t 8), none, []⟩,
    ⟨(some 17), .bin .geq (.t 16) (.c (.i 8)), none, []⟩])
  (.cond (.t 17) (.seq (.reg [
     ⟨(some 18), .mov (.t 8), none, []⟩,
     ⟨(some 19), .cvi .u64 (.t 18), none, []⟩,
     ⟨(some 9), .alloc [.v (.int .u64 0)] 391, none, []⟩,
     ⟨none, .store 1 (.t 9) (.t 19), none, []⟩])
   (.seq (.reg [
     ⟨(some 20), .mov (.t 8), none, []⟩,
     ⟨(some 21), .call (.fn 258) [.t 20], none, []⟩,
     ⟨(some 10), .mov (.t 21), none, []⟩])
   (.seq (.reg [
     ⟨(some 22), .mov (.t 1), none, []⟩,
     ⟨(some 23), .mov (.t 8), none, []⟩,
     ⟨(some 24), .bin .quo (.t 23) (.c (.i 4)), none, []⟩,
     ⟨(some 25), .bin .mul (.t 24) (.c (.i 2)), none, []⟩,
     ⟨(some 26), .bin .add (.t 22) (.t 25), none, []⟩,
     ⟨(some 27), .bin .sub (.t 26) (.c (.i 1)), none, []⟩,
     ⟨(some 11), .mov (.t 27), none, []⟩])
   (.block 0 (.loop (.seq (.seq (.reg [
       ⟨(some 28), .mov (.t 11), none, []⟩,
       ⟨(some 29), .mov (.t 1), none, []⟩,
       ⟨(some 30), .mov (.t 8), none, []⟩,
       ⟨(some 31), .bin .quo (.t 30) (.c (.i 4)), none, []⟩,
       ⟨(some 32), .bin .mul (.t 31) (.c (.i 2)), none, []⟩,
       ⟨(some 33), .bin .add (.t 29) (.t 32), none, []⟩,
       ⟨(some 34), .bin .add (.t 33) (.c (.i 1)), none, []⟩,
       ⟨(some 35), .bin .leq (.t 28) (.t 34), none, []⟩])
     (.cond (.t 35) (.skip) (.exit 0)))
     (.seq (.block 1 (.seq (.reg [
        ⟨(some 38), .call (.fn 259) [.t 9], none, []⟩,
        ⟨(some 39), .mov (.t 10), none, []⟩,
        ⟨(some 40), .bin .sub (.t 39) (.c (.v (.int .u64 1))), none, []⟩,
        ⟨(some 41), .bin .and (.t 38) (.t 40), none, []⟩,
        ⟨(some 42), .cvi .i64 (.t 41), none, []⟩,
        ⟨(some 12), .mov (.t 42), none, []⟩])
      (.seq (.seq (.reg [
        ⟨(some 43), .mov (.t 12), none, []⟩,
        ⟨(some 44), .mov (.t 8), none, []⟩,
        ⟨(some 45), .bin .geq (.t 43) (.t 44), none, []⟩])
      (.cond (.t 45) (.reg [
         ⟨(some 46), .mov (.t 12), none, []⟩,
         ⟨(some 47), .mov (.t 8), none, []⟩,
         ⟨(some 48), .bin .sub (.t 46) (.t 47), none, []⟩,
         ⟨(some 12), .mov (.t 48), none, []⟩]) (.skip)))
      (.reg [
        ⟨(some 49), .mov (.t 0), none, []⟩,
        ⟨(some 50), .mov (.t 11), none, []⟩,
        ⟨(some 51), .mov (.t 0), none, []⟩,
        ⟨(some 52), .mov (.t 1), none, []⟩,
        ⟨(some 53), .mov (.t 12), none, []⟩,
        ⟨(some 54), .bin .add (.t 52) (.t 53), none, []⟩,
        ⟨(some 55), .mov (.t 0), none, []⟩,
        ⟨(some 56), .mov (.t 1), none, []⟩,
        ⟨(some 57), .mov (.t 12), none, []⟩,
        ⟨(some 58), .bin .add (.t 56) (.t 57), none, []⟩,
        ⟨(some 59), .iaddr 2 (.t 55) (.t 58), none, []⟩,
        ⟨(some 60), .load true 2 (.t 59), none, []⟩,
        ⟨(some 61), .mov (.t 0), none, []⟩,
        ⟨(some 62), .mov (.t 11), none, []⟩,
        ⟨(some 63), .iaddr 2 (.t 61) (.t 62), none, []⟩,
        ⟨(some 64), .load true 2 (.t 63), none, []⟩,
        ⟨(some 65), .iaddr 2 (.t 49) (.t 50), none, []⟩,
        ⟨none, .store 2 (.t 65) (.t 60), none, []⟩,
        ⟨(some 66), .iaddr 2 (.t 51) (.t 54), none, []⟩,
        ⟨none, .store 2 (.t 66) (.t 64), none, []⟩]))))
     (.reg [
       ⟨(some 36), .mov (.t 11), none, []⟩,
       ⟨(some 37), .bin .add (.t 36) (.c (.i 1)), none, []⟩,
       ⟨(some 11), .mov (.t 37), none, []⟩])))))))) (.skip)))⟩
theorem r275_is : IsFn Tryz.prog 275 r275 := ⟨Tryz.f275, by kernel_rfl, by kernel_rfl⟩
/-- slices.choosePivotCmpFunc[errata/match.Hit] -/
def r276 : RFn := ⟨63, [.t 8, .t 9], .seq (.reg [
    ⟨(some 8), .mov (.c (.i 0)), none, []⟩,
    ⟨(some 9), .mov (.c (.i 0)), none, []⟩])
  (.seq (.reg [
    ⟨(some 15), .mov (.t 2), none, []⟩,
    ⟨(some 16), .mov (.t 1), none, []⟩,
    ⟨(some 17), .bin .sub (.t 15) (.t 16), none, []⟩,
    ⟨(some 10), .mov (.t 17), none, []⟩])
  (.seq (.reg [
    ⟨(some 11), .alloc [.i 0] 3, none, []⟩])
  (.seq (.reg [
    ⟨(some 18), .mov (.t 1), none, []⟩,
    ⟨(some 19), .mov (.t 10), none, []⟩,
    ⟨(some 20), .bin .quo (.t 19) (.c (.i 4)), none, []⟩,
    ⟨(some 21), .bin .mul (.t 20) (.c (.i 1)), none, []⟩,
    ⟨(some 22), .bin .add (.t 18) (.t 21), none, []⟩,
    ⟨(some 12), .mov (.t 22), none, []⟩])
  (.seq (.reg [
    ⟨(some 23), .mov (.t 1), none, []⟩,
    ⟨(some 24), .mov (.t 10), none, []⟩,
    ⟨(some 25), .bin .quo (.t 24) (.c (.i 4)), none, []⟩,
    ⟨(some 26), .bin .mul (.t 25) (.c (.i 2)), none, []⟩,
    ⟨(some 27), .bin .add (.t 23) (.t 26), none, []⟩,
    ⟨(some 13), .mov (.t 27), none, []⟩])
  (.seq (.reg [
    ⟨(some 28), .mov (.t 1), none, []⟩,
    ⟨(some 29), .mov (.t 10), none, []⟩,
    ⟨(some 30), .bin .quo (.t 29) (.c (.i 4)), none, []⟩,
    ⟨(some 31), .bin .mul (.t 30) (.c (.i 3)), none, []⟩,
    ⟨(some 32), .bin .add (.t 28) (.t 31), none, []⟩,
    ⟨(some 14), .mov (.t 32), none, []⟩])
  (.seq (.seq (.reg [
    ⟨(some 33), .mov (.t 10), none, []⟩,
    ⟨(some 34), .bin .geq (.t 33) (.c (.i 8)), none, []⟩])
  (.cond (.t 34) (.seq (.seq (.reg [
     ⟨(some 35), .mov (.t 10), none, []⟩,
     ⟨(some 36), .bin .geq (.t 35) (.c (.i 50)), none, []⟩])
   (.cond (.t 36) (.seq (.reg [
      ⟨(some 37), .mov (.t 0), none, []⟩,
      ⟨(some 38), .mov (.t 12), none, []⟩,
      ⟨(some 39), .mov (.t 3), none, []⟩,
      ⟨(some 40), .call (.fn 296) [.t 37, .t 38, .t 11, .t 39], none, []⟩,
      ⟨(some 12), .mov (.t 40), none, []⟩])
    (.seq (.reg [
      ⟨(some 41), .mov (.t 0), none, []⟩,
      ⟨(some 42), .mov (.t 13), none, []⟩,
      ⟨(some 43), .mov (.t 3), none, []⟩,
      ⟨(some 44), .call (.fn 296) [.t 41, .t 42, .t 11, .t 43], none, []⟩,
      ⟨(some 13), .mov (.t 44), none, []⟩])
    (.reg [
      ⟨(some 45), .mov (.t 0), none, []⟩,
      ⟨(some 46), .mov (.t 14), none, []⟩,
      ⟨(some 47), .mov (.t 3), none, []⟩,
      ⟨(some 48), .call (.fn 296) [.t 45, .t 46, .t 11, .t 47], none, []⟩,
      ⟨(some 14), .mov (.t 48), none, []⟩]))) (.skip)))
   (.reg [
     ⟨(some 49), .mov (.t 0), none, []⟩,
     ⟨(some 50), .mov (.t 12), none, []⟩,
     ⟨(some 51), .mov (.t 13), none, []⟩,
     ⟨(some 52), .mov (.t 14), none, []⟩,
     ⟨(some 53), .mov (.t 3), none, []⟩,
     ⟨(some 54), .call (.fn 297) [.t 49, .t 50, .t 51, .t 52, .t 11, .t 53], none, []⟩,
     ⟨(some 13), .mov (.t 54), none, []⟩])) (.skip)))
  (.seq (.reg [
    ⟨(some 55), .load false 1 (.t 11), none, []⟩])
  (.block 0 (.seq (.reg [
     ⟨(some 58), .bin .eql (.t 55) (.c (.i 0)), none, []⟩,
     ⟨(some 57), .mov (.t 58), none, []⟩])
   (.cond (.t 57) (.seq (.reg [
      ⟨(some 59), .mov (.t 13), none, []⟩,
      ⟨(some 8), .mov (.t 59), none, []⟩,
      ⟨(some 9), .mov (.c (.i 1)), none, []⟩])
    (.ret)) (.seq (.reg [
      ⟨(some 61), .bin .eql (.t 55) (.c (.i 12)), none, []⟩,
      ⟨(some 60), .mov (.t 61), none, []⟩])
    (.cond (.t 60) (.seq (.reg [
       ⟨(some 62), .mov (.t 13), none, []⟩,
       ⟨(some 8), .mov (.t 62), none, []⟩,
       ⟨(some 9), .mov (.c (.i 2)), none, []⟩])
     (.ret)) (.seq (.reg [
       ⟨(some 56), .mov (.t 13), none, []⟩,
       ⟨(some 8), .mov (.t 56), none, []⟩,
       ⟨(some 9), .mov (.c (.i 0)), none, []⟩])
     (.ret))))))))))))))⟩
theorem r276_is : IsFn Tryz.prog 276 r276 := ⟨Tryz.f276, by kernel_rfl, by kernel_rfl⟩
/-- slices.reverseRangeCmpFunc[errata/match.Hit] -/
def r277 : RFn := ⟨34, [], .seq (.reg [
    ⟨(some 10), .mov (.t 1), none, []⟩,
    ⟨(some 8), .mov (.t 10), none, []⟩])
  (.seq (.reg [
    ⟨(some 11), .mov (.t 2), none, []⟩,
    ⟨(some 12), .bin .sub (.t 11) (.c (.i 1)), none, []⟩,
    ⟨(some 9), .mov (.t 12), none, []⟩])
  (.block 0 (.loop (.seq (.seq (.reg [
      ⟨(some 13), .mov (.t 8), none, []⟩,
      ⟨(some 14), .mov (.t 9), none, []⟩,
      ⟨(some 15), .bin .lss (.t 13) (.t 14), none, []⟩])
    (.cond (.t 15) (.skip) (.exit 0)))
    (.block 1 (.seq (.reg [
       ⟨(some 16), .mov (.t 0), none, []⟩,
       ⟨(some 17), .mov (.t 8), none, []⟩,
       ⟨(some 18), .mov (.t 0), none, []⟩,
       ⟨(some 19), .mov (.t 9), none, []⟩,
       ⟨(some 20), .mov (.t 0), none, []⟩,
       ⟨(some 21), .mov (.t 9), none, []⟩,
       ⟨(some 22), .iaddr 2 (.t 20) (.t 21), none, []⟩,
       ⟨(some 23), .load true 2 (.t 22), none, []⟩,
       ⟨(some 24), .mov (.t 0), none, []⟩,
       ⟨(some 25), .mov (.t 8), none, []⟩,
       ⟨(some 26), .iaddr 2 (.t 24) (.t 25), none, []⟩,
       ⟨(some 27), .load true 2 (.t 26), none, []⟩,
       ⟨(some 28), .iaddr 2 (.t 16) (.t 17), none, []⟩,
       ⟨none, .store 2 (.t 28) (.t 23), none, []⟩,
       ⟨(some 29), .iaddr 2 (.t 18) (.t 19), none, []⟩,
       ⟨none, .store 2 (.t 29) (.t 27), none, []⟩])
     (.seq (.reg [
       ⟨(some 30), .mov (.t 8), none, []⟩,
       ⟨(some 31), .bin .add (.t 30) (.c (.i 1)), none, []⟩,
       ⟨(some 8), .mov (.t 31), none, []⟩])
     (.reg [
       ⟨(some 32), .mov (.t 9), none, []⟩,
       ⟨(some 33), .bin .sub (.t 32) (.c (.i 1)), none, []⟩,
       ⟨(some 9), .mov (.t 33), none, []⟩]))))))))⟩
theorem r277_is : IsFn Tryz.prog 277 r277 := ⟨Tryz.f277, by kernel_rfl, by kernel_rfl⟩
/-- slices.partialInsertionSortCmpFunc[errata/match.Hit] -/
def r278 : RFn := ⟨141, [.t 8], .seq (.reg [
    ⟨(some 8), .mov (.c (.b false)), none, []⟩])
  (.seq (.reg [
    ⟨(some 13), .mov (.t 1), none, []⟩,
    ⟨(some 14), .bin .add (.t 13) (.c (.i 1)), none, []⟩,
    ⟨(some 9), .mov (.t 14), none, []⟩])
  (.seq (.seq (.reg [
    ⟨(some 10), .mov (.c (.i 0)), none, []⟩])
  (.block 0 (.loop (.seq (.seq (.reg [
      ⟨(some 15), .mov (.t 10), none, []⟩,
      ⟨(some 16), .bin .lss (.t 15) (.c (.i 5)), none, []⟩])
    (.cond (.t 16) (.skip) (.exit 0)))
    (.seq (.block 1 (.seq (.block 2 (.loop (.seq (.seq (.reg [
         ⟨(some 19), .mov (.t 9), none, []⟩,
         ⟨(some 20), .mov (.t 2), none, []⟩,
         ⟨(some 21), .bin .lss (.t 19) (.t 20), none, []⟩,
         ⟨(some 22), .mov (.t 21), none, []⟩,
         ⟨(some 23), .mov (.t 3), (some (22, true)), []⟩,
         ⟨(some 24), .mov (.t 0), (some (22, true)), []⟩,
         ⟨(some 25), .mov (.t 9), (some (22, true)), []⟩,
         ⟨(some 26), .iaddr 2 (.t 24) (.t 25), (some (22, true)), []⟩,
         ⟨(some 27), .load true 2 (.t 26), (some (22, true)), []⟩,
         ⟨(some 28), .mov (.t 0), (some (22, true)), []⟩,
         ⟨(some 29), .mov (.t 9), (some (22, true)), []⟩,
         ⟨(some 30), .bin .sub (.t 29) (.c (.i 1)), (some (22, true)), []⟩,
         ⟨(some 31), .iaddr 2 (.t 28) (.t 30), (some (22, true)), []⟩,
         ⟨(some 32), .load true 2 (.t 31), (some (22, true)), []⟩,
         ⟨(some 33), .call (.val (.t 23)) [.t 27, .t 32], (some (22, true)), []⟩,
         ⟨(some 34), .bin .lss (.t 33) (.c (.i 0)), (some (22, true)), []⟩,
         ⟨(some 35), .un .not (.t 34), (some (22, true)), []⟩,
         ⟨(some 36), .pick (.t 22) (.t 35) (.c (.b false)), none, []⟩])
       (.cond (.t 36) (.skip) (.exit 2)))
       (.block 3 (.reg [
          ⟨(some 37), .mov (.t 9), none, []⟩,
          ⟨(some 38), .bin .add (.t 37) (.c (.i 1)), none, []⟩,
          ⟨(some 9), .mov (.t 38), none, []⟩])))))
     (.seq (.seq (.reg [
       ⟨(some 39), .mov (.t 9), none, []⟩,
       ⟨(some 40), .mov (.t 2), none, []⟩,
       ⟨(some 41), .bin .eql (.t 39) (.t 40), none, []⟩])
     (.cond (.t 41) (.seq (.reg [
        ⟨(some 8), .mov (.c (.b true)), none, []⟩])
      (.ret)) (.skip)))
     (.seq (.seq (.reg [
       ⟨(some 42), .mov (.t 2), none, []⟩,
       ⟨(some 43), .mov (.t 1), none, []⟩,
       ⟨(some 44), .bin .sub (.t 42) (.t 43), none, []⟩,
       ⟨(some 45), .bin .lss (.t 44) (.c (.i 50)), none, []⟩])
     (.cond (.t 45) (.seq (.reg [
        ⟨(some 8), .mov (.c (.b false)), none, []⟩])
      (.ret)) (.skip)))
     (.seq (.reg [
       ⟨(some 46), .mov (.t 0), none, []⟩,
       ⟨(some 47), .mov (.t 9), none, []⟩,
       ⟨(some 48), .mov (.t 0), none, []⟩,
       ⟨(some 49), .mov (.t 9), none, []⟩,
       ⟨(some 50), .bin .sub (.t 49) (.c (.i 1)), none, []⟩,
       ⟨(some 51), .mov (.t 0), none, []⟩,
       ⟨(some 52), .mov (.t 9), none, []⟩,
       ⟨(some 53), .bin .sub (.t 52) (.c (.i 1)), none, []⟩,
       ⟨(some 54), .iaddr 2 (.t 51) (.t 53), none, []⟩,
       ⟨(some 55), .load true 2 (.t 54), none, []⟩,
       ⟨(some 56), .mov (.t 0), none, []⟩,
       ⟨(some 57), .mov (.t 9), none, []⟩,
       ⟨(some 58), .iaddr 2 (.t 56) (.t 57), none, []⟩,
       ⟨(some 59), .load true 2 (.t 58), none, []⟩,
       ⟨(some 60), .iaddr 2 (.t 46) (.t 47), none, []⟩,
       ⟨none, .store 2 (.t 60) (.t 55), none, []⟩,
       ⟨(some 61), .iaddr 2 (.t 48) (.t 50), none, []⟩,
       ⟨none, .store 2 (.t 61) (.t 59), none, []⟩])
     (.seq (.seq (.reg [
       ⟨(some 62), .mov (.t 9), none, []⟩,
       ⟨(some 63), .mov (.t 1), none, []⟩,
       ⟨(some 64), .bin .sub (.t 62) (.t 63), none, []⟩,
       ⟨(some 65), .bin .geq (.t 64) (.c (.i 2)), none, []⟩])
     (.cond (.t 65) (.seq (.reg [
        ⟨(some 66), .mov (.t 9), none, []⟩,
        ⟨(some 67), .bin .sub (.t 66) (.c (.i 1)), none, []⟩,
        ⟨(some 11), .mov (.t 67), none, []⟩])
      (.block 4 (.loop (.seq (.seq (.reg [
          ⟨(some 68), .mov (.t 11), none, []⟩,
          ⟨(some 69), .bin .geq (.t 68) (.c (.i 1)), none, []⟩])
        (.cond (.t 69) (.skip) (.exit 4)))
        (.seq (.block 5 (.seq (.seq (.reg [
           ⟨(some 72), .mov (.t 3), none, []⟩,
           ⟨(some 73), .mov (.t 0), none, []⟩,
           ⟨(some 74), .mov (.t 11), none, []⟩,
           ⟨(some 75), .iaddr 2 (.t 73) (.t 74), none, []⟩,
           ⟨(some 76), .load true 2 (.t 75), none, []⟩,
           ⟨(some 77), .mov (.t 0), none, []⟩,
           ⟨(some 78), .mov (.t 11), none, []⟩,
           ⟨(some 79), .bin .sub (.t 78) (.c (.i 1)), none, []⟩,
           ⟨(some 80), .iaddr 2 (.t 77) (.t 79), none, []⟩,
           ⟨(some 81), .load true 2 (.t 80), none, []⟩,
           ⟨(some 82), .call (.val (.t 72)) [.t 76, .t 81], none, []⟩,
           ⟨(some 83), .bin .lss (.t 82) (.c (.i 0)), none, []⟩,
           ⟨(some 84), .un .not (.t 83), none, []⟩])
         (.cond (.t 84) (.exit 4) (.skip)))
         (.reg [
           ⟨(some 85), .mov (.t 0), none, []⟩,
           ⟨(some 86), .mov (.t 11), none, []⟩,
           ⟨(some 87), .mov (.t 0), none, []⟩,
           ⟨(some 88), .mov (.t 11), none, []⟩,
           ⟨(some 89), .bin .sub (.t 88) (.c (.i 1)), none, []⟩,
           ⟨(some 90), .mov (.t 0), none, []⟩,
           ⟨(some 91), .mov (.t 11), none, []⟩,
           ⟨(some 92), .bin .sub (.t 91) (.c (.i 1)), none, []⟩,
           ⟨(some 93), .iaddr 2 (.t 90) (.t 92), none, []⟩,
           ⟨(some 94), .load true 2 (.t 93), none, []⟩,
           ⟨(some 95), .mov (.t 0), none, []⟩,
           ⟨(some 96), .mov (.t 11), none, []⟩,
           ⟨(some 97), .iaddr 2 (.t 95) (.t 96), none, []⟩,
           ⟨(some 98), .load true 2 (.t 97), none, []⟩,
           ⟨(some 99), .iaddr 2 (.t 85) (.t 86), none, []⟩,
           ⟨none, .store 2 (.t 99) (.t 94), none, []⟩,
           ⟨(some 100), .iaddr 2 (.t 87) (.t 89), none, []⟩,
           ⟨none, .store 2 (.t 100) (.t 98), none, []⟩])))
        (.reg [
          ⟨(some 70), .mov (.t 11), none, []⟩,
          ⟨(some 71), .bin .sub (.t 70) (.c (.i 1)), none, []⟩,
          ⟨(some 11), .mov (.t 71), none, []⟩])))))) (.skip)))
     (.seq (.reg [
       ⟨(some 101), .mov (.t 2), none, []⟩,
       ⟨(some 102), .mov (.t 9), none, []⟩,
       ⟨(some 103), .bin .sub (.t 101) (.t 102), none, []⟩,
       ⟨(some 104), .bin .geq (.t 103) (.c (.i 2)), none, []⟩])
     (.cond (.t 104) (.seq (.reg [
        ⟨(some 105), .mov (.t 9), none, []⟩,
        ⟨(some 106), .bin .add (.t 105) (.c (.i 1)), none, []⟩,
        ⟨(some 12), .mov (.t 106), none, []⟩])
      (.block 6 (.loop (.seq (.seq (.reg [
          ⟨(some 107), .mov (.t 12), none, []⟩,
          ⟨(some 108), .mov (.t 2), none, []⟩,
          ⟨(some 109), .bin .lss (.t 107) (.t 108), none, []⟩])
        (.cond (.t 109) (.skip) (.exit 6)))
        (.seq (.block 7 (.seq (.seq (.reg [
           ⟨(some 112), .mov (.t 3), none, []⟩,
           ⟨(some 113), .mov (.t 0), none, []⟩,
           ⟨(some 114), .mov (.t 12), none, []⟩,
           ⟨(some 115), .iaddr 2 (.t 113) (.t 114), none, []⟩,
           ⟨(some 116), .load true 2 (.t 115), none, []⟩,
           ⟨(some 117), .mov (.t 0), none, []⟩,
           ⟨(some 118), .mov (.t 12), none, []⟩,
           ⟨(some 119), .bin .sub (.t 118) (.c (.i 1)), none, []⟩,
           ⟨(some 120), .iaddr 2 (.t 117) (.t 119), none, []⟩,
           ⟨(some 121), .load true 2 (.t 120), none, []⟩,
           ⟨(some 122), .call (.val (.t 112)) [.t 116, .t 121], none, []⟩,
           ⟨(some 123), .bin .lss (.t 122) (.c (.i 0)), none, []⟩,
           ⟨(some 124), .un .not (.t 123), none, []⟩])
         (.cond (.t 124) (.exit 6) (.skip)))
         (.reg [
           ⟨(some 125), .mov (.t 0), none, []⟩,
           ⟨(some 126), .mov (.t 12), none, []⟩,
           ⟨(some 127), .mov (.t 0), none, []⟩,
           ⟨(some 128), .mov (.t 12), none, []⟩,
           ⟨(some 129), .bin .sub (.t 128) (.c (.i 1)), none, []⟩,
           ⟨(some 130), .mov (.t 0), none, []⟩,
           ⟨(some 131), .mov (.t 12), none, []⟩,
           ⟨(some 132), .bin .sub (.t 131) (.c (.i 1)), none, []⟩,
           ⟨(some 133), .iaddr 2 (.t 130) (.t 132), none, []⟩,
           ⟨(some 134), .load true 2 (.t 133), none, []⟩,
           ⟨(some 135), .mov (.t 0), none, []⟩,
           ⟨(some 136), .mov (.t 12), none, []⟩,
           ⟨(some 137), .iaddr 2 (.t 135) (.t 136), none, []⟩,
           ⟨(some 138), .load true 2 (.t 137), none, []⟩,
           ⟨(some 139), .iaddr 2 (.t 125) (.t 126), none, []⟩,
           ⟨none, .store 2 (.t 139) (.t 134), none, []⟩,
           ⟨(some 140), .iaddr 2 (.t 127) (.t 129), none, []⟩,
           ⟨none, .store 2 (.t 140) (.t 138), none, []⟩])))
        (.reg [
          ⟨(some 110), .mov (.t 12), none, []⟩,
          ⟨(some 111), .bin .add (.t 110) (.c (.i 1)), none, []⟩,
          ⟨(some 12), .mov (.t 111), none, []⟩])))))) (.skip)))))))))
    (.reg [
      ⟨(some 17), .mov (.t 10), none, []⟩,
      ⟨(some 18), .bin .add (.t 17) (.c (.i 1)), none, []⟩,
      ⟨(some 10), .mov (.t 18), none, []⟩]))))))
  (.seq (.reg [
    ⟨(some 8), .mov (.c (.b false)), none, []⟩])
  (.ret))))⟩
theorem r278_is : IsFn Tryz.prog 278 r278 := ⟨Tryz.f278, by kernel_rfl, by kernel_rfl⟩
/-- slices.partitionEqualCmpFunc[errata/match.Hit] -/
def r279 : RFn := ⟨90, [.t 10], .seq (.reg [
    ⟨(some 10), .mov (.c (.i 0)), none, []⟩])
  (.seq (.reg [
    ⟨(some 13), .mov (.t 0), none, []⟩,
    ⟨(some 14), .mov (.t 1), none, []⟩,
    ⟨(some 15), .mov (.t 0), none, []⟩,
    ⟨(some 16), .mov (.t 3), none, []⟩,
    ⟨(some 17), .mov (.t 0), none, []⟩,
    ⟨(some 18), .mov (.t 3), none, []⟩,
    ⟨(some 19), .iaddr 2 (.t 17) (.t 18), none, []⟩,
    ⟨(some 20), .load true 2 (.t 19), none, []⟩,
    ⟨(some 21), .mov (.t 0), none, []⟩,
    ⟨(some 22), .mov (.t 1), none, []⟩,
    ⟨(some 23), .iaddr 2 (.t 21) (.t 22), none, []⟩,
    ⟨(some 24), .load true 2 (.t 23), none, []⟩,
    ⟨(some 25), .iaddr 2 (.t 13) (.t 14), none, []⟩,
    ⟨none, .store 2 (.t 25) (.t 20), none, []⟩,
    ⟨(some 26), .iaddr 2 (.t 15) (.t 16), none, []⟩,
    ⟨none, .store 2 (.t 26) (.t 24), none, []⟩])
  (.seq (.reg [
    ⟨(some 27), .mov (.t 1), none, []⟩,
    ⟨(some 28), .bin .add (.t 27) (.c (.i 1)), none, []⟩,
    ⟨(some 29), .mov (.t 2), none, []⟩,
    ⟨(some 30), .bin .sub (.t 29) (.c (.i 1)), none, []⟩,
    ⟨(some 11), .mov (.t 28), none, []⟩,
    ⟨(some 12), .mov (.t 30), none, []⟩])
  (.seq (.block 0 (.loop (.block 1 (.seq (.block 2 (.loop (.seq (.seq (.reg [
         ⟨(some 31), .mov (.t 11), none, []⟩,
         ⟨(some 32), .mov (.t 12), none, []⟩,
         ⟨(some 33), .bin .leq (.t 31) (.t 32), none, []⟩,
         ⟨(some 34), .mov (.t 33), none, []⟩,
         ⟨(some 35), .mov (.t 4), (some (34, true)), []⟩,
         ⟨(some 36), .mov (.t 0), (some (34, true)), []⟩,
         ⟨(some 37), .mov (.t 1), (some (34, true)), []⟩,
         ⟨(some 38), .iaddr 2 (.t 36) (.t 37), (some (34, true)), []⟩,
         ⟨(some 39), .load true 2 (.t 38), (some (34, true)), []⟩,
         ⟨(some 40), .mov (.t 0), (some (34, true)), []⟩,
         ⟨(some 41), .mov (.t 11), (some (34, true)), []⟩,
         ⟨(some 42), .iaddr 2 (.t 40) (.t 41), (some (34, true)), []⟩,
         ⟨(some 43), .load true 2 (.t 42), (some (34, true)), []⟩,
         ⟨(some 44), .call (.val (.t 35)) [.t 39, .t 43], (some (34, true)), []⟩,
         ⟨(some 45), .bin .lss (.t 44) (.c (.i 0)), (some (34, true)), []⟩,
         ⟨(some 46), .un .not (.t 45), (some (34, true)), []⟩,
         ⟨(some 47), .pick (.t 34) (.t 46) (.c (.b false)), none, []⟩])
       (.cond (.t 47) (.skip) (.exit 2)))
       (.block 3 (.reg [
          ⟨(some 48), .mov (.t 11), none, []⟩,
          ⟨(some 49), .bin .add (.t 48) (.c (.i 1)), none, []⟩,
          ⟨(some 11), .mov (.t 49), none, []⟩])))))
     (.seq (.block 4 (.loop (.seq (.seq (.reg [
         ⟨(some 50), .mov (.t 11), none, []⟩,
         ⟨(some 51), .mov (.t 12), none, []⟩,
         ⟨(some 52), .bin .leq (.t 50) (.t 51), none, []⟩,
         ⟨(some 53), .mov (.t 52), none, []⟩,
         ⟨(some 54), .mov (.t 4), (some (53, true)), []⟩,
         ⟨(some 55), .mov (.t 0), (some (53, true)), []⟩,
         ⟨(some 56), .mov (.t 1), (some (53, true)), []⟩,
         ⟨(some 57), .iaddr 2 (.t 55) (.t 56), (some (53, true)), []⟩,
         ⟨(some 58), .load true 2 (.t 57), (some (53, true)), []⟩,
         ⟨(some 59), .mov (.t 0), (some (53, true)), []⟩,
         ⟨(some 60), .mov (.t 12), (some (53, true)), []⟩,
         ⟨(some 61), .iaddr 2 (.t 59) (.t 60), (some (53, true)), []⟩,
         ⟨(some 62), .load true 2 (.t 61), (some (53, true)), []⟩,
         ⟨(some 63), .call (.val (.t 54)) [.t 58, .t 62], (some (53, true)), []⟩,
         ⟨(some 64), .bin .lss (.t 63) (.c (.i 0)), (some (53, true)), []⟩,
         ⟨(some 65), .pick (.t 53) (.t 64) (.c (.b false)), none, []⟩])
       (.cond (.t 65) (.skip) (.exit 4)))
       (.block 5 (.reg [
          ⟨(some 66), .mov (.t 12), none, []⟩,
          ⟨(some 67), .bin .sub (.t 66) (.c (.i 1)), none, []⟩,
          ⟨(some 12), .mov (.t 67), none, []⟩])))))
     (.seq (.seq (.reg [
       ⟨(some 68), .mov (.t 11), none, []⟩,
       ⟨(some 69), .mov (.t 12), none, []⟩,
       ⟨(some 70), .bin .gtr (.t 68) (.t 69), none, []⟩])
     (.cond (.t 70) (.exit 0) (.skip)))
     (.seq (.reg [
       ⟨(some 71), .mov (.t 0), none, []⟩,
       ⟨(some 72), .mov (.t 11), none, []⟩,
       ⟨(some 73), .mov (.t 0), none, []⟩,
       ⟨(some 74), .mov (.t 12), none, []⟩,
       ⟨(some 75), .mov (.t 0), none, []⟩,
       ⟨(some 76), .mov (.t 12), none, []⟩,
       ⟨(some 77), .iaddr 2 (.t 75) (.t 76), none, []⟩,
       ⟨(some 78), .load true 2 (.t 77), none, []⟩,
       ⟨(some 79), .mov (.t 0), none, []⟩,
       ⟨(some 80), .mov (.t 11), none, []⟩,
       ⟨(some 81), .iaddr 2 (.t 79) (.t 80), none, []⟩,
       ⟨(some 82), .load true 2 (.t 81), none, []⟩,
       ⟨(some 83), .iaddr 2 (.t 71) (.t 72), none, []⟩,
       ⟨none, .store 2 (.t 83) (.t 78), none, []⟩,
       ⟨(some 84), .iaddr 2 (.t 73) (.t 74), none, []⟩,
       ⟨none, .store 2 (.t 84) (.t 82), none, []⟩])
     (.seq (.reg [
       ⟨(some 85), .mov (.t 11), none, []⟩,
       ⟨(some 86), .bin .add (.t 85) (.c (.i 1)), none, []⟩,
       ⟨(some 11), .mov (.t 86), none, []⟩])
     (.reg [
       ⟨(some 87), .mov (.t 12), none, []⟩,
       ⟨(some 88), .bin .sub (.t 87) (.c (.i 1)), none, []⟩,
       ⟨(some 12), .mov (.t 88), none, []⟩])))))))))
  (.seq (.reg [
    ⟨(some 89), .mov (.t 11), none, []⟩,
    ⟨(some 10), .mov (.t 89), none, []⟩])
  (.ret)))))⟩
theorem r279_is : IsFn Tryz.prog 279 r279 := ⟨Tryz.f279, by kernel_rfl, by kernel_rfl⟩
/-- slices.partitionCmpFunc[errata/match.Hit] -/
def r280 : RFn := ⟨178, [.t 10, .t 11], .seq (.reg [
    ⟨(some 10), .mov (.c (.i 0)), none, []⟩,
    ⟨(some 11), .mov (.c (.b false)), none, []⟩])
  (.seq (.reg [
    ⟨(some 14), .mov (.t 0), none, []⟩,
    ⟨(some 15), .mov (.t 1), none, []⟩,
    ⟨(some 16), .mov (.t 0), none, []⟩,
    ⟨(some 17), .mov (.t 3), none, []⟩,
    ⟨(some 18), .mov (.t 0), none, []⟩,
    ⟨(some 19), .mov (.t 3), none, []⟩,
    ⟨(some 20), .iaddr 2 (.t 18) (.t 19), none, []⟩,
    ⟨(some 21), .load true 2 (.t 20), none, []⟩,
    ⟨(some 22), .mov (.t 0), none, []⟩,
    ⟨(some 23), .mov (.t 1), none, []⟩,
    ⟨(some 24), .iaddr 2 (.t 22) (.t 23), none, []⟩,
    ⟨(some 25), .load true 2 (.t 24), none, []⟩,
    ⟨(some 26), .iaddr 2 (.t 14) (.t 15), none, []⟩,
    ⟨none, .store 2 (.t 26) (.t 21), none, []⟩,
    ⟨(some 27), .iaddr 2 (.t 16) (.t 17), none, []⟩,
    ⟨none, .store 2 (.t 27) (.t 25), none, []⟩])
  (.seq (.reg [
    ⟨(some 28), .mov (.t 1), none, []⟩,
    ⟨(some 29), .bin .add (.t 28) (.c (.i 1)), none, []⟩,
    ⟨(some 30), .mov (.t 2), none, []⟩,
    ⟨(some 31), .bin .sub (.t 30) (.c (.i 1)), none, []⟩,
    ⟨(some 12), .mov (.t 29), none, []⟩,
    ⟨(some 13), .mov (.t 31), none, []⟩])
  (.seq (.block 0 (.loop (.seq (.seq (.reg [
      ⟨(some 32), .mov (.t 12), none, []⟩,
      ⟨(some 33), .mov (.t 13), none, []⟩,
      ⟨(some 34), .bin .leq (.t 32) (.t 33), none, []⟩,
      ⟨(some 35), .mov (.t 34), none, []⟩,
      ⟨(some 36), .mov (.t 4), (some (35, true)), []⟩,
      ⟨(some 37), .mov (.t 0), (some (35, true)), []⟩,
      ⟨(some 38), .mov (.t 12), (some (35, true)), []⟩,
      ⟨(some 39), .iaddr 2 (.t 37) (.t 38), (some (35, true)), []⟩,
      ⟨(some 40), .load true 2 (.t 39), (some (35, true)), []⟩,
      ⟨(some 41), .mov (.t 0), (some (35, true)), []⟩,
      ⟨(some 42), .mov (.t 1), (some (35, true)), []⟩,
      ⟨(some 43), .iaddr 2 (.t 41) (.t 42), (some (35, true)), []⟩,
      ⟨(some 44), .load true 2 (.t 43), (some (35, true)), []⟩,
      ⟨(some 45), .call (.val (.t 36)) [.t 40, .t 44], (some (35, true)), []⟩,
      ⟨(some 46), .bin .lss (.t 45) (.c (.i 0)), (some (35, true)), []⟩,
      ⟨(some 47), .pick (.t 35) (.t 46) (.c (.b false)), none, []⟩])
    (.cond (.t 47) (.skip) (.exit 0)))
    (.block 1 (.reg [
       ⟨(some 48), .mov (.t 12), none, []⟩,
       ⟨(some 49), .bin .add (.t 48) (.c (.i 1)), none, []⟩,
       ⟨(some 12), .mov (.t 49), none, []⟩])))))
  (.seq (.block 2 (.loop (.seq (.seq (.reg [
      ⟨(some 50), .mov (.t 12), none, []⟩,
      ⟨(some 51), .mov (.t 13), none, []⟩,
      ⟨(some 52), .bin .leq (.t 50) (.t 51), none, []⟩,
      ⟨(some 53), .mov (.t 52), none, []⟩,
      ⟨(some 54), .mov (.t 4), (some (53, true)), []⟩,
      ⟨(some 55), .mov (.t 0), (some (53, true)), []⟩,
      ⟨(some 56), .mov (.t 13), (some (53, true)), []⟩,
      ⟨(some 57), .iaddr 2 (.t 55) (.t 56), (some (53, true)), []⟩,
      ⟨(some 58), .load true 2 (.t 57), (some (53, true)), []⟩,
      ⟨(some 59), .mov (.t 0), (some (53, true)), []⟩,
      ⟨(some 60), .mov (.t 1), (some (53, true)), []⟩,
      ⟨(some 61), .iaddr 2 (.t 59) (.t 60), (some (53, true)), []⟩,
      ⟨(some 62), .load true 2 (.t 61), (some (53, true)), []⟩,
      ⟨(some 63), .call (.val (.t 54)) [.t 58, .t 62], (some (53, true)), []⟩,
      ⟨(some 64), .bin .lss (.t 63) (.c (.i 0)), (some (53, true)), []⟩,
      ⟨(some 65), .un .not (.t 64), (some (53, true)), []⟩,
      ⟨(some 66), .pick (.t 53) (.t 65) (.c (.b false)), none, []⟩])
    (.cond (.t 66) (.skip) (.exit 2)))
    (.block 3 (.reg [
       ⟨(some 67), .mov (.t 13), none, []⟩,
       ⟨(some 68), .bin .sub (.t 67) (.c (.i 1)), none, []⟩,
       ⟨(some 13), .mov (.t 68), none, []⟩])))))
  (.seq (.seq (.reg [
    ⟨(some 69), .mov (.t 12), none, []⟩,
    ⟨(some 70), .mov (.t 13), none, []⟩,
    ⟨(some 71), .bin .gtr (.t 69) (.t 70), none, []⟩])
  (.cond (.t 71) (.seq (.reg [
     ⟨(some 72), .mov (.t 0), none, []⟩,
     ⟨(some 73), .mov (.t 13), none, []⟩,
     ⟨(some 74), .mov (.t 0), none, []⟩,
     ⟨(some 75), .mov (.t 1), none, []⟩,
     ⟨(some 76), .mov (.t 0), none, []⟩,
     ⟨(some 77), .mov (.t 1), none, []⟩,
     ⟨(some 78), .iaddr 2 (.t 76) (.t 77), none, []⟩,
     ⟨(some 79), .load true 2 (.t 78), none, []⟩,
     ⟨(some 80), .mov (.t 0), none, []⟩,
     ⟨(some 81), .mov (.t 13), none, []⟩,
     ⟨(some 82), .iaddr 2 (.t 80) (.t 81), none, []⟩,
     ⟨(some 83), .load true 2 (.t 82), none, []⟩,
     ⟨(some 84), .iaddr 2 (.t 72) (.t 73), none, []⟩,
     ⟨none, .store 2 (.t 84) (.t 79), none, []⟩,
     ⟨(some 85), .iaddr 2 (.t 74) (.t 75), none, []⟩,
     ⟨none, .store 2 (.t 85) (.t 83), none, []⟩])
   (.seq (.reg [
     ⟨(some 86), .mov (.t 13), none, []⟩,
     ⟨(some 10), .mov (.t 86), none, []⟩,
     ⟨(some 11), .mov (.c (.b true)), none, []⟩])
   (.ret))) (.skip)))
  (.seq (.reg [
    ⟨(some 87), .mov (.t 0), none, []⟩,
    ⟨(some 88), .mov (.t 12), none, []⟩,
    ⟨(some 89), .mov (.t 0), none, []⟩,
    ⟨(some 90), .mov (.t 13), none, []⟩,
    ⟨(some 91), .mov (.t 0), none, []⟩,
    ⟨(some 92), .mov (.t 13), none, []⟩,
    ⟨(some 93), .iaddr 2 (.t 91) (.t 92), none, []⟩,
    ⟨(some 94), .load true 2 (.t 93), none, []⟩,
    ⟨(some 95), .mov (.t 0), none, []⟩,
    ⟨(some 96), .mov (.t 12), none, []⟩,
    ⟨(some 97), .iaddr 2 (.t 95) (.t 96), none, []⟩,
    ⟨(some 98), .load true 2 (.t 97), none, []⟩,
    ⟨(some 99), .iaddr 2 (.t 87) (.t 88), none, []⟩,
    ⟨none, .store 2 (.t 99) (.t 94), none, []⟩,
    ⟨(some 100), .iaddr 2 (.t 89) (.t 90), none, []⟩,
    ⟨none, .store 2 (.t 100) (.t 98), none, []⟩])
  (.seq (.reg [
    ⟨(some 101), .mov (.t 12), none, []⟩,
    ⟨(some 102), .bin .add (.t 101) (.c (.i 1)), none, []⟩,
    ⟨(some 12), .mov (.t 102), none, []⟩])
  (.seq (.reg [
    ⟨(some 103), .mov (.t 13), none, []⟩,
    ⟨(some 104), .bin .sub (.t 103) (.c (.i 1)), none, []⟩,
    ⟨(some 13), .mov (.t 104), none, []⟩])
  (.seq (.block 4 (.loop (.block 5 (.seq (.block 6 (.loop (.seq (.seq (.reg [
         ⟨(some 105), .mov (.t 12), none, []⟩,
         ⟨(some 106), .mov (.t 13), none, []⟩,
         ⟨(some 107), .bin .leq (.t 105) (.t 106), none, []⟩,
         ⟨(some 108), .mov (.t 107), none, []⟩,
         ⟨(some 109), .mov (.t 4), (some (108, true)), []⟩,
         ⟨(some 110), .mov (.t 0), (some (108, true)), []⟩,
         ⟨(some 111), .mov (.t 12), (some (108, true)), []⟩,
         ⟨(some 112), .iaddr 2 (.t 110) (.t 111), (some (108, true)), []⟩,
         ⟨(some 113), .load true 2 (.t 112), (some (108, true)), []⟩,
         ⟨(some 114), .mov (.t 0), (some (108, true)), []⟩,
         ⟨(some 115), .mov (.t 1), (some (108, true)), []⟩,
         ⟨(some 116), .iaddr 2 (.t 114) (.t 115), (some (108, true)), []⟩,
         ⟨(some 117), .load true 2 (.t 116), (some (108, true)), []⟩,
         ⟨(some 118), .call (.val (.t 109)) [.t 113, .t 117], (some (108, true)), []⟩,
         ⟨(some 119), .bin .lss (.t 118) (.c (.i 0)), (some (108, true)), []⟩,
         ⟨(some 120), .pick (.t 108) (.t 119) (.c (.b false)), none, []⟩])
       (.cond (.t 120) (.skip) (.exit 6)))
       (.block 7 (.reg [
          ⟨(some 121), .mov (.t 12), none, []⟩,
          ⟨(some 122), .bin .add (.t 121) (.c (.i 1)), none, []⟩,
          ⟨(some 12), .mov (.t 122), none, []⟩])))))
     (.seq (.block 8 (.loop (.seq (.seq (.reg [
         ⟨(some 123), .mov (.t 12), none, []⟩,
         ⟨(some 124), .mov (.t 13), none, []⟩,
         ⟨(some 125), .bin .leq (.t 123) (.t 124), none, []⟩,
         ⟨(some 126), .mov (.t 125), none, []⟩,
         ⟨(some 127), .mov (.t 4), (some (126, true)), []⟩,
         ⟨(some 128), .mov (.t 0), (some (126, true)), []⟩,
         ⟨(some 129), .mov (.t 13), (some (126, true)), []⟩,
         ⟨(some 130), .iaddr 2 (.t 128) (.t 129), (some (126, true)), []⟩,
         ⟨(some 131), .load true 2 (.t 130), (some (126, true)), []⟩,
         ⟨(some 132), .mov (.t 0), (some (126, true)), []⟩,
         ⟨(some 133), .mov (.t 1), (some (126, true)), []⟩,
         ⟨(some 134), .iaddr 2 (.t 132) (.t 133), (some (126, true)), []⟩,
         ⟨(some 135), .load true 2 (.t 134), (some (126, true)), []⟩,
         ⟨(some 136), .call (.val (.t 127)) [.t 131, .t 135], (some (126, true)), []⟩,
         ⟨(some 137), .bin .lss (.t 136) (.c (.i 0)), (some (126, true)), []⟩,
         ⟨(some 138), .un .not (.t 137), (some (126, true)), []⟩,
         ⟨(some 139), .pick (.t 126) (.t 138) (.c (.b false)), none, []⟩])
       (.cond (.t 139) (.skip) (.exit 8)))
       (.block 9 (.reg [
          ⟨(some 140), .mov (.t 13), none, []⟩,
          ⟨(some 141), .bin .sub (.t 140) (.c (.i 1)), none, []⟩,
          ⟨(some 13), .mov (.t 141), none, []⟩])))))
     (.seq (.seq (.reg [
       ⟨(some 142), .mov (.t 12), none, []⟩,
       ⟨(some 143), .mov (.t 13), none, []⟩,
       ⟨(some 144), .bin .gtr (.t 142) (.t 143), none, []⟩])
     (.cond (.t 144) (.exit 4) (.skip)))
     (.seq (.reg [
       ⟨(some 145), .mov (.t 0), none, []⟩,
       ⟨(some 146), .mov (.t 12), none, []⟩,
       ⟨(some 147), .mov (.t 0), none, []⟩,
       ⟨(some 148), .mov (.t 13), none, []⟩,
       ⟨(some 149), .mov (.t 0), none, []⟩,
       ⟨(some 150), .mov (.t 13), none, []⟩,
       ⟨(some 151), .iaddr 2 (.t 149) (.t 150), none, []⟩,
       ⟨(some 152), .load true 2 (.t 151), none, []⟩,
       ⟨(some 153), .mov (.t 0), none, []⟩,
       ⟨(some 154), .mov (.t 12), none, []⟩,
       ⟨(some 155), .iaddr 2 (.t 153) (.t 154), none, []⟩,
       ⟨(some 156), .load true 2 (.t 155), none, []⟩,
       ⟨(some 157), .iaddr 2 (.t 145) (.t 146), none, []⟩,
       ⟨none, .store 2 (.t 157) (.t 152), none, []⟩,
       ⟨(some 158), .iaddr 2 (.t 147) (.t 148), none, []⟩,
       ⟨none, .store 2 (.t 158) (.t 156), none, []⟩])
     (.seq (.reg [
       ⟨(some 159), .mov (.t 12), none, []⟩,
       ⟨(some 160), .bin .add (.t 159) (.c (.i 1)), none, []⟩,
       ⟨(some 12), .mov (.t 160), none, []⟩])
     (.reg [
       ⟨(some 161), .mov (.t 13), none, []⟩,
       ⟨(some 162), .bin .sub (.t 161) (.c (.i 1)), none, []⟩,
       ⟨(some 13), .mov (.t 162), none, []⟩])))))))))
  (.seq (.reg [
    ⟨(some 163), .mov (.t 0), none, []⟩,
    ⟨(some 164), .mov (.t 13), none, []⟩,
    ⟨(some 165), .mov (.t 0), none, []⟩,
    ⟨(some 166), .mov (.t 1), none, []⟩,
    ⟨(some 167), .mov (.t 0), none, []⟩,
    ⟨(some 168), .mov (.t 1), none, []⟩,
    ⟨(some 169), .iaddr 2 (.t 167) (.t 168), none, []⟩,
    ⟨(some 170), .load true 2 (.t 169), none, []⟩,
    ⟨(some 171), .mov (.t 0), none, []⟩,
    ⟨(some 172), .mov (.t 13), none, []⟩,
    ⟨(some 173), .iaddr 2 (.t 171) (.t 172), none, []⟩,
    ⟨(some 174), .load true 2 (.t 173), none, []⟩,
    ⟨(some 175), .iaddr 2 (.t 163) (.t 164), none, []⟩,
    ⟨none, .store 2 (.t 175) (.t 170), none, []⟩,
    ⟨(some 176), .iaddr 2 (.t 165) (.t 166), none, []⟩,
    ⟨none, .store 2 (.t 176) (.t 174), none, []⟩])
  (.seq (.reg [
    ⟨(some 177), .mov (.t 13), none, []⟩,
    ⟨(some 10), .mov (.t 177), none, []⟩,
    ⟨(some 11), .mov (.c (.b false)), none, []⟩])
  (.ret))))))))))))⟩
theorem r280_is : IsFn Tryz.prog 280 r280 := ⟨Tryz.f280, by kernel_rfl, by kernel_rfl⟩
/-- slices.order2CmpFunc[errata/api.Cand] -/
def r281 : RFn := ⟨32, [.t 10, .t 11], .seq (.reg [
    ⟨(some 10), .mov (.c (.i 0)), none, []⟩,
    ⟨(some 11), .mov (.c (.i 0)), none, []⟩])
  (.seq (.seq (.reg [
    ⟨(some 12), .mov (.t 4), none, []⟩,
    ⟨(some 13), .mov (.t 0), none, []⟩,
    ⟨(some 14), .mov (.t 2), none, []⟩,
    ⟨(some 15), .iaddr 3 (.t 13) (.t 14), none, []⟩,
    ⟨(some 16), .load true 3 (.t 15), none, []⟩,
    ⟨(some 17), .mov (.t 0), none, []⟩,
    ⟨(some 18), .mov (.t 1), none, []⟩,
    ⟨(some 19), .iaddr 3 (.t 17) (.t 18), none, []⟩,
    ⟨(some 20), .load true 3 (.t 19), none, []⟩,
    ⟨(some 21), .call (.val (.t 12)) [.t 16, .t 20], none, []⟩,
    ⟨(some 22), .bin .lss (.t 21) (.c (.i 0)), none, []⟩])
  (.cond (.t 22) (.seq (.reg [
     ⟨(some 23), .mov (.t 3), none, []⟩,
     ⟨(some 24), .nilck (.t 23), none, []⟩,
     ⟨(some 25), .load false 1 (.t 24), none, []⟩,
     ⟨(some 26), .bin .add (.t 25) (.c (.i 1)), none, []⟩,
     ⟨(some 27), .nilck (.t 23), none, []⟩,
     ⟨none, .store 1 (.t 27) (.t 26), none, []⟩])
   (.seq (.reg [
     ⟨(some 28), .mov (.t 2), none, []⟩,
     ⟨(some 29), .mov (.t 1), none, []⟩,
     ⟨(some 10), .mov (.t 28), none, []⟩,
     ⟨(some 11), .mov (.t 29), none, []⟩])
   (.ret))) (.skip)))
  (.seq (.reg [
    ⟨(some 30), .mov (.t 1), none, []⟩,
    ⟨(some 31), .mov (.t 2), none, []⟩,
    ⟨(some 10), .mov (.t 30), none, []⟩,
    ⟨(some 11), .mov (.t 31), none, []⟩])
  (.ret)))⟩
theorem r281_is : IsFn Tryz.prog 281 r281 := ⟨Tryz.f281, by kernel_rfl, by kernel_rfl⟩
/-- slices.siftDownCmpFunc[errata/match.Hit] -/
def r295 : RFn := ⟨82, [], .seq (.reg [
    ⟨(some 12), .mov (.t 1), none, []⟩,
    ⟨(some 10), .mov (.t 12), none, []⟩])
  (.block 0 (.loop (.block 1 (.seq (.reg [
       ⟨(some 13), .mov (.t 10), none, []⟩,
       ⟨(some 14), .bin .mul (.c (.i 2)) (.t 13), none, []⟩,
       ⟨(some 15), .bin .add (.t 14) (.c (.i 1)), none, []⟩,
       ⟨(some 11), .mov (.t 15), none, []⟩])
     (.seq (.seq (.reg [
       ⟨(some 16), .mov (.t 11), none, []⟩,
       ⟨(some 17), .mov (.t 2), none, []⟩,
       ⟨(some 18), .bin .geq (.t 16) (.t 17), none, []⟩])
     (.cond (.t 18) (.exit 0) (.skip)))
     (.seq (.seq (.reg [
       ⟨(some 19), .mov (.t 11), none, []⟩,
       ⟨(some 20), .bin .add (.t 19) (.c (.i 1)), none, []⟩,
       ⟨(some 21), .mov (.t 2), none, []⟩,
       ⟨(some 22), .bin .lss (.t 20) (.t 21), none, []⟩,
       ⟨(some 23), .mov (.t 22), none, []⟩,
       ⟨(some 24), .mov (.t 4), (some (23, true)), []⟩,
       ⟨(some 25), .mov (.t 0), (some (23, true)), []⟩,
       ⟨(some 26), .mov (.t 3), (some (23, true)), []⟩,
       ⟨(some 27), .mov (.t 11), (some (23, true)), []⟩,
       ⟨(some 28), .bin .add (.t 26) (.t 27), (some (23, true)), []⟩,
       ⟨(some 29), .iaddr 2 (.t 25) (.t 28), (some (23, true)), []⟩,
       ⟨(some 30), .load true 2 (.t 29), (some (23, true)), []⟩,
       ⟨(some 31), .mov (.t 0), (some (23, true)), []⟩,
       ⟨(some 32), .mov (.t 3), (some (23, true)), []⟩,
       ⟨(some 33), .mov (.t 11), (some (23, true)), []⟩,
       ⟨(some 34), .bin .add (.t 32) (.t 33), (some (23, true)), []⟩,
       ⟨(some 35), .bin .add (.t 34) (.c (.i 1)), (some (23, true)), []⟩,
       ⟨(some 36), .iaddr 2 (.t 31) (.t 35), (some (23, true)), []⟩,
       ⟨(some 37), .load true 2 (.t 36), (some (23, true)), []⟩,
       ⟨(some 38), .call (.val (.t 24)) [.t 30, .t 37], (some (23, true)), []⟩,
       ⟨(some 39), .bin .lss (.t 38) (.c (.i 0)), (some (23, true)), []⟩,
       ⟨(some 40), .pick (.t 23) (.t 39) (.c (.b false)), none, []⟩])
     (.cond (.t 40) (.reg [
        ⟨(some 41), .mov (.t 11), none, []⟩,
        ⟨(some 42), .bin .add (.t 41) (.c (.i 1)), none, []⟩,
        ⟨(some 11), .mov (.t 42), none, []⟩]) (.skip)))
     (.seq (.seq (.reg [
       ⟨(some 43), .mov (.t 4), none, []⟩,
       ⟨(some 44), .mov (.t 0), none, []⟩,
       ⟨(some 45), .mov (.t 3), none, []⟩,
       ⟨(some 46), .mov (.t 10), none, []⟩,
       ⟨(some 47), .bin .add (.t 45) (.t 46), none, []⟩,
       ⟨(some 48), .iaddr 2 (.t 44) (.t 47), none, []⟩,
       ⟨(some 49), .load true 2 (.t 48), none, []⟩,
       ⟨(some 50), .mov (.t 0), none, []⟩,
       ⟨(some 51), .mov (.t 3), none, []⟩,
       ⟨(some 52), .mov (.t 11), none, []⟩,
       ⟨(some 53), .bin .add (.t 51) (.t 52), none, []⟩,
       ⟨(some 54), .iaddr 2 (.t 50) (.t 53), none, []⟩,
       ⟨(some 55), .load true 2 (.t 54), none, []⟩,
       ⟨(some 56), .call (.val (.t 43)) [.t 49, .t 55], none, []⟩,
       ⟨(some 57), .bin .lss (.t 56) (.c (.i 0)), none, []⟩,
       ⟨(some 58), .un .not (.t 57), none, []⟩])
     (.cond (.t 58) (.ret) (.skip)))
     (.seq (.reg [
       ⟨(some 59), .mov (.t 0), none, []⟩,
       ⟨(some 60), .mov (.t 3), none, []⟩,
       ⟨(some 61), .mov (.t 10), none, []⟩,
       ⟨(some 62), .bin .add (.t 60) (.t 61), none, []⟩,
       ⟨(some 63), .mov (.t 0), none, []⟩,
       ⟨(some 64), .mov (.t 3), none, []⟩,
       ⟨(some 65), .mov (.t 11), none, []⟩,
       ⟨(some 66), .bin .add (.t 64) (.t 65), none, []⟩,
       ⟨(some 67), .mov (.t 0), none, []⟩,
       ⟨(some 68), .mov (.t 3), none, []⟩,
       ⟨(some 69), .mov (.t 11), none, []⟩,
       ⟨(some 70), .bin .add (.t 68) (.t 69), none, []⟩,
       ⟨(some 71), .iaddr 2 (.t 67) (.t 70), none, []⟩,
       ⟨(some 72), .load true 2 (.t 71), none, []⟩,
       ⟨(some 73), .mov (.t 0), none, []⟩,
       ⟨(some 74), .mov (.t 3), none, []⟩,
       ⟨(some 75), .mov (.t 10), none, []⟩,
       ⟨(some 76), .bin .add (.t 74) (.t 75), none, []⟩,
       ⟨(some 77), .iaddr 2 (.t 73) (.t 76), none, []⟩,
       ⟨(some 78), .load true 2 (.t 77), none, []⟩,
       ⟨(some 79), .iaddr 2 (.t 59) (.t 62), none, []⟩,
       ⟨none, .store 2 (.t 79) (.t 72), none, []⟩,
       ⟨(some 80), .iaddr 2 (.t 63) (.t 66), none, []⟩,
       ⟨none, .store 2 (.t 80) (.t 78), none, []⟩])
     (.reg [
       ⟨(some 81), .mov (.t 11), none, []⟩,
       ⟨(some 10), .mov (.t 81), none, []⟩])))))))))⟩
theorem r295_is : IsFn Tryz.prog 295 r295 := ⟨Tryz.f295, by kernel_rfl, by kernel_rfl⟩
/-- slices.medianAdjacentCmpFunc[errata/match.Hit] -/
def r296 : RFn := ⟨18, [.t 8], .seq (.reg [
    ⟨(some 8), .mov (.c (.i 0)), none, []⟩])
  (.seq (.reg [
    ⟨(some 9), .mov (.t 0), none, []⟩,
    ⟨(some 10), .mov (.t 1), none, []⟩,
    ⟨(some 11), .bin .sub (.t 10) (.c (.i 1)), none, []⟩,
    ⟨(some 12), .mov (.t 1), none, []⟩,
    ⟨(some 13), .mov (.t 1), none, []⟩,
    ⟨(some 14), .bin .add (.t 13) (.c (.i 1)), none, []⟩,
    ⟨(some 15), .mov (.t 2), none, []⟩,
    ⟨(some 16), .mov (.t 3), none, []⟩,
    ⟨(some 17), .call (.fn 297) [.t 9, .t 11, .t 12, .t 14, .t 15, .t 16], none, []⟩,
    ⟨(some 8), .mov (.t 17), none, []⟩])
  (.ret))⟩
theorem r296_is : IsFn Tryz.prog 296 r296 := ⟨Tryz.f296, by kernel_rfl, by kernel_rfl⟩
/-- slices.medianCmpFunc[errata/match.Hit] -/
def r297 : RFn := ⟨41, [.t 12], .seq (.reg [
    ⟨(some 12), .mov (.c (.i 0)), none, []⟩])
  (.seq (.reg [
    ⟨(some 14), .mov (.t 0), none, []⟩,
    ⟨(some 15), .mov (.t 1), none, []⟩,
    ⟨(some 16), .mov (.t 2), none, []⟩,
    ⟨(some 17), .mov (.t 4), none, []⟩,
    ⟨(some 18), .mov (.t 5), none, []⟩,
    ⟨(some 19), .call (.fn 318) [.t 14, .t 15, .t 16, .t 17, .t 18], none, []⟩,
    ⟨(some 13), .mov (.t 19), none, []⟩,
    ⟨(some 20), .ext (.t 13) 0, none, []⟩,
    ⟨(some 21), .ext (.t 13) 1, none, []⟩,
    ⟨(some 1), .mov (.t 20), none, []⟩,
    ⟨(some 2), .mov (.t 21), none, []⟩])
  (.seq (.reg [
    ⟨(some 23), .mov (.t 0), none, []⟩,
    ⟨(some 24), .mov (.t 2), none, []⟩,
    ⟨(some 25), .mov (.t 3), none, []⟩,
    ⟨(some 26), .mov (.t 4), none, []⟩,
    ⟨(some 27), .mov (.t 5), none, []⟩,
    ⟨(some 28), .call (.fn 318) [.t 23, .t 24, .t 25, .t 26, .t 27], none, []⟩,
    ⟨(some 22), .mov (.t 28), none, []⟩,
    ⟨(some 29), .ext (.t 22) 0, none, []⟩,
    ⟨(some 30), .ext (.t 22) 1, none, []⟩,
    ⟨(some 2), .mov (.t 29), none, []⟩,
    ⟨(some 3), .mov (.t 30), none, []⟩])
  (.seq (.reg [
    ⟨(some 32), .mov (.t 0), none, []⟩,
    ⟨(some 33), .mov (.t 1), none, []⟩,
    ⟨(some 34), .mov (.t 2), none, []⟩,
    ⟨(some 35), .mov (.t 4), none, []⟩,
    ⟨(some 36), .mov (.t 5), none, []⟩,
    ⟨(some 37), .call (.fn 318) [.t 32, .t 33, .t 34, .t 35, .t 36], none, []⟩,
    ⟨(some 31), .mov (.t 37), none, []⟩,
    ⟨(some 38), .ext (.t 31) 0, none, []⟩,
    ⟨(some 39), .ext (.t 31) 1, none, []⟩,
    ⟨(some 1), .mov (.t 38), none, []⟩,
    ⟨(some 2), .mov (.t 39), none, []⟩])
  (.seq (.reg [
    ⟨(some 40), .mov (.t 2), none, []⟩,
    ⟨(some 12), .mov (.t 40), none, []⟩])
  (.ret)))))⟩
theorem r297_is : IsFn Tryz.prog 297 r297 := ⟨Tryz.f297, by kernel_rfl, by kernel_rfl⟩
/-- slices.order2CmpFunc[errata/match.Hit] -/
def r318 : RFn := ⟨32, [.t 10, .t 11], .seq (.reg [
    ⟨(some 10), .mov (.c (.i 0)), none, []⟩,
    ⟨(some 11), .mov (.c (.i 0)), none, []⟩])
  (.seq (.seq (.reg [
    ⟨(some 12), .mov (.t 4), none, []⟩,
    ⟨(some 13), .mov (.t 0), none, []⟩,
    ⟨(some 14), .mov (.t 2), none, []⟩,
    ⟨(some 15), .iaddr 2 (.t 13) (.t 14), none, []⟩,
    ⟨(some 16), .load true 2 (.t 15), none, []⟩,
    ⟨(some 17), .mov (.t 0), none, []⟩,
    ⟨(some 18), .mov (.t 1), none, []⟩,
    ⟨(some 19), .iaddr 2 (.t 17) (.t 18), none, []⟩,
    ⟨(some 20), .load true 2 (.t 19), none, []⟩,
    ⟨(some 21), .call (.val (.t 12)) [.t 16, .t 20], none, []⟩,
    ⟨(some 22), .bin .lss (.t 21) (.c (.i 0)), none, []⟩])
  (.cond (.t 22) (.seq (.reg [
     ⟨(some 23), .mov (.t 3), none, []⟩,
     ⟨(some 24), .nilck (.t 23), none, []⟩,
     ⟨(some 25), .load false 1 (.t 24), none, []⟩,
     ⟨(some 26), .bin .add (.t 25) (.c (.i 1)), none, []⟩,
     ⟨(some 27), .nilck (.t 23), none, []⟩,
     ⟨none, .store 1 (.t 27) (.t 26), none, []⟩])
   (.seq (.reg [
     ⟨(some 28), .mov (.t 2), none, []⟩,
     ⟨(some 29), .mov (.t 1), none, []⟩,
     ⟨(some 10), .mov (.t 28), none, []⟩,
     ⟨(some 11), .mov (.t 29), none, []⟩])
   (.ret))) (.skip)))
  (.seq (.reg [
    ⟨(some 30), .mov (.t 1), none, []⟩,
    ⟨(some 31), .mov (.t 2), none, []⟩,
    ⟨(some 10), .mov (.t 30), none, []⟩,
    ⟨(some 11), .mov (.t 31), none, []⟩])
  (.ret)))⟩
theorem r318_is : IsFn Tryz.prog 318 r318 := ⟨Tryz.f318, by kernel_rfl, by kernel_rfl⟩
def tbl : T RFn := (.node (.node (.node (.node (.node (.node (.node (.node (.node .leaf (some r255) .leaf) none .leaf) none (.node .leaf (some r191) .leaf)) none (.node (.node .leaf (some r159) .leaf) none (.node .leaf (some r223) .leaf))) (some r15) (.node (.node (.node .leaf (some r143) .leaf) (some r79) .leaf) (some r47) (.node .leaf (some r111) (.node .leaf (some r239) .leaf)))) (some r7) (.node (.node (.node .leaf none (.node .leaf (some r199) .leaf)) none (.node (.node (.node .leaf (some r295) .leaf) none .leaf) (some r103) (.node .leaf (some r231) .leaf))) none (.node (.node (.node (.node .leaf (some r279) .leaf) (some r151) .leaf) none .leaf) none (.node (.node .leaf (some r183) .leaf) (some r119) .leaf)))) (some r3) (.node (.node (.node (.node (.node (.node .leaf (some r259) .leaf) none .leaf) none (.node .leaf (some r195) .leaf)) none (.node .leaf none (.node .leaf (some r227) .leaf))) (some r19) (.node (.node (.node (.node .leaf (some r275) .leaf) (some r147) .leaf) (some r83) .leaf) none (.node .leaf (some r115) .leaf))) none (.node (.node (.node .leaf (some r75) .leaf) (some r43) (.node .leaf (some r107) (.node .leaf (some r235) .leaf))) none (.node (.node (.node .leaf (some r155) .leaf) none (.node .leaf (some r219) .leaf)) none (.node (.node .leaf (some r187) .leaf) none .leaf))))) none (.node (.node (.node (.node (.node (.node (.node .leaf (some r257) .leaf) none .leaf) none (.node .leaf (some r193) .leaf)) none (.node .leaf none (.node .leaf (some r225) .leaf))) (some r17) (.node (.node (.node (.node .leaf (some r273) .leaf) (some r145) .leaf) (some r81) .leaf) none (.node .leaf (some r113) .leaf))) none (.node (.node (.node .leaf (some r73) .leaf) (some r41) (.node (.node (.node .leaf (some r297) .leaf) none .leaf) none (.node .leaf (some r233) .leaf))) none (.node (.node (.node (.node .leaf (some r281) .leaf) (some r153) .leaf) none .leaf) none (.node (.node .leaf (some r185) .leaf) none .leaf)))) (some r5) (.node (.node (.node (.node (.node (.node .leaf (some r261) .leaf) none .leaf) (some r69) (.node .leaf (some r197) .leaf)) none (.node .leaf none (.node .leaf (some r229) .leaf))) none (.node (.node (.node (.node .leaf (some r277) .leaf) (some r149) .leaf) none .leaf) none (.node .leaf (some r117) .leaf))) none (.node (.node (.node .leaf (some r77) .leaf) (some r45) (.node .leaf (some r109) (.node .leaf (some r237) .leaf))) none (.node (.node (.node .leaf (some r157) .leaf) none (.node .leaf (some r221) .leaf)) none (.node (.node .leaf (some r189) .leaf) none (.node .leaf (some r253) .leaf))))))) none (.node (.node (.node (.node (.node (.node (.node (.node .leaf (some r256) .leaf) none .leaf) none (.node .leaf (some r192) .leaf)) none (.node (.node .leaf (some r160) .leaf) none (.node .leaf (some r224) .leaf))) (some r16) (.node (.node (.node .leaf (some r144) .leaf) (some r80) .leaf) none (.node .leaf (some r112) (.node .leaf (some r240) .leaf)))) none (.node (.node (.node .leaf (some r72) .leaf) (some r40) (.node (.node (.node .leaf (some r296) .leaf) none .leaf) none (.node .leaf (some r232) .leaf))) none (.node (.node (.node (.node .leaf (some r280) .leaf) (some r152) .leaf) none .leaf) none (.node (.node .leaf (some r184) .leaf) none .leaf)))) none (.node (.node (.node (.node (.node (.node .leaf (some r260) .leaf) none .leaf) none (.node .leaf (some r196) .leaf)) none (.node .leaf none (.node .leaf (some r228) .leaf))) none (.node (.node (.node (.node .leaf (some r276) .leaf) (some r148) .leaf) none .leaf) none (.node .leaf (some r116) .leaf))) none (.node (.node (.node .leaf (some r76) .leaf) (some r44) (.node .leaf (some r108) (.node .leaf (some r236) .leaf))) (some r28) (.node (.node (.node .leaf (some r156) .leaf) none (.node .leaf (some r220) .leaf)) none (.node (.node .leaf (some r188) .leaf) none (.node .leaf (some r252) .leaf)))))) none (.node (.node (.node (.node (.node (.node (.node .leaf (some r258) .leaf) none .leaf) none (.node .leaf (some r194) .leaf)) none (.node .leaf none (.node .leaf (some r226) .leaf))) (some r18) (.node (.node (.node (.node .leaf (some r274) .leaf) (some r146) .leaf) (some r82) .leaf) none (.node .leaf (some r114) .leaf))) none (.node (.node (.node .leaf (some r74) .leaf) (some r42) (.node .leaf (some r106) (.node .leaf (some r234) .leaf))) none (.node (.node (.node .leaf (some r154) .leaf) none (.node .leaf (some r218) .leaf)) none (.node (.node .leaf (some r186) .leaf) none .leaf)))) (some r6) (.node (.node (.node (.node .leaf none (.node .leaf (some r198) .leaf)) none (.node .leaf none (.node .leaf (some r230) .leaf))) none (.node (.node (.node (.node .leaf (some r278) .leaf) (some r150) .leaf) none (.node .leaf (some r214) .leaf)) none (.node (.node .leaf (some r182) .leaf) (some r118) .leaf))) none (.node (.node (.node .leaf (some r78) .leaf) (some r46) (.node .leaf (some r110) (.node .leaf (some r238) .leaf))) none (.node (.node (.node .leaf (some r158) .leaf) none (.node .leaf (some r222) .leaf)) none (.node (.node (.node .leaf (some r318) .leaf) (some r190) .leaf) none (.node .leaf (some r254) .leaf))))))))
theorem tbl_all : tbl.All (IsFn Tryz.prog) (fun k => k) := ⟨none_i, ⟨none_i, ⟨some_i r3_is rfl, ⟨some_i r7_is rfl, ⟨some_i r15_is rfl, ⟨none_i, ⟨none_i, ⟨none_i, ⟨some_i r255_is rfl, trivial, trivial⟩, trivial⟩, ⟨some_i r191_is rfl, trivial, trivial⟩⟩, ⟨none_i, ⟨some_i r159_is rfl, trivial, trivial⟩, ⟨some_i r223_is rfl, trivial, trivial⟩⟩⟩, ⟨some_i r47_is rfl, ⟨some_i r79_is rfl, ⟨some_i r143_is rfl, trivial, trivial⟩, trivial⟩, ⟨some_i r111_is rfl, trivial, ⟨some_i r239_is rfl, trivial, trivial⟩⟩⟩⟩, ⟨none_i, ⟨none_i, ⟨none_i, trivial, ⟨some_i r199_is rfl, trivial, trivial⟩⟩, ⟨some_i r103_is rfl, ⟨none_i, ⟨some_i r295_is rfl, trivial, trivial⟩, trivial⟩, ⟨some_i r231_is rfl, trivial, trivial⟩⟩⟩, ⟨none_i, ⟨none_i, ⟨some_i r151_is rfl, ⟨some_i r279_is rfl, trivial, trivial⟩, trivial⟩, trivial⟩, ⟨some_i r119_is rfl, ⟨some_i r183_is rfl, trivial, trivial⟩, trivial⟩⟩⟩⟩, ⟨none_i, ⟨some_i r19_is rfl, ⟨none_i, ⟨none_i, ⟨none_i, ⟨some_i r259_is rfl, trivial, trivial⟩, trivial⟩, ⟨some_i r195_is rfl, trivial, trivial⟩⟩, ⟨none_i, trivial, ⟨some_i r227_is rfl, trivial, trivial⟩⟩⟩, ⟨none_i, ⟨some_i r83_is rfl, ⟨some_i r147_is rfl, ⟨some_i r275_is rfl, trivial, trivial⟩, trivial⟩, trivial⟩, ⟨some_i r115_is rfl, trivial, trivial⟩⟩⟩, ⟨none_i, ⟨some_i r43_is rfl, ⟨some_i r75_is rfl, trivial, trivial⟩, ⟨some_i r107_is rfl, trivial, ⟨some_i r235_is rfl, trivial, trivial⟩⟩⟩, ⟨none_i, ⟨none_i, ⟨some_i r155_is rfl, trivial, trivial⟩, ⟨some_i r219_is rfl, trivial, trivial⟩⟩, ⟨none_i, ⟨some_i r187_is rfl, trivial, trivial⟩, trivial⟩⟩⟩⟩⟩, ⟨some_i r5_is rfl, ⟨none_i, ⟨some_i r17_is rfl, ⟨none_i, ⟨none_i, ⟨none_i, ⟨some_i r257_is rfl, trivial, trivial⟩, trivial⟩, ⟨some_i r193_is rfl, trivial, trivial⟩⟩, ⟨none_i, trivial, ⟨some_i r225_is rfl, trivial, trivial⟩⟩⟩, ⟨none_i, ⟨some_i r81_is rfl, ⟨some_i r145_is rfl, ⟨some_i r273_is rfl, trivial, trivial⟩, trivial⟩, trivial⟩, ⟨some_i r113_is rfl, trivial, trivial⟩⟩⟩, ⟨none_i, ⟨some_i r41_is rfl, ⟨some_i r73_is rfl, trivial, trivial⟩, ⟨none_i, ⟨none_i, ⟨some_i r297_is rfl, trivial, trivial⟩, trivial⟩, ⟨some_i r233_is rfl, trivial, trivial⟩⟩⟩, ⟨none_i, ⟨none_i, ⟨some_i r153_is rfl, ⟨some_i r281_is rfl, trivial, trivial⟩, trivial⟩, trivial⟩, ⟨none_i, ⟨some_i r185_is rfl, trivial, trivial⟩, trivial⟩⟩⟩⟩, ⟨none_i, ⟨none_i, ⟨none_i, ⟨some_i r69_is rfl, ⟨none_i, ⟨some_i r261_is rfl, trivial, trivial⟩, trivial⟩, ⟨some_i r197_is rfl, trivial, trivial⟩⟩, ⟨none_i, trivial, ⟨some_i r229_is rfl, trivial, trivial⟩⟩⟩, ⟨none_i, ⟨none_i, ⟨some_i r149_is rfl, ⟨some_i r277_is rfl, trivial, trivial⟩, trivial⟩, trivial⟩, ⟨some_i r117_is rfl, trivial, trivial⟩⟩⟩, ⟨none_i, ⟨some_i r45_is rfl, ⟨some_i r77_is rfl, trivial, trivial⟩, ⟨some_i r109_is rfl, trivial, ⟨some_i r237_is rfl, trivial, trivial⟩⟩⟩, ⟨none_i, ⟨none_i, ⟨some_i r157_is rfl, trivial, trivial⟩, ⟨some_i r221_is rfl, trivial, trivial⟩⟩, ⟨none_i, ⟨some_i r189_is rfl, trivial, trivial⟩, ⟨some_i r253_is rfl, trivial, trivial⟩⟩⟩⟩⟩⟩⟩, ⟨none_i, ⟨none_i, ⟨none_i, ⟨some_i r16_is rfl, ⟨none_i, ⟨none_i, ⟨none_i, ⟨some_i r256_is rfl, trivial, trivial⟩, trivial⟩, ⟨some_i r192_is rfl, trivial, trivial⟩⟩, ⟨none_i, ⟨some_i r160_is rfl, trivial, trivial⟩, ⟨some_i r224_is rfl, trivial, trivial⟩⟩⟩, ⟨none_i, ⟨some_i r80_is rfl, ⟨some_i r144_is rfl, trivial, trivial⟩, trivial⟩, ⟨some_i r112_is rfl, trivial, ⟨some_i r240_is rfl, trivial, trivial⟩⟩⟩⟩, ⟨none_i, ⟨some_i r40_is rfl, ⟨some_i r72_is rfl, trivial, trivial⟩, ⟨none_i, ⟨none_i, ⟨some_i r296_is rfl, trivial, trivial⟩, trivial⟩, ⟨some_i r232_is rfl, trivial, trivial⟩⟩⟩, ⟨none_i, ⟨none_i, ⟨some_i r152_is rfl, ⟨some_i r280_is rfl, trivial, trivial⟩, trivial⟩, trivial⟩, ⟨none_i, ⟨some_i r184_is rfl, trivial, trivial⟩, trivial⟩⟩⟩⟩, ⟨none_i, ⟨none_i, ⟨none_i, ⟨none_i, ⟨none_i, ⟨some_i r260_is rfl, trivial, trivial⟩, trivial⟩, ⟨some_i r196_is rfl, trivial, trivial⟩⟩, ⟨none_i, trivial, ⟨some_i r228_is rfl, trivial, trivial⟩⟩⟩, ⟨none_i, ⟨none_i, ⟨some_i r148_is rfl, ⟨some_i r276_is rfl, trivial, trivial⟩, trivial⟩, trivial⟩, ⟨some_i r116_is rfl, trivial, trivial⟩⟩⟩, ⟨some_i r28_is rfl, ⟨some_i r44_is rfl, ⟨some_i r76_is rfl, trivial, trivial⟩, ⟨some_i r108_is rfl, trivial, ⟨some_i r236_is rfl, trivial, trivial⟩⟩⟩, ⟨none_i, ⟨none_i, ⟨some_i r156_is rfl, trivial, trivial⟩, ⟨some_i r220_is rfl, trivial, trivial⟩⟩, ⟨none_i, ⟨some_i r188_is rfl, trivial, trivial⟩, ⟨some_i r252_is rfl, trivial, trivial⟩⟩⟩⟩⟩⟩, ⟨some_i r6_is rfl, ⟨none_i, ⟨some_i r18_is rfl, ⟨none_i, ⟨none_i, ⟨none_i, ⟨some_i r258_is rfl, trivial, trivial⟩, trivial⟩, ⟨some_i r194_is rfl, trivial, trivial⟩⟩, ⟨none_i, trivial, ⟨some_i r226_is rfl, trivial, trivial⟩⟩⟩, ⟨none_i, ⟨some_i r82_is rfl, ⟨some_i r146_is rfl, ⟨some_i r274_is rfl, trivial, trivial⟩, trivial⟩, trivial⟩, ⟨some_i r114_is rfl, trivial, trivial⟩⟩⟩, ⟨none_i, ⟨some_i r42_is rfl, ⟨some_i r74_is rfl, trivial, trivial⟩, ⟨some_i r106_is rfl, trivial, ⟨some_i r234_is rfl, trivial, trivial⟩⟩⟩, ⟨none_i, ⟨none_i, ⟨some_i r154_is rfl, trivial, trivial⟩, ⟨some_i r218_is rfl, trivial, trivial⟩⟩, ⟨none_i, ⟨some_i r186_is rfl, trivial, trivial⟩, trivial⟩⟩⟩⟩, ⟨none_i, ⟨none_i, ⟨none_i, ⟨none_i, trivial, ⟨some_i r198_is rfl, trivial, trivial⟩⟩, ⟨none_i, trivial, ⟨some_i r230_is rfl, trivial, trivial⟩⟩⟩, ⟨none_i, ⟨none_i, ⟨some_i r150_is rfl, ⟨some_i r278_is rfl, trivial, trivial⟩, trivial⟩, ⟨some_i r214_is rfl, trivial, trivial⟩⟩, ⟨some_i r118_is rfl, ⟨some_i r182_is rfl, trivial, trivial⟩, trivial⟩⟩⟩, ⟨none_i, ⟨some_i r46_is rfl, ⟨some_i r78_is rfl, trivial, trivial⟩, ⟨some_i r110_is rfl, trivial, ⟨some_i r238_is rfl, trivial, trivial⟩⟩⟩, ⟨none_i, ⟨none_i, ⟨some_i r158_is rfl, trivial, trivial⟩, ⟨some_i r222_is rfl, trivial, trivial⟩⟩, ⟨none_i, ⟨some_i r190_is rfl, ⟨some_i r318_is rfl, trivial, trivial⟩, trivial⟩, ⟨some_i r254_is rfl, trivial, trivial⟩⟩⟩⟩⟩⟩⟩⟩
end Go.Proofs.YtdajenjajmofiaaGreatDoor
