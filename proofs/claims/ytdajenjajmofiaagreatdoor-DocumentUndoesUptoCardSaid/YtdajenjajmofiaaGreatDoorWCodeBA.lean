/- The resolved code of the functions that the law reaches, and that it is that; printed by a program of ours. -/
import Derived.Test.YtdajenjajmofiaaGreatDoorFslEv9
import Derived.Test.YtdajenjajmofiaaGreatDoorChecked
import Derived.KernelRfl
set_option linter.unusedSimpArgs false
set_option linter.unusedVariables false
set_option maxRecDepth 100000
namespace Go.Proofs.YtdajenjajmofiaaGreatDoor
open Go Go.Fsl
/-- errata/erratalaw20.DocumentUndoes -/
def r3 : RFn := ⟨64, [.t 4], .seq (.reg [
    ⟨(some 4), .mov (.c (.b false)), none, []⟩])
  (.seq (.seq (.reg [
    ⟨(some 13), .call (.fn 5) [], none, []⟩,
    ⟨(some 14), .un .not (.t 13), none, []⟩])
  (.cond (.t 14) (.seq (.reg [
     ⟨(some 4), .mov (.c (.b false)), none, []⟩])
   (.ret)) (.skip)))
  (.seq (.reg [
    ⟨(some 15), .mov (.t 0), none, []⟩,
    ⟨(some 16), .len true (.t 15), none, []⟩,
    ⟨(some 5), .mov (.t 16), none, []⟩])
  (.seq (.reg [
    ⟨(some 6), .mov (.c (.nils)), none, []⟩])
  (.seq (.seq (.reg [
    ⟨(some 17), .mov (.t 1), none, []⟩,
    ⟨(some 18), .len false (.t 17), none, []⟩,
    ⟨(some 19), .mov (.c (.i 0)), none, []⟩])
  (.block 0 (.loop (.seq (.reg [
      ⟨(some 20), .bin .lss (.t 19) (.t 18), none, []⟩])
    (.seq (.cond (.t 20) (.skip) (.exit 0))
    (.seq (.block 1 (.seq (.reg [
       ⟨(some 21), .iaddr 5 (.t 17) (.t 19), none, []⟩,
       ⟨(some 22), .load true 5 (.t 21), none, []⟩,
       ⟨(some 8), .alloc [.i 0, .i 0, .v (.string ⟨#[]⟩), .v (.string ⟨#[]⟩), .i 0] 26, none, []⟩,
       ⟨none, .store 5 (.t 8) (.t 22), none, []⟩])
     (.seq (.reg [
       ⟨(some 23), .mov (.t 5), none, []⟩,
       ⟨(some 24), .faddr 2 (.t 8), none, []⟩,
       ⟨(some 25), .load false 1 (.t 24), none, []⟩,
       ⟨(some 26), .len true (.t 25), none, []⟩,
       ⟨(some 27), .faddr 3 (.t 8), none, []⟩,
       ⟨(some 28), .load false 1 (.t 27), none, []⟩,
       ⟨(some 29), .len true (.t 28), none, []⟩,
       ⟨(some 30), .bin .add (.t 26) (.t 29), none, []⟩,
       ⟨(some 31), .bin .add (.t 23) (.t 30), none, []⟩,
       ⟨(some 5), .mov (.t 31), none, []⟩])
     (.reg [
       ⟨(some 32), .mov (.t 6), none, []⟩,
       ⟨(some 33), .load true 5 (.t 8), none, []⟩,
       ⟨(some 34), .bslice 5 [.i 0, .i 0, .v (.string ⟨#[]⟩), .v (.string ⟨#[]⟩), .i 0] 1 [(0, 5, (.t 33))], none, []⟩,
       ⟨(some 35), .append 5 56 [.i 0, .i 0, .v (.string ⟨#[]⟩), .v (.string ⟨#[]⟩), .i 0] 27 (.t 32) (.t 34), none, []⟩,
       ⟨(some 6), .mov (.t 35), none, []⟩]))))
    (.reg [
      ⟨(some 36), .bin .add (.t 19) (.c (.i 1)), none, []⟩,
      ⟨(some 19), .mov (.t 36), none, []⟩])))))))
  (.seq (.seq (.reg [
    ⟨(some 37), .mov (.t 1), none, []⟩,
    ⟨(some 38), .len false (.t 37), none, []⟩,
    ⟨(some 39), .bin .gtr (.t 38) (.c (.i 100)), none, []⟩,
    ⟨(some 40), .mov (.t 39), none, []⟩,
    ⟨(some 41), .mov (.t 5), (some (40, false)), []⟩,
    ⟨(some 42), .bin .gtr (.t 41) (.c (.i 5000)), (some (40, false)), []⟩,
    ⟨(some 43), .pick (.t 40) (.c (.b true)) (.t 42), none, []⟩])
  (.cond (.t 43) (.seq (.reg [
     ⟨(some 4), .mov (.c (.b true)), none, []⟩])
   (.ret)) (.skip)))
  (.seq (.reg [
    ⟨(some 45), .mov (.t 0), none, []⟩,
    ⟨(some 46), .mov (.t 6), none, []⟩,
    ⟨(some 47), .call (.fn 6) [.t 45, .t 46], none, []⟩,
    ⟨(some 44), .mov (.t 47), none, []⟩,
    ⟨(some 48), .ext (.t 44) 0, none, []⟩,
    ⟨(some 49), .ext (.t 44) 1, none, []⟩,
    ⟨(some 9), .mov (.t 48), none, []⟩,
    ⟨(some 10), .mov (.t 49), none, []⟩])
  (.seq (.reg [
    ⟨(some 51), .mov (.t 0), none, []⟩,
    ⟨(some 52), .mov (.t 1), none, []⟩,
    ⟨(some 53), .call (.fn 7) [.t 51, .t 52], none, []⟩,
    ⟨(some 50), .mov (.t 53), none, []⟩,
    ⟨(some 54), .ext (.t 50) 0, none, []⟩,
    ⟨(some 55), .ext (.t 50) 1, none, []⟩,
    ⟨(some 11), .mov (.t 54), none, []⟩,
    ⟨(some 12), .mov (.t 55), none, []⟩])
  (.seq (.reg [
    ⟨(some 56), .mov (.t 9), none, []⟩,
    ⟨(some 57), .mov (.t 11), none, []⟩,
    ⟨(some 58), .bin .eql (.t 56) (.t 57), none, []⟩,
    ⟨(some 59), .mov (.t 58), none, []⟩,
    ⟨(some 60), .mov (.t 10), (some (59, true)), []⟩,
    ⟨(some 61), .mov (.t 12), (some (59, true)), []⟩,
    ⟨(some 62), .bin .eql (.t 60) (.t 61), (some (59, true)), []⟩,
    ⟨(some 63), .pick (.t 59) (.t 62) (.c (.b false)), none, []⟩,
    ⟨(some 4), .mov (.t 63), none, []⟩])
  (.ret)))))))))⟩
theorem r3_is : IsFn Tryz.prog 3 r3 := ⟨Tryz.f3, by kernel_rfl, by kernel_rfl⟩
/-- errata/erratalaw20.alive -/
def r5 : RFn := ⟨65, [.t 0], .seq (.reg [
    ⟨(some 0), .mov (.c (.b false)), none, []⟩])
  (.seq (.reg [
    ⟨(some 10), .build [.v (.string ⟨#[]⟩), .v (.string ⟨#[]⟩), .i 0] [(0, 1, (.c (.v (.string ⟨#[114, 110]⟩)))), (1, 1, (.c (.v (.string ⟨#[109]⟩)))), (2, 1, (.c (.i 7)))], none, []⟩,
    ⟨(some 11), .bslice 3 [.v (.string ⟨#[]⟩), .v (.string ⟨#[]⟩), .i 0] 1 [(0, 3, (.t 10))], none, []⟩,
    ⟨(some 12), .build [.v (.string ⟨#[]⟩), .i 0] [(0, 1, (.c (.v (.string ⟨#[97, 109]⟩)))), (1, 1, (.c (.i 1)))], none, []⟩,
    ⟨(some 13), .build [.v (.string ⟨#[]⟩), .i 0] [(0, 1, (.c (.v (.string ⟨#[97, 110]⟩)))), (1, 1, (.c (.i 2)))], none, []⟩,
    ⟨(some 14), .bslice 2 [.v (.string ⟨#[]⟩), .i 0] 2 [(0, 2, (.t 12)), (2, 2, (.t 13))], none, []⟩,
    ⟨(some 15), .build [.nils, .nils] [(0, 1, (.t 11)), (1, 1, (.t 14))], none, []⟩,
    ⟨(some 16), .call (.fn 15) [.t 15], none, []⟩,
    ⟨(some 9), .mov (.t 16), none, []⟩,
    ⟨(some 17), .ext (.t 9) 0, none, []⟩,
    ⟨(some 18), .ext (.t 9) 1, none, []⟩,
    ⟨(some 1), .mov (.t 17), none, []⟩,
    ⟨(some 2), .mov (.t 18), none, []⟩])
  (.seq (.seq (.reg [
    ⟨(some 19), .mov (.t 1), none, []⟩,
    ⟨(some 20), .eqp false (.t 19) (.c (.nilp)), none, []⟩,
    ⟨(some 21), .mov (.t 20), none, []⟩,
    ⟨(some 22), .mov (.t 2), (some (21, false)), []⟩,
    ⟨(some 23), .bin .neq (.t 22) (.c (.i 0)), (some (21, false)), []⟩,
    ⟨(some 24), .pick (.t 21) (.c (.b true)) (.t 23), none, []⟩])
  (.cond (.t 24) (.seq (.reg [
     ⟨(some 0), .mov (.c (.b false)), none, []⟩])
   (.ret)) (.skip)))
  (.seq (.reg [
    ⟨(some 26), .mov (.t 1), none, []⟩,
    ⟨(some 27), .call (.fn 16) [.t 26, .c (.v (.string ⟨#[73, 32, 97, 114, 110, 46]⟩)), .c (.i 10)], none, []⟩,
    ⟨(some 25), .mov (.t 27), none, []⟩,
    ⟨(some 28), .ext (.t 25) 0, none, []⟩,
    ⟨(some 29), .ext (.t 25) 1, none, []⟩,
    ⟨(some 30), .ext (.t 25) 2, none, []⟩,
    ⟨(some 3), .mov (.t 28), none, []⟩,
    ⟨(some 4), .mov (.t 29), none, []⟩,
    ⟨(some 5), .mov (.t 30), none, []⟩])
  (.seq (.reg [
    ⟨(some 32), .call (.fn 16) [.c (.nilp), .c (.v (.string ⟨#[]⟩)), .c (.i 1)], none, []⟩,
    ⟨(some 31), .mov (.t 32), none, []⟩,
    ⟨(some 33), .ext (.t 31) 0, none, []⟩,
    ⟨(some 34), .ext (.t 31) 1, none, []⟩,
    ⟨(some 35), .ext (.t 31) 2, none, []⟩,
    ⟨(some 6), .mov (.t 33), none, []⟩,
    ⟨(some 7), .mov (.t 34), none, []⟩,
    ⟨(some 8), .mov (.t 35), none, []⟩])
  (.seq (.reg [
    ⟨(some 36), .mov (.t 3), none, []⟩,
    ⟨(some 37), .bin .eql (.t 36) (.c (.v (.string ⟨#[73, 32, 97, 109, 46]⟩))), none, []⟩,
    ⟨(some 38), .mov (.t 37), none, []⟩,
    ⟨(some 39), .mov (.t 4), (some (38, true)), []⟩,
    ⟨(some 40), .len false (.t 39), (some (38, true)), []⟩,
    ⟨(some 41), .bin .eql (.t 40) (.c (.i 1)), (some (38, true)), []⟩,
    ⟨(some 42), .pick (.t 38) (.t 41) (.c (.b false)), none, []⟩,
    ⟨(some 43), .mov (.t 42), none, []⟩,
    ⟨(some 44), .mov (.t 4), (some (43, true)), []⟩,
    ⟨(some 45), .iaddr 5 (.t 44) (.c (.i 0)), (some (43, true)), []⟩,
    ⟨(some 46), .faddr 0 (.t 45), (some (43, true)), []⟩,
    ⟨(some 47), .load false 1 (.t 46), (some (43, true)), []⟩,
    ⟨(some 48), .bin .eql (.t 47) (.c (.i 2)), (some (43, true)), []⟩,
    ⟨(some 49), .pick (.t 43) (.t 48) (.c (.b false)), none, []⟩,
    ⟨(some 50), .mov (.t 49), none, []⟩,
    ⟨(some 51), .mov (.t 4), (some (50, true)), []⟩,
    ⟨(some 52), .iaddr 5 (.t 51) (.c (.i 0)), (some (50, true)), []⟩,
    ⟨(some 53), .faddr 4 (.t 52), (some (50, true)), []⟩,
    ⟨(some 54), .load false 1 (.t 53), (some (50, true)), []⟩,
    ⟨(some 55), .bin .eql (.t 54) (.c (.i 7)), (some (50, true)), []⟩,
    ⟨(some 56), .pick (.t 50) (.t 55) (.c (.b false)), none, []⟩,
    ⟨(some 57), .mov (.t 56), none, []⟩,
    ⟨(some 58), .mov (.t 5), (some (57, true)), []⟩,
    ⟨(some 59), .bin .eql (.t 58) (.c (.i 0)), (some (57, true)), []⟩,
    ⟨(some 60), .pick (.t 57) (.t 59) (.c (.b false)), none, []⟩,
    ⟨(some 61), .mov (.t 60), none, []⟩,
    ⟨(some 62), .mov (.t 8), (some (61, true)), []⟩,
    ⟨(some 63), .bin .eql (.t 62) (.c (.i 1)), (some (61, true)), []⟩,
    ⟨(some 64), .pick (.t 61) (.t 63) (.c (.b false)), none, []⟩,
    ⟨(some 0), .mov (.t 64), none, []⟩])
  (.ret))))))⟩
theorem r5_is : IsFn Tryz.prog 5 r5 := ⟨Tryz.f5, by kernel_rfl, by kernel_rfl⟩
/-- errata/document.Undo -/
def r6 : RFn := ⟨87, [.t 4, .t 5], .seq (.reg [
    ⟨(some 4), .mov (.c (.v (.string ⟨#[]⟩))), none, []⟩,
    ⟨(some 5), .mov (.c (.i 0)), none, []⟩])
  (.scope (.seq (.reg [
     ⟨(some 6), .alloc [.nilp, .nils] 62, none, []⟩])
   (.seq (.reg [
     ⟨(some 7), .mov (.c (.i 0)), none, []⟩,
     ⟨(some 8), .mov (.c (.i 0)), none, []⟩])
   (.seq (.skip)
   (.seq (.seq (.reg [
     ⟨(some 12), .mov (.t 1), none, []⟩,
     ⟨(some 13), .len false (.t 12), none, []⟩,
     ⟨(some 14), .mov (.c (.i 0)), none, []⟩])
   (.block 0 (.loop (.seq (.reg [
       ⟨(some 15), .bin .lss (.t 14) (.t 13), none, []⟩])
     (.seq (.cond (.t 15) (.skip) (.exit 0))
     (.seq (.block 1 (.seq (.reg [
        ⟨(some 16), .iaddr 5 (.t 12) (.t 14), none, []⟩,
        ⟨(some 17), .load true 5 (.t 16), none, []⟩,
        ⟨(some 10), .alloc [.i 0, .i 0, .v (.string ⟨#[]⟩), .v (.string ⟨#[]⟩), .i 0] 27, none, []⟩,
        ⟨none, .store 5 (.t 10) (.t 17), none, []⟩])
      (.seq (.reg [
        ⟨(some 18), .faddr 0 (.t 10), none, []⟩,
        ⟨(some 19), .load false 1 (.t 18), none, []⟩,
        ⟨(some 20), .mov (.t 8), none, []⟩,
        ⟨(some 21), .bin .sub (.t 19) (.t 20), none, []⟩,
        ⟨(some 11), .mov (.t 21), none, []⟩])
      (.seq (.seq (.reg [
        ⟨(some 22), .faddr 0 (.t 10), none, []⟩,
        ⟨(some 23), .load false 1 (.t 22), none, []⟩,
        ⟨(some 24), .mov (.t 8), none, []⟩,
        ⟨(some 25), .bin .lss (.t 23) (.t 24), none, []⟩,
        ⟨(some 26), .mov (.t 25), none, []⟩,
        ⟨(some 27), .faddr 1 (.t 10), (some (26, false)), []⟩,
        ⟨(some 28), .load false 1 (.t 27), (some (26, false)), []⟩,
        ⟨(some 29), .faddr 0 (.t 10), (some (26, false)), []⟩,
        ⟨(some 30), .load false 1 (.t 29), (some (26, false)), []⟩,
        ⟨(some 31), .bin .lss (.t 28) (.t 30), (some (26, false)), []⟩,
        ⟨(some 32), .pick (.t 26) (.c (.b true)) (.t 31), none, []⟩,
        ⟨(some 33), .mov (.t 32), none, []⟩,
        ⟨(some 34), .faddr 1 (.t 10), (some (33, false)), []⟩,
        ⟨(some 35), .load false 1 (.t 34), (some (33, false)), []⟩,
        ⟨(some 36), .faddr 0 (.t 10), (some (33, false)), []⟩,
        ⟨(some 37), .load false 1 (.t 36), (some (33, false)), []⟩,
        ⟨(some 38), .bin .sub (.t 35) (.t 37), (some (33, false)), []⟩,
        ⟨(some 39), .faddr 2 (.t 10), (some (33, false)), []⟩,
        ⟨(some 40), .load false 1 (.t 39), (some (33, false)), []⟩,
        ⟨(some 41), .len true (.t 40), (some (33, false)), []⟩,
        ⟨(some 42), .bin .neq (.t 38) (.t 41), (some (33, false)), []⟩,
        ⟨(some 43), .pick (.t 33) (.c (.b true)) (.t 42), none, []⟩,
        ⟨(some 44), .mov (.t 43), none, []⟩,
        ⟨(some 45), .mov (.t 11), (some (44, false)), []⟩,
        ⟨(some 46), .mov (.t 0), (some (44, false)), []⟩,
        ⟨(some 47), .len true (.t 46), (some (44, false)), []⟩,
        ⟨(some 48), .mov (.t 7), (some (44, false)), []⟩,
        ⟨(some 49), .bin .sub (.t 47) (.t 48), (some (44, false)), []⟩,
        ⟨(some 50), .bin .gtr (.t 45) (.t 49), (some (44, false)), []⟩,
        ⟨(some 51), .pick (.t 44) (.c (.b true)) (.t 50), none, []⟩])
      (.cond (.t 51) (.seq (.reg [
         ⟨(some 4), .mov (.c (.v (.string ⟨#[]⟩))), none, []⟩,
         ⟨(some 5), .mov (.c (.i 7)), none, []⟩])
       (.ret)) (.skip)))
      (.seq (.reg [
        ⟨(some 52), .mov (.t 0), none, []⟩,
        ⟨(some 53), .mov (.t 7), none, []⟩,
        ⟨(some 54), .mov (.t 7), none, []⟩,
        ⟨(some 55), .mov (.t 11), none, []⟩,
        ⟨(some 56), .bin .add (.t 54) (.t 55), none, []⟩,
        ⟨(some 57), .slc true 0 (.t 52) (some (.t 53)) (some (.t 56)) none, none, []⟩,
        ⟨(some 58), .call (.fn 17) [.t 6, .t 57], none, []⟩])
      (.seq (.reg [
        ⟨(some 59), .mov (.t 7), none, []⟩,
        ⟨(some 60), .mov (.t 11), none, []⟩,
        ⟨(some 61), .bin .add (.t 59) (.t 60), none, []⟩,
        ⟨(some 7), .mov (.t 61), none, []⟩])
      (.seq (.seq (.reg [
        ⟨(some 62), .mov (.t 0), none, []⟩,
        ⟨(some 63), .mov (.t 7), none, []⟩,
        ⟨(some 64), .slc true 0 (.t 62) (some (.t 63)) none none, none, []⟩,
        ⟨(some 65), .faddr 3 (.t 10), none, []⟩,
        ⟨(some 66), .load false 1 (.t 65), none, []⟩,
        ⟨(some 67), .call (.fn 18) [.t 64, .t 66], none, []⟩,
        ⟨(some 68), .un .not (.t 67), none, []⟩])
      (.cond (.t 68) (.seq (.reg [
         ⟨(some 7), .mov (.c (.i (-1))), none, []⟩])
       (.exit 0)) (.skip)))
      (.seq (.reg [
        ⟨(some 69), .faddr 2 (.t 10), none, []⟩,
        ⟨(some 70), .load false 1 (.t 69), none, []⟩,
        ⟨(some 71), .call (.fn 17) [.t 6, .t 70], none, []⟩])
      (.seq (.reg [
        ⟨(some 72), .mov (.t 7), none, []⟩,
        ⟨(some 73), .faddr 3 (.t 10), none, []⟩,
        ⟨(some 74), .load false 1 (.t 73), none, []⟩,
        ⟨(some 75), .len true (.t 74), none, []⟩,
        ⟨(some 76), .bin .add (.t 72) (.t 75), none, []⟩,
        ⟨(some 7), .mov (.t 76), none, []⟩])
      (.reg [
        ⟨(some 77), .faddr 1 (.t 10), none, []⟩,
        ⟨(some 78), .load false 1 (.t 77), none, []⟩,
        ⟨(some 8), .mov (.t 78), none, []⟩]))))))))))
     (.reg [
       ⟨(some 79), .bin .add (.t 14) (.c (.i 1)), none, []⟩,
       ⟨(some 14), .mov (.t 79), none, []⟩])))))))
   (.seq (.seq (.reg [
     ⟨(some 80), .mov (.t 7), none, []⟩,
     ⟨(some 81), .bin .lss (.t 80) (.c (.i 0)), none, []⟩])
   (.cond (.t 81) (.seq (.reg [
      ⟨(some 4), .mov (.c (.v (.string ⟨#[]⟩))), none, []⟩,
      ⟨(some 5), .mov (.c (.i 7)), none, []⟩])
    (.ret)) (.skip)))
   (.seq (.reg [
     ⟨(some 82), .mov (.t 0), none, []⟩,
     ⟨(some 83), .mov (.t 7), none, []⟩,
     ⟨(some 84), .slc true 0 (.t 82) (some (.t 83)) none none, none, []⟩,
     ⟨(some 85), .call (.fn 17) [.t 6, .t 84], none, []⟩])
   (.seq (.reg [
     ⟨(some 86), .call (.fn 19) [.t 6], none, []⟩,
     ⟨(some 4), .mov (.t 86), none, []⟩,
     ⟨(some 5), .mov (.c (.i 0)), none, []⟩])
   (.ret)))))))))⟩
theorem r6_is : IsFn Tryz.prog 6 r6 := ⟨Tryz.f6, by kernel_rfl, by kernel_rfl⟩
/-- errata/errataref20.Undo -/
def r7 : RFn := ⟨90, [.t 4, .t 5], .seq (.reg [
    ⟨(some 4), .mov (.c (.v (.string ⟨#[]⟩))), none, []⟩,
    ⟨(some 5), .mov (.c (.i 0)), none, []⟩])
  (.seq (.reg [
    ⟨(some 6), .mov (.c (.v (.string ⟨#[]⟩))), none, []⟩])
  (.seq (.reg [
    ⟨(some 7), .mov (.c (.i 0)), none, []⟩])
  (.seq (.reg [
    ⟨(some 12), .mov (.t 0), none, []⟩,
    ⟨(some 8), .mov (.t 12), none, []⟩])
  (.seq (.seq (.reg [
    ⟨(some 13), .mov (.t 1), none, []⟩,
    ⟨(some 14), .len false (.t 13), none, []⟩,
    ⟨(some 15), .mov (.c (.i 0)), none, []⟩])
  (.block 0 (.loop (.seq (.reg [
      ⟨(some 16), .bin .lss (.t 15) (.t 14), none, []⟩])
    (.seq (.cond (.t 16) (.skip) (.exit 0))
    (.seq (.block 1 (.seq (.reg [
       ⟨(some 17), .iaddr 5 (.t 13) (.t 15), none, []⟩,
       ⟨(some 18), .load true 5 (.t 17), none, []⟩,
       ⟨(some 10), .alloc [.i 0, .i 0, .v (.string ⟨#[]⟩), .v (.string ⟨#[]⟩), .i 0] 26, none, []⟩,
       ⟨none, .store 5 (.t 10) (.t 18), none, []⟩])
     (.seq (.reg [
       ⟨(some 19), .faddr 0 (.t 10), none, []⟩,
       ⟨(some 20), .load false 1 (.t 19), none, []⟩,
       ⟨(some 21), .mov (.t 7), none, []⟩,
       ⟨(some 22), .bin .sub (.t 20) (.t 21), none, []⟩,
       ⟨(some 11), .mov (.t 22), none, []⟩])
     (.seq (.seq (.reg [
       ⟨(some 23), .faddr 0 (.t 10), none, []⟩,
       ⟨(some 24), .load false 1 (.t 23), none, []⟩,
       ⟨(some 25), .mov (.t 7), none, []⟩,
       ⟨(some 26), .bin .lss (.t 24) (.t 25), none, []⟩,
       ⟨(some 27), .mov (.t 26), none, []⟩,
       ⟨(some 28), .faddr 1 (.t 10), (some (27, false)), []⟩,
       ⟨(some 29), .load false 1 (.t 28), (some (27, false)), []⟩,
       ⟨(some 30), .faddr 0 (.t 10), (some (27, false)), []⟩,
       ⟨(some 31), .load false 1 (.t 30), (some (27, false)), []⟩,
       ⟨(some 32), .bin .lss (.t 29) (.t 31), (some (27, false)), []⟩,
       ⟨(some 33), .pick (.t 27) (.c (.b true)) (.t 32), none, []⟩,
       ⟨(some 34), .mov (.t 33), none, []⟩,
       ⟨(some 35), .faddr 1 (.t 10), (some (34, false)), []⟩,
       ⟨(some 36), .load false 1 (.t 35), (some (34, false)), []⟩,
       ⟨(some 37), .faddr 0 (.t 10), (some (34, false)), []⟩,
       ⟨(some 38), .load false 1 (.t 37), (some (34, false)), []⟩,
       ⟨(some 39), .bin .sub (.t 36) (.t 38), (some (34, false)), []⟩,
       ⟨(some 40), .faddr 2 (.t 10), (some (34, false)), []⟩,
       ⟨(some 41), .load false 1 (.t 40), (some (34, false)), []⟩,
       ⟨(some 42), .len true (.t 41), (some (34, false)), []⟩,
       ⟨(some 43), .bin .neq (.t 39) (.t 42), (some (34, false)), []⟩,
       ⟨(some 44), .pick (.t 34) (.c (.b true)) (.t 43), none, []⟩,
       ⟨(some 45), .mov (.t 44), none, []⟩,
       ⟨(some 46), .mov (.t 11), (some (45, false)), []⟩,
       ⟨(some 47), .mov (.t 8), (some (45, false)), []⟩,
       ⟨(some 48), .len true (.t 47), (some (45, false)), []⟩,
       ⟨(some 49), .bin .gtr (.t 46) (.t 48), (some (45, false)), []⟩,
       ⟨(some 50), .pick (.t 45) (.c (.b true)) (.t 49), none, []⟩])
     (.cond (.t 50) (.seq (.reg [
        ⟨(some 4), .mov (.c (.v (.string ⟨#[]⟩))), none, []⟩,
        ⟨(some 5), .mov (.c (.i 7)), none, []⟩])
      (.ret)) (.skip)))
     (.seq (.reg [
       ⟨(some 51), .mov (.t 6), none, []⟩,
       ⟨(some 52), .mov (.t 8), none, []⟩,
       ⟨(some 53), .mov (.t 11), none, []⟩,
       ⟨(some 54), .slc true 0 (.t 52) none (some (.t 53)) none, none, []⟩,
       ⟨(some 55), .bin .add (.t 51) (.t 54), none, []⟩,
       ⟨(some 6), .mov (.t 55), none, []⟩])
     (.seq (.reg [
       ⟨(some 56), .mov (.t 8), none, []⟩,
       ⟨(some 57), .mov (.t 11), none, []⟩,
       ⟨(some 58), .slc true 0 (.t 56) (some (.t 57)) none none, none, []⟩,
       ⟨(some 8), .mov (.t 58), none, []⟩])
     (.seq (.seq (.reg [
       ⟨(some 59), .mov (.t 8), none, []⟩,
       ⟨(some 60), .len true (.t 59), none, []⟩,
       ⟨(some 61), .faddr 3 (.t 10), none, []⟩,
       ⟨(some 62), .load false 1 (.t 61), none, []⟩,
       ⟨(some 63), .len true (.t 62), none, []⟩,
       ⟨(some 64), .bin .lss (.t 60) (.t 63), none, []⟩,
       ⟨(some 65), .mov (.t 64), none, []⟩,
       ⟨(some 66), .mov (.t 8), (some (65, false)), []⟩,
       ⟨(some 67), .faddr 3 (.t 10), (some (65, false)), []⟩,
       ⟨(some 68), .load false 1 (.t 67), (some (65, false)), []⟩,
       ⟨(some 69), .len true (.t 68), (some (65, false)), []⟩,
       ⟨(some 70), .slc true 0 (.t 66) none (some (.t 69)) none, (some (65, false)), []⟩,
       ⟨(some 71), .faddr 3 (.t 10), (some (65, false)), []⟩,
       ⟨(some 72), .load false 1 (.t 71), (some (65, false)), []⟩,
       ⟨(some 73), .bin .neq (.t 70) (.t 72), (some (65, false)), []⟩,
       ⟨(some 74), .pick (.t 65) (.c (.b true)) (.t 73), none, []⟩])
     (.cond (.t 74) (.seq (.reg [
        ⟨(some 4), .mov (.c (.v (.string ⟨#[]⟩))), none, []⟩,
        ⟨(some 5), .mov (.c (.i 7)), none, []⟩])
      (.ret)) (.skip)))
     (.seq (.reg [
       ⟨(some 75), .mov (.t 6), none, []⟩,
       ⟨(some 76), .faddr 2 (.t 10), none, []⟩,
       ⟨(some 77), .load false 1 (.t 76), none, []⟩,
       ⟨(some 78), .bin .add (.t 75) (.t 77), none, []⟩,
       ⟨(some 6), .mov (.t 78), none, []⟩])
     (.seq (.reg [
       ⟨(some 79), .mov (.t 8), none, []⟩,
       ⟨(some 80), .faddr 3 (.t 10), none, []⟩,
       ⟨(some 81), .load false 1 (.t 80), none, []⟩,
       ⟨(some 82), .len true (.t 81), none, []⟩,
       ⟨(some 83), .slc true 0 (.t 79) (some (.t 82)) none none, none, []⟩,
       ⟨(some 8), .mov (.t 83), none, []⟩])
     (.reg [
       ⟨(some 84), .faddr 1 (.t 10), none, []⟩,
       ⟨(some 85), .load false 1 (.t 84), none, []⟩,
       ⟨(some 7), .mov (.t 85), none, []⟩]))))))))))
    (.reg [
      ⟨(some 86), .bin .add (.t 15) (.c (.i 1)), none, []⟩,
      ⟨(some 15), .mov (.t 86), none, []⟩])))))))
  (.seq (.reg [
    ⟨(some 87), .mov (.t 6), none, []⟩,
    ⟨(some 88), .mov (.t 8), none, []⟩,
    ⟨(some 89), .bin .add (.t 87) (.t 88), none, []⟩,
    ⟨(some 4), .mov (.t 89), none, []⟩,
    ⟨(some 5), .mov (.c (.i 0)), none, []⟩])
  (.ret))))))⟩
theorem r7_is : IsFn Tryz.prog 7 r7 := ⟨Tryz.f7, by kernel_rfl, by kernel_rfl⟩
/-- errata/correct.New -/
def r15 : RFn := ⟨26, [.t 2, .t 3], .seq (.reg [
    ⟨(some 1), .box (.t 0), none, []⟩,
    ⟨(some 2), .mov (.c (.nilp)), none, []⟩,
    ⟨(some 3), .mov (.c (.i 0)), none, []⟩])
  (.seq (.seq (.reg [
    ⟨(some 7), .load true 2 (.t 1), none, []⟩,
    ⟨(some 8), .call (.fn 40) [.t 7], none, []⟩,
    ⟨(some 4), .mov (.t 8), none, []⟩])
  (.seq (.reg [
    ⟨(some 9), .mov (.t 4), none, []⟩,
    ⟨(some 10), .bin .neq (.t 9) (.c (.i 0)), none, []⟩])
  (.cond (.t 10) (.seq (.reg [
     ⟨(some 11), .mov (.t 4), none, []⟩,
     ⟨(some 2), .mov (.c (.nilp)), none, []⟩,
     ⟨(some 3), .mov (.t 11), none, []⟩])
   (.ret)) (.skip))))
  (.seq (.reg [
    ⟨(some 13), .faddr 1 (.t 1), none, []⟩,
    ⟨(some 14), .load false 1 (.t 13), none, []⟩,
    ⟨(some 15), .call (.fn 41) [.t 14], none, []⟩,
    ⟨(some 12), .mov (.t 15), none, []⟩,
    ⟨(some 16), .ext (.t 12) 0, none, []⟩,
    ⟨(some 17), .ext (.t 12) 1, none, []⟩,
    ⟨(some 5), .mov (.t 16), none, []⟩,
    ⟨(some 6), .mov (.t 17), none, []⟩])
  (.seq (.seq (.reg [
    ⟨(some 18), .mov (.t 6), none, []⟩,
    ⟨(some 19), .bin .neq (.t 18) (.c (.i 0)), none, []⟩])
  (.cond (.t 19) (.seq (.reg [
     ⟨(some 20), .mov (.t 6), none, []⟩,
     ⟨(some 2), .mov (.c (.nilp)), none, []⟩,
     ⟨(some 3), .mov (.t 20), none, []⟩])
   (.ret)) (.skip)))
  (.seq (.reg [
    ⟨(some 21), .load true 2 (.t 1), none, []⟩,
    ⟨(some 22), .call (.fn 42) [.t 21], none, []⟩,
    ⟨(some 23), .mov (.t 5), none, []⟩,
    ⟨(some 24), .build [.nils, .nils, .nilp] [(0, 2, (.t 22)), (2, 1, (.t 23))], none, []⟩,
    ⟨(some 25), .box (.t 24), none, []⟩,
    ⟨(some 2), .mov (.t 25), none, []⟩,
    ⟨(some 3), .mov (.c (.i 0)), none, []⟩])
  (.ret)))))⟩
theorem r15_is : IsFn Tryz.prog 15 r15 := ⟨Tryz.f15, by kernel_rfl, by kernel_rfl⟩
/-- errata/document.Fix -/
def r16 : RFn := ⟨102, [.t 6, .t 7, .t 8], .seq (.reg [
    ⟨(some 3), .box (.t 0), none, []⟩,
    ⟨(some 5), .box (.t 2), none, []⟩,
    ⟨(some 6), .mov (.c (.v (.string ⟨#[]⟩))), none, []⟩,
    ⟨(some 7), .mov (.c (.nils)), none, []⟩,
    ⟨(some 8), .mov (.c (.i 0)), none, []⟩])
  (.seq (.seq (.reg [
    ⟨(some 21), .load false 1 (.t 3), none, []⟩,
    ⟨(some 22), .eqp false (.t 21) (.c (.nilp)), none, []⟩])
  (.cond (.t 22) (.seq (.reg [
     ⟨(some 6), .mov (.c (.v (.string ⟨#[]⟩))), none, []⟩,
     ⟨(some 7), .mov (.c (.nils)), none, []⟩,
     ⟨(some 8), .mov (.c (.i 1)), none, []⟩])
   (.ret)) (.skip)))
  (.seq (.reg [
    ⟨(some 24), .mov (.t 1), none, []⟩,
    ⟨(some 25), .call (.fn 43) [.t 24], none, []⟩,
    ⟨(some 23), .mov (.t 25), none, []⟩,
    ⟨(some 26), .ext (.t 23) 0, none, []⟩,
    ⟨(some 27), .ext (.t 23) 1, none, []⟩,
    ⟨(some 9), .mov (.t 26), none, []⟩,
    ⟨(some 10), .mov (.t 27), none, []⟩])
  (.seq (.seq (.reg [
    ⟨(some 28), .mov (.t 10), none, []⟩,
    ⟨(some 29), .bin .neq (.t 28) (.c (.i 0)), none, []⟩])
  (.cond (.t 29) (.seq (.reg [
     ⟨(some 30), .mov (.t 10), none, []⟩,
     ⟨(some 6), .mov (.c (.v (.string ⟨#[]⟩))), none, []⟩,
     ⟨(some 7), .mov (.c (.nils)), none, []⟩,
     ⟨(some 8), .mov (.t 30), none, []⟩])
   (.ret)) (.skip)))
  (.seq (.seq (.reg [
    ⟨(some 31), .load false 1 (.t 5), none, []⟩,
    ⟨(some 32), .bin .lss (.t 31) (.c (.i 0)), none, []⟩,
    ⟨(some 33), .mov (.t 32), none, []⟩,
    ⟨(some 34), .load false 1 (.t 5), (some (33, false)), []⟩,
    ⟨(some 35), .bin .gtr (.t 34) (.c (.i 4096)), (some (33, false)), []⟩,
    ⟨(some 36), .pick (.t 33) (.c (.b true)) (.t 35), none, []⟩])
  (.cond (.t 36) (.seq (.reg [
     ⟨(some 6), .mov (.c (.v (.string ⟨#[]⟩))), none, []⟩,
     ⟨(some 7), .mov (.c (.nils)), none, []⟩,
     ⟨(some 8), .mov (.c (.i 2)), none, []⟩])
   (.ret)) (.skip)))
  (.seq (.reg [
    ⟨(some 11), .alloc [.nils] 24, none, []⟩])
  (.seq (.reg [
    ⟨(some 37), .mkmap, none, []⟩,
    ⟨(some 12), .alloc [.v (.map none)] 103, none, []⟩,
    ⟨none, .store 1 (.t 12) (.t 37), none, []⟩])
  (.seq (.seq (.reg [
    ⟨(some 38), .load false 1 (.t 3), none, []⟩,
    ⟨(some 39), .mov (.t 1), none, []⟩,
    ⟨(some 40), .mov (.t 9), none, []⟩,
    ⟨(some 41), .call (.fn 44) [.t 38, .t 39, .t 40], none, []⟩])
  (.block 0 (.rangef (.t 41) [42, 43] (.seq (.reg [
      ⟨(some 13), .alloc [.i 0, .i 0, .b false] 108, none, []⟩,
      ⟨none, .store 3 (.t 13) (.t 42), none, []⟩])
    (.reg [
      ⟨(some 14), .mov (.t 43), none, []⟩])) (.block 1 (.seq (.reg [
       ⟨(some 45), .load false 1 (.t 12), none, []⟩,
       ⟨(some 46), .mov (.t 14), none, []⟩,
       ⟨(some 47), .lookup (.one .s) (.agg [.v (.string ⟨#[]⟩), .i 0, .i 0]) true (.t 45) (.t 46), none, []⟩,
       ⟨(some 44), .mov (.t 47), none, []⟩,
       ⟨(some 48), .ext (.t 44) 0, none, []⟩,
       ⟨(some 49), .ext (.t 44) 1, none, []⟩,
       ⟨(some 15), .alloc [.v (.string ⟨#[]⟩), .i 0, .i 0] 110, none, []⟩,
       ⟨none, .store 3 (.t 15) (.t 48), none, []⟩,
       ⟨(some 16), .mov (.t 49), none, []⟩])
     (.seq (.seq (.reg [
       ⟨(some 50), .mov (.t 16), none, []⟩,
       ⟨(some 51), .un .not (.t 50), none, []⟩])
     (.cond (.t 51) (.seq (.reg [
        ⟨(some 53), .load false 1 (.t 3), none, []⟩,
        ⟨(some 54), .mov (.t 14), none, []⟩,
        ⟨(some 55), .load false 1 (.t 5), none, []⟩,
        ⟨(some 56), .call (.fn 45) [.t 53, .t 54, .t 55], none, []⟩,
        ⟨(some 52), .mov (.t 56), none, []⟩,
        ⟨(some 57), .ext (.t 52) 0, none, []⟩,
        ⟨(some 58), .ext (.t 52) 1, none, []⟩,
        ⟨none, .store 3 (.t 15) (.t 57), none, []⟩])
      (.reg [
        ⟨(some 59), .load false 1 (.t 12), none, []⟩,
        ⟨(some 60), .mov (.t 14), none, []⟩,
        ⟨(some 61), .load true 3 (.t 15), none, []⟩,
        ⟨none, .mapupd (.one .s) (.t 59) (.t 60) (.t 61), none, []⟩])) (.skip)))
     (.seq (.reg [
       ⟨(some 62), .faddr 0 (.t 15), none, []⟩,
       ⟨(some 63), .load false 1 (.t 62), none, []⟩,
       ⟨(some 64), .bin .neq (.t 63) (.c (.v (.string ⟨#[]⟩))), none, []⟩])
     (.cond (.t 64) (.reg [
        ⟨(some 65), .load false 1 (.t 11), none, []⟩,
        ⟨(some 66), .faddr 0 (.t 13), none, []⟩,
        ⟨(some 67), .load false 1 (.t 66), none, []⟩,
        ⟨(some 68), .faddr 1 (.t 13), none, []⟩,
        ⟨(some 69), .load false 1 (.t 68), none, []⟩,
        ⟨(some 70), .mov (.t 14), none, []⟩,
        ⟨(some 71), .faddr 0 (.t 15), none, []⟩,
        ⟨(some 72), .load false 1 (.t 71), none, []⟩,
        ⟨(some 73), .faddr 1 (.t 15), none, []⟩,
        ⟨(some 74), .load false 1 (.t 73), none, []⟩,
        ⟨(some 75), .build [.i 0, .i 0, .v (.string ⟨#[]⟩), .v (.string ⟨#[]⟩), .i 0] [(0, 1, (.t 67)), (1, 1, (.t 69)), (2, 1, (.t 70)), (3, 1, (.t 72)), (4, 1, (.t 74))], none, []⟩,
        ⟨(some 76), .bslice 5 [.i 0, .i 0, .v (.string ⟨#[]⟩), .v (.string ⟨#[]⟩), .i 0] 1 [(0, 5, (.t 75))], none, []⟩,
        ⟨(some 77), .append 5 56 [.i 0, .i 0, .v (.string ⟨#[]⟩), .v (.string ⟨#[]⟩), .i 0] 27 (.t 65) (.t 76), none, []⟩,
        ⟨none, .store 1 (.t 11) (.t 77), none, []⟩]) (.skip)))))))))
  (.seq (.reg [
    ⟨(some 17), .alloc [.nilp, .nils] 62, none, []⟩])
  (.seq (.reg [
    ⟨(some 18), .mov (.c (.i 0)), none, []⟩])
  (.seq (.seq (.reg [
    ⟨(some 78), .load false 1 (.t 11), none, []⟩,
    ⟨(some 79), .len false (.t 78), none, []⟩,
    ⟨(some 80), .mov (.c (.i 0)), none, []⟩])
  (.block 2 (.loop (.seq (.reg [
      ⟨(some 81), .bin .lss (.t 80) (.t 79), none, []⟩])
    (.seq (.cond (.t 81) (.skip) (.exit 2))
    (.seq (.block 3 (.seq (.reg [
       ⟨(some 82), .iaddr 5 (.t 78) (.t 80), none, []⟩,
       ⟨(some 83), .load true 5 (.t 82), none, []⟩,
       ⟨(some 20), .alloc [.i 0, .i 0, .v (.string ⟨#[]⟩), .v (.string ⟨#[]⟩), .i 0] 27, none, []⟩,
       ⟨none, .store 5 (.t 20) (.t 83), none, []⟩])
     (.seq (.reg [
       ⟨(some 84), .mov (.t 1), none, []⟩,
       ⟨(some 85), .mov (.t 18), none, []⟩,
       ⟨(some 86), .faddr 0 (.t 20), none, []⟩,
       ⟨(some 87), .load false 1 (.t 86), none, []⟩,
       ⟨(some 88), .slc true 0 (.t 84) (some (.t 85)) (some (.t 87)) none, none, []⟩,
       ⟨(some 89), .call (.fn 17) [.t 17, .t 88], none, []⟩])
     (.seq (.reg [
       ⟨(some 90), .faddr 3 (.t 20), none, []⟩,
       ⟨(some 91), .load false 1 (.t 90), none, []⟩,
       ⟨(some 92), .call (.fn 17) [.t 17, .t 91], none, []⟩])
     (.reg [
       ⟨(some 93), .faddr 1 (.t 20), none, []⟩,
       ⟨(some 94), .load false 1 (.t 93), none, []⟩,
       ⟨(some 18), .mov (.t 94), none, []⟩])))))
    (.reg [
      ⟨(some 95), .bin .add (.t 80) (.c (.i 1)), none, []⟩,
      ⟨(some 80), .mov (.t 95), none, []⟩])))))))
  (.seq (.reg [
    ⟨(some 96), .mov (.t 1), none, []⟩,
    ⟨(some 97), .mov (.t 18), none, []⟩,
    ⟨(some 98), .slc true 0 (.t 96) (some (.t 97)) none none, none, []⟩,
    ⟨(some 99), .call (.fn 17) [.t 17, .t 98], none, []⟩])
  (.seq (.reg [
    ⟨(some 101), .load false 1 (.t 11), none, []⟩,
    ⟨(some 100), .call (.fn 19) [.t 17], none, [(101, .load false 1 (.t 11), none)]⟩,
    ⟨(some 6), .mov (.t 100), none, []⟩,
    ⟨(some 7), .mov (.t 101), none, []⟩,
    ⟨(some 8), .mov (.c (.i 0)), none, []⟩])
  (.ret)))))))))))))⟩
theorem r16_is : IsFn Tryz.prog 16 r16 := ⟨Tryz.f16, by kernel_rfl, by kernel_rfl⟩
/-- (*strings.Builder).WriteString -/
def r17 : RFn := ⟨19, [.t 4, .t 5], .seq (.reg [
    ⟨(some 4), .mov (.c (.i 0)), none, []⟩,
    ⟨(some 5), .mov (.c (.v (.nilIface))), none, []⟩])
  (.seq (.reg [
    ⟨(some 6), .mov (.t 0), none, []⟩,
    ⟨(some 7), .call (.fn 46) [.t 6], none, []⟩])
  (.seq (.reg [
    ⟨(some 8), .mov (.t 0), none, []⟩,
    ⟨(some 9), .mov (.t 0), none, []⟩,
    ⟨(some 10), .nilck (.t 9), none, []⟩,
    ⟨(some 11), .faddr 1 (.t 10), none, []⟩,
    ⟨(some 12), .load false 1 (.t 11), none, []⟩,
    ⟨(some 13), .mov (.t 1), none, []⟩,
    ⟨(some 14), .append 1 1 [.v (.int .u8 0)] 5 (.t 12) (.t 13), none, []⟩,
    ⟨(some 15), .nilck (.t 8), none, []⟩,
    ⟨(some 16), .faddr 1 (.t 15), none, []⟩,
    ⟨none, .store 1 (.t 16) (.t 14), none, []⟩])
  (.seq (.reg [
    ⟨(some 17), .mov (.t 1), none, []⟩,
    ⟨(some 18), .len true (.t 17), none, []⟩,
    ⟨(some 4), .mov (.t 18), none, []⟩,
    ⟨(some 5), .mov (.c (.v (.nilIface))), none, []⟩])
  (.ret))))⟩
theorem r17_is : IsFn Tryz.prog 17 r17 := ⟨Tryz.f17, by kernel_rfl, by kernel_rfl⟩
/-- strings.HasPrefix -/
def r18 : RFn := ⟨8, [.t 4], .seq (.reg [
    ⟨(some 4), .mov (.c (.b false)), none, []⟩])
  (.seq (.reg [
    ⟨(some 5), .mov (.t 0), none, []⟩,
    ⟨(some 6), .mov (.t 1), none, []⟩,
    ⟨(some 7), .call (.fn 47) [.t 5, .t 6], none, []⟩,
    ⟨(some 4), .mov (.t 7), none, []⟩])
  (.ret))⟩
theorem r18_is : IsFn Tryz.prog 18 r18 := ⟨Tryz.f18, by kernel_rfl, by kernel_rfl⟩
/-- (*strings.Builder).String -/
def r19 : RFn := ⟨14, [.t 2], .seq (.reg [
    ⟨(some 2), .mov (.c (.v (.string ⟨#[]⟩))), none, []⟩])
  (.seq (.reg [
    ⟨(some 3), .mov (.t 0), none, []⟩,
    ⟨(some 4), .nilck (.t 3), none, []⟩,
    ⟨(some 5), .faddr 1 (.t 4), none, []⟩,
    ⟨(some 6), .load false 1 (.t 5), none, []⟩,
    ⟨(some 7), .usd (.t 6), none, []⟩,
    ⟨(some 8), .mov (.t 0), none, []⟩,
    ⟨(some 9), .nilck (.t 8), none, []⟩,
    ⟨(some 10), .faddr 1 (.t 9), none, []⟩,
    ⟨(some 11), .load false 1 (.t 10), none, []⟩,
    ⟨(some 12), .len false (.t 11), none, []⟩,
    ⟨(some 13), .ust 5 (.t 7) (.t 12), none, []⟩,
    ⟨(some 2), .mov (.t 13), none, []⟩])
  (.ret))⟩
theorem r19_is : IsFn Tryz.prog 19 r19 := ⟨Tryz.f19, by kernel_rfl, by kernel_rfl⟩
/-- unicode/utf8.RuneCountInString -/
def r28 : RFn := ⟨10, [.t 2], .seq (.reg [
    ⟨(some 2), .mov (.c (.i 0)), none, []⟩])
  (.seq (.seq (.reg [
    ⟨(some 3), .mov (.t 0), none, []⟩,
    ⟨(some 4), .srange (.t 3), none, []⟩])
  (.block 0 (.loop (.seq (.reg [
      ⟨(some 5), .next true (.t 4), none, []⟩,
      ⟨(some 6), .ext (.t 5) 0, none, []⟩])
    (.seq (.cond (.t 6) (.skip) (.exit 0))
    (.block 1 (.reg [
       ⟨(some 7), .mov (.t 2), none, []⟩,
       ⟨(some 8), .bin .add (.t 7) (.c (.i 1)), none, []⟩,
       ⟨(some 2), .mov (.t 8), none, []⟩])))))))
  (.seq (.reg [
    ⟨(some 9), .mov (.t 2), none, []⟩,
    ⟨(some 2), .mov (.t 9), none, []⟩])
  (.ret)))⟩
theorem r28_is : IsFn Tryz.prog 28 r28 := ⟨Tryz.f28, by kernel_rfl, by kernel_rfl⟩
/-- errata/model.Check -/
def r40 : RFn := ⟨13, [.t 2], .seq (.reg [
    ⟨(some 1), .box (.t 0), none, []⟩,
    ⟨(some 2), .mov (.c (.i 0)), none, []⟩])
  (.seq (.seq (.reg [
    ⟨(some 4), .faddr 0 (.t 1), none, []⟩,
    ⟨(some 5), .load false 1 (.t 4), none, []⟩,
    ⟨(some 6), .call (.fn 72) [.t 5], none, []⟩,
    ⟨(some 3), .mov (.t 6), none, []⟩])
  (.seq (.reg [
    ⟨(some 7), .mov (.t 3), none, []⟩,
    ⟨(some 8), .bin .neq (.t 7) (.c (.i 0)), none, []⟩])
  (.cond (.t 8) (.seq (.reg [
     ⟨(some 9), .mov (.t 3), none, []⟩,
     ⟨(some 2), .mov (.t 9), none, []⟩])
   (.ret)) (.skip))))
  (.seq (.reg [
    ⟨(some 10), .faddr 1 (.t 1), none, []⟩,
    ⟨(some 11), .load false 1 (.t 10), none, []⟩,
    ⟨(some 12), .call (.fn 73) [.t 11], none, []⟩,
    ⟨(some 2), .mov (.t 12), none, []⟩])
  (.ret)))⟩
theorem r40_is : IsFn Tryz.prog 40 r40 := ⟨Tryz.f40, by kernel_rfl, by kernel_rfl⟩
/-- errata/dawg.New -/
def r41 : RFn := ⟨47, [.t 2, .t 3], .seq (.reg [
    ⟨(some 2), .mov (.c (.nilp)), none, []⟩,
    ⟨(some 3), .mov (.c (.i 0)), none, []⟩])
  (.seq (.seq (.reg [
    ⟨(some 9), .mov (.t 0), none, []⟩,
    ⟨(some 10), .call (.fn 73) [.t 9], none, []⟩,
    ⟨(some 4), .mov (.t 10), none, []⟩])
  (.seq (.reg [
    ⟨(some 11), .mov (.t 4), none, []⟩,
    ⟨(some 12), .bin .neq (.t 11) (.c (.i 0)), none, []⟩])
  (.cond (.t 12) (.seq (.reg [
     ⟨(some 13), .mov (.t 4), none, []⟩,
     ⟨(some 2), .mov (.c (.nilp)), none, []⟩,
     ⟨(some 3), .mov (.t 13), none, []⟩])
   (.ret)) (.skip))))
  (.seq (.reg [
    ⟨(some 14), .build [.nils, .b false, .i 0] [], none, []⟩,
    ⟨(some 15), .bslice 3 [.nils, .b false, .i 0] 1 [(0, 3, (.t 14))], none, []⟩,
    ⟨(some 16), .mkmap, none, []⟩,
    ⟨(some 17), .build [.nils, .v (.map none)] [(0, 1, (.t 15)), (1, 1, (.t 16))], none, []⟩,
    ⟨(some 18), .box (.t 17), none, []⟩,
    ⟨(some 5), .mov (.t 18), none, []⟩])
  (.seq (.reg [
    ⟨(some 19), .mov (.t 5), none, []⟩,
    ⟨(some 20), .mov (.t 0), none, []⟩,
    ⟨(some 21), .call (.fn 74) [.t 19, .t 20], none, []⟩])
  (.seq (.reg [
    ⟨(some 22), .build [.nils, .i 0, .nils] [], none, []⟩,
    ⟨(some 23), .box (.t 22), none, []⟩,
    ⟨(some 6), .mov (.t 23), none, []⟩])
  (.seq (.reg [
    ⟨(some 24), .mov (.t 6), none, []⟩,
    ⟨(some 25), .mov (.t 5), none, []⟩,
    ⟨(some 26), .mkmap, none, []⟩,
    ⟨(some 27), .call (.fn 75) [.t 24, .t 25, .c (.i 0), .t 26], none, []⟩])
  (.seq (.seq (.reg [
    ⟨(some 28), .mov (.t 0), none, []⟩,
    ⟨(some 29), .len false (.t 28), none, []⟩,
    ⟨(some 30), .mov (.c (.i 0)), none, []⟩])
  (.block 0 (.loop (.seq (.reg [
      ⟨(some 31), .bin .lss (.t 30) (.t 29), none, []⟩])
    (.seq (.cond (.t 31) (.skip) (.exit 0))
    (.seq (.block 1 (.seq (.reg [
       ⟨(some 32), .iaddr 2 (.t 28) (.t 30), none, []⟩,
       ⟨(some 33), .load true 2 (.t 32), none, []⟩,
       ⟨(some 8), .alloc [.v (.string ⟨#[]⟩), .i 0] 53, none, []⟩,
       ⟨none, .store 2 (.t 8) (.t 33), none, []⟩])
     (.reg [
       ⟨(some 34), .mov (.t 6), none, []⟩,
       ⟨(some 35), .mov (.t 6), none, []⟩,
       ⟨(some 36), .nilck (.t 35), none, []⟩,
       ⟨(some 37), .faddr 2 (.t 36), none, []⟩,
       ⟨(some 38), .load false 1 (.t 37), none, []⟩,
       ⟨(some 39), .faddr 1 (.t 8), none, []⟩,
       ⟨(some 40), .load false 1 (.t 39), none, []⟩,
       ⟨(some 41), .bslice 1 [.i 0] 1 [(0, 1, (.t 40))], none, []⟩,
       ⟨(some 42), .append 1 8 [.i 0] 3 (.t 38) (.t 41), none, []⟩,
       ⟨(some 43), .nilck (.t 34), none, []⟩,
       ⟨(some 44), .faddr 2 (.t 43), none, []⟩,
       ⟨none, .store 1 (.t 44) (.t 42), none, []⟩])))
    (.reg [
      ⟨(some 45), .bin .add (.t 30) (.c (.i 1)), none, []⟩,
      ⟨(some 30), .mov (.t 45), none, []⟩])))))))
  (.seq (.reg [
    ⟨(some 46), .mov (.t 6), none, []⟩,
    ⟨(some 2), .mov (.t 46), none, []⟩,
    ⟨(some 3), .mov (.c (.i 0)), none, []⟩])
  (.ret))))))))⟩
theorem r41_is : IsFn Tryz.prog 41 r41 := ⟨Tryz.f41, by kernel_rfl, by kernel_rfl⟩
/-- errata/correct.own -/
def r42 : RFn := ⟨10, [.c 2 true 2], .seq (.reg [
    ⟨(some 1), .box (.t 0), none, []⟩,
    ⟨(some 2), .alloc [.nils, .nils] 56, none, []⟩])
  (.seq (.reg [
    ⟨(some 3), .faddr 0 (.t 1), none, []⟩,
    ⟨(some 4), .load false 1 (.t 3), none, []⟩,
    ⟨(some 6), .faddr 1 (.t 1), none, []⟩,
    ⟨(some 7), .load false 1 (.t 6), none, []⟩,
    ⟨(some 5), .call (.fn 76) [.t 4], none, [(7, .load false 1 (.t 6), none)]⟩,
    ⟨(some 8), .call (.fn 77) [.t 7], none, []⟩,
    ⟨(some 9), .build [.nils, .nils] [(0, 1, (.t 5)), (1, 1, (.t 8))], none, []⟩,
    ⟨none, .store 2 (.t 2) (.t 9), none, []⟩])
  (.ret))⟩
theorem r42_is : IsFn Tryz.prog 42 r42 := ⟨Tryz.f42, by kernel_rfl, by kernel_rfl⟩
/-- errata/text.Spans -/
def r43 : RFn := ⟨41, [.t 2, .t 3], .seq (.reg [
    ⟨(some 2), .mov (.c (.nils)), none, []⟩,
    ⟨(some 3), .mov (.c (.i 0)), none, []⟩])
  (.seq (.block 0 (.seq (.reg [
     ⟨(some 8), .mov (.t 0), none, []⟩,
     ⟨(some 9), .len true (.t 8), none, []⟩,
     ⟨(some 10), .bin .gtr (.t 9) (.c (.i 1048576)), none, []⟩,
     ⟨(some 7), .mov (.t 10), none, []⟩])
   (.cond (.t 7) (.seq (.reg [
      ⟨(some 2), .mov (.c (.nils)), none, []⟩,
      ⟨(some 3), .mov (.c (.i 5)), none, []⟩])
    (.ret)) (.seq (.reg [
      ⟨(some 12), .mov (.t 0), none, []⟩,
      ⟨(some 13), .call (.fn 78) [.t 12], none, []⟩,
      ⟨(some 14), .un .not (.t 13), none, []⟩,
      ⟨(some 11), .mov (.t 14), none, []⟩])
    (.cond (.t 11) (.seq (.reg [
       ⟨(some 2), .mov (.c (.nils)), none, []⟩,
       ⟨(some 3), .mov (.c (.i 3)), none, []⟩])
     (.ret)) (.skip))))))
  (.seq (.reg [
    ⟨(some 4), .mov (.c (.b true)), none, []⟩])
  (.seq (.seq (.reg [
    ⟨(some 5), .mov (.c (.i 0)), none, []⟩])
  (.block 1 (.loop (.seq (.seq (.reg [
      ⟨(some 15), .mov (.t 5), none, []⟩,
      ⟨(some 16), .mov (.t 0), none, []⟩,
      ⟨(some 17), .len true (.t 16), none, []⟩,
      ⟨(some 18), .bin .lss (.t 15) (.t 17), none, []⟩])
    (.cond (.t 18) (.skip) (.exit 1)))
    (.seq (.block 2 (.seq (.reg [
       ⟨(some 21), .mov (.t 0), none, []⟩,
       ⟨(some 22), .mov (.t 5), none, []⟩,
       ⟨(some 23), .slc true 0 (.t 21) (some (.t 22)) none none, none, []⟩,
       ⟨(some 24), .mov (.t 4), none, []⟩,
       ⟨(some 25), .call (.fn 79) [.t 23, .t 24], none, []⟩,
       ⟨(some 6), .mov (.t 25), none, []⟩])
     (.seq (.reg [
       ⟨(some 26), .mov (.t 6), none, []⟩,
       ⟨(some 27), .bin .gtr (.t 26) (.c (.i 0)), none, []⟩])
     (.cond (.t 27) (.seq (.reg [
        ⟨(some 28), .mov (.t 2), none, []⟩,
        ⟨(some 29), .mov (.t 5), none, []⟩,
        ⟨(some 30), .mov (.t 5), none, []⟩,
        ⟨(some 31), .mov (.t 6), none, []⟩,
        ⟨(some 32), .bin .add (.t 30) (.t 31), none, []⟩,
        ⟨(some 33), .mov (.t 4), none, []⟩,
        ⟨(some 34), .build [.i 0, .i 0, .b false] [(0, 1, (.t 29)), (1, 1, (.t 32)), (2, 1, (.t 33))], none, []⟩,
        ⟨(some 35), .bslice 3 [.i 0, .i 0, .b false] 1 [(0, 3, (.t 34))], none, []⟩,
        ⟨(some 36), .append 3 24 [.i 0, .i 0, .b false] 108 (.t 28) (.t 35), none, []⟩,
        ⟨(some 2), .mov (.t 36), none, []⟩])
      (.reg [
        ⟨(some 37), .mov (.t 5), none, []⟩,
        ⟨(some 38), .mov (.t 6), none, []⟩,
        ⟨(some 39), .bin .add (.t 37) (.t 38), none, []⟩,
        ⟨(some 5), .mov (.t 39), none, []⟩])) (.skip)))))
    (.reg [
      ⟨(some 19), .mov (.t 4), none, []⟩,
      ⟨(some 20), .un .not (.t 19), none, []⟩,
      ⟨(some 4), .mov (.t 20), none, []⟩]))))))
  (.seq (.reg [
    ⟨(some 40), .mov (.t 2), none, []⟩,
    ⟨(some 2), .mov (.t 40), none, []⟩,
    ⟨(some 3), .mov (.c (.i 0)), none, []⟩])
  (.ret)))))⟩
theorem r43_is : IsFn Tryz.prog 43 r43 := ⟨Tryz.f43, by kernel_rfl, by kernel_rfl⟩
/-- errata/document.unknown -/
def r44 : RFn := ⟨8, [.t 6], .seq (.reg [
    ⟨(some 3), .box (.t 0), none, []⟩,
    ⟨(some 4), .box (.t 1), none, []⟩,
    ⟨(some 5), .box (.t 2), none, []⟩,
    ⟨(some 6), .mov (.c (.v (.nilFunc))), none, []⟩])
  (.seq (.reg [
    ⟨(some 7), .mkfn 80 [.t 5, .t 4, .t 3], none, []⟩,
    ⟨(some 6), .mov (.t 7), none, []⟩])
  (.ret))⟩
theorem r44_is : IsFn Tryz.prog 44 r44 := ⟨Tryz.f44, by kernel_rfl, by kernel_rfl⟩
/-- (*errata/correct.Corrector).Best -/
def r45 : RFn := ⟨30, [.c 6 true 3, .t 7], .seq (.reg [
    ⟨(some 6), .alloc [.v (.string ⟨#[]⟩), .i 0, .i 0] 110, none, []⟩,
    ⟨(some 7), .mov (.c (.i 0)), none, []⟩])
  (.seq (.reg [
    ⟨(some 13), .mov (.t 0), none, []⟩,
    ⟨(some 14), .mov (.t 1), none, []⟩,
    ⟨(some 15), .mov (.t 2), none, []⟩,
    ⟨(some 16), .call (.fn 82) [.t 13, .t 14, .t 15], none, []⟩,
    ⟨(some 12), .mov (.t 16), none, []⟩,
    ⟨(some 17), .ext (.t 12) 0, none, []⟩,
    ⟨(some 18), .ext (.t 12) 1, none, []⟩,
    ⟨(some 9), .alloc [.i 0] 28, none, []⟩,
    ⟨(some 8), .mov (.t 17), none, []⟩,
    ⟨none, .store 1 (.t 9) (.t 18), none, []⟩])
  (.seq (.seq (.reg [
    ⟨(some 19), .load false 1 (.t 9), none, []⟩,
    ⟨(some 20), .bin .neq (.t 19) (.c (.i 0)), none, []⟩])
  (.cond (.t 20) (.seq (.reg [
     ⟨(some 22), .load false 1 (.t 9), none, []⟩,
     ⟨(some 21), .build [.v (.string ⟨#[]⟩), .i 0, .i 0] [], none, []⟩,
     ⟨none, .store 3 (.t 6) (.t 21), none, [(22, .load false 1 (.t 9), none)]⟩,
     ⟨(some 7), .mov (.t 22), none, []⟩])
   (.ret)) (.skip)))
  (.seq (.reg [
    ⟨(some 23), .build [.v (.string ⟨#[]⟩), .i 0, .i 0] [], none, []⟩,
    ⟨(some 10), .alloc [.v (.string ⟨#[]⟩), .i 0, .i 0] 110, none, []⟩,
    ⟨none, .store 3 (.t 10) (.t 23), none, []⟩])
  (.seq (.reg [
    ⟨none, .store 1 (.t 9) (.c (.i 10)), none, []⟩])
  (.seq (.seq (.reg [
    ⟨(some 24), .mov (.t 8), none, []⟩,
    ⟨(some 25), .call (.fn 83) [.t 24], none, []⟩])
  (.block 0 (.rangef (.t 25) [26] (.reg [
      ⟨(some 11), .alloc [.v (.string ⟨#[]⟩), .i 0, .i 0] 110, none, []⟩,
      ⟨none, .store 3 (.t 11) (.t 26), none, []⟩]) (.block 1 (.reg [
       ⟨(some 27), .load true 3 (.t 11), none, []⟩,
       ⟨none, .store 3 (.t 10) (.t 27), none, []⟩,
       ⟨none, .store 1 (.t 9) (.c (.i 0)), none, []⟩])))))
  (.seq (.reg [
    ⟨(some 28), .load true 3 (.t 10), none, []⟩,
    ⟨(some 29), .load false 1 (.t 9), none, []⟩,
    ⟨none, .store 3 (.t 6) (.t 28), none, [(29, .load false 1 (.t 9), none)]⟩,
    ⟨(some 7), .mov (.t 29), none, []⟩])
  (.ret)))))))⟩
theorem r45_is : IsFn Tryz.prog 45 r45 := ⟨Tryz.f45, by kernel_rfl, by kernel_rfl⟩
/-- (*strings.Builder).copyCheck -/
def r46 : RFn := ⟨20, [], .seq (.reg [
    ⟨(some 2), .mov (.t 0), none, []⟩,
    ⟨(some 3), .nilck (.t 2), none, []⟩,
    ⟨(some 4), .faddr 0 (.t 3), none, []⟩,
    ⟨(some 5), .load false 1 (.t 4), none, []⟩,
    ⟨(some 6), .eqp false (.t 5) (.c (.nilp)), none, []⟩])
  (.cond (.t 6) (.reg [
     ⟨(some 7), .mov (.t 0), none, []⟩,
     ⟨(some 8), .mov (.t 0), none, []⟩,
     ⟨(some 9), .cvt (.t 8), none, []⟩,
     ⟨(some 10), .pext .noesc [.t 9], none, []⟩,
     ⟨(some 11), .cvu 2 62 (.t 10), none, []⟩,
     ⟨(some 12), .nilck (.t 7), none, []⟩,
     ⟨(some 13), .faddr 0 (.t 12), none, []⟩,
     ⟨none, .store 1 (.t 13) (.t 11), none, []⟩]) (.seq (.reg [
     ⟨(some 14), .mov (.t 0), none, []⟩,
     ⟨(some 15), .nilck (.t 14), none, []⟩,
     ⟨(some 16), .faddr 0 (.t 15), none, []⟩,
     ⟨(some 17), .load false 1 (.t 16), none, []⟩,
     ⟨(some 18), .mov (.t 0), none, []⟩,
     ⟨(some 19), .eqp true (.t 17) (.t 18), none, []⟩])
   (.cond (.t 19) (.dead) (.skip))))⟩
theorem r46_is : IsFn Tryz.prog 46 r46 := ⟨Tryz.f46, by kernel_rfl, by kernel_rfl⟩
/-- internal/stringslite.HasPrefix -/
def r47 : RFn := ⟨18, [.t 4], .seq (.reg [
    ⟨(some 4), .mov (.c (.b false)), none, []⟩])
  (.seq (.reg [
    ⟨(some 5), .mov (.t 0), none, []⟩,
    ⟨(some 6), .len true (.t 5), none, []⟩,
    ⟨(some 7), .mov (.t 1), none, []⟩,
    ⟨(some 8), .len true (.t 7), none, []⟩,
    ⟨(some 9), .bin .geq (.t 6) (.t 8), none, []⟩,
    ⟨(some 10), .mov (.t 9), none, []⟩,
    ⟨(some 11), .mov (.t 0), (some (10, true)), []⟩,
    ⟨(some 12), .mov (.t 1), (some (10, true)), []⟩,
    ⟨(some 13), .len true (.t 12), (some (10, true)), []⟩,
    ⟨(some 14), .slc true 0 (.t 11) none (some (.t 13)) none, (some (10, true)), []⟩,
    ⟨(some 15), .mov (.t 1), (some (10, true)), []⟩,
    ⟨(some 16), .bin .eql (.t 14) (.t 15), (some (10, true)), []⟩,
    ⟨(some 17), .pick (.t 10) (.t 16) (.c (.b false)), none, []⟩,
    ⟨(some 4), .mov (.t 17), none, []⟩])
  (.ret))⟩
theorem r47_is : IsFn Tryz.prog 47 r47 := ⟨Tryz.f47, by kernel_rfl, by kernel_rfl⟩
/-- unicode/utf8.DecodeRuneInString -/
def r69 : RFn := ⟨19, [.t 2, .t 3], .seq (.reg [
    ⟨(some 2), .mov (.c (.v (.int .i32 0))), none, []⟩,
    ⟨(some 3), .mov (.c (.i 0)), none, []⟩])
  (.seq (.seq (.reg [
    ⟨(some 4), .mov (.t 0), none, []⟩,
    ⟨(some 5), .bin .neq (.t 4) (.c (.v (.string ⟨#[]⟩))), none, []⟩,
    ⟨(some 6), .mov (.t 5), none, []⟩,
    ⟨(some 7), .mov (.t 0), (some (6, true)), []⟩,
    ⟨(some 8), .idx (.t 7) (.c (.i 0)), (some (6, true)), []⟩,
    ⟨(some 9), .bin .lss (.t 8) (.c (.v (.int .u8 128))), (some (6, true)), []⟩,
    ⟨(some 10), .pick (.t 6) (.t 9) (.c (.b false)), none, []⟩])
  (.cond (.t 10) (.seq (.reg [
     ⟨(some 11), .mov (.t 0), none, []⟩,
     ⟨(some 12), .idx (.t 11) (.c (.i 0)), none, []⟩,
     ⟨(some 13), .cvi .i32 (.t 12), none, []⟩,
     ⟨(some 2), .mov (.t 13), none, []⟩,
     ⟨(some 3), .mov (.c (.i 1)), none, []⟩])
   (.ret)) (.reg [
     ⟨(some 15), .mov (.t 0), none, []⟩,
     ⟨(some 16), .call (.fn 103) [.t 15], none, []⟩,
     ⟨(some 14), .mov (.t 16), none, []⟩,
     ⟨(some 17), .ext (.t 14) 0, none, []⟩,
     ⟨(some 18), .ext (.t 14) 1, none, []⟩,
     ⟨(some 2), .mov (.t 17), none, []⟩,
     ⟨(some 3), .mov (.t 18), none, []⟩])))
  (.ret))⟩
theorem r69_is : IsFn Tryz.prog 69 r69 := ⟨Tryz.f69, by kernel_rfl, by kernel_rfl⟩
/-- errata/rule.Is -/
def r72 : RFn := ⟨33, [.c 2 false 1], .seq (.reg [
    ⟨(some 2), .alloc [.i 0] 28, none, []⟩])
  (.seq (.seq (.reg [
    ⟨(some 5), .mov (.t 0), none, []⟩,
    ⟨(some 6), .call (.fn 106) [.t 5], none, []⟩])
  (.block 0 (.rangef (.t 6) [7] (.reg [
      ⟨(some 3), .mov (.t 7), none, []⟩]) (.block 1 (.seq (.reg [
       ⟨(some 8), .mov (.t 3), none, []⟩,
       ⟨none, .store 1 (.t 2) (.t 8), none, []⟩])
     (.ret))))))
  (.seq (.seq (.reg [
    ⟨(some 9), .mov (.t 0), none, []⟩,
    ⟨(some 10), .len false (.t 9), none, []⟩,
    ⟨(some 11), .mov (.c (.i 0)), none, []⟩])
  (.block 2 (.loop (.seq (.reg [
      ⟨(some 12), .bin .lss (.t 11) (.t 10), none, []⟩])
    (.seq (.cond (.t 12) (.skip) (.exit 2))
    (.seq (.block 3 (.seq (.reg [
       ⟨(some 13), .mov (.t 11), none, []⟩,
       ⟨(some 4), .mov (.t 13), none, []⟩])
     (.seq (.reg [
       ⟨(some 14), .mov (.t 4), none, []⟩,
       ⟨(some 15), .bin .gtr (.t 14) (.c (.i 0)), none, []⟩,
       ⟨(some 16), .mov (.t 15), none, []⟩,
       ⟨(some 17), .mov (.t 0), (some (16, true)), []⟩,
       ⟨(some 18), .mov (.t 4), (some (16, true)), []⟩,
       ⟨(some 19), .bin .sub (.t 18) (.c (.i 1)), (some (16, true)), []⟩,
       ⟨(some 20), .iaddr 3 (.t 17) (.t 19), (some (16, true)), []⟩,
       ⟨(some 21), .load true 3 (.t 20), (some (16, true)), []⟩,
       ⟨(some 22), .mov (.t 0), (some (16, true)), []⟩,
       ⟨(some 23), .mov (.t 4), (some (16, true)), []⟩,
       ⟨(some 24), .iaddr 3 (.t 22) (.t 23), (some (16, true)), []⟩,
       ⟨(some 25), .load true 3 (.t 24), (some (16, true)), []⟩,
       ⟨(some 26), .call (.fn 107) [.t 21, .t 25], (some (16, true)), []⟩,
       ⟨(some 27), .un .not (.t 26), (some (16, true)), []⟩,
       ⟨(some 28), .pick (.t 16) (.t 27) (.c (.b false)), none, []⟩])
     (.cond (.t 28) (.seq (.reg [
        ⟨none, .store 1 (.t 2) (.c (.i 7)), none, []⟩])
      (.ret)) (.skip)))))
    (.reg [
      ⟨(some 29), .bin .add (.t 11) (.c (.i 1)), none, []⟩,
      ⟨(some 11), .mov (.t 29), none, []⟩])))))))
  (.seq (.seq (.reg [
    ⟨(some 30), .mov (.t 0), none, []⟩,
    ⟨(some 31), .len false (.t 30), none, []⟩,
    ⟨(some 32), .bin .gtr (.t 31) (.c (.i 4096)), none, []⟩])
  (.cond (.t 32) (.seq (.reg [
     ⟨none, .store 1 (.t 2) (.c (.i 6)), none, []⟩])
   (.ret)) (.skip)))
  (.seq (.reg [
    ⟨none, .store 1 (.t 2) (.c (.i 0)), none, []⟩])
  (.ret)))))⟩
theorem r72_is : IsFn Tryz.prog 72 r72 := ⟨Tryz.f72, by kernel_rfl, by kernel_rfl⟩
/-- errata/lexicon.Is -/
def r73 : RFn := ⟨35, [.t 2], .seq (.reg [
    ⟨(some 2), .mov (.c (.i 0)), none, []⟩])
  (.seq (.seq (.reg [
    ⟨(some 5), .mov (.t 0), none, []⟩,
    ⟨(some 6), .call (.fn 108) [.t 5], none, []⟩,
    ⟨(some 3), .mov (.t 6), none, []⟩])
  (.seq (.reg [
    ⟨(some 7), .mov (.t 3), none, []⟩,
    ⟨(some 8), .bin .neq (.t 7) (.c (.i 0)), none, []⟩])
  (.cond (.t 8) (.seq (.reg [
     ⟨(some 9), .mov (.t 3), none, []⟩,
     ⟨(some 2), .mov (.t 9), none, []⟩])
   (.ret)) (.skip))))
  (.seq (.seq (.reg [
    ⟨(some 10), .mov (.t 0), none, []⟩,
    ⟨(some 11), .len false (.t 10), none, []⟩,
    ⟨(some 12), .mov (.c (.i 0)), none, []⟩])
  (.block 0 (.loop (.seq (.reg [
      ⟨(some 13), .bin .lss (.t 12) (.t 11), none, []⟩])
    (.seq (.cond (.t 13) (.skip) (.exit 0))
    (.seq (.block 1 (.seq (.reg [
       ⟨(some 14), .mov (.t 12), none, []⟩,
       ⟨(some 4), .mov (.t 14), none, []⟩])
     (.seq (.reg [
       ⟨(some 15), .mov (.t 4), none, []⟩,
       ⟨(some 16), .bin .gtr (.t 15) (.c (.i 0)), none, []⟩,
       ⟨(some 17), .mov (.t 16), none, []⟩,
       ⟨(some 18), .mov (.t 0), (some (17, true)), []⟩,
       ⟨(some 19), .mov (.t 4), (some (17, true)), []⟩,
       ⟨(some 20), .bin .sub (.t 19) (.c (.i 1)), (some (17, true)), []⟩,
       ⟨(some 21), .iaddr 2 (.t 18) (.t 20), (some (17, true)), []⟩,
       ⟨(some 22), .faddr 0 (.t 21), (some (17, true)), []⟩,
       ⟨(some 23), .load false 1 (.t 22), (some (17, true)), []⟩,
       ⟨(some 24), .mov (.t 0), (some (17, true)), []⟩,
       ⟨(some 25), .mov (.t 4), (some (17, true)), []⟩,
       ⟨(some 26), .iaddr 2 (.t 24) (.t 25), (some (17, true)), []⟩,
       ⟨(some 27), .faddr 0 (.t 26), (some (17, true)), []⟩,
       ⟨(some 28), .load false 1 (.t 27), (some (17, true)), []⟩,
       ⟨(some 29), .bin .geq (.t 23) (.t 28), (some (17, true)), []⟩,
       ⟨(some 30), .pick (.t 17) (.t 29) (.c (.b false)), none, []⟩])
     (.cond (.t 30) (.seq (.reg [
        ⟨(some 2), .mov (.c (.i 7)), none, []⟩])
      (.ret)) (.skip)))))
    (.reg [
      ⟨(some 31), .bin .add (.t 12) (.c (.i 1)), none, []⟩,
      ⟨(some 12), .mov (.t 31), none, []⟩])))))))
  (.seq (.seq (.reg [
    ⟨(some 32), .mov (.t 0), none, []⟩,
    ⟨(some 33), .len false (.t 32), none, []⟩,
    ⟨(some 34), .bin .gtr (.t 33) (.c (.i 65536)), none, []⟩])
  (.cond (.t 34) (.seq (.reg [
     ⟨(some 2), .mov (.c (.i 6)), none, []⟩])
   (.ret)) (.skip)))
  (.seq (.reg [
    ⟨(some 2), .mov (.c (.i 0)), none, []⟩])
  (.ret)))))⟩
theorem r73_is : IsFn Tryz.prog 73 r73 := ⟨Tryz.f73, by kernel_rfl, by kernel_rfl⟩
/-- (*errata/dawg.draft).make -/
def r74 : RFn := ⟨106, [], .seq (.reg [
    ⟨(some 14), .bslice 1 [.i 0] 1 [(0, 1, (.c (.i 0)))], none, []⟩,
    ⟨(some 4), .mov (.t 14), none, []⟩])
  (.seq (.reg [
    ⟨(some 5), .mov (.c (.nils)), none, []⟩])
  (.seq (.seq (.reg [
    ⟨(some 15), .mov (.t 1), none, []⟩,
    ⟨(some 16), .len false (.t 15), none, []⟩,
    ⟨(some 17), .mov (.c (.i 0)), none, []⟩])
  (.block 0 (.loop (.seq (.reg [
      ⟨(some 18), .bin .lss (.t 17) (.t 16), none, []⟩])
    (.seq (.cond (.t 18) (.skip) (.exit 0))
    (.seq (.block 1 (.seq (.reg [
       ⟨(some 19), .iaddr 2 (.t 15) (.t 17), none, []⟩,
       ⟨(some 20), .load true 2 (.t 19), none, []⟩,
       ⟨(some 7), .alloc [.v (.string ⟨#[]⟩), .i 0] 53, none, []⟩,
       ⟨none, .store 2 (.t 7) (.t 20), none, []⟩])
     (.seq (.reg [
       ⟨(some 22), .faddr 0 (.t 7), none, []⟩,
       ⟨(some 23), .load false 1 (.t 22), none, []⟩,
       ⟨(some 24), .call (.fn 109) [.t 23], none, []⟩,
       ⟨(some 21), .mov (.t 24), none, []⟩,
       ⟨(some 25), .ext (.t 21) 0, none, []⟩,
       ⟨(some 26), .ext (.t 21) 1, none, []⟩,
       ⟨(some 8), .mov (.t 25), none, []⟩,
       ⟨(some 9), .mov (.t 26), none, []⟩])
     (.seq (.reg [
       ⟨(some 27), .mov (.t 0), none, []⟩,
       ⟨(some 28), .mov (.t 4), none, []⟩,
       ⟨(some 29), .mov (.t 5), none, []⟩,
       ⟨(some 30), .mov (.t 8), none, []⟩,
       ⟨(some 31), .call (.fn 111) [.t 29, .t 30], none, []⟩,
       ⟨(some 32), .call (.fn 110) [.t 27, .t 28, .t 31], none, []⟩,
       ⟨(some 4), .mov (.t 32), none, []⟩])
     (.seq (.seq (.reg [
       ⟨(some 33), .mov (.t 8), none, []⟩,
       ⟨(some 34), .mov (.t 4), none, []⟩,
       ⟨(some 35), .len false (.t 34), none, []⟩,
       ⟨(some 36), .bin .sub (.t 35) (.c (.i 1)), none, []⟩,
       ⟨(some 37), .slc false 1 (.t 33) (some (.t 36)) none none, none, []⟩,
       ⟨(some 38), .len false (.t 37), none, []⟩,
       ⟨(some 39), .mov (.c (.i 0)), none, []⟩])
     (.block 2 (.loop (.seq (.reg [
         ⟨(some 40), .bin .lss (.t 39) (.t 38), none, []⟩])
       (.seq (.cond (.t 40) (.skip) (.exit 2))
       (.seq (.block 3 (.seq (.reg [
          ⟨(some 41), .iaddr 1 (.t 37) (.t 39), none, []⟩,
          ⟨(some 42), .load false 1 (.t 41), none, []⟩,
          ⟨(some 11), .mov (.t 42), none, []⟩])
        (.seq (.reg [
          ⟨(some 43), .mov (.t 0), none, []⟩,
          ⟨(some 44), .nilck (.t 43), none, []⟩,
          ⟨(some 45), .faddr 0 (.t 44), none, []⟩,
          ⟨(some 46), .load false 1 (.t 45), none, []⟩,
          ⟨(some 47), .len false (.t 46), none, []⟩,
          ⟨(some 12), .mov (.t 47), none, []⟩])
        (.seq (.reg [
          ⟨(some 48), .mov (.t 0), none, []⟩,
          ⟨(some 49), .mov (.t 0), none, []⟩,
          ⟨(some 50), .nilck (.t 49), none, []⟩,
          ⟨(some 51), .faddr 0 (.t 50), none, []⟩,
          ⟨(some 52), .load false 1 (.t 51), none, []⟩,
          ⟨(some 53), .build [.nils, .b false, .i 0] [], none, []⟩,
          ⟨(some 54), .bslice 3 [.nils, .b false, .i 0] 1 [(0, 3, (.t 53))], none, []⟩,
          ⟨(some 55), .append 3 40 [.nils, .b false, .i 0] 136 (.t 52) (.t 54), none, []⟩,
          ⟨(some 56), .nilck (.t 48), none, []⟩,
          ⟨(some 57), .faddr 0 (.t 56), none, []⟩,
          ⟨none, .store 1 (.t 57) (.t 55), none, []⟩])
        (.seq (.reg [
          ⟨(some 58), .mov (.t 4), none, []⟩,
          ⟨(some 59), .mov (.t 4), none, []⟩,
          ⟨(some 60), .len false (.t 59), none, []⟩,
          ⟨(some 61), .bin .sub (.t 60) (.c (.i 1)), none, []⟩,
          ⟨(some 62), .iaddr 1 (.t 58) (.t 61), none, []⟩,
          ⟨(some 63), .load false 1 (.t 62), none, []⟩,
          ⟨(some 13), .mov (.t 63), none, []⟩])
        (.seq (.reg [
          ⟨(some 64), .mov (.t 0), none, []⟩,
          ⟨(some 65), .nilck (.t 64), none, []⟩,
          ⟨(some 66), .faddr 0 (.t 65), none, []⟩,
          ⟨(some 67), .load false 1 (.t 66), none, []⟩,
          ⟨(some 68), .mov (.t 13), none, []⟩,
          ⟨(some 69), .mov (.t 0), none, []⟩,
          ⟨(some 70), .nilck (.t 69), none, []⟩,
          ⟨(some 71), .faddr 0 (.t 70), none, []⟩,
          ⟨(some 72), .load false 1 (.t 71), none, []⟩,
          ⟨(some 73), .mov (.t 13), none, []⟩,
          ⟨(some 74), .iaddr 3 (.t 72) (.t 73), none, []⟩,
          ⟨(some 75), .faddr 0 (.t 74), none, []⟩,
          ⟨(some 76), .load false 1 (.t 75), none, []⟩,
          ⟨(some 77), .mov (.t 11), none, []⟩,
          ⟨(some 78), .mov (.t 12), none, []⟩,
          ⟨(some 79), .build [.v (.int .i32 0), .i 0] [(0, 1, (.t 77)), (1, 1, (.t 78))], none, []⟩,
          ⟨(some 80), .bslice 2 [.v (.int .i32 0), .i 0] 1 [(0, 2, (.t 79))], none, []⟩,
          ⟨(some 81), .append 2 16 [.v (.int .i32 0), .i 0] 190 (.t 76) (.t 80), none, [(67, .load false 1 (.t 66), none)]⟩,
          ⟨(some 82), .iaddr 3 (.t 67) (.t 68), none, []⟩,
          ⟨(some 83), .faddr 0 (.t 82), none, []⟩,
          ⟨none, .store 1 (.t 83) (.t 81), none, []⟩])
        (.reg [
          ⟨(some 84), .mov (.t 4), none, []⟩,
          ⟨(some 85), .mov (.t 12), none, []⟩,
          ⟨(some 86), .bslice 1 [.i 0] 1 [(0, 1, (.t 85))], none, []⟩,
          ⟨(some 87), .append 1 8 [.i 0] 3 (.t 84) (.t 86), none, []⟩,
          ⟨(some 4), .mov (.t 87), none, []⟩])))))))
       (.reg [
         ⟨(some 88), .bin .add (.t 39) (.c (.i 1)), none, []⟩,
         ⟨(some 39), .mov (.t 88), none, []⟩])))))))
     (.seq (.reg [
       ⟨(some 89), .mov (.t 0), none, []⟩,
       ⟨(some 90), .nilck (.t 89), none, []⟩,
       ⟨(some 91), .faddr 0 (.t 90), none, []⟩,
       ⟨(some 92), .load false 1 (.t 91), none, []⟩,
       ⟨(some 93), .mov (.t 4), none, []⟩,
       ⟨(some 94), .mov (.t 4), none, []⟩,
       ⟨(some 95), .len false (.t 94), none, []⟩,
       ⟨(some 96), .bin .sub (.t 95) (.c (.i 1)), none, []⟩,
       ⟨(some 97), .iaddr 1 (.t 93) (.t 96), none, []⟩,
       ⟨(some 98), .load false 1 (.t 97), none, []⟩,
       ⟨(some 99), .iaddr 3 (.t 92) (.t 98), none, []⟩,
       ⟨(some 100), .faddr 1 (.t 99), none, []⟩,
       ⟨none, .store 1 (.t 100) (.c (.b true)), none, []⟩])
     (.reg [
       ⟨(some 101), .mov (.t 8), none, []⟩,
       ⟨(some 5), .mov (.t 101), none, []⟩])))))))
    (.reg [
      ⟨(some 102), .bin .add (.t 17) (.c (.i 1)), none, []⟩,
      ⟨(some 17), .mov (.t 102), none, []⟩])))))))
  (.reg [
    ⟨(some 103), .mov (.t 0), none, []⟩,
    ⟨(some 104), .mov (.t 4), none, []⟩,
    ⟨(some 105), .call (.fn 110) [.t 103, .t 104, .c (.i 0)], none, []⟩])))⟩
theorem r74_is : IsFn Tryz.prog 74 r74 := ⟨Tryz.f74, by kernel_rfl, by kernel_rfl⟩
/-- (*errata/dawg.Dawg).number -/
def r75 : RFn := ⟨122, [.t 8], .seq (.reg [
    ⟨(some 8), .mov (.c (.i 0)), none, []⟩])
  (.seq (.seq (.reg [
    ⟨(some 18), .mov (.t 3), none, []⟩,
    ⟨(some 19), .mov (.t 2), none, []⟩,
    ⟨(some 20), .lookup (.one .i) (.i 0) true (.t 18) (.t 19), none, []⟩,
    ⟨(some 17), .mov (.t 20), none, []⟩,
    ⟨(some 21), .ext (.t 17) 0, none, []⟩,
    ⟨(some 22), .ext (.t 17) 1, none, []⟩,
    ⟨(some 9), .mov (.t 21), none, []⟩,
    ⟨(some 10), .mov (.t 22), none, []⟩])
  (.seq (.reg [
    ⟨(some 23), .mov (.t 10), none, []⟩])
  (.cond (.t 23) (.seq (.reg [
     ⟨(some 24), .mov (.t 9), none, []⟩,
     ⟨(some 8), .mov (.t 24), none, []⟩])
   (.ret)) (.skip))))
  (.seq (.reg [
    ⟨(some 25), .mov (.t 0), none, []⟩,
    ⟨(some 26), .nilck (.t 25), none, []⟩,
    ⟨(some 27), .faddr 0 (.t 26), none, []⟩,
    ⟨(some 28), .load false 1 (.t 27), none, []⟩,
    ⟨(some 29), .len false (.t 28), none, []⟩,
    ⟨(some 11), .mov (.t 29), none, []⟩])
  (.seq (.reg [
    ⟨(some 30), .mov (.t 3), none, []⟩,
    ⟨(some 31), .mov (.t 2), none, []⟩,
    ⟨(some 32), .mov (.t 11), none, []⟩,
    ⟨none, .mapupd (.one .i) (.t 30) (.t 31) (.t 32), none, []⟩])
  (.seq (.reg [
    ⟨(some 33), .mov (.t 0), none, []⟩,
    ⟨(some 34), .mov (.t 0), none, []⟩,
    ⟨(some 35), .nilck (.t 34), none, []⟩,
    ⟨(some 36), .faddr 0 (.t 35), none, []⟩,
    ⟨(some 37), .load false 1 (.t 36), none, []⟩,
    ⟨(some 38), .mov (.t 1), none, []⟩,
    ⟨(some 39), .nilck (.t 38), none, []⟩,
    ⟨(some 40), .faddr 0 (.t 39), none, []⟩,
    ⟨(some 41), .load false 1 (.t 40), none, []⟩,
    ⟨(some 42), .mov (.t 2), none, []⟩,
    ⟨(some 43), .iaddr 3 (.t 41) (.t 42), none, []⟩,
    ⟨(some 44), .faddr 1 (.t 43), none, []⟩,
    ⟨(some 45), .load false 1 (.t 44), none, []⟩,
    ⟨(some 46), .build [.nils, .b false, .i 0] [(1, 1, (.t 45))], none, []⟩,
    ⟨(some 47), .bslice 3 [.nils, .b false, .i 0] 1 [(0, 3, (.t 46))], none, []⟩,
    ⟨(some 48), .append 3 40 [.nils, .b false, .i 0] 136 (.t 37) (.t 47), none, []⟩,
    ⟨(some 49), .nilck (.t 33), none, []⟩,
    ⟨(some 50), .faddr 0 (.t 49), none, []⟩,
    ⟨none, .store 1 (.t 50) (.t 48), none, []⟩])
  (.seq (.reg [
    ⟨(some 12), .mov (.c (.i 0)), none, []⟩])
  (.seq (.seq (.reg [
    ⟨(some 51), .mov (.t 1), none, []⟩,
    ⟨(some 52), .nilck (.t 51), none, []⟩,
    ⟨(some 53), .faddr 0 (.t 52), none, []⟩,
    ⟨(some 54), .load false 1 (.t 53), none, []⟩,
    ⟨(some 55), .mov (.t 2), none, []⟩,
    ⟨(some 56), .iaddr 3 (.t 54) (.t 55), none, []⟩,
    ⟨(some 57), .faddr 1 (.t 56), none, []⟩,
    ⟨(some 58), .load false 1 (.t 57), none, []⟩])
  (.cond (.t 58) (.reg [
     ⟨(some 12), .mov (.c (.i 1)), none, []⟩]) (.skip)))
  (.seq (.reg [
    ⟨(some 13), .mov (.c (.nils)), none, []⟩])
  (.seq (.seq (.reg [
    ⟨(some 59), .mov (.t 1), none, []⟩,
    ⟨(some 60), .nilck (.t 59), none, []⟩,
    ⟨(some 61), .faddr 0 (.t 60), none, []⟩,
    ⟨(some 62), .load false 1 (.t 61), none, []⟩,
    ⟨(some 63), .mov (.t 2), none, []⟩,
    ⟨(some 64), .iaddr 3 (.t 62) (.t 63), none, []⟩,
    ⟨(some 65), .faddr 0 (.t 64), none, []⟩,
    ⟨(some 66), .load false 1 (.t 65), none, []⟩,
    ⟨(some 67), .len false (.t 66), none, []⟩,
    ⟨(some 68), .mov (.c (.i 0)), none, []⟩])
  (.block 0 (.loop (.seq (.reg [
      ⟨(some 69), .bin .lss (.t 68) (.t 67), none, []⟩])
    (.seq (.cond (.t 69) (.skip) (.exit 0))
    (.seq (.block 1 (.seq (.reg [
       ⟨(some 70), .iaddr 2 (.t 66) (.t 68), none, []⟩,
       ⟨(some 71), .load true 2 (.t 70), none, []⟩,
       ⟨(some 15), .alloc [.v (.int .i32 0), .i 0] 190, none, []⟩,
       ⟨none, .store 2 (.t 15) (.t 71), none, []⟩])
     (.seq (.reg [
       ⟨(some 72), .mov (.t 0), none, []⟩,
       ⟨(some 73), .mov (.t 1), none, []⟩,
       ⟨(some 74), .faddr 1 (.t 15), none, []⟩,
       ⟨(some 75), .load false 1 (.t 74), none, []⟩,
       ⟨(some 76), .mov (.t 3), none, []⟩,
       ⟨(some 77), .call (.fn 75) [.t 72, .t 73, .t 75, .t 76], none, []⟩,
       ⟨(some 16), .mov (.t 77), none, []⟩])
     (.seq (.reg [
       ⟨(some 78), .mov (.t 13), none, []⟩,
       ⟨(some 79), .faddr 0 (.t 15), none, []⟩,
       ⟨(some 80), .load false 1 (.t 79), none, []⟩,
       ⟨(some 81), .mov (.t 16), none, []⟩,
       ⟨(some 82), .build [.v (.int .i32 0), .i 0] [(0, 1, (.t 80)), (1, 1, (.t 81))], none, []⟩,
       ⟨(some 83), .bslice 2 [.v (.int .i32 0), .i 0] 1 [(0, 2, (.t 82))], none, []⟩,
       ⟨(some 84), .append 2 16 [.v (.int .i32 0), .i 0] 190 (.t 78) (.t 83), none, []⟩,
       ⟨(some 13), .mov (.t 84), none, []⟩])
     (.reg [
       ⟨(some 85), .mov (.t 12), none, []⟩,
       ⟨(some 86), .mov (.t 0), none, []⟩,
       ⟨(some 87), .nilck (.t 86), none, []⟩,
       ⟨(some 88), .faddr 0 (.t 87), none, []⟩,
       ⟨(some 89), .load false 1 (.t 88), none, []⟩,
       ⟨(some 90), .mov (.t 16), none, []⟩,
       ⟨(some 91), .iaddr 3 (.t 89) (.t 90), none, []⟩,
       ⟨(some 92), .faddr 2 (.t 91), none, []⟩,
       ⟨(some 93), .load false 1 (.t 92), none, []⟩,
       ⟨(some 94), .bin .add (.t 85) (.t 93), none, []⟩,
       ⟨(some 12), .mov (.t 94), none, []⟩])))))
    (.reg [
      ⟨(some 95), .bin .add (.t 68) (.c (.i 1)), none, []⟩,
      ⟨(some 68), .mov (.t 95), none, []⟩])))))))
  (.seq (.reg [
    ⟨(some 96), .mov (.t 0), none, []⟩,
    ⟨(some 97), .nilck (.t 96), none, []⟩,
    ⟨(some 98), .faddr 0 (.t 97), none, []⟩,
    ⟨(some 99), .load false 1 (.t 98), none, []⟩,
    ⟨(some 100), .mov (.t 11), none, []⟩,
    ⟨(some 101), .mov (.t 0), none, []⟩,
    ⟨(some 102), .nilck (.t 101), none, []⟩,
    ⟨(some 103), .faddr 0 (.t 102), none, []⟩,
    ⟨(some 104), .load false 1 (.t 103), none, []⟩,
    ⟨(some 105), .mov (.t 11), none, []⟩,
    ⟨(some 106), .mov (.t 13), none, []⟩,
    ⟨(some 107), .mov (.t 12), none, []⟩,
    ⟨(some 108), .iaddr 3 (.t 99) (.t 100), none, []⟩,
    ⟨(some 109), .faddr 0 (.t 108), none, []⟩,
    ⟨none, .store 1 (.t 109) (.t 106), none, []⟩,
    ⟨(some 110), .iaddr 3 (.t 104) (.t 105), none, []⟩,
    ⟨(some 111), .faddr 2 (.t 110), none, []⟩,
    ⟨none, .store 1 (.t 111) (.t 107), none, []⟩])
  (.seq (.reg [
    ⟨(some 112), .mov (.t 0), none, []⟩,
    ⟨(some 113), .nilck (.t 112), none, []⟩,
    ⟨(some 114), .faddr 1 (.t 113), none, []⟩,
    ⟨(some 115), .load false 1 (.t 114), none, []⟩,
    ⟨(some 116), .mov (.t 13), none, []⟩,
    ⟨(some 117), .len false (.t 116), none, []⟩,
    ⟨(some 118), .bin .add (.t 115) (.t 117), none, []⟩,
    ⟨(some 119), .nilck (.t 112), none, []⟩,
    ⟨(some 120), .faddr 1 (.t 119), none, []⟩,
    ⟨none, .store 1 (.t 120) (.t 118), none, []⟩])
  (.seq (.reg [
    ⟨(some 121), .mov (.t 11), none, []⟩,
    ⟨(some 8), .mov (.t 121), none, []⟩])
  (.ret))))))))))))⟩
theorem r75_is : IsFn Tryz.prog 75 r75 := ⟨Tryz.f75, by kernel_rfl, by kernel_rfl⟩
/-- slices.Clone[[]errata/api.Rule,errata/api.Rule] -/
def r76 : RFn := ⟨8, [.t 2], .seq (.reg [
    ⟨(some 2), .mov (.c (.nils)), none, []⟩])
  (.seq (.seq (.reg [
    ⟨(some 3), .mov (.t 0), none, []⟩,
    ⟨(some 4), .eqs false (.t 3), none, []⟩])
  (.cond (.t 4) (.seq (.reg [
     ⟨(some 2), .mov (.c (.nils)), none, []⟩])
   (.ret)) (.skip)))
  (.seq (.reg [
    ⟨(some 5), .bslice 3 [.v (.string ⟨#[]⟩), .v (.string ⟨#[]⟩), .i 0] 0 [], none, []⟩,
    ⟨(some 6), .mov (.t 0), none, []⟩,
    ⟨(some 7), .append 3 40 [.v (.string ⟨#[]⟩), .v (.string ⟨#[]⟩), .i 0] 50 (.t 5) (.t 6), none, []⟩,
    ⟨(some 2), .mov (.t 7), none, []⟩])
  (.ret)))⟩
theorem r76_is : IsFn Tryz.prog 76 r76 := ⟨Tryz.f76, by kernel_rfl, by kernel_rfl⟩
/-- slices.Clone[[]errata/api.Word,errata/api.Word] -/
def r77 : RFn := ⟨8, [.t 2], .seq (.reg [
    ⟨(some 2), .mov (.c (.nils)), none, []⟩])
  (.seq (.seq (.reg [
    ⟨(some 3), .mov (.t 0), none, []⟩,
    ⟨(some 4), .eqs false (.t 3), none, []⟩])
  (.cond (.t 4) (.seq (.reg [
     ⟨(some 2), .mov (.c (.nils)), none, []⟩])
   (.ret)) (.skip)))
  (.seq (.reg [
    ⟨(some 5), .bslice 2 [.v (.string ⟨#[]⟩), .i 0] 0 [], none, []⟩,
    ⟨(some 6), .mov (.t 0), none, []⟩,
    ⟨(some 7), .append 2 24 [.v (.string ⟨#[]⟩), .i 0] 53 (.t 5) (.t 6), none, []⟩,
    ⟨(some 2), .mov (.t 7), none, []⟩])
  (.ret)))⟩
theorem r77_is : IsFn Tryz.prog 77 r77 := ⟨Tryz.f77, by kernel_rfl, by kernel_rfl⟩
/-- unicode/utf8.ValidString -/
def r78 : RFn := ⟨169, [.t 2], .seq (.reg [
    ⟨(some 2), .mov (.c (.b false)), none, []⟩])
  (.seq (.block 0 (.loop (.seq (.seq (.reg [
      ⟨(some 7), .mov (.t 0), none, []⟩,
      ⟨(some 8), .len true (.t 7), none, []⟩,
      ⟨(some 9), .bin .gtr (.t 8) (.c (.i 0)), none, []⟩])
    (.cond (.t 9) (.skip) (.exit 0)))
    (.block 1 (.seq (.reg [
       ⟨(some 10), .mov (.t 0), none, []⟩,
       ⟨(some 11), .idx (.t 10) (.c (.i 0)), none, []⟩,
       ⟨(some 3), .mov (.t 11), none, []⟩])
     (.seq (.seq (.reg [
       ⟨(some 12), .mov (.t 3), none, []⟩,
       ⟨(some 13), .bin .lss (.t 12) (.c (.v (.int .u8 128))), none, []⟩])
     (.cond (.t 13) (.seq (.reg [
        ⟨(some 14), .mov (.t 0), none, []⟩,
        ⟨(some 15), .slc true 0 (.t 14) (some (.c (.i 1))) none none, none, []⟩,
        ⟨(some 0), .mov (.t 15), none, []⟩])
      (.seq (.seq (.reg [
        ⟨(some 16), .mov (.t 0), none, []⟩,
        ⟨(some 17), .len true (.t 16), none, []⟩,
        ⟨(some 18), .bin .gtr (.t 17) (.c (.i 8)), none, []⟩,
        ⟨(some 19), .mov (.t 18), none, []⟩,
        ⟨(some 20), .mov (.t 0), (some (19, true)), []⟩,
        ⟨(some 21), .call (.fn 112) [.t 20], (some (19, true)), []⟩,
        ⟨(some 22), .bin .and (.t 21) (.c (.v (.int .u64 9259542123273814144))), (some (19, true)), []⟩,
        ⟨(some 23), .bin .eql (.t 22) (.c (.v (.int .u64 0))), (some (19, true)), []⟩,
        ⟨(some 24), .pick (.t 19) (.t 23) (.c (.b false)), none, []⟩])
      (.cond (.t 24) (.seq (.reg [
         ⟨(some 25), .mov (.t 0), none, []⟩,
         ⟨(some 26), .slc true 0 (.t 25) (some (.c (.i 8))) none none, none, []⟩,
         ⟨(some 0), .mov (.t 26), none, []⟩])
       (.seq (.reg [
         ⟨(some 27), .mov (.t 0), none, []⟩,
         ⟨(some 28), .len true (.t 27), none, []⟩,
         ⟨(some 29), .bin .gtr (.t 28) (.c (.i 16)), none, []⟩,
         ⟨(some 30), .mov (.t 29), none, []⟩,
         ⟨(some 31), .mov (.t 0), (some (30, true)), []⟩,
         ⟨(some 33), .mov (.t 0), (some (30, true)), []⟩,
         ⟨(some 34), .slc true 0 (.t 33) (some (.c (.i 8))) none none, (some (30, true)), []⟩,
         ⟨(some 32), .call (.fn 112) [.t 31], (some (30, true)), []⟩,
         ⟨(some 35), .call (.fn 112) [.t 34], (some (30, true)), []⟩,
         ⟨(some 36), .bin .or (.t 32) (.t 35), (some (30, true)), []⟩,
         ⟨(some 37), .bin .and (.t 36) (.c (.v (.int .u64 9259542123273814144))), (some (30, true)), []⟩,
         ⟨(some 38), .bin .eql (.t 37) (.c (.v (.int .u64 0))), (some (30, true)), []⟩,
         ⟨(some 39), .pick (.t 30) (.t 38) (.c (.b false)), none, []⟩])
       (.cond (.t 39) (.seq (.reg [
          ⟨(some 40), .mov (.t 0), none, []⟩,
          ⟨(some 41), .slc true 0 (.t 40) (some (.c (.i 16))) none none, none, []⟩,
          ⟨(some 0), .mov (.t 41), none, []⟩])
        (.block 2 (.loop (.seq (.seq (.reg [
            ⟨(some 42), .mov (.t 0), none, []⟩,
            ⟨(some 43), .len true (.t 42), none, []⟩,
            ⟨(some 44), .bin .gtr (.t 43) (.c (.i 32)), none, []⟩,
            ⟨(some 45), .mov (.t 44), none, []⟩,
            ⟨(some 46), .mov (.t 0), (some (45, true)), []⟩,
            ⟨(some 48), .mov (.t 0), (some (45, true)), []⟩,
            ⟨(some 49), .slc true 0 (.t 48) (some (.c (.i 8))) none none, (some (45, true)), []⟩,
            ⟨(some 52), .mov (.t 0), (some (45, true)), []⟩,
            ⟨(some 53), .slc true 0 (.t 52) (some (.c (.i 16))) none none, (some (45, true)), []⟩,
            ⟨(some 55), .mov (.t 0), (some (45, true)), []⟩,
            ⟨(some 56), .slc true 0 (.t 55) (some (.c (.i 24))) none none, (some (45, true)), []⟩,
            ⟨(some 47), .call (.fn 112) [.t 46], (some (45, true)), []⟩,
            ⟨(some 50), .call (.fn 112) [.t 49], (some (45, true)), []⟩,
            ⟨(some 51), .bin .or (.t 47) (.t 50), (some (45, true)), []⟩,
            ⟨(some 54), .call (.fn 112) [.t 53], (some (45, true)), []⟩,
            ⟨(some 57), .call (.fn 112) [.t 56], (some (45, true)), []⟩,
            ⟨(some 58), .bin .or (.t 54) (.t 57), (some (45, true)), []⟩,
            ⟨(some 59), .bin .or (.t 51) (.t 58), (some (45, true)), []⟩,
            ⟨(some 60), .bin .and (.t 59) (.c (.v (.int .u64 9259542123273814144))), (some (45, true)), []⟩,
            ⟨(some 61), .bin .eql (.t 60) (.c (.v (.int .u64 0))), (some (45, true)), []⟩,
            ⟨(some 62), .pick (.t 45) (.t 61) (.c (.b false)), none, []⟩])
          (.cond (.t 62) (.skip) (.exit 2)))
          (.block 3 (.reg [
             ⟨(some 63), .mov (.t 0), none, []⟩,
             ⟨(some 64), .slc true 0 (.t 63) (some (.c (.i 32))) none none, none, []⟩,
             ⟨(some 0), .mov (.t 64), none, []⟩])))))) (.skip)))) (.skip)))
      (.exit 1))) (.skip)))
     (.seq (.reg [
       ⟨(some 65), .mov (.t 3), none, []⟩,
       ⟨(some 66), .aiaddr 256 1 (.c (.v (.pointer (some ⟨3, 0, none⟩)))) (.t 65), none, []⟩,
       ⟨(some 67), .load false 1 (.t 66), none, []⟩,
       ⟨(some 4), .mov (.t 67), none, []⟩])
     (.seq (.reg [
       ⟨(some 68), .mov (.t 4), none, []⟩,
       ⟨(some 69), .bin .and (.t 68) (.c (.v (.int .u8 7))), none, []⟩,
       ⟨(some 70), .cvi .i64 (.t 69), none, []⟩,
       ⟨(some 5), .mov (.t 70), none, []⟩])
     (.seq (.reg [
       ⟨(some 71), .mov (.t 4), none, []⟩,
       ⟨(some 72), .bin .shr (.t 71) (.c (.v (.int .u64 4))), none, []⟩,
       ⟨(some 73), .aiaddr 16 2 (.c (.v (.pointer (some ⟨4, 0, none⟩)))) (.t 72), none, []⟩,
       ⟨(some 74), .load true 2 (.t 73), none, []⟩,
       ⟨(some 6), .alloc [.v (.int .u8 0), .v (.int .u8 0)] 194, none, []⟩,
       ⟨none, .store 2 (.t 6) (.t 74), none, []⟩])
     (.seq (.reg [
       ⟨(some 75), .mov (.t 5), none, []⟩])
     (.block 4 (.seq (.reg [
        ⟨(some 77), .bin .eql (.t 75) (.c (.i 2)), none, []⟩,
        ⟨(some 76), .mov (.t 77), none, []⟩])
      (.cond (.t 76) (.seq (.seq (.reg [
         ⟨(some 78), .mov (.t 0), none, []⟩,
         ⟨(some 79), .len true (.t 78), none, []⟩,
         ⟨(some 80), .bin .lss (.t 79) (.c (.i 2)), none, []⟩,
         ⟨(some 81), .mov (.t 80), none, []⟩,
         ⟨(some 82), .mov (.t 0), (some (81, false)), []⟩,
         ⟨(some 83), .idx (.t 82) (.c (.i 1)), (some (81, false)), []⟩,
         ⟨(some 84), .faddr 0 (.t 6), (some (81, false)), []⟩,
         ⟨(some 85), .load false 1 (.t 84), (some (81, false)), []⟩,
         ⟨(some 86), .bin .lss (.t 83) (.t 85), (some (81, false)), []⟩,
         ⟨(some 87), .pick (.t 81) (.c (.b true)) (.t 86), none, []⟩,
         ⟨(some 88), .mov (.t 87), none, []⟩,
         ⟨(some 89), .faddr 1 (.t 6), (some (88, false)), []⟩,
         ⟨(some 90), .load false 1 (.t 89), (some (88, false)), []⟩,
         ⟨(some 91), .mov (.t 0), (some (88, false)), []⟩,
         ⟨(some 92), .idx (.t 91) (.c (.i 1)), (some (88, false)), []⟩,
         ⟨(some 93), .bin .lss (.t 90) (.t 92), (some (88, false)), []⟩,
         ⟨(some 94), .pick (.t 88) (.c (.b true)) (.t 93), none, []⟩])
       (.cond (.t 94) (.seq (.reg [
          ⟨(some 2), .mov (.c (.b false)), none, []⟩])
        (.ret)) (.skip)))
       (.reg [
         ⟨(some 95), .mov (.t 0), none, []⟩,
         ⟨(some 96), .slc true 0 (.t 95) (some (.c (.i 2))) none none, none, []⟩,
         ⟨(some 0), .mov (.t 96), none, []⟩])) (.seq (.reg [
         ⟨(some 98), .bin .eql (.t 75) (.c (.i 3)), none, []⟩,
         ⟨(some 97), .mov (.t 98), none, []⟩])
       (.cond (.t 97) (.seq (.seq (.reg [
          ⟨(some 99), .mov (.t 0), none, []⟩,
          ⟨(some 100), .len true (.t 99), none, []⟩,
          ⟨(some 101), .bin .lss (.t 100) (.c (.i 3)), none, []⟩,
          ⟨(some 102), .mov (.t 101), none, []⟩,
          ⟨(some 103), .mov (.t 0), (some (102, false)), []⟩,
          ⟨(some 104), .idx (.t 103) (.c (.i 1)), (some (102, false)), []⟩,
          ⟨(some 105), .faddr 0 (.t 6), (some (102, false)), []⟩,
          ⟨(some 106), .load false 1 (.t 105), (some (102, false)), []⟩,
          ⟨(some 107), .bin .lss (.t 104) (.t 106), (some (102, false)), []⟩,
          ⟨(some 108), .pick (.t 102) (.c (.b true)) (.t 107), none, []⟩,
          ⟨(some 109), .mov (.t 108), none, []⟩,
          ⟨(some 110), .faddr 1 (.t 6), (some (109, false)), []⟩,
          ⟨(some 111), .load false 1 (.t 110), (some (109, false)), []⟩,
          ⟨(some 112), .mov (.t 0), (some (109, false)), []⟩,
          ⟨(some 113), .idx (.t 112) (.c (.i 1)), (some (109, false)), []⟩,
          ⟨(some 114), .bin .lss (.t 111) (.t 113), (some (109, false)), []⟩,
          ⟨(some 115), .pick (.t 109) (.c (.b true)) (.t 114), none, []⟩,
          ⟨(some 116), .mov (.t 115), none, []⟩,
          ⟨(some 117), .mov (.t 0), (some (116, false)), []⟩,
          ⟨(some 118), .idx (.t 117) (.c (.i 2)), (some (116, false)), []⟩,
          ⟨(some 119), .bin .lss (.t 118) (.c (.v (.int .u8 128))), (some (116, false)), []⟩,
          ⟨(some 120), .pick (.t 116) (.c (.b true)) (.t 119), none, []⟩,
          ⟨(some 121), .mov (.t 120), none, []⟩,
          ⟨(some 122), .mov (.t 0), (some (121, false)), []⟩,
          ⟨(some 123), .idx (.t 122) (.c (.i 2)), (some (121, false)), []⟩,
          ⟨(some 124), .bin .lss (.c (.v (.int .u8 191))) (.t 123), (some (121, false)), []⟩,
          ⟨(some 125), .pick (.t 121) (.c (.b true)) (.t 124), none, []⟩])
        (.cond (.t 125) (.seq (.reg [
           ⟨(some 2), .mov (.c (.b false)), none, []⟩])
         (.ret)) (.skip)))
        (.reg [
          ⟨(some 126), .mov (.t 0), none, []⟩,
          ⟨(some 127), .slc true 0 (.t 126) (some (.c (.i 3))) none none, none, []⟩,
          ⟨(some 0), .mov (.t 127), none, []⟩])) (.seq (.reg [
          ⟨(some 129), .bin .eql (.t 75) (.c (.i 4)), none, []⟩,
          ⟨(some 128), .mov (.t 129), none, []⟩])
        (.cond (.t 128) (.seq (.seq (.reg [
           ⟨(some 130), .mov (.t 0), none, []⟩,
           ⟨(some 131), .len true (.t 130), none, []⟩,
           ⟨(some 132), .bin .lss (.t 131) (.c (.i 4)), none, []⟩,
           ⟨(some 133), .mov (.t 132), none, []⟩,
           ⟨(some 134), .mov (.t 0), (some (133, false)), []⟩,
           ⟨(some 135), .idx (.t 134) (.c (.i 1)), (some (133, false)), []⟩,
           ⟨(some 136), .faddr 0 (.t 6), (some (133, false)), []⟩,
           ⟨(some 137), .load false 1 (.t 136), (some (133, false)), []⟩,
           ⟨(some 138), .bin .lss (.t 135) (.t 137), (some (133, false)), []⟩,
           ⟨(some 139), .pick (.t 133) (.c (.b true)) (.t 138), none, []⟩,
           ⟨(some 140), .mov (.t 139), none, []⟩,
           ⟨(some 141), .faddr 1 (.t 6), (some (140, false)), []⟩,
           ⟨(some 142), .load false 1 (.t 141), (some (140, false)), []⟩,
           ⟨(some 143), .mov (.t 0), (some (140, false)), []⟩,
           ⟨(some 144), .idx (.t 143) (.c (.i 1)), (some (140, false)), []⟩,
           ⟨(some 145), .bin .lss (.t 142) (.t 144), (some (140, false)), []⟩,
           ⟨(some 146), .pick (.t 140) (.c (.b true)) (.t 145), none, []⟩,
           ⟨(some 147), .mov (.t 146), none, []⟩,
           ⟨(some 148), .mov (.t 0), (some (147, false)), []⟩,
           ⟨(some 149), .idx (.t 148) (.c (.i 2)), (some (147, false)), []⟩,
           ⟨(some 150), .bin .lss (.t 149) (.c (.v (.int .u8 128))), (some (147, false)), []⟩,
           ⟨(some 151), .pick (.t 147) (.c (.b true)) (.t 150), none, []⟩,
           ⟨(some 152), .mov (.t 151), none, []⟩,
           ⟨(some 153), .mov (.t 0), (some (152, false)), []⟩,
           ⟨(some 154), .idx (.t 153) (.c (.i 2)), (some (152, false)), []⟩,
           ⟨(some 155), .bin .lss (.c (.v (.int .u8 191))) (.t 154), (some (152, false)), []⟩,
           ⟨(some 156), .pick (.t 152) (.c (.b true)) (.t 155), none, []⟩,
           ⟨(some 157), .mov (.t 156), none, []⟩,
           ⟨(some 158), .mov (.t 0), (some (157, false)), []⟩,
           ⟨(some 159), .idx (.t 158) (.c (.i 3)), (some (157, false)), []⟩,
           ⟨(some 160), .bin .lss (.t 159) (.c (.v (.int .u8 128))), (some (157, false)), []⟩,
           ⟨(some 161), .pick (.t 157) (.c (.b true)) (.t 160), none, []⟩,
           ⟨(some 162), .mov (.t 161), none, []⟩,
           ⟨(some 163), .mov (.t 0), (some (162, false)), []⟩,
           ⟨(some 164), .idx (.t 163) (.c (.i 3)), (some (162, false)), []⟩,
           ⟨(some 165), .bin .lss (.c (.v (.int .u8 191))) (.t 164), (some (162, false)), []⟩,
           ⟨(some 166), .pick (.t 162) (.c (.b true)) (.t 165), none, []⟩])
         (.cond (.t 166) (.seq (.reg [
            ⟨(some 2), .mov (.c (.b false)), none, []⟩])
          (.ret)) (.skip)))
         (.reg [
           ⟨(some 167), .mov (.t 0), none, []⟩,
           ⟨(some 168), .slc true 0 (.t 167) (some (.c (.i 4))) none none, none, []⟩,
           ⟨(some 0), .mov (.t 168), none, []⟩])) (.seq (.reg [
           ⟨(some 2), .mov (.c (.b false)), none, []⟩])
         (.ret)))))))))))))))))))
  (.seq (.reg [
    ⟨(some 2), .mov (.c (.b true)), none, []⟩])
  (.ret)))⟩
theorem r78_is : IsFn Tryz.prog 78 r78 := ⟨Tryz.f78, by kernel_rfl, by kernel_rfl⟩
/-- errata/text.row -/
def r79 : RFn := ⟨22, [.t 4], .seq (.reg [
    ⟨(some 4), .mov (.c (.i 0)), none, []⟩])
  (.scope (.seq (.skip)
   (.seq (.seq (.reg [
     ⟨(some 7), .mov (.t 0), none, []⟩,
     ⟨(some 8), .srange (.t 7), none, []⟩])
   (.block 0 (.loop (.seq (.reg [
       ⟨(some 9), .next true (.t 8), none, []⟩,
       ⟨(some 10), .ext (.t 9) 0, none, []⟩])
     (.seq (.cond (.t 10) (.skip) (.exit 0))
     (.block 1 (.seq (.reg [
        ⟨(some 11), .ext (.t 9) 1, none, []⟩,
        ⟨(some 12), .ext (.t 9) 2, none, []⟩,
        ⟨(some 5), .mov (.t 11), none, []⟩,
        ⟨(some 6), .mov (.t 12), none, []⟩])
      (.seq (.seq (.reg [
        ⟨(some 13), .mov (.t 6), none, []⟩,
        ⟨(some 14), .call (.fn 113) [.t 13], none, []⟩,
        ⟨(some 15), .mov (.t 1), none, []⟩,
        ⟨(some 16), .eqb true (.t 14) (.t 15), none, []⟩])
      (.cond (.t 16) (.exit 0) (.skip)))
      (.reg [
        ⟨(some 17), .mov (.t 5), none, []⟩,
        ⟨(some 18), .mov (.t 6), none, []⟩,
        ⟨(some 19), .call (.fn 114) [.t 18], none, []⟩,
        ⟨(some 20), .bin .add (.t 17) (.t 19), none, []⟩,
        ⟨(some 4), .mov (.t 20), none, []⟩])))))))))
   (.seq (.reg [
     ⟨(some 21), .mov (.t 4), none, []⟩,
     ⟨(some 4), .mov (.t 21), none, []⟩])
   (.ret)))))⟩
theorem r79_is : IsFn Tryz.prog 79 r79 := ⟨Tryz.f79, by kernel_rfl, by kernel_rfl⟩
/-- errata/document.unknown$1 -/
def r80 : RFn := ⟨39, [], .scope (.seq (.skip)
   (.seq (.reg [
     ⟨(some 8), .load false 1 (.t 1), none, []⟩,
     ⟨(some 9), .len false (.t 8), none, []⟩,
     ⟨(some 10), .mov (.c (.i 0)), none, []⟩])
   (.block 0 (.loop (.seq (.reg [
       ⟨(some 11), .bin .lss (.t 10) (.t 9), none, []⟩])
     (.seq (.cond (.t 11) (.skip) (.exit 0))
     (.seq (.block 1 (.seq (.reg [
        ⟨(some 12), .iaddr 3 (.t 8) (.t 10), none, []⟩,
        ⟨(some 13), .load true 3 (.t 12), none, []⟩,
        ⟨(some 6), .alloc [.i 0, .i 0, .b false] 108, none, []⟩,
        ⟨none, .store 3 (.t 6) (.t 13), none, []⟩])
      (.seq (.reg [
        ⟨(some 14), .load false 1 (.t 2), none, []⟩,
        ⟨(some 15), .faddr 0 (.t 6), none, []⟩,
        ⟨(some 16), .load false 1 (.t 15), none, []⟩,
        ⟨(some 17), .faddr 1 (.t 6), none, []⟩,
        ⟨(some 18), .load false 1 (.t 17), none, []⟩,
        ⟨(some 19), .slc true 0 (.t 14) (some (.t 16)) (some (.t 18)) none, none, []⟩,
        ⟨(some 7), .mov (.t 19), none, []⟩])
      (.seq (.seq (.reg [
        ⟨(some 20), .faddr 2 (.t 6), none, []⟩,
        ⟨(some 21), .load false 1 (.t 20), none, []⟩,
        ⟨(some 22), .un .not (.t 21), none, []⟩,
        ⟨(some 23), .mov (.t 22), none, []⟩,
        ⟨(some 24), .mov (.t 7), (some (23, false)), []⟩,
        ⟨(some 25), .call (.fn 28) [.t 24], (some (23, false)), []⟩,
        ⟨(some 26), .bin .gtr (.t 25) (.c (.i 64)), (some (23, false)), []⟩,
        ⟨(some 27), .pick (.t 23) (.c (.b true)) (.t 26), none, []⟩,
        ⟨(some 28), .mov (.t 27), none, []⟩,
        ⟨(some 29), .load false 1 (.t 3), (some (28, false)), []⟩,
        ⟨(some 30), .mov (.t 7), (some (28, false)), []⟩,
        ⟨(some 31), .call (.fn 81) [.t 29, .t 30], (some (28, false)), []⟩,
        ⟨(some 32), .pick (.t 28) (.c (.b true)) (.t 31), none, []⟩])
      (.cond (.t 32) (.exit 1) (.skip)))
      (.seq (.reg [
        ⟨(some 33), .mov (.t 0), none, []⟩,
        ⟨(some 34), .load true 3 (.t 6), none, []⟩,
        ⟨(some 35), .mov (.t 7), none, []⟩,
        ⟨(some 36), .call (.val (.t 33)) [.t 34, .t 35], none, []⟩,
        ⟨(some 37), .un .not (.t 36), none, []⟩])
      (.cond (.t 37) (.exit 0) (.skip)))))))
     (.reg [
       ⟨(some 38), .bin .add (.t 10) (.c (.i 1)), none, []⟩,
       ⟨(some 10), .mov (.t 38), none, []⟩]))))))))⟩
theorem r80_is : IsFn Tryz.prog 80 r80 := ⟨Tryz.f80, by kernel_rfl, by kernel_rfl⟩
/-- (*errata/correct.Corrector).Knows -/
def r81 : RFn := ⟨29, [.t 4], .seq (.reg [
    ⟨(some 4), .mov (.c (.b false)), none, []⟩])
  (.seq (.seq (.reg [
    ⟨(some 9), .mov (.t 0), none, []⟩,
    ⟨(some 10), .eqp false (.t 9) (.c (.nilp)), none, []⟩])
  (.cond (.t 10) (.seq (.reg [
     ⟨(some 4), .mov (.c (.b false)), none, []⟩])
   (.ret)) (.skip)))
  (.seq (.seq (.reg [
    ⟨(some 12), .mov (.t 1), none, []⟩,
    ⟨(some 13), .call (.fn 115) [.t 12], none, []⟩,
    ⟨(some 11), .mov (.t 13), none, []⟩,
    ⟨(some 14), .ext (.t 11) 0, none, []⟩,
    ⟨(some 15), .ext (.t 11) 1, none, []⟩,
    ⟨(some 5), .mov (.t 14), none, []⟩,
    ⟨(some 6), .mov (.t 15), none, []⟩])
  (.seq (.reg [
    ⟨(some 16), .mov (.t 6), none, []⟩,
    ⟨(some 17), .bin .neq (.t 16) (.c (.i 0)), none, []⟩])
  (.cond (.t 17) (.seq (.reg [
     ⟨(some 4), .mov (.c (.b false)), none, []⟩])
   (.ret)) (.skip))))
  (.seq (.reg [
    ⟨(some 19), .mov (.t 0), none, []⟩,
    ⟨(some 20), .nilck (.t 19), none, []⟩,
    ⟨(some 21), .faddr 2 (.t 20), none, []⟩,
    ⟨(some 22), .load false 1 (.t 21), none, []⟩,
    ⟨(some 23), .mov (.t 1), none, []⟩,
    ⟨(some 24), .call (.fn 116) [.t 22, .t 23], none, []⟩,
    ⟨(some 18), .mov (.t 24), none, []⟩,
    ⟨(some 25), .ext (.t 18) 0, none, []⟩,
    ⟨(some 26), .ext (.t 18) 1, none, []⟩,
    ⟨(some 7), .mov (.t 25), none, []⟩,
    ⟨(some 8), .mov (.t 26), none, []⟩])
  (.seq (.reg [
    ⟨(some 27), .mov (.t 8), none, []⟩,
    ⟨(some 28), .bin .eql (.t 27) (.c (.i 0)), none, []⟩,
    ⟨(some 4), .mov (.t 28), none, []⟩])
  (.ret)))))⟩
theorem r81_is : IsFn Tryz.prog 81 r81 := ⟨Tryz.f81, by kernel_rfl, by kernel_rfl⟩
/-- (*errata/correct.Corrector).all -/
def r82 : RFn := ⟨31, [.t 6, .t 7], .seq (.reg [
    ⟨(some 6), .mov (.c (.nils)), none, []⟩,
    ⟨(some 7), .mov (.c (.i 0)), none, []⟩])
  (.seq (.seq (.reg [
    ⟨(some 11), .mov (.t 0), none, []⟩,
    ⟨(some 12), .eqp false (.t 11) (.c (.nilp)), none, []⟩])
  (.cond (.t 12) (.seq (.reg [
     ⟨(some 6), .mov (.c (.nils)), none, []⟩,
     ⟨(some 7), .mov (.c (.i 1)), none, []⟩])
   (.ret)) (.skip)))
  (.seq (.reg [
    ⟨(some 14), .mov (.t 0), none, []⟩,
    ⟨(some 15), .nilck (.t 14), none, []⟩,
    ⟨(some 16), .faddr 2 (.t 15), none, []⟩,
    ⟨(some 17), .load false 1 (.t 16), none, []⟩,
    ⟨(some 18), .mov (.t 0), none, []⟩,
    ⟨(some 19), .nilck (.t 18), none, []⟩,
    ⟨(some 20), .faddr 0 (.t 19), none, []⟩,
    ⟨(some 21), .faddr 0 (.t 20), none, []⟩,
    ⟨(some 22), .load false 1 (.t 21), none, []⟩,
    ⟨(some 23), .mov (.t 1), none, []⟩,
    ⟨(some 24), .mov (.t 2), none, []⟩,
    ⟨(some 25), .call (.fn 117) [.t 17, .t 22, .t 23, .t 24], none, []⟩,
    ⟨(some 13), .mov (.t 25), none, []⟩,
    ⟨(some 26), .ext (.t 13) 0, none, []⟩,
    ⟨(some 27), .ext (.t 13) 1, none, []⟩,
    ⟨(some 28), .ext (.t 13) 2, none, []⟩,
    ⟨(some 9), .alloc [.i 0, .i 0, .i 0] 201, none, []⟩,
    ⟨(some 8), .mov (.t 26), none, []⟩,
    ⟨none, .store 3 (.t 9) (.t 27), none, []⟩,
    ⟨(some 10), .mov (.t 28), none, []⟩])
  (.seq (.reg [
    ⟨(some 29), .mov (.t 8), none, []⟩,
    ⟨(some 30), .mov (.t 10), none, []⟩,
    ⟨(some 6), .mov (.t 29), none, []⟩,
    ⟨(some 7), .mov (.t 30), none, []⟩])
  (.ret))))⟩
theorem r82_is : IsFn Tryz.prog 82 r82 := ⟨Tryz.f82, by kernel_rfl, by kernel_rfl⟩
/-- errata/correct.ahead -/
def r83 : RFn := ⟨4, [.t 2], .seq (.reg [
    ⟨(some 1), .box (.t 0), none, []⟩,
    ⟨(some 2), .mov (.c (.v (.nilFunc))), none, []⟩])
  (.seq (.reg [
    ⟨(some 3), .mkfn 118 [.t 1], none, []⟩,
    ⟨(some 2), .mov (.t 3), none, []⟩])
  (.ret))⟩
theorem r83_is : IsFn Tryz.prog 83 r83 := ⟨Tryz.f83, by kernel_rfl, by kernel_rfl⟩
/-- unicode/utf8.decodeRuneInStringSlow -/
def r103 : RFn := ⟨117, [.t 2, .t 3], .seq (.reg [
    ⟨(some 2), .mov (.c (.v (.int .i32 0))), none, []⟩,
    ⟨(some 3), .mov (.c (.i 0)), none, []⟩])
  (.seq (.reg [
    ⟨(some 13), .mov (.t 0), none, []⟩,
    ⟨(some 14), .len true (.t 13), none, []⟩,
    ⟨(some 4), .mov (.t 14), none, []⟩])
  (.seq (.seq (.reg [
    ⟨(some 15), .mov (.t 4), none, []⟩,
    ⟨(some 16), .bin .lss (.t 15) (.c (.i 1)), none, []⟩])
  (.cond (.t 16) (.seq (.reg [
     ⟨(some 2), .mov (.c (.v (.int .i32 65533))), none, []⟩,
     ⟨(some 3), .mov (.c (.i 0)), none, []⟩])
   (.ret)) (.skip)))
  (.seq (.reg [
    ⟨(some 17), .mov (.t 0), none, []⟩,
    ⟨(some 18), .idx (.t 17) (.c (.i 0)), none, []⟩,
    ⟨(some 5), .mov (.t 18), none, []⟩])
  (.seq (.reg [
    ⟨(some 19), .mov (.t 5), none, []⟩,
    ⟨(some 20), .aiaddr 256 1 (.c (.v (.pointer (some ⟨3, 0, none⟩)))) (.t 19), none, []⟩,
    ⟨(some 21), .load false 1 (.t 20), none, []⟩,
    ⟨(some 6), .mov (.t 21), none, []⟩])
  (.seq (.seq (.reg [
    ⟨(some 22), .mov (.t 6), none, []⟩,
    ⟨(some 23), .bin .geq (.t 22) (.c (.v (.int .u8 240))), none, []⟩])
  (.cond (.t 23) (.seq (.reg [
     ⟨(some 24), .mov (.t 6), none, []⟩,
     ⟨(some 25), .cvi .i32 (.t 24), none, []⟩,
     ⟨(some 26), .bin .shl (.t 25) (.c (.v (.int .u64 31))), none, []⟩,
     ⟨(some 27), .bin .shr (.t 26) (.c (.v (.int .u64 31))), none, []⟩,
     ⟨(some 7), .mov (.t 27), none, []⟩])
   (.seq (.reg [
     ⟨(some 28), .mov (.t 0), none, []⟩,
     ⟨(some 29), .idx (.t 28) (.c (.i 0)), none, []⟩,
     ⟨(some 30), .cvi .i32 (.t 29), none, []⟩,
     ⟨(some 31), .mov (.t 7), none, []⟩,
     ⟨(some 32), .bin .andNot (.t 30) (.t 31), none, []⟩,
     ⟨(some 33), .mov (.t 7), none, []⟩,
     ⟨(some 34), .bin .and (.c (.v (.int .i32 65533))) (.t 33), none, []⟩,
     ⟨(some 35), .bin .or (.t 32) (.t 34), none, []⟩,
     ⟨(some 2), .mov (.t 35), none, []⟩,
     ⟨(some 3), .mov (.c (.i 1)), none, []⟩])
   (.ret))) (.skip)))
  (.seq (.reg [
    ⟨(some 36), .mov (.t 6), none, []⟩,
    ⟨(some 37), .bin .and (.t 36) (.c (.v (.int .u8 7))), none, []⟩,
    ⟨(some 38), .cvi .i64 (.t 37), none, []⟩,
    ⟨(some 8), .mov (.t 38), none, []⟩])
  (.seq (.reg [
    ⟨(some 39), .mov (.t 6), none, []⟩,
    ⟨(some 40), .bin .shr (.t 39) (.c (.v (.int .u64 4))), none, []⟩,
    ⟨(some 41), .aiaddr 16 2 (.c (.v (.pointer (some ⟨4, 0, none⟩)))) (.t 40), none, []⟩,
    ⟨(some 42), .load true 2 (.t 41), none, []⟩,
    ⟨(some 9), .alloc [.v (.int .u8 0), .v (.int .u8 0)] 194, none, []⟩,
    ⟨none, .store 2 (.t 9) (.t 42), none, []⟩])
  (.seq (.seq (.reg [
    ⟨(some 43), .mov (.t 4), none, []⟩,
    ⟨(some 44), .mov (.t 8), none, []⟩,
    ⟨(some 45), .bin .lss (.t 43) (.t 44), none, []⟩])
  (.cond (.t 45) (.seq (.reg [
     ⟨(some 2), .mov (.c (.v (.int .i32 65533))), none, []⟩,
     ⟨(some 3), .mov (.c (.i 1)), none, []⟩])
   (.ret)) (.skip)))
  (.seq (.reg [
    ⟨(some 46), .mov (.t 0), none, []⟩,
    ⟨(some 47), .idx (.t 46) (.c (.i 1)), none, []⟩,
    ⟨(some 10), .mov (.t 47), none, []⟩])
  (.seq (.seq (.reg [
    ⟨(some 48), .mov (.t 10), none, []⟩,
    ⟨(some 49), .faddr 0 (.t 9), none, []⟩,
    ⟨(some 50), .load false 1 (.t 49), none, []⟩,
    ⟨(some 51), .bin .lss (.t 48) (.t 50), none, []⟩,
    ⟨(some 52), .mov (.t 51), none, []⟩,
    ⟨(some 53), .faddr 1 (.t 9), (some (52, false)), []⟩,
    ⟨(some 54), .load false 1 (.t 53), (some (52, false)), []⟩,
    ⟨(some 55), .mov (.t 10), (some (52, false)), []⟩,
    ⟨(some 56), .bin .lss (.t 54) (.t 55), (some (52, false)), []⟩,
    ⟨(some 57), .pick (.t 52) (.c (.b true)) (.t 56), none, []⟩])
  (.cond (.t 57) (.seq (.reg [
     ⟨(some 2), .mov (.c (.v (.int .i32 65533))), none, []⟩,
     ⟨(some 3), .mov (.c (.i 1)), none, []⟩])
   (.ret)) (.skip)))
  (.seq (.seq (.reg [
    ⟨(some 58), .mov (.t 8), none, []⟩,
    ⟨(some 59), .bin .leq (.t 58) (.c (.i 2)), none, []⟩])
  (.cond (.t 59) (.seq (.reg [
     ⟨(some 60), .mov (.t 5), none, []⟩,
     ⟨(some 61), .bin .and (.t 60) (.c (.v (.int .u8 31))), none, []⟩,
     ⟨(some 62), .cvi .i32 (.t 61), none, []⟩,
     ⟨(some 63), .bin .shl (.t 62) (.c (.v (.int .u64 6))), none, []⟩,
     ⟨(some 64), .mov (.t 10), none, []⟩,
     ⟨(some 65), .bin .and (.t 64) (.c (.v (.int .u8 63))), none, []⟩,
     ⟨(some 66), .cvi .i32 (.t 65), none, []⟩,
     ⟨(some 67), .bin .or (.t 63) (.t 66), none, []⟩,
     ⟨(some 2), .mov (.t 67), none, []⟩,
     ⟨(some 3), .mov (.c (.i 2)), none, []⟩])
   (.ret)) (.skip)))
  (.seq (.reg [
    ⟨(some 68), .mov (.t 0), none, []⟩,
    ⟨(some 69), .idx (.t 68) (.c (.i 2)), none, []⟩,
    ⟨(some 11), .mov (.t 69), none, []⟩])
  (.seq (.seq (.reg [
    ⟨(some 70), .mov (.t 11), none, []⟩,
    ⟨(some 71), .bin .lss (.t 70) (.c (.v (.int .u8 128))), none, []⟩,
    ⟨(some 72), .mov (.t 71), none, []⟩,
    ⟨(some 73), .mov (.t 11), (some (72, false)), []⟩,
    ⟨(some 74), .bin .lss (.c (.v (.int .u8 191))) (.t 73), (some (72, false)), []⟩,
    ⟨(some 75), .pick (.t 72) (.c (.b true)) (.t 74), none, []⟩])
  (.cond (.t 75) (.seq (.reg [
     ⟨(some 2), .mov (.c (.v (.int .i32 65533))), none, []⟩,
     ⟨(some 3), .mov (.c (.i 1)), none, []⟩])
   (.ret)) (.skip)))
  (.seq (.seq (.reg [
    ⟨(some 76), .mov (.t 8), none, []⟩,
    ⟨(some 77), .bin .leq (.t 76) (.c (.i 3)), none, []⟩])
  (.cond (.t 77) (.seq (.reg [
     ⟨(some 78), .mov (.t 5), none, []⟩,
     ⟨(some 79), .bin .and (.t 78) (.c (.v (.int .u8 15))), none, []⟩,
     ⟨(some 80), .cvi .i32 (.t 79), none, []⟩,
     ⟨(some 81), .bin .shl (.t 80) (.c (.v (.int .u64 12))), none, []⟩,
     ⟨(some 82), .mov (.t 10), none, []⟩,
     ⟨(some 83), .bin .and (.t 82) (.c (.v (.int .u8 63))), none, []⟩,
     ⟨(some 84), .cvi .i32 (.t 83), none, []⟩,
     ⟨(some 85), .bin .shl (.t 84) (.c (.v (.int .u64 6))), none, []⟩,
     ⟨(some 86), .bin .or (.t 81) (.t 85), none, []⟩,
     ⟨(some 87), .mov (.t 11), none, []⟩,
     ⟨(some 88), .bin .and (.t 87) (.c (.v (.int .u8 63))), none, []⟩,
     ⟨(some 89), .cvi .i32 (.t 88), none, []⟩,
     ⟨(some 90), .bin .or (.t 86) (.t 89), none, []⟩,
     ⟨(some 2), .mov (.t 90), none, []⟩,
     ⟨(some 3), .mov (.c (.i 3)), none, []⟩])
   (.ret)) (.skip)))
  (.seq (.reg [
    ⟨(some 91), .mov (.t 0), none, []⟩,
    ⟨(some 92), .idx (.t 91) (.c (.i 3)), none, []⟩,
    ⟨(some 12), .mov (.t 92), none, []⟩])
  (.seq (.seq (.reg [
    ⟨(some 93), .mov (.t 12), none, []⟩,
    ⟨(some 94), .bin .lss (.t 93) (.c (.v (.int .u8 128))), none, []⟩,
    ⟨(some 95), .mov (.t 94), none, []⟩,
    ⟨(some 96), .mov (.t 12), (some (95, false)), []⟩,
    ⟨(some 97), .bin .lss (.c (.v (.int .u8 191))) (.t 96), (some (95, false)), []⟩,
    ⟨(some 98), .pick (.t 95) (.c (.b true)) (.t 97), none, []⟩])
  (.cond (.t 98) (.seq (.reg [
     ⟨(some 2), .mov (.c (.v (.int .i32 65533))), none, []⟩,
     ⟨(some 3), .mov (.c (.i 1)), none, []⟩])
   (.ret)) (.skip)))
  (.seq (.reg [
    ⟨(some 99), .mov (.t 5), none, []⟩,
    ⟨(some 100), .bin .and (.t 99) (.c (.v (.int .u8 7))), none, []⟩,
    ⟨(some 101), .cvi .i32 (.t 100), none, []⟩,
    ⟨(some 102), .bin .shl (.t 101) (.c (.v (.int .u64 18))), none, []⟩,
    ⟨(some 103), .mov (.t 10), none, []⟩,
    ⟨(some 104), .bin .and (.t 103) (.c (.v (.int .u8 63))), none, []⟩,
    ⟨(some 105), .cvi .i32 (.t 104), none, []⟩,
    ⟨(some 106), .bin .shl (.t 105) (.c (.v (.int .u64 12))), none, []⟩,
    ⟨(some 107), .bin .or (.t 102) (.t 106), none, []⟩,
    ⟨(some 108), .mov (.t 11), none, []⟩,
    ⟨(some 109), .bin .and (.t 108) (.c (.v (.int .u8 63))), none, []⟩,
    ⟨(some 110), .cvi .i32 (.t 109), none, []⟩,
    ⟨(some 111), .bin .shl (.t 110) (.c (.v (.int .u64 6))), none, []⟩,
    ⟨(some 112), .bin .or (.t 107) (.t 111), none, []⟩,
    ⟨(some 113), .mov (.t 12), none, []⟩,
    ⟨(some 114), .bin .and (.t 113) (.c (.v (.int .u8 63))), none, []⟩,
    ⟨(some 115), .cvi .i32 (.t 114), none, []⟩,
    ⟨(some 116), .bin .or (.t 112) (.t 115), none, []⟩,
    ⟨(some 2), .mov (.t 116), none, []⟩,
    ⟨(some 3), .mov (.c (.i 4)), none, []⟩])
  (.ret))))))))))))))))))⟩
theorem r103_is : IsFn Tryz.prog 103 r103 := ⟨Tryz.f103, by kernel_rfl, by kernel_rfl⟩
/-- errata/rule.wrong -/
def r106 : RFn := ⟨4, [.t 2], .seq (.reg [
    ⟨(some 1), .box (.t 0), none, []⟩,
    ⟨(some 2), .mov (.c (.v (.nilFunc))), none, []⟩])
  (.seq (.reg [
    ⟨(some 3), .mkfn 144 [.t 1], none, []⟩,
    ⟨(some 2), .mov (.t 3), none, []⟩])
  (.ret))⟩
theorem r106_is : IsFn Tryz.prog 106 r106 := ⟨Tryz.f106, by kernel_rfl, by kernel_rfl⟩
/-- errata/rule.Less -/
def r107 : RFn := ⟨9, [.t 4], .seq (.reg [
    ⟨(some 2), .box (.t 0), none, []⟩,
    ⟨(some 3), .box (.t 1), none, []⟩,
    ⟨(some 4), .mov (.c (.b false)), none, []⟩])
  (.seq (.reg [
    ⟨(some 5), .load true 3 (.t 2), none, []⟩,
    ⟨(some 6), .load true 3 (.t 3), none, []⟩,
    ⟨(some 7), .call (.fn 146) [.t 5, .t 6], none, []⟩,
    ⟨(some 8), .bin .lss (.t 7) (.c (.i 0)), none, []⟩,
    ⟨(some 4), .mov (.t 8), none, []⟩])
  (.ret))⟩
theorem r107_is : IsFn Tryz.prog 107 r107 := ⟨Tryz.f107, by kernel_rfl, by kernel_rfl⟩
/-- errata/lexicon.each -/
def r108 : RFn := ⟨13, [.t 2], .seq (.reg [
    ⟨(some 2), .mov (.c (.i 0)), none, []⟩])
  (.seq (.reg [
    ⟨(some 4), .mov (.t 0), none, []⟩,
    ⟨(some 5), .call (.fn 147) [.t 4, .c (.fn 148 [])], none, []⟩,
    ⟨(some 3), .mov (.t 5), none, []⟩])
  (.seq (.seq (.reg [
    ⟨(some 6), .mov (.t 3), none, []⟩,
    ⟨(some 7), .bin .lss (.t 6) (.c (.i 0)), none, []⟩])
  (.cond (.t 7) (.seq (.reg [
     ⟨(some 2), .mov (.c (.i 0)), none, []⟩])
   (.ret)) (.skip)))
  (.seq (.reg [
    ⟨(some 8), .mov (.t 0), none, []⟩,
    ⟨(some 9), .mov (.t 3), none, []⟩,
    ⟨(some 10), .iaddr 2 (.t 8) (.t 9), none, []⟩,
    ⟨(some 11), .load true 2 (.t 10), none, []⟩,
    ⟨(some 12), .call (.fn 149) [.t 11], none, []⟩,
    ⟨(some 2), .mov (.t 12), none, []⟩])
  (.ret))))⟩
theorem r108_is : IsFn Tryz.prog 108 r108 := ⟨Tryz.f108, by kernel_rfl, by kernel_rfl⟩
/-- errata/runes.Decode -/
def r109 : RFn := ⟨17, [.c 2 false 1, .c 3 false 1], .seq (.reg [
    ⟨(some 2), .alloc [.nils] 184, none, []⟩,
    ⟨(some 3), .alloc [.i 0] 28, none, []⟩])
  (.seq (.seq (.reg [
    ⟨(some 6), .mov (.t 0), none, []⟩,
    ⟨(some 7), .call (.fn 150) [.t 6], none, []⟩])
  (.block 0 (.rangef (.t 7) [8, 9] (.seq (.reg [
      ⟨(some 4), .mov (.t 8), none, []⟩])
    (.reg [
      ⟨(some 5), .mov (.t 9), none, []⟩])) (.block 1 (.seq (.seq (.reg [
       ⟨(some 10), .mov (.t 5), none, []⟩,
       ⟨(some 11), .un .not (.t 10), none, []⟩])
     (.cond (.t 11) (.seq (.reg [
        ⟨none, .store 1 (.t 2) (.c (.nils)), none, []⟩,
        ⟨none, .store 1 (.t 3) (.c (.i 3)), none, []⟩])
      (.ret)) (.skip)))
     (.reg [
       ⟨(some 12), .load false 1 (.t 2), none, []⟩,
       ⟨(some 13), .mov (.t 4), none, []⟩,
       ⟨(some 14), .bslice 1 [.v (.int .i32 0)] 1 [(0, 1, (.t 13))], none, []⟩,
       ⟨(some 15), .append 1 4 [.v (.int .i32 0)] 21 (.t 12) (.t 14), none, []⟩,
       ⟨none, .store 1 (.t 2) (.t 15), none, []⟩]))))))
  (.seq (.reg [
    ⟨(some 16), .load false 1 (.t 2), none, []⟩,
    ⟨none, .store 1 (.t 2) (.t 16), none, []⟩,
    ⟨none, .store 1 (.t 3) (.c (.i 0)), none, []⟩])
  (.ret)))⟩
theorem r109_is : IsFn Tryz.prog 109 r109 := ⟨Tryz.f109, by kernel_rfl, by kernel_rfl⟩
/-- (*errata/dawg.draft).freeze -/
def r110 : RFn := ⟨77, [.t 6], .seq (.reg [
    ⟨(some 6), .mov (.c (.nils)), none, []⟩])
  (.scope (.seq (.skip)
   (.seq (.block 0 (.loop (.seq (.seq (.reg [
       ⟨(some 12), .mov (.t 1), none, []⟩,
       ⟨(some 13), .len false (.t 12), none, []⟩,
       ⟨(some 14), .mov (.t 2), none, []⟩,
       ⟨(some 15), .bin .add (.t 14) (.c (.i 1)), none, []⟩,
       ⟨(some 16), .bin .gtr (.t 13) (.t 15), none, []⟩])
     (.cond (.t 16) (.skip) (.exit 0)))
     (.block 1 (.seq (.reg [
        ⟨(some 17), .mov (.t 1), none, []⟩,
        ⟨(some 18), .mov (.t 1), none, []⟩,
        ⟨(some 19), .len false (.t 18), none, []⟩,
        ⟨(some 20), .bin .sub (.t 19) (.c (.i 1)), none, []⟩,
        ⟨(some 21), .iaddr 1 (.t 17) (.t 20), none, []⟩,
        ⟨(some 22), .load false 1 (.t 21), none, []⟩,
        ⟨(some 7), .mov (.t 22), none, []⟩])
      (.seq (.reg [
        ⟨(some 23), .mov (.t 1), none, []⟩,
        ⟨(some 24), .mov (.t 1), none, []⟩,
        ⟨(some 25), .len false (.t 24), none, []⟩,
        ⟨(some 26), .bin .sub (.t 25) (.c (.i 1)), none, []⟩,
        ⟨(some 27), .slc false 1 (.t 23) none (some (.t 26)) none, none, []⟩,
        ⟨(some 1), .mov (.t 27), none, []⟩])
      (.seq (.reg [
        ⟨(some 28), .mov (.t 0), none, []⟩,
        ⟨(some 29), .nilck (.t 28), none, []⟩,
        ⟨(some 30), .faddr 0 (.t 29), none, []⟩,
        ⟨(some 31), .load false 1 (.t 30), none, []⟩,
        ⟨(some 32), .mov (.t 1), none, []⟩,
        ⟨(some 33), .mov (.t 1), none, []⟩,
        ⟨(some 34), .len false (.t 33), none, []⟩,
        ⟨(some 35), .bin .sub (.t 34) (.c (.i 1)), none, []⟩,
        ⟨(some 36), .iaddr 1 (.t 32) (.t 35), none, []⟩,
        ⟨(some 37), .load false 1 (.t 36), none, []⟩,
        ⟨(some 38), .iaddr 3 (.t 31) (.t 37), none, []⟩,
        ⟨(some 8), .mov (.t 38), none, []⟩])
      (.seq (.reg [
        ⟨(some 39), .mov (.t 0), none, []⟩,
        ⟨(some 40), .nilck (.t 39), none, []⟩,
        ⟨(some 41), .faddr 0 (.t 40), none, []⟩,
        ⟨(some 42), .load false 1 (.t 41), none, []⟩,
        ⟨(some 43), .mov (.t 7), none, []⟩,
        ⟨(some 44), .iaddr 3 (.t 42) (.t 43), none, []⟩,
        ⟨(some 45), .load true 3 (.t 44), none, []⟩,
        ⟨(some 46), .call (.fn 151) [.t 45], none, []⟩,
        ⟨(some 9), .mov (.t 46), none, []⟩])
      (.seq (.seq (.reg [
        ⟨(some 48), .mov (.t 0), none, []⟩,
        ⟨(some 49), .nilck (.t 48), none, []⟩,
        ⟨(some 50), .faddr 1 (.t 49), none, []⟩,
        ⟨(some 51), .load false 1 (.t 50), none, []⟩,
        ⟨(some 52), .mov (.t 9), none, []⟩,
        ⟨(some 53), .lookup (.one .s) (.i 0) true (.t 51) (.t 52), none, []⟩,
        ⟨(some 47), .mov (.t 53), none, []⟩,
        ⟨(some 54), .ext (.t 47) 0, none, []⟩,
        ⟨(some 55), .ext (.t 47) 1, none, []⟩,
        ⟨(some 10), .mov (.t 54), none, []⟩,
        ⟨(some 11), .mov (.t 55), none, []⟩])
      (.seq (.reg [
        ⟨(some 56), .mov (.t 11), none, []⟩])
      (.cond (.t 56) (.seq (.reg [
         ⟨(some 57), .mov (.t 8), none, []⟩,
         ⟨(some 58), .nilck (.t 57), none, []⟩,
         ⟨(some 59), .faddr 0 (.t 58), none, []⟩,
         ⟨(some 60), .load false 1 (.t 59), none, []⟩,
         ⟨(some 61), .mov (.t 8), none, []⟩,
         ⟨(some 62), .nilck (.t 61), none, []⟩,
         ⟨(some 63), .faddr 0 (.t 62), none, []⟩,
         ⟨(some 64), .load false 1 (.t 63), none, []⟩,
         ⟨(some 65), .len false (.t 64), none, []⟩,
         ⟨(some 66), .bin .sub (.t 65) (.c (.i 1)), none, []⟩,
         ⟨(some 67), .mov (.t 10), none, []⟩,
         ⟨(some 68), .iaddr 2 (.t 60) (.t 66), none, []⟩,
         ⟨(some 69), .faddr 1 (.t 68), none, []⟩,
         ⟨none, .store 1 (.t 69) (.t 67), none, []⟩])
       (.exit 1)) (.skip))))
      (.reg [
        ⟨(some 70), .mov (.t 0), none, []⟩,
        ⟨(some 71), .nilck (.t 70), none, []⟩,
        ⟨(some 72), .faddr 1 (.t 71), none, []⟩,
        ⟨(some 73), .load false 1 (.t 72), none, []⟩,
        ⟨(some 74), .mov (.t 9), none, []⟩,
        ⟨(some 75), .mov (.t 7), none, []⟩,
        ⟨none, .mapupd (.one .s) (.t 73) (.t 74) (.t 75), none, []⟩]))))))))))
   (.seq (.reg [
     ⟨(some 76), .mov (.t 1), none, []⟩,
     ⟨(some 6), .mov (.t 76), none, []⟩])
   (.ret)))))⟩
theorem r110_is : IsFn Tryz.prog 110 r110 := ⟨Tryz.f110, by kernel_rfl, by kernel_rfl⟩
/-- errata/dawg.common -/
def r111 : RFn := ⟨29, [.t 4], .seq (.reg [
    ⟨(some 4), .mov (.c (.i 0)), none, []⟩])
  (.seq (.block 0 (.loop (.seq (.seq (.reg [
      ⟨(some 5), .mov (.t 4), none, []⟩,
      ⟨(some 6), .mov (.t 0), none, []⟩,
      ⟨(some 7), .len false (.t 6), none, []⟩,
      ⟨(some 8), .bin .lss (.t 5) (.t 7), none, []⟩,
      ⟨(some 9), .mov (.t 8), none, []⟩,
      ⟨(some 10), .mov (.t 4), (some (9, true)), []⟩,
      ⟨(some 11), .mov (.t 1), (some (9, true)), []⟩,
      ⟨(some 12), .len false (.t 11), (some (9, true)), []⟩,
      ⟨(some 13), .bin .lss (.t 10) (.t 12), (some (9, true)), []⟩,
      ⟨(some 14), .pick (.t 9) (.t 13) (.c (.b false)), none, []⟩,
      ⟨(some 15), .mov (.t 14), none, []⟩,
      ⟨(some 16), .mov (.t 0), (some (15, true)), []⟩,
      ⟨(some 17), .mov (.t 4), (some (15, true)), []⟩,
      ⟨(some 18), .iaddr 1 (.t 16) (.t 17), (some (15, true)), []⟩,
      ⟨(some 19), .load false 1 (.t 18), (some (15, true)), []⟩,
      ⟨(some 20), .mov (.t 1), (some (15, true)), []⟩,
      ⟨(some 21), .mov (.t 4), (some (15, true)), []⟩,
      ⟨(some 22), .iaddr 1 (.t 20) (.t 21), (some (15, true)), []⟩,
      ⟨(some 23), .load false 1 (.t 22), (some (15, true)), []⟩,
      ⟨(some 24), .bin .eql (.t 19) (.t 23), (some (15, true)), []⟩,
      ⟨(some 25), .pick (.t 15) (.t 24) (.c (.b false)), none, []⟩])
    (.cond (.t 25) (.skip) (.exit 0)))
    (.block 1 (.reg [
       ⟨(some 26), .mov (.t 4), none, []⟩,
       ⟨(some 27), .bin .add (.t 26) (.c (.i 1)), none, []⟩,
       ⟨(some 4), .mov (.t 27), none, []⟩])))))
  (.seq (.reg [
    ⟨(some 28), .mov (.t 4), none, []⟩,
    ⟨(some 4), .mov (.t 28), none, []⟩])
  (.ret)))⟩
theorem r111_is : IsFn Tryz.prog 111 r111 := ⟨Tryz.f111, by kernel_rfl, by kernel_rfl⟩
/-- unicode/utf8.word[string] -/
def r112 : RFn := ⟨59, [.t 2], .seq (.reg [
    ⟨(some 2), .mov (.c (.v (.int .u64 0))), none, []⟩])
  (.seq (.cond (.c (.b false)) (.seq (.reg [
     ⟨(some 3), .mov (.t 0), none, []⟩,
     ⟨(some 4), .idx (.t 3) (.c (.i 0)), none, []⟩,
     ⟨(some 5), .cvi .u64 (.t 4), none, []⟩,
     ⟨(some 6), .mov (.t 0), none, []⟩,
     ⟨(some 7), .idx (.t 6) (.c (.i 1)), none, []⟩,
     ⟨(some 8), .cvi .u64 (.t 7), none, []⟩,
     ⟨(some 9), .bin .shl (.t 8) (.c (.v (.int .u64 8))), none, []⟩,
     ⟨(some 10), .bin .or (.t 5) (.t 9), none, []⟩,
     ⟨(some 11), .mov (.t 0), none, []⟩,
     ⟨(some 12), .idx (.t 11) (.c (.i 2)), none, []⟩,
     ⟨(some 13), .cvi .u64 (.t 12), none, []⟩,
     ⟨(some 14), .bin .shl (.t 13) (.c (.v (.int .u64 16))), none, []⟩,
     ⟨(some 15), .bin .or (.t 10) (.t 14), none, []⟩,
     ⟨(some 16), .mov (.t 0), none, []⟩,
     ⟨(some 17), .idx (.t 16) (.c (.i 3)), none, []⟩,
     ⟨(some 18), .cvi .u64 (.t 17), none, []⟩,
     ⟨(some 19), .bin .shl (.t 18) (.c (.v (.int .u64 24))), none, []⟩,
     ⟨(some 20), .bin .or (.t 15) (.t 19), none, []⟩,
     ⟨(some 2), .mov (.t 20), none, []⟩])
   (.ret)) (.skip))
  (.seq (.reg [
    ⟨(some 21), .mov (.t 0), none, []⟩,
    ⟨(some 22), .idx (.t 21) (.c (.i 0)), none, []⟩,
    ⟨(some 23), .cvi .u64 (.t 22), none, []⟩,
    ⟨(some 24), .mov (.t 0), none, []⟩,
    ⟨(some 25), .idx (.t 24) (.c (.i 1)), none, []⟩,
    ⟨(some 26), .cvi .u64 (.t 25), none, []⟩,
    ⟨(some 27), .bin .shl (.t 26) (.c (.v (.int .u64 8))), none, []⟩,
    ⟨(some 28), .bin .or (.t 23) (.t 27), none, []⟩,
    ⟨(some 29), .mov (.t 0), none, []⟩,
    ⟨(some 30), .idx (.t 29) (.c (.i 2)), none, []⟩,
    ⟨(some 31), .cvi .u64 (.t 30), none, []⟩,
    ⟨(some 32), .bin .shl (.t 31) (.c (.v (.int .u64 16))), none, []⟩,
    ⟨(some 33), .bin .or (.t 28) (.t 32), none, []⟩,
    ⟨(some 34), .mov (.t 0), none, []⟩,
    ⟨(some 35), .idx (.t 34) (.c (.i 3)), none, []⟩,
    ⟨(some 36), .cvi .u64 (.t 35), none, []⟩,
    ⟨(some 37), .bin .shl (.t 36) (.c (.v (.int .u64 24))), none, []⟩,
    ⟨(some 38), .bin .or (.t 33) (.t 37), none, []⟩,
    ⟨(some 39), .mov (.t 0), none, []⟩,
    ⟨(some 40), .idx (.t 39) (.c (.i 4)), none, []⟩,
    ⟨(some 41), .cvi .u64 (.t 40), none, []⟩,
    ⟨(some 42), .bin .shl (.t 41) (.c (.v (.int .u64 32))), none, []⟩,
    ⟨(some 43), .bin .or (.t 38) (.t 42), none, []⟩,
    ⟨(some 44), .mov (.t 0), none, []⟩,
    ⟨(some 45), .idx (.t 44) (.c (.i 5)), none, []⟩,
    ⟨(some 46), .cvi .u64 (.t 45), none, []⟩,
    ⟨(some 47), .bin .shl (.t 46) (.c (.v (.int .u64 40))), none, []⟩,
    ⟨(some 48), .bin .or (.t 43) (.t 47), none, []⟩,
    ⟨(some 49), .mov (.t 0), none, []⟩,
    ⟨(some 50), .idx (.t 49) (.c (.i 6)), none, []⟩,
    ⟨(some 51), .cvi .u64 (.t 50), none, []⟩,
    ⟨(some 52), .bin .shl (.t 51) (.c (.v (.int .u64 48))), none, []⟩,
    ⟨(some 53), .bin .or (.t 48) (.t 52), none, []⟩,
    ⟨(some 54), .mov (.t 0), none, []⟩,
    ⟨(some 55), .idx (.t 54) (.c (.i 7)), none, []⟩,
    ⟨(some 56), .cvi .u64 (.t 55), none, []⟩,
    ⟨(some 57), .bin .shl (.t 56) (.c (.v (.int .u64 56))), none, []⟩,
    ⟨(some 58), .bin .or (.t 53) (.t 57), none, []⟩,
    ⟨(some 2), .mov (.t 58), none, []⟩])
  (.ret)))⟩
theorem r112_is : IsFn Tryz.prog 112 r112 := ⟨Tryz.f112, by kernel_rfl, by kernel_rfl⟩
/-- errata/runes.Letter -/
def r113 : RFn := ⟨23, [.t 2], .seq (.reg [
    ⟨(some 2), .mov (.c (.b false)), none, []⟩])
  (.seq (.block 0 (.seq (.seq (.reg [
     ⟨(some 4), .mov (.t 0), none, []⟩,
     ⟨(some 5), .call (.fn 143) [.t 4], none, []⟩,
     ⟨(some 6), .un .not (.t 5), none, []⟩,
     ⟨(some 3), .mov (.t 6), none, []⟩])
   (.cond (.t 3) (.skip) (.seq (.reg [
      ⟨(some 7), .mov (.t 0), none, []⟩,
      ⟨(some 8), .bin .eql (.t 7) (.c (.v (.int .i32 215))), none, []⟩,
      ⟨(some 3), .mov (.t 8), none, []⟩])
    (.cond (.t 3) (.skip) (.seq (.reg [
       ⟨(some 9), .mov (.t 0), none, []⟩,
       ⟨(some 10), .bin .eql (.t 9) (.c (.v (.int .i32 247))), none, []⟩,
       ⟨(some 3), .mov (.t 10), none, []⟩])
     (.cond (.t 3) (.skip) (.reg [
        ⟨(some 11), .mov (.t 0), none, []⟩,
        ⟨(some 12), .call (.fn 152) [.t 11, .c (.v (.int .i32 8192)), .c (.v (.int .i32 8303))], none, []⟩,
        ⟨(some 3), .mov (.t 12), none, []⟩])))))))
   (.cond (.t 3) (.seq (.reg [
      ⟨(some 2), .mov (.c (.b false)), none, []⟩])
    (.ret)) (.skip))))
  (.seq (.reg [
    ⟨(some 13), .mov (.t 0), none, []⟩,
    ⟨(some 14), .bin .geq (.t 13) (.c (.v (.int .i32 192))), none, []⟩,
    ⟨(some 15), .mov (.t 14), none, []⟩,
    ⟨(some 16), .mov (.t 0), (some (15, false)), []⟩,
    ⟨(some 17), .call (.fn 152) [.t 16, .c (.v (.int .i32 65)), .c (.v (.int .i32 90))], (some (15, false)), []⟩,
    ⟨(some 18), .pick (.t 15) (.c (.b true)) (.t 17), none, []⟩,
    ⟨(some 19), .mov (.t 18), none, []⟩,
    ⟨(some 20), .mov (.t 0), (some (19, false)), []⟩,
    ⟨(some 21), .call (.fn 152) [.t 20, .c (.v (.int .i32 97)), .c (.v (.int .i32 122))], (some (19, false)), []⟩,
    ⟨(some 22), .pick (.t 19) (.c (.b true)) (.t 21), none, []⟩,
    ⟨(some 2), .mov (.t 22), none, []⟩])
  (.ret)))⟩
theorem r113_is : IsFn Tryz.prog 113 r113 := ⟨Tryz.f113, by kernel_rfl, by kernel_rfl⟩
/-- unicode/utf8.RuneLen -/
def r114 : RFn := ⟨25, [.t 2], .seq (.reg [
    ⟨(some 2), .mov (.c (.i 0)), none, []⟩])
  (.seq (.block 0 (.seq (.reg [
     ⟨(some 4), .mov (.t 0), none, []⟩,
     ⟨(some 5), .bin .lss (.t 4) (.c (.v (.int .i32 0))), none, []⟩,
     ⟨(some 3), .mov (.t 5), none, []⟩])
   (.cond (.t 3) (.seq (.reg [
      ⟨(some 2), .mov (.c (.i (-1))), none, []⟩])
    (.ret)) (.seq (.reg [
      ⟨(some 7), .mov (.t 0), none, []⟩,
      ⟨(some 8), .bin .leq (.t 7) (.c (.v (.int .i32 127))), none, []⟩,
      ⟨(some 6), .mov (.t 8), none, []⟩])
    (.cond (.t 6) (.seq (.reg [
       ⟨(some 2), .mov (.c (.i 1)), none, []⟩])
     (.ret)) (.seq (.reg [
       ⟨(some 10), .mov (.t 0), none, []⟩,
       ⟨(some 11), .bin .leq (.t 10) (.c (.v (.int .i32 2047))), none, []⟩,
       ⟨(some 9), .mov (.t 11), none, []⟩])
     (.cond (.t 9) (.seq (.reg [
        ⟨(some 2), .mov (.c (.i 2)), none, []⟩])
      (.ret)) (.seq (.reg [
        ⟨(some 13), .mov (.t 0), none, []⟩,
        ⟨(some 14), .bin .leq (.c (.v (.int .i32 55296))) (.t 13), none, []⟩,
        ⟨(some 15), .mov (.t 14), none, []⟩,
        ⟨(some 16), .mov (.t 0), (some (15, true)), []⟩,
        ⟨(some 17), .bin .leq (.t 16) (.c (.v (.int .i32 57343))), (some (15, true)), []⟩,
        ⟨(some 18), .pick (.t 15) (.t 17) (.c (.b false)), none, []⟩,
        ⟨(some 12), .mov (.t 18), none, []⟩])
      (.cond (.t 12) (.seq (.reg [
         ⟨(some 2), .mov (.c (.i (-1))), none, []⟩])
       (.ret)) (.seq (.reg [
         ⟨(some 20), .mov (.t 0), none, []⟩,
         ⟨(some 21), .bin .leq (.t 20) (.c (.v (.int .i32 65535))), none, []⟩,
         ⟨(some 19), .mov (.t 21), none, []⟩])
       (.cond (.t 19) (.seq (.reg [
          ⟨(some 2), .mov (.c (.i 3)), none, []⟩])
        (.ret)) (.seq (.reg [
          ⟨(some 23), .mov (.t 0), none, []⟩,
          ⟨(some 24), .bin .leq (.t 23) (.c (.v (.int .i32 1114111))), none, []⟩,
          ⟨(some 22), .mov (.t 24), none, []⟩])
        (.cond (.t 22) (.seq (.reg [
           ⟨(some 2), .mov (.c (.i 4)), none, []⟩])
         (.ret)) (.skip))))))))))))))
  (.seq (.reg [
    ⟨(some 2), .mov (.c (.i (-1))), none, []⟩])
  (.ret)))⟩
theorem r114_is : IsFn Tryz.prog 114 r114 := ⟨Tryz.f114, by kernel_rfl, by kernel_rfl⟩
/-- errata/runes.Token -/
def r115 : RFn := ⟨24, [.t 2, .t 3], .seq (.reg [
    ⟨(some 2), .mov (.c (.nils)), none, []⟩,
    ⟨(some 3), .mov (.c (.i 0)), none, []⟩])
  (.seq (.reg [
    ⟨(some 7), .mov (.t 0), none, []⟩,
    ⟨(some 8), .call (.fn 109) [.t 7], none, []⟩,
    ⟨(some 6), .mov (.t 8), none, []⟩,
    ⟨(some 9), .ext (.t 6) 0, none, []⟩,
    ⟨(some 10), .ext (.t 6) 1, none, []⟩,
    ⟨(some 4), .mov (.t 9), none, []⟩,
    ⟨(some 5), .mov (.t 10), none, []⟩])
  (.seq (.block 0 (.seq (.reg [
     ⟨(some 12), .mov (.t 5), none, []⟩,
     ⟨(some 13), .bin .neq (.t 12) (.c (.i 0)), none, []⟩,
     ⟨(some 11), .mov (.t 13), none, []⟩])
   (.cond (.t 11) (.seq (.reg [
      ⟨(some 14), .mov (.t 5), none, []⟩,
      ⟨(some 2), .mov (.c (.nils)), none, []⟩,
      ⟨(some 3), .mov (.t 14), none, []⟩])
    (.ret)) (.seq (.reg [
      ⟨(some 16), .mov (.t 4), none, []⟩,
      ⟨(some 17), .len false (.t 16), none, []⟩,
      ⟨(some 18), .bin .eql (.t 17) (.c (.i 0)), none, []⟩,
      ⟨(some 15), .mov (.t 18), none, []⟩])
    (.cond (.t 15) (.seq (.reg [
       ⟨(some 2), .mov (.c (.nils)), none, []⟩,
       ⟨(some 3), .mov (.c (.i 4)), none, []⟩])
     (.ret)) (.seq (.reg [
       ⟨(some 20), .mov (.t 4), none, []⟩,
       ⟨(some 21), .len false (.t 20), none, []⟩,
       ⟨(some 22), .bin .gtr (.t 21) (.c (.i 64)), none, []⟩,
       ⟨(some 19), .mov (.t 22), none, []⟩])
     (.cond (.t 19) (.seq (.reg [
        ⟨(some 2), .mov (.c (.nils)), none, []⟩,
        ⟨(some 3), .mov (.c (.i 5)), none, []⟩])
      (.ret)) (.skip))))))))
  (.seq (.reg [
    ⟨(some 23), .mov (.t 4), none, []⟩,
    ⟨(some 2), .mov (.t 23), none, []⟩,
    ⟨(some 3), .mov (.c (.i 0)), none, []⟩])
  (.ret))))⟩
theorem r115_is : IsFn Tryz.prog 115 r115 := ⟨Tryz.f115, by kernel_rfl, by kernel_rfl⟩
/-- (*errata/dawg.Dawg).Place -/
def r116 : RFn := ⟨93, [.t 4, .t 5], .seq (.reg [
    ⟨(some 4), .mov (.c (.i 0)), none, []⟩,
    ⟨(some 5), .mov (.c (.i 0)), none, []⟩])
  (.seq (.seq (.reg [
    ⟨(some 16), .mov (.t 0), none, []⟩,
    ⟨(some 17), .eqp false (.t 16) (.c (.nilp)), none, []⟩])
  (.cond (.t 17) (.seq (.reg [
     ⟨(some 4), .mov (.c (.i 0)), none, []⟩,
     ⟨(some 5), .mov (.c (.i 1)), none, []⟩])
   (.ret)) (.skip)))
  (.seq (.reg [
    ⟨(some 19), .mov (.t 1), none, []⟩,
    ⟨(some 20), .call (.fn 109) [.t 19], none, []⟩,
    ⟨(some 18), .mov (.t 20), none, []⟩,
    ⟨(some 21), .ext (.t 18) 0, none, []⟩,
    ⟨(some 22), .ext (.t 18) 1, none, []⟩,
    ⟨(some 6), .mov (.t 21), none, []⟩,
    ⟨(some 7), .mov (.t 22), none, []⟩])
  (.seq (.seq (.reg [
    ⟨(some 23), .mov (.t 7), none, []⟩,
    ⟨(some 24), .bin .neq (.t 23) (.c (.i 0)), none, []⟩])
  (.cond (.t 24) (.seq (.reg [
     ⟨(some 4), .mov (.c (.i 0)), none, []⟩,
     ⟨(some 5), .mov (.c (.i 10)), none, []⟩])
   (.ret)) (.skip)))
  (.seq (.reg [
    ⟨(some 25), .mov (.t 0), none, []⟩,
    ⟨(some 26), .nilck (.t 25), none, []⟩,
    ⟨(some 27), .faddr 0 (.t 26), none, []⟩,
    ⟨(some 28), .load false 1 (.t 27), none, []⟩,
    ⟨(some 29), .iaddr 3 (.t 28) (.c (.i 0)), none, []⟩,
    ⟨(some 8), .mov (.c (.i 0)), none, []⟩,
    ⟨(some 9), .mov (.t 29), none, []⟩])
  (.seq (.seq (.reg [
    ⟨(some 30), .mov (.t 6), none, []⟩,
    ⟨(some 31), .len false (.t 30), none, []⟩,
    ⟨(some 32), .mov (.c (.i 0)), none, []⟩])
  (.block 0 (.loop (.seq (.reg [
      ⟨(some 33), .bin .lss (.t 32) (.t 31), none, []⟩])
    (.seq (.cond (.t 33) (.skip) (.exit 0))
    (.seq (.block 1 (.seq (.reg [
       ⟨(some 34), .iaddr 1 (.t 30) (.t 32), none, []⟩,
       ⟨(some 35), .load false 1 (.t 34), none, []⟩,
       ⟨(some 11), .mov (.t 35), none, []⟩])
     (.seq (.reg [
       ⟨(some 37), .mov (.t 9), none, []⟩,
       ⟨(some 38), .mov (.t 11), none, []⟩,
       ⟨(some 39), .call (.fn 153) [.t 37, .t 38], none, []⟩,
       ⟨(some 36), .mov (.t 39), none, []⟩,
       ⟨(some 40), .ext (.t 36) 0, none, []⟩,
       ⟨(some 41), .ext (.t 36) 1, none, []⟩,
       ⟨(some 12), .mov (.t 40), none, []⟩,
       ⟨(some 13), .mov (.t 41), none, []⟩])
     (.seq (.seq (.reg [
       ⟨(some 42), .mov (.t 13), none, []⟩,
       ⟨(some 43), .un .not (.t 42), none, []⟩])
     (.cond (.t 43) (.seq (.reg [
        ⟨(some 4), .mov (.c (.i 0)), none, []⟩,
        ⟨(some 5), .mov (.c (.i 10)), none, []⟩])
      (.ret)) (.skip)))
     (.seq (.seq (.reg [
       ⟨(some 44), .mov (.t 9), none, []⟩,
       ⟨(some 45), .nilck (.t 44), none, []⟩,
       ⟨(some 46), .faddr 1 (.t 45), none, []⟩,
       ⟨(some 47), .load false 1 (.t 46), none, []⟩])
     (.cond (.t 47) (.reg [
        ⟨(some 48), .mov (.t 8), none, []⟩,
        ⟨(some 49), .bin .add (.t 48) (.c (.i 1)), none, []⟩,
        ⟨(some 8), .mov (.t 49), none, []⟩]) (.skip)))
     (.seq (.seq (.reg [
       ⟨(some 50), .mov (.t 9), none, []⟩,
       ⟨(some 51), .nilck (.t 50), none, []⟩,
       ⟨(some 52), .faddr 0 (.t 51), none, []⟩,
       ⟨(some 53), .load false 1 (.t 52), none, []⟩,
       ⟨(some 54), .mov (.t 12), none, []⟩,
       ⟨(some 55), .slc false 2 (.t 53) none (some (.t 54)) none, none, []⟩,
       ⟨(some 56), .len false (.t 55), none, []⟩,
       ⟨(some 57), .mov (.c (.i 0)), none, []⟩])
     (.block 2 (.loop (.seq (.reg [
         ⟨(some 58), .bin .lss (.t 57) (.t 56), none, []⟩])
       (.seq (.cond (.t 58) (.skip) (.exit 2))
       (.seq (.block 3 (.seq (.reg [
          ⟨(some 59), .iaddr 2 (.t 55) (.t 57), none, []⟩,
          ⟨(some 60), .load true 2 (.t 59), none, []⟩,
          ⟨(some 15), .alloc [.v (.int .i32 0), .i 0] 190, none, []⟩,
          ⟨none, .store 2 (.t 15) (.t 60), none, []⟩])
        (.reg [
          ⟨(some 61), .mov (.t 8), none, []⟩,
          ⟨(some 62), .mov (.t 0), none, []⟩,
          ⟨(some 63), .nilck (.t 62), none, []⟩,
          ⟨(some 64), .faddr 0 (.t 63), none, []⟩,
          ⟨(some 65), .load false 1 (.t 64), none, []⟩,
          ⟨(some 66), .faddr 1 (.t 15), none, []⟩,
          ⟨(some 67), .load false 1 (.t 66), none, []⟩,
          ⟨(some 68), .iaddr 3 (.t 65) (.t 67), none, []⟩,
          ⟨(some 69), .faddr 2 (.t 68), none, []⟩,
          ⟨(some 70), .load false 1 (.t 69), none, []⟩,
          ⟨(some 71), .bin .add (.t 61) (.t 70), none, []⟩,
          ⟨(some 8), .mov (.t 71), none, []⟩])))
       (.reg [
         ⟨(some 72), .bin .add (.t 57) (.c (.i 1)), none, []⟩,
         ⟨(some 57), .mov (.t 72), none, []⟩])))))))
     (.reg [
       ⟨(some 73), .mov (.t 0), none, []⟩,
       ⟨(some 74), .nilck (.t 73), none, []⟩,
       ⟨(some 75), .faddr 0 (.t 74), none, []⟩,
       ⟨(some 76), .load false 1 (.t 75), none, []⟩,
       ⟨(some 77), .mov (.t 9), none, []⟩,
       ⟨(some 78), .nilck (.t 77), none, []⟩,
       ⟨(some 79), .faddr 0 (.t 78), none, []⟩,
       ⟨(some 80), .load false 1 (.t 79), none, []⟩,
       ⟨(some 81), .mov (.t 12), none, []⟩,
       ⟨(some 82), .iaddr 2 (.t 80) (.t 81), none, []⟩,
       ⟨(some 83), .faddr 1 (.t 82), none, []⟩,
       ⟨(some 84), .load false 1 (.t 83), none, []⟩,
       ⟨(some 85), .iaddr 3 (.t 76) (.t 84), none, []⟩,
       ⟨(some 9), .mov (.t 85), none, []⟩])))))))
    (.reg [
      ⟨(some 86), .bin .add (.t 32) (.c (.i 1)), none, []⟩,
      ⟨(some 32), .mov (.t 86), none, []⟩])))))))
  (.seq (.seq (.reg [
    ⟨(some 87), .mov (.t 9), none, []⟩,
    ⟨(some 88), .nilck (.t 87), none, []⟩,
    ⟨(some 89), .faddr 1 (.t 88), none, []⟩,
    ⟨(some 90), .load false 1 (.t 89), none, []⟩,
    ⟨(some 91), .un .not (.t 90), none, []⟩])
  (.cond (.t 91) (.seq (.reg [
     ⟨(some 4), .mov (.c (.i 0)), none, []⟩,
     ⟨(some 5), .mov (.c (.i 10)), none, []⟩])
   (.ret)) (.skip)))
  (.seq (.reg [
    ⟨(some 92), .mov (.t 8), none, []⟩,
    ⟨(some 4), .mov (.t 92), none, []⟩,
    ⟨(some 5), .mov (.c (.i 0)), none, []⟩])
  (.ret))))))))⟩
theorem r116_is : IsFn Tryz.prog 116 r116 := ⟨Tryz.f116, by kernel_rfl, by kernel_rfl⟩
/-- errata/search.Search -/
def r117 : RFn := ⟨62, [.c 8 false 1, .c 9 true 3, .t 10], .seq (.reg [
    ⟨(some 4), .box (.t 0), none, []⟩,
    ⟨(some 8), .alloc [.nils] 150, none, []⟩,
    ⟨(some 9), .alloc [.i 0, .i 0, .i 0] 201, none, []⟩,
    ⟨(some 10), .mov (.c (.i 0)), none, []⟩])
  (.seq (.reg [
    ⟨(some 20), .load false 1 (.t 4), none, []⟩,
    ⟨(some 21), .mov (.t 1), none, []⟩,
    ⟨(some 22), .mov (.t 2), none, []⟩,
    ⟨(some 23), .mov (.t 3), none, []⟩,
    ⟨(some 24), .call (.fn 154) [.t 20, .t 21, .t 22, .t 23], none, []⟩,
    ⟨(some 19), .mov (.t 24), none, []⟩,
    ⟨(some 25), .ext (.t 19) 0, none, []⟩,
    ⟨(some 26), .ext (.t 19) 1, none, []⟩,
    ⟨(some 11), .mov (.t 25), none, []⟩,
    ⟨(some 12), .mov (.t 26), none, []⟩])
  (.seq (.seq (.reg [
    ⟨(some 27), .mov (.t 12), none, []⟩,
    ⟨(some 28), .bin .neq (.t 27) (.c (.i 0)), none, []⟩])
  (.cond (.t 28) (.seq (.reg [
     ⟨(some 29), .build [.i 0, .i 0, .i 0] [], none, []⟩,
     ⟨(some 30), .mov (.t 12), none, []⟩,
     ⟨none, .store 1 (.t 8) (.c (.nils)), none, []⟩,
     ⟨none, .store 3 (.t 9) (.t 29), none, []⟩,
     ⟨(some 10), .mov (.t 30), none, []⟩])
   (.ret)) (.skip)))
  (.seq (.seq (.reg [
    ⟨(some 31), .mov (.t 11), none, []⟩,
    ⟨(some 32), .call (.fn 155) [.t 31], none, []⟩])
  (.block 0 (.rangef (.t 32) [33, 34] (.seq (.reg [
      ⟨(some 13), .mov (.t 33), none, []⟩])
    (.reg [
      ⟨(some 14), .mov (.t 34), none, []⟩])) (.block 1 (.seq (.reg [
       ⟨(some 36), .load false 1 (.t 4), none, []⟩,
       ⟨(some 37), .mov (.t 13), none, []⟩,
       ⟨(some 38), .call (.fn 116) [.t 36, .t 37], none, []⟩,
       ⟨(some 35), .mov (.t 38), none, []⟩,
       ⟨(some 39), .ext (.t 35) 0, none, []⟩,
       ⟨(some 40), .ext (.t 35) 1, none, []⟩,
       ⟨(some 15), .mov (.t 39), none, []⟩,
       ⟨(some 16), .mov (.t 40), none, []⟩])
     (.seq (.reg [
       ⟨(some 42), .load false 1 (.t 4), none, []⟩,
       ⟨(some 43), .mov (.t 15), none, []⟩,
       ⟨(some 44), .call (.fn 156) [.t 42, .t 43], none, []⟩,
       ⟨(some 41), .mov (.t 44), none, []⟩,
       ⟨(some 45), .ext (.t 41) 0, none, []⟩,
       ⟨(some 46), .ext (.t 41) 1, none, []⟩,
       ⟨(some 17), .alloc [.v (.string ⟨#[]⟩), .i 0] 53, none, []⟩,
       ⟨none, .store 2 (.t 17) (.t 45), none, []⟩,
       ⟨(some 18), .mov (.t 46), none, []⟩])
     (.reg [
       ⟨(some 47), .load false 1 (.t 8), none, []⟩,
       ⟨(some 48), .mov (.t 13), none, []⟩,
       ⟨(some 49), .mov (.t 14), none, []⟩,
       ⟨(some 50), .faddr 1 (.t 17), none, []⟩,
       ⟨(some 51), .load false 1 (.t 50), none, []⟩,
       ⟨(some 52), .build [.v (.string ⟨#[]⟩), .i 0, .i 0] [(0, 1, (.t 48)), (1, 1, (.t 49)), (2, 1, (.t 51))], none, []⟩,
       ⟨(some 53), .bslice 3 [.v (.string ⟨#[]⟩), .i 0, .i 0] 1 [(0, 3, (.t 52))], none, []⟩,
       ⟨(some 54), .append 3 32 [.v (.string ⟨#[]⟩), .i 0, .i 0] 110 (.t 47) (.t 53), none, []⟩,
       ⟨none, .store 1 (.t 8) (.t 54), none, []⟩])))))))
  (.seq (.reg [
    ⟨(some 55), .load false 1 (.t 8), none, []⟩,
    ⟨(some 56), .call (.fn 157) [.t 55, .c (.fn 158 [])], none, []⟩])
  (.seq (.reg [
    ⟨(some 57), .load false 1 (.t 8), none, []⟩,
    ⟨(some 58), .mov (.t 11), none, []⟩,
    ⟨(some 59), .nilck (.t 58), none, []⟩,
    ⟨(some 60), .faddr 11 (.t 59), none, []⟩,
    ⟨(some 61), .load true 3 (.t 60), none, []⟩,
    ⟨none, .store 1 (.t 8) (.t 57), none, [(61, .load true 3 (.t 60), none)]⟩,
    ⟨none, .store 3 (.t 9) (.t 61), none, []⟩,
    ⟨(some 10), .mov (.c (.i 0)), none, []⟩])
  (.ret))))))⟩
theorem r117_is : IsFn Tryz.prog 117 r117 := ⟨Tryz.f117, by kernel_rfl, by kernel_rfl⟩
/-- errata/correct.ahead$1 -/
def r118 : RFn := ⟨27, [], .scope (.seq (.reg [
     ⟨(some 3), .alloc [.v (.string ⟨#[]⟩), .i 0, .i 0] 110, none, []⟩])
   (.seq (.skip)
   (.seq (.reg [
     ⟨(some 6), .load false 1 (.t 1), none, []⟩,
     ⟨(some 7), .len false (.t 6), none, []⟩,
     ⟨(some 8), .mov (.c (.i 0)), none, []⟩])
   (.block 0 (.loop (.seq (.reg [
       ⟨(some 9), .bin .lss (.t 8) (.t 7), none, []⟩])
     (.seq (.cond (.t 9) (.skip) (.exit 0))
     (.seq (.block 1 (.seq (.reg [
        ⟨(some 10), .iaddr 3 (.t 6) (.t 8), none, []⟩,
        ⟨(some 11), .load true 3 (.t 10), none, []⟩,
        ⟨(some 5), .alloc [.v (.string ⟨#[]⟩), .i 0, .i 0] 110, none, []⟩,
        ⟨none, .store 3 (.t 5) (.t 11), none, []⟩])
      (.seq (.seq (.reg [
        ⟨(some 12), .faddr 0 (.t 3), none, []⟩,
        ⟨(some 13), .load false 1 (.t 12), none, []⟩,
        ⟨(some 14), .bin .neq (.t 13) (.c (.v (.string ⟨#[]⟩))), none, []⟩,
        ⟨(some 15), .mov (.t 14), none, []⟩,
        ⟨(some 16), .load true 3 (.t 5), (some (15, true)), []⟩,
        ⟨(some 17), .load true 3 (.t 3), (some (15, true)), []⟩,
        ⟨(some 18), .call (.fn 119) [.t 16, .t 17], (some (15, true)), []⟩,
        ⟨(some 19), .un .not (.t 18), (some (15, true)), []⟩,
        ⟨(some 20), .pick (.t 15) (.t 19) (.c (.b false)), none, []⟩])
      (.cond (.t 20) (.exit 1) (.skip)))
      (.seq (.reg [
        ⟨(some 21), .load true 3 (.t 5), none, []⟩,
        ⟨none, .store 3 (.t 3) (.t 21), none, []⟩])
      (.seq (.reg [
        ⟨(some 22), .mov (.t 0), none, []⟩,
        ⟨(some 23), .load true 3 (.t 5), none, []⟩,
        ⟨(some 24), .call (.val (.t 22)) [.t 23], none, []⟩,
        ⟨(some 25), .un .not (.t 24), none, []⟩])
      (.cond (.t 25) (.exit 0) (.skip)))))))
     (.reg [
       ⟨(some 26), .bin .add (.t 8) (.c (.i 1)), none, []⟩,
       ⟨(some 8), .mov (.t 26), none, []⟩])))))))))⟩
theorem r118_is : IsFn Tryz.prog 118 r118 := ⟨Tryz.f118, by kernel_rfl, by kernel_rfl⟩
/-- errata/rank.Less -/
def r119 : RFn := ⟨9, [.t 4], .seq (.reg [
    ⟨(some 2), .box (.t 0), none, []⟩,
    ⟨(some 3), .box (.t 1), none, []⟩,
    ⟨(some 4), .mov (.c (.b false)), none, []⟩])
  (.seq (.reg [
    ⟨(some 5), .load true 3 (.t 2), none, []⟩,
    ⟨(some 6), .load true 3 (.t 3), none, []⟩,
    ⟨(some 7), .call (.fn 160) [.t 5, .t 6], none, []⟩,
    ⟨(some 8), .bin .lss (.t 7) (.c (.i 0)), none, []⟩,
    ⟨(some 4), .mov (.t 8), none, []⟩])
  (.ret))⟩
theorem r119_is : IsFn Tryz.prog 119 r119 := ⟨Tryz.f119, by kernel_rfl, by kernel_rfl⟩
/-- unicode/utf8.ValidRune -/
def r143 : RFn := ⟨17, [.t 2], .seq (.reg [
    ⟨(some 2), .mov (.c (.b false)), none, []⟩])
  (.seq (.block 0 (.seq (.reg [
     ⟨(some 4), .mov (.t 0), none, []⟩,
     ⟨(some 5), .bin .leq (.c (.v (.int .i32 0))) (.t 4), none, []⟩,
     ⟨(some 6), .mov (.t 5), none, []⟩,
     ⟨(some 7), .mov (.t 0), (some (6, true)), []⟩,
     ⟨(some 8), .bin .lss (.t 7) (.c (.v (.int .i32 55296))), (some (6, true)), []⟩,
     ⟨(some 9), .pick (.t 6) (.t 8) (.c (.b false)), none, []⟩,
     ⟨(some 3), .mov (.t 9), none, []⟩])
   (.cond (.t 3) (.seq (.reg [
      ⟨(some 2), .mov (.c (.b true)), none, []⟩])
    (.ret)) (.seq (.reg [
      ⟨(some 11), .mov (.t 0), none, []⟩,
      ⟨(some 12), .bin .lss (.c (.v (.int .i32 57343))) (.t 11), none, []⟩,
      ⟨(some 13), .mov (.t 12), none, []⟩,
      ⟨(some 14), .mov (.t 0), (some (13, true)), []⟩,
      ⟨(some 15), .bin .leq (.t 14) (.c (.v (.int .i32 1114111))), (some (13, true)), []⟩,
      ⟨(some 16), .pick (.t 13) (.t 15) (.c (.b false)), none, []⟩,
      ⟨(some 10), .mov (.t 16), none, []⟩])
    (.cond (.t 10) (.seq (.reg [
       ⟨(some 2), .mov (.c (.b true)), none, []⟩])
     (.ret)) (.skip))))))
  (.seq (.reg [
    ⟨(some 2), .mov (.c (.b false)), none, []⟩])
  (.ret)))⟩
theorem r143_is : IsFn Tryz.prog 143 r143 := ⟨Tryz.f143, by kernel_rfl, by kernel_rfl⟩
/-- errata/rule.wrong$1 -/
def r144 : RFn := ⟨23, [], .scope (.seq (.skip)
   (.seq (.reg [
     ⟨(some 6), .load false 1 (.t 1), none, []⟩,
     ⟨(some 7), .len false (.t 6), none, []⟩,
     ⟨(some 8), .mov (.c (.i 0)), none, []⟩])
   (.block 0 (.loop (.seq (.reg [
       ⟨(some 9), .bin .lss (.t 8) (.t 7), none, []⟩])
     (.seq (.cond (.t 9) (.skip) (.exit 0))
     (.seq (.block 1 (.seq (.reg [
        ⟨(some 10), .iaddr 3 (.t 6) (.t 8), none, []⟩,
        ⟨(some 11), .load true 3 (.t 10), none, []⟩,
        ⟨(some 4), .alloc [.v (.string ⟨#[]⟩), .v (.string ⟨#[]⟩), .i 0] 50, none, []⟩,
        ⟨none, .store 3 (.t 4) (.t 11), none, []⟩])
      (.seq (.reg [
        ⟨(some 12), .load true 3 (.t 4), none, []⟩,
        ⟨(some 13), .call (.fn 145) [.t 12], none, []⟩,
        ⟨(some 5), .mov (.t 13), none, []⟩])
      (.seq (.reg [
        ⟨(some 14), .mov (.t 5), none, []⟩,
        ⟨(some 15), .bin .neq (.t 14) (.c (.i 0)), none, []⟩,
        ⟨(some 16), .mov (.t 15), none, []⟩,
        ⟨(some 17), .mov (.t 0), (some (16, true)), []⟩,
        ⟨(some 18), .mov (.t 5), (some (16, true)), []⟩,
        ⟨(some 19), .call (.val (.t 17)) [.t 18], (some (16, true)), []⟩,
        ⟨(some 20), .un .not (.t 19), (some (16, true)), []⟩,
        ⟨(some 21), .pick (.t 16) (.t 20) (.c (.b false)), none, []⟩])
      (.cond (.t 21) (.exit 0) (.skip))))))
     (.reg [
       ⟨(some 22), .bin .add (.t 8) (.c (.i 1)), none, []⟩,
       ⟨(some 8), .mov (.t 22), none, []⟩]))))))))⟩
theorem r144_is : IsFn Tryz.prog 144 r144 := ⟨Tryz.f144, by kernel_rfl, by kernel_rfl⟩
/-- errata/rule.Check -/
def r145 : RFn := ⟨23, [.t 2], .seq (.reg [
    ⟨(some 1), .box (.t 0), none, []⟩,
    ⟨(some 2), .mov (.c (.i 0)), none, []⟩])
  (.seq (.reg [
    ⟨(some 4), .faddr 0 (.t 1), none, []⟩,
    ⟨(some 5), .load false 1 (.t 4), none, []⟩,
    ⟨(some 6), .faddr 1 (.t 1), none, []⟩,
    ⟨(some 7), .load false 1 (.t 6), none, []⟩,
    ⟨(some 8), .build [.v (.string ⟨#[]⟩), .v (.string ⟨#[]⟩), .i 0] [(0, 1, (.t 5)), (1, 1, (.t 7)), (2, 1, (.c (.i 1)))], none, []⟩,
    ⟨(some 9), .call (.fn 182) [.t 8], none, []⟩,
    ⟨(some 3), .mov (.t 9), none, []⟩])
  (.seq (.seq (.reg [
    ⟨(some 10), .mov (.t 3), none, []⟩,
    ⟨(some 11), .bin .eql (.t 10) (.c (.i 0)), none, []⟩,
    ⟨(some 12), .mov (.t 11), none, []⟩,
    ⟨(some 13), .faddr 2 (.t 1), (some (12, true)), []⟩,
    ⟨(some 14), .load false 1 (.t 13), (some (12, true)), []⟩,
    ⟨(some 15), .bin .lss (.t 14) (.c (.i 1)), (some (12, true)), []⟩,
    ⟨(some 16), .mov (.t 15), (some (12, true)), []⟩,
    ⟨(some 17), .faddr 2 (.t 1), (some (16, false)), []⟩,
    ⟨(some 18), .load false 1 (.t 17), (some (16, false)), []⟩,
    ⟨(some 19), .bin .gtr (.t 18) (.c (.i 255)), (some (16, false)), []⟩,
    ⟨(some 20), .pick (.t 16) (.c (.b true)) (.t 19), (some (12, true)), []⟩,
    ⟨(some 21), .pick (.t 12) (.t 20) (.c (.b false)), none, []⟩])
  (.cond (.t 21) (.seq (.reg [
     ⟨(some 2), .mov (.c (.i 2)), none, []⟩])
   (.ret)) (.skip)))
  (.seq (.reg [
    ⟨(some 22), .mov (.t 3), none, []⟩,
    ⟨(some 2), .mov (.t 22), none, []⟩])
  (.ret))))⟩
theorem r145_is : IsFn Tryz.prog 145 r145 := ⟨Tryz.f145, by kernel_rfl, by kernel_rfl⟩
/-- errata/rule.compare -/
def r146 : RFn := ⟨17, [.t 4], .seq (.reg [
    ⟨(some 2), .box (.t 0), none, []⟩,
    ⟨(some 3), .box (.t 1), none, []⟩,
    ⟨(some 4), .mov (.c (.i 0)), none, []⟩])
  (.seq (.reg [
    ⟨(some 5), .faddr 0 (.t 2), none, []⟩,
    ⟨(some 6), .load false 1 (.t 5), none, []⟩,
    ⟨(some 7), .faddr 0 (.t 3), none, []⟩,
    ⟨(some 8), .load false 1 (.t 7), none, []⟩,
    ⟨(some 10), .faddr 1 (.t 2), none, []⟩,
    ⟨(some 11), .load false 1 (.t 10), none, []⟩,
    ⟨(some 12), .faddr 1 (.t 3), none, []⟩,
    ⟨(some 13), .load false 1 (.t 12), none, []⟩,
    ⟨(some 9), .call (.fn 159) [.t 6, .t 8], none, [(11, .load false 1 (.t 10), none), (13, .load false 1 (.t 12), none)]⟩,
    ⟨(some 14), .call (.fn 159) [.t 11, .t 13], none, []⟩,
    ⟨(some 15), .bslice 1 [.i 0] 2 [(0, 1, (.t 9)), (1, 1, (.t 14))], none, []⟩,
    ⟨(some 16), .call (.fn 183) [.t 15], none, []⟩,
    ⟨(some 4), .mov (.t 16), none, []⟩])
  (.ret))⟩
theorem r146_is : IsFn Tryz.prog 146 r146 := ⟨Tryz.f146, by kernel_rfl, by kernel_rfl⟩
/-- slices.IndexFunc[[]errata/api.Word,errata/api.Word] -/
def r147 : RFn := ⟨19, [.t 4], .seq (.reg [
    ⟨(some 4), .mov (.c (.i 0)), none, []⟩])
  (.seq (.seq (.reg [
    ⟨(some 6), .mov (.t 0), none, []⟩,
    ⟨(some 7), .len false (.t 6), none, []⟩,
    ⟨(some 8), .mov (.c (.i 0)), none, []⟩])
  (.block 0 (.loop (.seq (.reg [
      ⟨(some 9), .bin .lss (.t 8) (.t 7), none, []⟩])
    (.seq (.cond (.t 9) (.skip) (.exit 0))
    (.seq (.block 1 (.seq (.reg [
       ⟨(some 10), .mov (.t 8), none, []⟩,
       ⟨(some 5), .mov (.t 10), none, []⟩])
     (.seq (.reg [
       ⟨(some 11), .mov (.t 1), none, []⟩,
       ⟨(some 12), .mov (.t 0), none, []⟩,
       ⟨(some 13), .mov (.t 5), none, []⟩,
       ⟨(some 14), .iaddr 2 (.t 12) (.t 13), none, []⟩,
       ⟨(some 15), .load true 2 (.t 14), none, []⟩,
       ⟨(some 16), .call (.val (.t 11)) [.t 15], none, []⟩])
     (.cond (.t 16) (.seq (.reg [
        ⟨(some 17), .mov (.t 5), none, []⟩,
        ⟨(some 4), .mov (.t 17), none, []⟩])
      (.ret)) (.skip)))))
    (.reg [
      ⟨(some 18), .bin .add (.t 8) (.c (.i 1)), none, []⟩,
      ⟨(some 8), .mov (.t 18), none, []⟩])))))))
  (.seq (.reg [
    ⟨(some 4), .mov (.c (.i (-1))), none, []⟩])
  (.ret)))⟩
theorem r147_is : IsFn Tryz.prog 147 r147 := ⟨Tryz.f147, by kernel_rfl, by kernel_rfl⟩
/-- errata/lexicon.each$1 -/
def r148 : RFn := ⟨6, [.t 2], .seq (.reg [
    ⟨(some 1), .box (.t 0), none, []⟩,
    ⟨(some 2), .mov (.c (.b false)), none, []⟩])
  (.seq (.reg [
    ⟨(some 3), .load true 2 (.t 1), none, []⟩,
    ⟨(some 4), .call (.fn 149) [.t 3], none, []⟩,
    ⟨(some 5), .bin .neq (.t 4) (.c (.i 0)), none, []⟩,
    ⟨(some 2), .mov (.t 5), none, []⟩])
  (.ret))⟩
theorem r148_is : IsFn Tryz.prog 148 r148 := ⟨Tryz.f148, by kernel_rfl, by kernel_rfl⟩
/-- errata/lexicon.Check -/
def r149 : RFn := ⟨24, [.t 2], .seq (.reg [
    ⟨(some 1), .box (.t 0), none, []⟩,
    ⟨(some 2), .mov (.c (.i 0)), none, []⟩])
  (.seq (.reg [
    ⟨(some 6), .faddr 0 (.t 1), none, []⟩,
    ⟨(some 7), .load false 1 (.t 6), none, []⟩,
    ⟨(some 8), .call (.fn 115) [.t 7], none, []⟩,
    ⟨(some 5), .mov (.t 8), none, []⟩,
    ⟨(some 9), .ext (.t 5) 0, none, []⟩,
    ⟨(some 10), .ext (.t 5) 1, none, []⟩,
    ⟨(some 3), .mov (.t 9), none, []⟩,
    ⟨(some 4), .mov (.t 10), none, []⟩])
  (.seq (.seq (.reg [
    ⟨(some 11), .mov (.t 4), none, []⟩,
    ⟨(some 12), .bin .eql (.t 11) (.c (.i 0)), none, []⟩,
    ⟨(some 13), .mov (.t 12), none, []⟩,
    ⟨(some 14), .faddr 1 (.t 1), (some (13, true)), []⟩,
    ⟨(some 15), .load false 1 (.t 14), (some (13, true)), []⟩,
    ⟨(some 16), .bin .lss (.t 15) (.c (.i 1)), (some (13, true)), []⟩,
    ⟨(some 17), .mov (.t 16), (some (13, true)), []⟩,
    ⟨(some 18), .faddr 1 (.t 1), (some (17, false)), []⟩,
    ⟨(some 19), .load false 1 (.t 18), (some (17, false)), []⟩,
    ⟨(some 20), .bin .gtr (.t 19) (.c (.i 1073741824)), (some (17, false)), []⟩,
    ⟨(some 21), .pick (.t 17) (.c (.b true)) (.t 20), (some (13, true)), []⟩,
    ⟨(some 22), .pick (.t 13) (.t 21) (.c (.b false)), none, []⟩])
  (.cond (.t 22) (.seq (.reg [
     ⟨(some 2), .mov (.c (.i 2)), none, []⟩])
   (.ret)) (.skip)))
  (.seq (.reg [
    ⟨(some 23), .mov (.t 4), none, []⟩,
    ⟨(some 2), .mov (.t 23), none, []⟩])
  (.ret))))⟩
theorem r149_is : IsFn Tryz.prog 149 r149 := ⟨Tryz.f149, by kernel_rfl, by kernel_rfl⟩
/-- errata/runes.all -/
def r150 : RFn := ⟨4, [.t 2], .seq (.reg [
    ⟨(some 1), .box (.t 0), none, []⟩,
    ⟨(some 2), .mov (.c (.v (.nilFunc))), none, []⟩])
  (.seq (.reg [
    ⟨(some 3), .mkfn 184 [.t 1], none, []⟩,
    ⟨(some 2), .mov (.t 3), none, []⟩])
  (.ret))⟩
theorem r150_is : IsFn Tryz.prog 150 r150 := ⟨Tryz.f150, by kernel_rfl, by kernel_rfl⟩
/-- (errata/dawg.state).key -/
def r151 : RFn := ⟨42, [.t 2], .seq (.reg [
    ⟨(some 1), .box (.t 0), none, []⟩,
    ⟨(some 2), .mov (.c (.v (.string ⟨#[]⟩))), none, []⟩])
  (.seq (.reg [
    ⟨(some 7), .bslice 1 [.v (.int .u8 0)] 1 [(0, 1, (.c (.v (.int .u8 45))))], none, []⟩,
    ⟨(some 3), .mov (.t 7), none, []⟩])
  (.seq (.seq (.reg [
    ⟨(some 8), .faddr 1 (.t 1), none, []⟩,
    ⟨(some 9), .load false 1 (.t 8), none, []⟩])
  (.cond (.t 9) (.reg [
     ⟨(some 10), .mov (.t 3), none, []⟩,
     ⟨(some 11), .iaddr 1 (.t 10) (.c (.i 0)), none, []⟩,
     ⟨none, .store 1 (.t 11) (.c (.v (.int .u8 43))), none, []⟩]) (.skip)))
  (.seq (.seq (.reg [
    ⟨(some 12), .faddr 0 (.t 1), none, []⟩,
    ⟨(some 13), .load false 1 (.t 12), none, []⟩,
    ⟨(some 14), .len false (.t 13), none, []⟩,
    ⟨(some 15), .mov (.c (.i 0)), none, []⟩])
  (.block 0 (.loop (.seq (.reg [
      ⟨(some 16), .bin .lss (.t 15) (.t 14), none, []⟩])
    (.seq (.cond (.t 16) (.skip) (.exit 0))
    (.seq (.block 1 (.seq (.reg [
       ⟨(some 17), .iaddr 2 (.t 13) (.t 15), none, []⟩,
       ⟨(some 18), .load true 2 (.t 17), none, []⟩,
       ⟨(some 5), .alloc [.v (.int .i32 0), .i 0] 190, none, []⟩,
       ⟨none, .store 2 (.t 5) (.t 18), none, []⟩])
     (.seq (.reg [
       ⟨(some 19), .mov (.t 3), none, []⟩,
       ⟨(some 20), .faddr 0 (.t 5), none, []⟩,
       ⟨(some 21), .load false 1 (.t 20), none, []⟩,
       ⟨(some 22), .call (.fn 185) [.t 19, .t 21], none, []⟩,
       ⟨(some 3), .mov (.t 22), none, []⟩])
     (.seq (.seq (.reg [
       ⟨(some 23), .faddr 1 (.t 5), none, []⟩,
       ⟨(some 24), .load false 1 (.t 23), none, []⟩,
       ⟨(some 6), .mov (.t 24), none, []⟩])
     (.block 2 (.loop (.seq (.block 3 (.seq (.reg [
          ⟨(some 27), .mov (.t 3), none, []⟩,
          ⟨(some 28), .mov (.t 6), none, []⟩,
          ⟨(some 29), .bin .rem (.t 28) (.c (.i 128)), none, []⟩,
          ⟨(some 30), .cvi .u8 (.t 29), none, []⟩,
          ⟨(some 31), .bin .or (.t 30) (.c (.v (.int .u8 128))), none, []⟩,
          ⟨(some 32), .bslice 1 [.v (.int .u8 0)] 1 [(0, 1, (.t 31))], none, []⟩,
          ⟨(some 33), .append 1 1 [.v (.int .u8 0)] 5 (.t 27) (.t 32), none, []⟩,
          ⟨(some 3), .mov (.t 33), none, []⟩])
        (.seq (.reg [
          ⟨(some 34), .mov (.t 6), none, []⟩,
          ⟨(some 35), .bin .lss (.t 34) (.c (.i 128)), none, []⟩])
        (.cond (.t 35) (.exit 2) (.skip)))))
       (.reg [
         ⟨(some 25), .mov (.t 6), none, []⟩,
         ⟨(some 26), .bin .quo (.t 25) (.c (.i 128)), none, []⟩,
         ⟨(some 6), .mov (.t 26), none, []⟩])))))
     (.reg [
       ⟨(some 36), .mov (.t 3), none, []⟩,
       ⟨(some 37), .bslice 1 [.v (.int .u8 0)] 1 [(0, 1, (.c (.v (.int .u8 0))))], none, []⟩,
       ⟨(some 38), .append 1 1 [.v (.int .u8 0)] 5 (.t 36) (.t 37), none, []⟩,
       ⟨(some 3), .mov (.t 38), none, []⟩])))))
    (.reg [
      ⟨(some 39), .bin .add (.t 15) (.c (.i 1)), none, []⟩,
      ⟨(some 15), .mov (.t 39), none, []⟩])))))))
  (.seq (.reg [
    ⟨(some 40), .mov (.t 3), none, []⟩,
    ⟨(some 41), .cvbs (.t 40), none, []⟩,
    ⟨(some 2), .mov (.t 41), none, []⟩])
  (.ret)))))⟩
theorem r151_is : IsFn Tryz.prog 151 r151 := ⟨Tryz.f151, by kernel_rfl, by kernel_rfl⟩
/-- errata/runes.between -/
def r152 : RFn := ⟨15, [.t 6], .seq (.reg [
    ⟨(some 6), .mov (.c (.b false)), none, []⟩])
  (.seq (.reg [
    ⟨(some 7), .mov (.t 0), none, []⟩,
    ⟨(some 8), .mov (.t 1), none, []⟩,
    ⟨(some 9), .bin .geq (.t 7) (.t 8), none, []⟩,
    ⟨(some 10), .mov (.t 9), none, []⟩,
    ⟨(some 11), .mov (.t 0), (some (10, true)), []⟩,
    ⟨(some 12), .mov (.t 2), (some (10, true)), []⟩,
    ⟨(some 13), .bin .leq (.t 11) (.t 12), (some (10, true)), []⟩,
    ⟨(some 14), .pick (.t 10) (.t 13) (.c (.b false)), none, []⟩,
    ⟨(some 6), .mov (.t 14), none, []⟩])
  (.ret))⟩
theorem r152_is : IsFn Tryz.prog 152 r152 := ⟨Tryz.f152, by kernel_rfl, by kernel_rfl⟩
/-- (*errata/dawg.state).find -/
def r153 : RFn := ⟨14, [.t 4, .t 5], .seq (.reg [
    ⟨(some 4), .mov (.c (.i 0)), none, []⟩,
    ⟨(some 5), .mov (.c (.b false)), none, []⟩])
  (.seq (.reg [
    ⟨(some 6), .mov (.t 0), none, []⟩,
    ⟨(some 7), .nilck (.t 6), none, []⟩,
    ⟨(some 8), .faddr 0 (.t 7), none, []⟩,
    ⟨(some 9), .load false 1 (.t 8), none, []⟩,
    ⟨(some 10), .mov (.t 1), none, []⟩,
    ⟨(some 11), .call (.fn 186) [.t 9, .t 10, .c (.fn 187 [])], none, []⟩,
    ⟨(some 12), .ext (.t 11) 0, none, []⟩,
    ⟨(some 13), .ext (.t 11) 1, none, []⟩,
    ⟨(some 4), .mov (.t 12), none, []⟩,
    ⟨(some 5), .mov (.t 13), none, []⟩])
  (.ret))⟩
theorem r153_is : IsFn Tryz.prog 153 r153 := ⟨Tryz.f153, by kernel_rfl, by kernel_rfl⟩
/-- errata/search.begin -/
def r154 : RFn := ⟨129, [.t 8, .t 9], .seq (.reg [
    ⟨(some 8), .mov (.c (.nilp)), none, []⟩,
    ⟨(some 9), .mov (.c (.i 0)), none, []⟩])
  (.seq (.seq (.reg [
    ⟨(some 23), .mov (.t 0), none, []⟩,
    ⟨(some 24), .eqp false (.t 23) (.c (.nilp)), none, []⟩])
  (.cond (.t 24) (.seq (.reg [
     ⟨(some 8), .mov (.c (.nilp)), none, []⟩,
     ⟨(some 9), .mov (.c (.i 1)), none, []⟩])
   (.ret)) (.skip)))
  (.seq (.seq (.reg [
    ⟨(some 25), .mov (.t 1), none, []⟩,
    ⟨(some 26), .call (.fn 72) [.t 25], none, []⟩,
    ⟨(some 10), .mov (.t 26), none, []⟩])
  (.seq (.reg [
    ⟨(some 27), .mov (.t 10), none, []⟩,
    ⟨(some 28), .bin .neq (.t 27) (.c (.i 0)), none, []⟩])
  (.cond (.t 28) (.seq (.reg [
     ⟨(some 29), .mov (.t 10), none, []⟩,
     ⟨(some 8), .mov (.c (.nilp)), none, []⟩,
     ⟨(some 9), .mov (.t 29), none, []⟩])
   (.ret)) (.skip))))
  (.seq (.reg [
    ⟨(some 31), .mov (.t 2), none, []⟩,
    ⟨(some 32), .call (.fn 115) [.t 31], none, []⟩,
    ⟨(some 30), .mov (.t 32), none, []⟩,
    ⟨(some 33), .ext (.t 30) 0, none, []⟩,
    ⟨(some 34), .ext (.t 30) 1, none, []⟩,
    ⟨(some 11), .mov (.t 33), none, []⟩,
    ⟨(some 12), .mov (.t 34), none, []⟩])
  (.seq (.seq (.reg [
    ⟨(some 35), .mov (.t 12), none, []⟩,
    ⟨(some 36), .bin .neq (.t 35) (.c (.i 0)), none, []⟩])
  (.cond (.t 36) (.seq (.reg [
     ⟨(some 37), .mov (.t 12), none, []⟩,
     ⟨(some 8), .mov (.c (.nilp)), none, []⟩,
     ⟨(some 9), .mov (.t 37), none, []⟩])
   (.ret)) (.skip)))
  (.seq (.seq (.reg [
    ⟨(some 38), .mov (.t 3), none, []⟩,
    ⟨(some 39), .bin .lss (.t 38) (.c (.i 0)), none, []⟩,
    ⟨(some 40), .mov (.t 39), none, []⟩,
    ⟨(some 41), .mov (.t 3), (some (40, false)), []⟩,
    ⟨(some 42), .bin .gtr (.t 41) (.c (.i 4096)), (some (40, false)), []⟩,
    ⟨(some 43), .pick (.t 40) (.c (.b true)) (.t 42), none, []⟩])
  (.cond (.t 43) (.seq (.reg [
     ⟨(some 8), .mov (.c (.nilp)), none, []⟩,
     ⟨(some 9), .mov (.c (.i 2)), none, []⟩])
   (.ret)) (.skip)))
  (.seq (.reg [
    ⟨(some 45), .mov (.t 3), none, []⟩,
    ⟨(some 46), .call (.fn 188) [.t 45], none, []⟩,
    ⟨(some 44), .mov (.t 46), none, []⟩,
    ⟨(some 47), .ext (.t 44) 0, none, []⟩,
    ⟨(some 48), .ext (.t 44) 1, none, []⟩,
    ⟨(some 13), .mov (.t 47), none, []⟩,
    ⟨(some 12), .mov (.t 48), none, []⟩])
  (.seq (.seq (.reg [
    ⟨(some 49), .mov (.t 12), none, []⟩,
    ⟨(some 50), .bin .neq (.t 49) (.c (.i 0)), none, []⟩])
  (.cond (.t 50) (.seq (.reg [
     ⟨(some 51), .mov (.t 12), none, []⟩,
     ⟨(some 8), .mov (.c (.nilp)), none, []⟩,
     ⟨(some 9), .mov (.t 51), none, []⟩])
   (.ret)) (.skip)))
  (.seq (.reg [
    ⟨(some 53), .mov (.t 1), none, []⟩,
    ⟨(some 54), .call (.fn 189) [.t 53], none, []⟩,
    ⟨(some 52), .mov (.t 54), none, []⟩,
    ⟨(some 55), .ext (.t 52) 0, none, []⟩,
    ⟨(some 56), .ext (.t 52) 1, none, []⟩,
    ⟨(some 14), .mov (.t 55), none, []⟩,
    ⟨(some 12), .mov (.t 56), none, []⟩])
  (.seq (.seq (.reg [
    ⟨(some 57), .mov (.t 12), none, []⟩,
    ⟨(some 58), .bin .neq (.t 57) (.c (.i 0)), none, []⟩])
  (.cond (.t 58) (.seq (.reg [
     ⟨(some 59), .mov (.t 12), none, []⟩,
     ⟨(some 8), .mov (.c (.nilp)), none, []⟩,
     ⟨(some 9), .mov (.t 59), none, []⟩])
   (.ret)) (.skip)))
  (.seq (.reg [
    ⟨(some 60), .mov (.t 0), none, []⟩,
    ⟨(some 61), .mov (.t 1), none, []⟩,
    ⟨(some 62), .mov (.t 11), none, []⟩,
    ⟨(some 63), .mov (.t 11), none, []⟩,
    ⟨(some 64), .len false (.t 63), none, []⟩,
    ⟨(some 65), .bin .add (.t 64) (.c (.i 1)), none, []⟩,
    ⟨(some 66), .mkslice 1 24 [.nils] (.t 65) (.t 65), none, []⟩,
    ⟨(some 67), .mov (.t 3), none, []⟩,
    ⟨(some 68), .mkmap, none, []⟩,
    ⟨(some 69), .mov (.t 13), none, []⟩,
    ⟨(some 70), .build [.nilp, .nils, .nils, .nils, .nils, .i 0, .nils, .v (.map none), .nils, .nils, .nilp, .i 0, .i 0, .i 0] [(0, 1, (.t 60)), (1, 1, (.t 61)), (2, 1, (.t 62)), (4, 1, (.t 66)), (5, 1, (.t 67)), (7, 1, (.t 68)), (10, 1, (.t 69))], none, []⟩,
    ⟨(some 71), .box (.t 70), none, []⟩,
    ⟨(some 15), .mov (.t 71), none, []⟩])
  (.seq (.seq (.reg [
    ⟨(some 72), .mov (.t 1), none, []⟩,
    ⟨(some 73), .len false (.t 72), none, []⟩,
    ⟨(some 74), .mov (.c (.i 0)), none, []⟩])
  (.block 0 (.loop (.seq (.reg [
      ⟨(some 75), .bin .lss (.t 74) (.t 73), none, []⟩])
    (.seq (.cond (.t 75) (.skip) (.exit 0))
    (.seq (.block 1 (.seq (.reg [
       ⟨(some 76), .iaddr 3 (.t 72) (.t 74), none, []⟩,
       ⟨(some 77), .load true 3 (.t 76), none, []⟩,
       ⟨(some 17), .alloc [.v (.string ⟨#[]⟩), .v (.string ⟨#[]⟩), .i 0] 50, none, []⟩,
       ⟨none, .store 3 (.t 17) (.t 77), none, []⟩])
     (.seq (.reg [
       ⟨(some 79), .faddr 1 (.t 17), none, []⟩,
       ⟨(some 80), .load false 1 (.t 79), none, []⟩,
       ⟨(some 81), .call (.fn 109) [.t 80], none, []⟩,
       ⟨(some 78), .mov (.t 81), none, []⟩,
       ⟨(some 82), .ext (.t 78) 0, none, []⟩,
       ⟨(some 83), .ext (.t 78) 1, none, []⟩,
       ⟨(some 18), .mov (.t 82), none, []⟩,
       ⟨(some 19), .mov (.t 83), none, []⟩])
     (.reg [
       ⟨(some 84), .mov (.t 15), none, []⟩,
       ⟨(some 85), .mov (.t 15), none, []⟩,
       ⟨(some 86), .nilck (.t 85), none, []⟩,
       ⟨(some 87), .faddr 3 (.t 86), none, []⟩,
       ⟨(some 88), .load false 1 (.t 87), none, []⟩,
       ⟨(some 89), .mov (.t 18), none, []⟩,
       ⟨(some 90), .bslice 1 [.nils] 1 [(0, 1, (.t 89))], none, []⟩,
       ⟨(some 91), .append 1 24 [.nils] 184 (.t 88) (.t 90), none, []⟩,
       ⟨(some 92), .nilck (.t 84), none, []⟩,
       ⟨(some 93), .faddr 3 (.t 92), none, []⟩,
       ⟨none, .store 1 (.t 93) (.t 91), none, []⟩]))))
    (.reg [
      ⟨(some 94), .bin .add (.t 74) (.c (.i 1)), none, []⟩,
      ⟨(some 74), .mov (.t 94), none, []⟩])))))))
  (.seq (.reg [
    ⟨(some 96), .mov (.t 14), none, []⟩,
    ⟨(some 97), .mov (.t 2), none, []⟩,
    ⟨(some 98), .call (.fn 190) [.t 96, .t 97], none, []⟩,
    ⟨(some 95), .mov (.t 98), none, []⟩,
    ⟨(some 99), .ext (.t 95) 0, none, []⟩,
    ⟨(some 100), .ext (.t 95) 1, none, []⟩,
    ⟨(some 20), .mov (.t 99), none, []⟩,
    ⟨(some 12), .mov (.t 100), none, []⟩])
  (.seq (.seq (.reg [
    ⟨(some 101), .mov (.t 20), none, []⟩,
    ⟨(some 102), .len false (.t 101), none, []⟩,
    ⟨(some 103), .mov (.c (.i 0)), none, []⟩])
  (.block 2 (.loop (.seq (.reg [
      ⟨(some 104), .bin .lss (.t 103) (.t 102), none, []⟩])
    (.seq (.cond (.t 104) (.skip) (.exit 2))
    (.seq (.block 3 (.seq (.reg [
       ⟨(some 105), .iaddr 2 (.t 101) (.t 103), none, []⟩,
       ⟨(some 106), .load true 2 (.t 105), none, []⟩,
       ⟨(some 22), .alloc [.i 0, .i 0] 311, none, []⟩,
       ⟨none, .store 2 (.t 22) (.t 106), none, []⟩])
     (.reg [
       ⟨(some 107), .mov (.t 15), none, []⟩,
       ⟨(some 108), .nilck (.t 107), none, []⟩,
       ⟨(some 109), .faddr 4 (.t 108), none, []⟩,
       ⟨(some 110), .load false 1 (.t 109), none, []⟩,
       ⟨(some 111), .faddr 0 (.t 22), none, []⟩,
       ⟨(some 112), .load false 1 (.t 111), none, []⟩,
       ⟨(some 113), .mov (.t 15), none, []⟩,
       ⟨(some 114), .nilck (.t 113), none, []⟩,
       ⟨(some 115), .faddr 4 (.t 114), none, []⟩,
       ⟨(some 116), .load false 1 (.t 115), none, []⟩,
       ⟨(some 117), .faddr 0 (.t 22), none, []⟩,
       ⟨(some 118), .load false 1 (.t 117), none, []⟩,
       ⟨(some 119), .iaddr 1 (.t 116) (.t 118), none, []⟩,
       ⟨(some 120), .load false 1 (.t 119), none, []⟩,
       ⟨(some 121), .faddr 1 (.t 22), none, []⟩,
       ⟨(some 122), .load false 1 (.t 121), none, []⟩,
       ⟨(some 123), .bslice 1 [.i 0] 1 [(0, 1, (.t 122))], none, []⟩,
       ⟨(some 124), .append 1 8 [.i 0] 3 (.t 120) (.t 123), none, [(110, .load false 1 (.t 109), none), (112, .load false 1 (.t 111), none)]⟩,
       ⟨(some 125), .iaddr 1 (.t 110) (.t 112), none, []⟩,
       ⟨none, .store 1 (.t 125) (.t 124), none, []⟩])))
    (.reg [
      ⟨(some 126), .bin .add (.t 103) (.c (.i 1)), none, []⟩,
      ⟨(some 103), .mov (.t 126), none, []⟩])))))))
  (.seq (.reg [
    ⟨(some 127), .mov (.t 15), none, []⟩,
    ⟨(some 128), .mov (.t 12), none, []⟩,
    ⟨(some 8), .mov (.t 127), none, []⟩,
    ⟨(some 9), .mov (.t 128), none, []⟩])
  (.ret)))))))))))))))⟩
theorem r154_is : IsFn Tryz.prog 154 r154 := ⟨Tryz.f154, by kernel_rfl, by kernel_rfl⟩
/-- (*errata/search.run).ends -/
def r155 : RFn := ⟨4, [.t 2], .seq (.reg [
    ⟨(some 1), .box (.t 0), none, []⟩,
    ⟨(some 2), .mov (.c (.v (.nilFunc))), none, []⟩])
  (.seq (.reg [
    ⟨(some 3), .mkfn 191 [.t 1], none, []⟩,
    ⟨(some 2), .mov (.t 3), none, []⟩])
  (.ret))⟩
theorem r155_is : IsFn Tryz.prog 155 r155 := ⟨Tryz.f155, by kernel_rfl, by kernel_rfl⟩
/-- (*errata/dawg.Dawg).Word -/
def r156 : RFn := ⟨87, [.c 4 true 2, .t 5], .seq (.reg [
    ⟨(some 4), .alloc [.v (.string ⟨#[]⟩), .i 0] 53, none, []⟩,
    ⟨(some 5), .mov (.c (.i 0)), none, []⟩])
  (.scope (.seq (.block 0 (.seq (.reg [
      ⟨(some 13), .mov (.t 0), none, []⟩,
      ⟨(some 14), .eqp false (.t 13) (.c (.nilp)), none, []⟩,
      ⟨(some 12), .mov (.t 14), none, []⟩])
    (.cond (.t 12) (.seq (.reg [
       ⟨(some 15), .build [.v (.string ⟨#[]⟩), .i 0] [], none, []⟩,
       ⟨none, .store 2 (.t 4) (.t 15), none, []⟩,
       ⟨(some 5), .mov (.c (.i 1)), none, []⟩])
     (.ret)) (.seq (.reg [
       ⟨(some 17), .mov (.t 1), none, []⟩,
       ⟨(some 18), .bin .lss (.t 17) (.c (.i 0)), none, []⟩,
       ⟨(some 19), .mov (.t 18), none, []⟩,
       ⟨(some 20), .mov (.t 1), (some (19, false)), []⟩,
       ⟨(some 21), .mov (.t 0), (some (19, false)), []⟩,
       ⟨(some 22), .nilck (.t 21), (some (19, false)), []⟩,
       ⟨(some 23), .faddr 2 (.t 22), (some (19, false)), []⟩,
       ⟨(some 24), .load false 1 (.t 23), (some (19, false)), []⟩,
       ⟨(some 25), .len false (.t 24), (some (19, false)), []⟩,
       ⟨(some 26), .bin .geq (.t 20) (.t 25), (some (19, false)), []⟩,
       ⟨(some 27), .pick (.t 19) (.c (.b true)) (.t 26), none, []⟩,
       ⟨(some 16), .mov (.t 27), none, []⟩])
     (.cond (.t 16) (.seq (.reg [
        ⟨(some 28), .build [.v (.string ⟨#[]⟩), .i 0] [], none, []⟩,
        ⟨none, .store 2 (.t 4) (.t 28), none, []⟩,
        ⟨(some 5), .mov (.c (.i 2)), none, []⟩])
      (.ret)) (.skip))))))
   (.seq (.reg [
     ⟨(some 6), .mov (.c (.nils)), none, []⟩])
   (.seq (.reg [
     ⟨(some 29), .mov (.t 0), none, []⟩,
     ⟨(some 30), .nilck (.t 29), none, []⟩,
     ⟨(some 31), .faddr 0 (.t 30), none, []⟩,
     ⟨(some 32), .load false 1 (.t 31), none, []⟩,
     ⟨(some 33), .iaddr 3 (.t 32) (.c (.i 0)), none, []⟩,
     ⟨(some 34), .mov (.t 1), none, []⟩,
     ⟨(some 7), .mov (.t 33), none, []⟩,
     ⟨(some 8), .mov (.t 34), none, []⟩])
   (.seq (.skip)
   (.seq (.block 1 (.loop (.block 2 (.seq (.seq (.reg [
        ⟨(some 35), .mov (.t 7), none, []⟩,
        ⟨(some 36), .nilck (.t 35), none, []⟩,
        ⟨(some 37), .faddr 1 (.t 36), none, []⟩,
        ⟨(some 38), .load false 1 (.t 37), none, []⟩])
      (.cond (.t 38) (.seq (.seq (.reg [
         ⟨(some 39), .mov (.t 8), none, []⟩,
         ⟨(some 40), .bin .eql (.t 39) (.c (.i 0)), none, []⟩])
       (.cond (.t 40) (.exit 1) (.skip)))
       (.reg [
         ⟨(some 41), .mov (.t 8), none, []⟩,
         ⟨(some 42), .bin .sub (.t 41) (.c (.i 1)), none, []⟩,
         ⟨(some 8), .mov (.t 42), none, []⟩])) (.skip)))
      (.seq (.seq (.reg [
        ⟨(some 43), .mov (.t 7), none, []⟩,
        ⟨(some 44), .nilck (.t 43), none, []⟩,
        ⟨(some 45), .faddr 0 (.t 44), none, []⟩,
        ⟨(some 46), .load false 1 (.t 45), none, []⟩,
        ⟨(some 47), .len false (.t 46), none, []⟩,
        ⟨(some 48), .mov (.c (.i 0)), none, []⟩])
      (.block 3 (.loop (.seq (.reg [
          ⟨(some 49), .bin .lss (.t 48) (.t 47), none, []⟩])
        (.seq (.cond (.t 49) (.skip) (.exit 3))
        (.seq (.block 4 (.seq (.reg [
           ⟨(some 50), .iaddr 2 (.t 46) (.t 48), none, []⟩,
           ⟨(some 51), .load true 2 (.t 50), none, []⟩,
           ⟨(some 10), .alloc [.v (.int .i32 0), .i 0] 190, none, []⟩,
           ⟨none, .store 2 (.t 10) (.t 51), none, []⟩])
         (.seq (.reg [
           ⟨(some 52), .mov (.t 0), none, []⟩,
           ⟨(some 53), .nilck (.t 52), none, []⟩,
           ⟨(some 54), .faddr 0 (.t 53), none, []⟩,
           ⟨(some 55), .load false 1 (.t 54), none, []⟩,
           ⟨(some 56), .faddr 1 (.t 10), none, []⟩,
           ⟨(some 57), .load false 1 (.t 56), none, []⟩,
           ⟨(some 58), .iaddr 3 (.t 55) (.t 57), none, []⟩,
           ⟨(some 11), .mov (.t 58), none, []⟩])
         (.seq (.seq (.reg [
           ⟨(some 59), .mov (.t 8), none, []⟩,
           ⟨(some 60), .mov (.t 11), none, []⟩,
           ⟨(some 61), .nilck (.t 60), none, []⟩,
           ⟨(some 62), .faddr 2 (.t 61), none, []⟩,
           ⟨(some 63), .load false 1 (.t 62), none, []⟩,
           ⟨(some 64), .bin .lss (.t 59) (.t 63), none, []⟩])
         (.cond (.t 64) (.seq (.reg [
            ⟨(some 65), .mov (.t 6), none, []⟩,
            ⟨(some 66), .faddr 0 (.t 10), none, []⟩,
            ⟨(some 67), .load false 1 (.t 66), none, []⟩,
            ⟨(some 68), .call (.fn 185) [.t 65, .t 67], none, []⟩,
            ⟨(some 6), .mov (.t 68), none, []⟩])
          (.seq (.reg [
            ⟨(some 69), .mov (.t 11), none, []⟩,
            ⟨(some 7), .mov (.t 69), none, []⟩])
          (.exit 2))) (.skip)))
         (.reg [
           ⟨(some 70), .mov (.t 8), none, []⟩,
           ⟨(some 71), .mov (.t 11), none, []⟩,
           ⟨(some 72), .nilck (.t 71), none, []⟩,
           ⟨(some 73), .faddr 2 (.t 72), none, []⟩,
           ⟨(some 74), .load false 1 (.t 73), none, []⟩,
           ⟨(some 75), .bin .sub (.t 70) (.t 74), none, []⟩,
           ⟨(some 8), .mov (.t 75), none, []⟩])))))
        (.reg [
          ⟨(some 76), .bin .add (.t 48) (.c (.i 1)), none, []⟩,
          ⟨(some 48), .mov (.t 76), none, []⟩])))))))
      (.exit 1))))))
   (.seq (.reg [
     ⟨(some 77), .mov (.t 6), none, []⟩,
     ⟨(some 78), .cvbs (.t 77), none, []⟩,
     ⟨(some 79), .mov (.t 0), none, []⟩,
     ⟨(some 80), .nilck (.t 79), none, []⟩,
     ⟨(some 81), .faddr 2 (.t 80), none, []⟩,
     ⟨(some 82), .load false 1 (.t 81), none, []⟩,
     ⟨(some 83), .mov (.t 1), none, []⟩,
     ⟨(some 84), .iaddr 1 (.t 82) (.t 83), none, []⟩,
     ⟨(some 85), .load false 1 (.t 84), none, []⟩,
     ⟨(some 86), .build [.v (.string ⟨#[]⟩), .i 0] [(0, 1, (.t 78)), (1, 1, (.t 85))], none, []⟩,
     ⟨none, .store 2 (.t 4) (.t 86), none, []⟩,
     ⟨(some 5), .mov (.c (.i 0)), none, []⟩])
   (.ret))))))))⟩
theorem r156_is : IsFn Tryz.prog 156 r156 := ⟨Tryz.f156, by kernel_rfl, by kernel_rfl⟩
/-- slices.SortFunc[[]errata/api.Cand,errata/api.Cand] -/
def r157 : RFn := ⟨14, [], .seq (.reg [
    ⟨(some 5), .mov (.t 0), none, []⟩,
    ⟨(some 6), .len false (.t 5), none, []⟩,
    ⟨(some 4), .mov (.t 6), none, []⟩])
  (.reg [
    ⟨(some 7), .mov (.t 0), none, []⟩,
    ⟨(some 8), .mov (.t 4), none, []⟩,
    ⟨(some 9), .mov (.t 4), none, []⟩,
    ⟨(some 10), .cvi .u64 (.t 9), none, []⟩,
    ⟨(some 11), .call (.fn 197) [.t 10], none, []⟩,
    ⟨(some 12), .mov (.t 1), none, []⟩,
    ⟨(some 13), .call (.fn 196) [.t 7, .c (.i 0), .t 8, .t 11, .t 12], none, []⟩])⟩
theorem r157_is : IsFn Tryz.prog 157 r157 := ⟨Tryz.f157, by kernel_rfl, by kernel_rfl⟩
/-- errata/search.Search$1 -/
def r158 : RFn := ⟨10, [.t 4], .seq (.reg [
    ⟨(some 2), .box (.t 0), none, []⟩,
    ⟨(some 3), .box (.t 1), none, []⟩,
    ⟨(some 4), .mov (.c (.i 0)), none, []⟩])
  (.seq (.reg [
    ⟨(some 5), .faddr 0 (.t 2), none, []⟩,
    ⟨(some 6), .load false 1 (.t 5), none, []⟩,
    ⟨(some 7), .faddr 0 (.t 3), none, []⟩,
    ⟨(some 8), .load false 1 (.t 7), none, []⟩,
    ⟨(some 9), .call (.fn 159) [.t 6, .t 8], none, []⟩,
    ⟨(some 4), .mov (.t 9), none, []⟩])
  (.ret))⟩
theorem r158_is : IsFn Tryz.prog 158 r158 := ⟨Tryz.f158, by kernel_rfl, by kernel_rfl⟩
/-- cmp.Compare[string] -/
def r159 : RFn := ⟨20, [.t 4], .seq (.reg [
    ⟨(some 4), .mov (.c (.i 0)), none, []⟩])
  (.seq (.reg [
    ⟨(some 7), .mov (.t 0), none, []⟩,
    ⟨(some 8), .call (.fn 198) [.t 7], none, []⟩,
    ⟨(some 5), .mov (.t 8), none, []⟩])
  (.seq (.reg [
    ⟨(some 9), .mov (.t 1), none, []⟩,
    ⟨(some 10), .call (.fn 198) [.t 9], none, []⟩,
    ⟨(some 6), .mov (.t 10), none, []⟩])
  (.seq (.seq (.reg [
    ⟨(some 11), .mov (.t 5), none, []⟩])
  (.cond (.t 11) (.seq (.seq (.reg [
     ⟨(some 12), .mov (.t 6), none, []⟩])
   (.cond (.t 12) (.seq (.reg [
      ⟨(some 4), .mov (.c (.i 0)), none, []⟩])
    (.ret)) (.skip)))
   (.seq (.reg [
     ⟨(some 4), .mov (.c (.i (-1))), none, []⟩])
   (.ret))) (.skip)))
  (.seq (.seq (.reg [
    ⟨(some 13), .mov (.t 6), none, []⟩])
  (.cond (.t 13) (.seq (.reg [
     ⟨(some 4), .mov (.c (.i 1)), none, []⟩])
   (.ret)) (.skip)))
  (.seq (.seq (.reg [
    ⟨(some 14), .mov (.t 0), none, []⟩,
    ⟨(some 15), .mov (.t 1), none, []⟩,
    ⟨(some 16), .bin .lss (.t 14) (.t 15), none, []⟩])
  (.cond (.t 16) (.seq (.reg [
     ⟨(some 4), .mov (.c (.i (-1))), none, []⟩])
   (.ret)) (.skip)))
  (.seq (.seq (.reg [
    ⟨(some 17), .mov (.t 0), none, []⟩,
    ⟨(some 18), .mov (.t 1), none, []⟩,
    ⟨(some 19), .bin .gtr (.t 17) (.t 18), none, []⟩])
  (.cond (.t 19) (.seq (.reg [
     ⟨(some 4), .mov (.c (.i 1)), none, []⟩])
   (.ret)) (.skip)))
  (.seq (.reg [
    ⟨(some 4), .mov (.c (.i 0)), none, []⟩])
  (.ret))))))))⟩
theorem r159_is : IsFn Tryz.prog 159 r159 := ⟨Tryz.f159, by kernel_rfl, by kernel_rfl⟩
/-- errata/rank.compare -/
def r160 : RFn := ⟨22, [.t 4], .seq (.reg [
    ⟨(some 2), .box (.t 0), none, []⟩,
    ⟨(some 3), .box (.t 1), none, []⟩,
    ⟨(some 4), .mov (.c (.i 0)), none, []⟩])
  (.seq (.reg [
    ⟨(some 5), .faddr 1 (.t 2), none, []⟩,
    ⟨(some 6), .load false 1 (.t 5), none, []⟩,
    ⟨(some 7), .faddr 1 (.t 3), none, []⟩,
    ⟨(some 8), .load false 1 (.t 7), none, []⟩,
    ⟨(some 10), .faddr 2 (.t 3), none, []⟩,
    ⟨(some 11), .load false 1 (.t 10), none, []⟩,
    ⟨(some 12), .faddr 2 (.t 2), none, []⟩,
    ⟨(some 13), .load false 1 (.t 12), none, []⟩,
    ⟨(some 15), .faddr 0 (.t 2), none, []⟩,
    ⟨(some 16), .load false 1 (.t 15), none, []⟩,
    ⟨(some 17), .faddr 0 (.t 3), none, []⟩,
    ⟨(some 18), .load false 1 (.t 17), none, []⟩,
    ⟨(some 9), .call (.fn 199) [.t 6, .t 8], none, [(11, .load false 1 (.t 10), none), (13, .load false 1 (.t 12), none), (16, .load false 1 (.t 15), none), (18, .load false 1 (.t 17), none)]⟩,
    ⟨(some 14), .call (.fn 199) [.t 11, .t 13], none, [(16, .load false 1 (.t 15), none), (18, .load false 1 (.t 17), none)]⟩,
    ⟨(some 19), .call (.fn 159) [.t 16, .t 18], none, []⟩,
    ⟨(some 20), .bslice 1 [.i 0] 3 [(0, 1, (.t 9)), (1, 1, (.t 14)), (2, 1, (.t 19))], none, []⟩,
    ⟨(some 21), .call (.fn 183) [.t 20], none, []⟩,
    ⟨(some 4), .mov (.t 21), none, []⟩])
  (.ret))⟩
theorem r160_is : IsFn Tryz.prog 160 r160 := ⟨Tryz.f160, by kernel_rfl, by kernel_rfl⟩
/-- errata/block.Check -/
def r182 : RFn := ⟨38, [.t 2], .seq (.reg [
    ⟨(some 1), .box (.t 0), none, []⟩,
    ⟨(some 2), .mov (.c (.i 0)), none, []⟩])
  (.seq (.block 0 (.seq (.reg [
     ⟨(some 4), .faddr 0 (.t 1), none, []⟩,
     ⟨(some 5), .load false 1 (.t 4), none, []⟩,
     ⟨(some 6), .call (.fn 78) [.t 5], none, []⟩,
     ⟨(some 7), .un .not (.t 6), none, []⟩,
     ⟨(some 8), .mov (.t 7), none, []⟩,
     ⟨(some 9), .faddr 1 (.t 1), (some (8, false)), []⟩,
     ⟨(some 10), .load false 1 (.t 9), (some (8, false)), []⟩,
     ⟨(some 11), .call (.fn 78) [.t 10], (some (8, false)), []⟩,
     ⟨(some 12), .un .not (.t 11), (some (8, false)), []⟩,
     ⟨(some 13), .pick (.t 8) (.c (.b true)) (.t 12), none, []⟩,
     ⟨(some 3), .mov (.t 13), none, []⟩])
   (.cond (.t 3) (.seq (.reg [
      ⟨(some 2), .mov (.c (.i 3)), none, []⟩])
    (.ret)) (.seq (.reg [
      ⟨(some 15), .faddr 0 (.t 1), none, []⟩,
      ⟨(some 16), .load false 1 (.t 15), none, []⟩,
      ⟨(some 18), .faddr 1 (.t 1), none, []⟩,
      ⟨(some 19), .load false 1 (.t 18), none, []⟩,
      ⟨(some 17), .call (.fn 28) [.t 16], none, [(19, .load false 1 (.t 18), none)]⟩,
      ⟨(some 20), .call (.fn 28) [.t 19], none, []⟩,
      ⟨(some 21), .mnx true [.t 17, .t 20], none, []⟩,
      ⟨(some 22), .bin .gtr (.t 21) (.c (.i 3)), none, []⟩,
      ⟨(some 14), .mov (.t 22), none, []⟩])
    (.cond (.t 14) (.seq (.reg [
       ⟨(some 2), .mov (.c (.i 5)), none, []⟩])
     (.ret)) (.seq (.reg [
       ⟨(some 24), .faddr 0 (.t 1), none, []⟩,
       ⟨(some 25), .load false 1 (.t 24), none, []⟩,
       ⟨(some 26), .faddr 1 (.t 1), none, []⟩,
       ⟨(some 27), .load false 1 (.t 26), none, []⟩,
       ⟨(some 28), .bin .eql (.t 25) (.t 27), none, []⟩,
       ⟨(some 23), .mov (.t 28), none, []⟩])
     (.cond (.t 23) (.seq (.reg [
        ⟨(some 2), .mov (.c (.i 7)), none, []⟩])
      (.ret)) (.seq (.reg [
        ⟨(some 30), .faddr 2 (.t 1), none, []⟩,
        ⟨(some 31), .load false 1 (.t 30), none, []⟩,
        ⟨(some 32), .bin .lss (.t 31) (.c (.i 1)), none, []⟩,
        ⟨(some 33), .mov (.t 32), none, []⟩,
        ⟨(some 34), .faddr 2 (.t 1), (some (33, false)), []⟩,
        ⟨(some 35), .load false 1 (.t 34), (some (33, false)), []⟩,
        ⟨(some 36), .bin .gtr (.t 35) (.c (.i 1073741824)), (some (33, false)), []⟩,
        ⟨(some 37), .pick (.t 33) (.c (.b true)) (.t 36), none, []⟩,
        ⟨(some 29), .mov (.t 37), none, []⟩])
      (.cond (.t 29) (.seq (.reg [
         ⟨(some 2), .mov (.c (.i 2)), none, []⟩])
       (.ret)) (.skip))))))))))
  (.seq (.reg [
    ⟨(some 2), .mov (.c (.i 0)), none, []⟩])
  (.ret)))⟩
theorem r182_is : IsFn Tryz.prog 182 r182 := ⟨Tryz.f182, by kernel_rfl, by kernel_rfl⟩
/-- cmp.Or[int] -/
def r183 : RFn := ⟨18, [.t 2], .seq (.reg [
    ⟨(some 2), .mov (.c (.i 0)), none, []⟩])
  (.seq (.reg [
    ⟨(some 3), .mov (.c (.i 0)), none, []⟩])
  (.seq (.seq (.reg [
    ⟨(some 6), .mov (.t 0), none, []⟩,
    ⟨(some 7), .len false (.t 6), none, []⟩,
    ⟨(some 8), .mov (.c (.i 0)), none, []⟩])
  (.block 0 (.loop (.seq (.reg [
      ⟨(some 9), .bin .lss (.t 8) (.t 7), none, []⟩])
    (.seq (.cond (.t 9) (.skip) (.exit 0))
    (.seq (.block 1 (.seq (.reg [
       ⟨(some 10), .iaddr 1 (.t 6) (.t 8), none, []⟩,
       ⟨(some 11), .load false 1 (.t 10), none, []⟩,
       ⟨(some 5), .mov (.t 11), none, []⟩])
     (.seq (.reg [
       ⟨(some 12), .mov (.t 5), none, []⟩,
       ⟨(some 13), .mov (.t 3), none, []⟩,
       ⟨(some 14), .bin .neq (.t 12) (.t 13), none, []⟩])
     (.cond (.t 14) (.seq (.reg [
        ⟨(some 15), .mov (.t 5), none, []⟩,
        ⟨(some 2), .mov (.t 15), none, []⟩])
      (.ret)) (.skip)))))
    (.reg [
      ⟨(some 16), .bin .add (.t 8) (.c (.i 1)), none, []⟩,
      ⟨(some 8), .mov (.t 16), none, []⟩])))))))
  (.seq (.reg [
    ⟨(some 17), .mov (.t 3), none, []⟩,
    ⟨(some 2), .mov (.t 17), none, []⟩])
  (.ret))))⟩
theorem r183_is : IsFn Tryz.prog 183 r183 := ⟨Tryz.f183, by kernel_rfl, by kernel_rfl⟩
/-- errata/runes.all$1 -/
def r184 : RFn := ⟨26, [], .block 0 (.loop (.seq (.seq (.reg [
      ⟨(some 5), .load false 1 (.t 1), none, []⟩,
      ⟨(some 6), .len true (.t 5), none, []⟩,
      ⟨(some 7), .bin .gtr (.t 6) (.c (.i 0)), none, []⟩])
    (.cond (.t 7) (.skip) (.exit 0)))
    (.block 1 (.seq (.reg [
       ⟨(some 9), .load false 1 (.t 1), none, []⟩,
       ⟨(some 10), .call (.fn 69) [.t 9], none, []⟩,
       ⟨(some 8), .mov (.t 10), none, []⟩,
       ⟨(some 11), .ext (.t 8) 0, none, []⟩,
       ⟨(some 12), .ext (.t 8) 1, none, []⟩,
       ⟨(some 3), .mov (.t 11), none, []⟩,
       ⟨(some 4), .mov (.t 12), none, []⟩])
     (.seq (.seq (.reg [
       ⟨(some 13), .mov (.t 0), none, []⟩,
       ⟨(some 14), .mov (.t 3), none, []⟩,
       ⟨(some 15), .mov (.t 3), none, []⟩,
       ⟨(some 16), .bin .neq (.t 15) (.c (.v (.int .i32 65533))), none, []⟩,
       ⟨(some 17), .mov (.t 16), none, []⟩,
       ⟨(some 18), .mov (.t 4), (some (17, false)), []⟩,
       ⟨(some 19), .bin .gtr (.t 18) (.c (.i 1)), (some (17, false)), []⟩,
       ⟨(some 20), .pick (.t 17) (.c (.b true)) (.t 19), none, []⟩,
       ⟨(some 21), .call (.val (.t 13)) [.t 14, .t 20], none, []⟩,
       ⟨(some 22), .un .not (.t 21), none, []⟩])
     (.cond (.t 22) (.ret) (.skip)))
     (.reg [
       ⟨(some 23), .load false 1 (.t 1), none, []⟩,
       ⟨(some 24), .mov (.t 4), none, []⟩,
       ⟨(some 25), .slc true 0 (.t 23) (some (.t 24)) none none, none, []⟩,
       ⟨none, .store 1 (.t 1) (.t 25), none, []⟩]))))))⟩
theorem r184_is : IsFn Tryz.prog 184 r184 := ⟨Tryz.f184, by kernel_rfl, by kernel_rfl⟩
/-- unicode/utf8.AppendRune -/
def r185 : RFn := ⟨16, [.t 4], .seq (.reg [
    ⟨(some 4), .mov (.c (.nils)), none, []⟩])
  (.seq (.seq (.reg [
    ⟨(some 5), .mov (.t 1), none, []⟩,
    ⟨(some 6), .cvi .u32 (.t 5), none, []⟩,
    ⟨(some 7), .bin .leq (.t 6) (.c (.v (.int .u32 127))), none, []⟩])
  (.cond (.t 7) (.seq (.reg [
     ⟨(some 8), .mov (.t 0), none, []⟩,
     ⟨(some 9), .mov (.t 1), none, []⟩,
     ⟨(some 10), .cvi .u8 (.t 9), none, []⟩,
     ⟨(some 11), .bslice 1 [.v (.int .u8 0)] 1 [(0, 1, (.t 10))], none, []⟩,
     ⟨(some 12), .append 1 1 [.v (.int .u8 0)] 5 (.t 8) (.t 11), none, []⟩,
     ⟨(some 4), .mov (.t 12), none, []⟩])
   (.ret)) (.skip)))
  (.seq (.reg [
    ⟨(some 13), .mov (.t 0), none, []⟩,
    ⟨(some 14), .mov (.t 1), none, []⟩,
    ⟨(some 15), .call (.fn 218) [.t 13, .t 14], none, []⟩,
    ⟨(some 4), .mov (.t 15), none, []⟩])
  (.ret)))⟩
theorem r185_is : IsFn Tryz.prog 185 r185 := ⟨Tryz.f185, by kernel_rfl, by kernel_rfl⟩
/-- slices.BinarySearchFunc[[]errata/dawg.Edge,errata/dawg.Edge,int32] -/
def r186 : RFn := ⟨49, [.t 6, .t 7], .seq (.reg [
    ⟨(some 6), .mov (.c (.i 0)), none, []⟩,
    ⟨(some 7), .mov (.c (.b false)), none, []⟩])
  (.seq (.reg [
    ⟨(some 12), .mov (.t 0), none, []⟩,
    ⟨(some 13), .len false (.t 12), none, []⟩,
    ⟨(some 8), .mov (.t 13), none, []⟩])
  (.seq (.reg [
    ⟨(some 14), .mov (.t 8), none, []⟩,
    ⟨(some 9), .mov (.c (.i 0)), none, []⟩,
    ⟨(some 10), .mov (.t 14), none, []⟩])
  (.seq (.block 0 (.loop (.seq (.seq (.reg [
      ⟨(some 15), .mov (.t 9), none, []⟩,
      ⟨(some 16), .mov (.t 10), none, []⟩,
      ⟨(some 17), .bin .lss (.t 15) (.t 16), none, []⟩])
    (.cond (.t 17) (.skip) (.exit 0)))
    (.block 1 (.seq (.reg [
       ⟨(some 18), .mov (.t 9), none, []⟩,
       ⟨(some 19), .mov (.t 10), none, []⟩,
       ⟨(some 20), .bin .add (.t 18) (.t 19), none, []⟩,
       ⟨(some 21), .cvi .u64 (.t 20), none, []⟩,
       ⟨(some 22), .bin .shr (.t 21) (.c (.v (.int .u64 1))), none, []⟩,
       ⟨(some 23), .cvi .i64 (.t 22), none, []⟩,
       ⟨(some 11), .mov (.t 23), none, []⟩])
     (.seq (.reg [
       ⟨(some 24), .mov (.t 2), none, []⟩,
       ⟨(some 25), .mov (.t 0), none, []⟩,
       ⟨(some 26), .mov (.t 11), none, []⟩,
       ⟨(some 27), .iaddr 2 (.t 25) (.t 26), none, []⟩,
       ⟨(some 28), .load true 2 (.t 27), none, []⟩,
       ⟨(some 29), .mov (.t 1), none, []⟩,
       ⟨(some 30), .call (.val (.t 24)) [.t 28, .t 29], none, []⟩,
       ⟨(some 31), .bin .lss (.t 30) (.c (.i 0)), none, []⟩])
     (.cond (.t 31) (.reg [
        ⟨(some 32), .mov (.t 11), none, []⟩,
        ⟨(some 33), .bin .add (.t 32) (.c (.i 1)), none, []⟩,
        ⟨(some 9), .mov (.t 33), none, []⟩]) (.reg [
        ⟨(some 34), .mov (.t 11), none, []⟩,
        ⟨(some 10), .mov (.t 34), none, []⟩]))))))))
  (.seq (.reg [
    ⟨(some 35), .mov (.t 9), none, []⟩,
    ⟨(some 36), .mov (.t 9), none, []⟩,
    ⟨(some 37), .mov (.t 8), none, []⟩,
    ⟨(some 38), .bin .lss (.t 36) (.t 37), none, []⟩,
    ⟨(some 39), .mov (.t 38), none, []⟩,
    ⟨(some 40), .mov (.t 2), (some (39, true)), []⟩,
    ⟨(some 41), .mov (.t 0), (some (39, true)), []⟩,
    ⟨(some 42), .mov (.t 9), (some (39, true)), []⟩,
    ⟨(some 43), .iaddr 2 (.t 41) (.t 42), (some (39, true)), []⟩,
    ⟨(some 44), .load true 2 (.t 43), (some (39, true)), []⟩,
    ⟨(some 45), .mov (.t 1), (some (39, true)), []⟩,
    ⟨(some 46), .call (.val (.t 40)) [.t 44, .t 45], (some (39, true)), []⟩,
    ⟨(some 47), .bin .eql (.t 46) (.c (.i 0)), (some (39, true)), []⟩,
    ⟨(some 48), .pick (.t 39) (.t 47) (.c (.b false)), none, []⟩,
    ⟨(some 6), .mov (.t 35), none, []⟩,
    ⟨(some 7), .mov (.t 48), none, []⟩])
  (.ret)))))⟩
theorem r186_is : IsFn Tryz.prog 186 r186 := ⟨Tryz.f186, by kernel_rfl, by kernel_rfl⟩
/-- (*errata/dawg.state).find$1 -/
def r187 : RFn := ⟨11, [.t 4], .seq (.reg [
    ⟨(some 2), .box (.t 0), none, []⟩,
    ⟨(some 4), .mov (.c (.i 0)), none, []⟩])
  (.seq (.reg [
    ⟨(some 5), .faddr 0 (.t 2), none, []⟩,
    ⟨(some 6), .load false 1 (.t 5), none, []⟩,
    ⟨(some 7), .cvi .i64 (.t 6), none, []⟩,
    ⟨(some 8), .mov (.t 1), none, []⟩,
    ⟨(some 9), .cvi .i64 (.t 8), none, []⟩,
    ⟨(some 10), .bin .sub (.t 7) (.t 9), none, []⟩,
    ⟨(some 4), .mov (.t 10), none, []⟩])
  (.ret))⟩
theorem r187_is : IsFn Tryz.prog 187 r187 := ⟨Tryz.f187, by kernel_rfl, by kernel_rfl⟩
/-- errata/bucket.New -/
def r188 : RFn := ⟨13, [.t 2, .t 3], .seq (.reg [
    ⟨(some 2), .mov (.c (.nilp)), none, []⟩,
    ⟨(some 3), .mov (.c (.i 0)), none, []⟩])
  (.seq (.seq (.reg [
    ⟨(some 4), .mov (.t 0), none, []⟩,
    ⟨(some 5), .bin .lss (.t 4) (.c (.i 0)), none, []⟩,
    ⟨(some 6), .mov (.t 5), none, []⟩,
    ⟨(some 7), .mov (.t 0), (some (6, false)), []⟩,
    ⟨(some 8), .bin .gtr (.t 7) (.c (.i 4351)), (some (6, false)), []⟩,
    ⟨(some 9), .pick (.t 6) (.c (.b true)) (.t 8), none, []⟩])
  (.cond (.t 9) (.seq (.reg [
     ⟨(some 2), .mov (.c (.nilp)), none, []⟩,
     ⟨(some 3), .mov (.c (.i 2)), none, []⟩])
   (.ret)) (.skip)))
  (.seq (.reg [
    ⟨(some 10), .mov (.t 0), none, []⟩,
    ⟨(some 11), .build [.nils, .i 0, .i 0, .i 0] [(1, 1, (.t 10))], none, []⟩,
    ⟨(some 12), .box (.t 11), none, []⟩,
    ⟨(some 2), .mov (.t 12), none, []⟩,
    ⟨(some 3), .mov (.c (.i 0)), none, []⟩])
  (.ret)))⟩
theorem r188_is : IsFn Tryz.prog 188 r188 := ⟨Tryz.f188, by kernel_rfl, by kernel_rfl⟩
/-- errata/match.New -/
def r189 : RFn := ⟨44, [.t 2, .t 3], .seq (.reg [
    ⟨(some 2), .mov (.c (.nilp)), none, []⟩,
    ⟨(some 3), .mov (.c (.i 0)), none, []⟩])
  (.seq (.seq (.reg [
    ⟨(some 10), .mov (.t 0), none, []⟩,
    ⟨(some 11), .call (.fn 72) [.t 10], none, []⟩,
    ⟨(some 4), .mov (.t 11), none, []⟩])
  (.seq (.reg [
    ⟨(some 12), .mov (.t 4), none, []⟩,
    ⟨(some 13), .bin .neq (.t 12) (.c (.i 0)), none, []⟩])
  (.cond (.t 13) (.seq (.reg [
     ⟨(some 14), .mov (.t 4), none, []⟩,
     ⟨(some 2), .mov (.c (.nilp)), none, []⟩,
     ⟨(some 3), .mov (.t 14), none, []⟩])
   (.ret)) (.skip))))
  (.seq (.reg [
    ⟨(some 15), .mkmap, none, []⟩,
    ⟨(some 16), .build [.v (.map none), .i 0, .i 0, .nils] [(0, 1, (.t 15))], none, []⟩,
    ⟨(some 17), .bslice 4 [.v (.map none), .i 0, .i 0, .nils] 1 [(0, 4, (.t 16))], none, []⟩,
    ⟨(some 18), .build [.nils] [(0, 1, (.t 17))], none, []⟩,
    ⟨(some 19), .box (.t 18), none, []⟩,
    ⟨(some 5), .mov (.t 19), none, []⟩])
  (.seq (.seq (.reg [
    ⟨(some 20), .mov (.t 0), none, []⟩,
    ⟨(some 21), .len false (.t 20), none, []⟩,
    ⟨(some 22), .mov (.c (.i 0)), none, []⟩])
  (.block 0 (.loop (.seq (.reg [
      ⟨(some 23), .bin .lss (.t 22) (.t 21), none, []⟩])
    (.seq (.cond (.t 23) (.skip) (.exit 0))
    (.seq (.block 1 (.seq (.reg [
       ⟨(some 24), .mov (.t 22), none, []⟩,
       ⟨(some 25), .iaddr 3 (.t 20) (.t 22), none, []⟩,
       ⟨(some 26), .load true 3 (.t 25), none, []⟩,
       ⟨(some 7), .alloc [.v (.string ⟨#[]⟩), .v (.string ⟨#[]⟩), .i 0] 50, none, []⟩,
       ⟨(some 6), .mov (.t 24), none, []⟩,
       ⟨none, .store 3 (.t 7) (.t 26), none, []⟩])
     (.seq (.reg [
       ⟨(some 28), .faddr 0 (.t 7), none, []⟩,
       ⟨(some 29), .load false 1 (.t 28), none, []⟩,
       ⟨(some 30), .call (.fn 109) [.t 29], none, []⟩,
       ⟨(some 27), .mov (.t 30), none, []⟩,
       ⟨(some 31), .ext (.t 27) 0, none, []⟩,
       ⟨(some 32), .ext (.t 27) 1, none, []⟩,
       ⟨(some 8), .mov (.t 31), none, []⟩,
       ⟨(some 9), .mov (.t 32), none, []⟩])
     (.seq (.seq (.reg [
       ⟨(some 33), .mov (.t 9), none, []⟩,
       ⟨(some 34), .bin .neq (.t 33) (.c (.i 0)), none, []⟩])
     (.cond (.t 34) (.seq (.reg [
        ⟨(some 35), .mov (.t 9), none, []⟩,
        ⟨(some 2), .mov (.c (.nilp)), none, []⟩,
        ⟨(some 3), .mov (.t 35), none, []⟩])
      (.ret)) (.skip)))
     (.reg [
       ⟨(some 36), .mov (.t 5), none, []⟩,
       ⟨(some 37), .mov (.t 8), none, []⟩,
       ⟨(some 38), .mov (.t 6), none, []⟩,
       ⟨(some 39), .call (.fn 219) [.t 36, .t 37, .t 38], none, []⟩])))))
    (.reg [
      ⟨(some 40), .bin .add (.t 22) (.c (.i 1)), none, []⟩,
      ⟨(some 22), .mov (.t 40), none, []⟩])))))))
  (.seq (.reg [
    ⟨(some 41), .mov (.t 5), none, []⟩,
    ⟨(some 42), .call (.fn 220) [.t 41], none, []⟩])
  (.seq (.reg [
    ⟨(some 43), .mov (.t 5), none, []⟩,
    ⟨(some 2), .mov (.t 43), none, []⟩,
    ⟨(some 3), .mov (.c (.i 0)), none, []⟩])
  (.ret))))))⟩
theorem r189_is : IsFn Tryz.prog 189 r189 := ⟨Tryz.f189, by kernel_rfl, by kernel_rfl⟩
/-- (*errata/match.Machine).Hits -/
def r190 : RFn := ⟨69, [.t 4, .t 5], .seq (.reg [
    ⟨(some 4), .mov (.c (.nils)), none, []⟩,
    ⟨(some 5), .mov (.c (.i 0)), none, []⟩])
  (.seq (.seq (.reg [
    ⟨(some 14), .mov (.t 0), none, []⟩,
    ⟨(some 15), .eqp false (.t 14) (.c (.nilp)), none, []⟩])
  (.cond (.t 15) (.seq (.reg [
     ⟨(some 4), .mov (.c (.nils)), none, []⟩,
     ⟨(some 5), .mov (.c (.i 1)), none, []⟩])
   (.ret)) (.skip)))
  (.seq (.reg [
    ⟨(some 17), .mov (.t 1), none, []⟩,
    ⟨(some 18), .call (.fn 221) [.t 17], none, []⟩,
    ⟨(some 16), .mov (.t 18), none, []⟩,
    ⟨(some 19), .ext (.t 16) 0, none, []⟩,
    ⟨(some 20), .ext (.t 16) 1, none, []⟩,
    ⟨(some 6), .mov (.t 19), none, []⟩,
    ⟨(some 7), .mov (.t 20), none, []⟩])
  (.seq (.seq (.reg [
    ⟨(some 21), .mov (.t 7), none, []⟩,
    ⟨(some 22), .bin .neq (.t 21) (.c (.i 0)), none, []⟩])
  (.cond (.t 22) (.seq (.reg [
     ⟨(some 23), .mov (.t 7), none, []⟩,
     ⟨(some 4), .mov (.c (.nils)), none, []⟩,
     ⟨(some 5), .mov (.t 23), none, []⟩])
   (.ret)) (.skip)))
  (.seq (.reg [
    ⟨(some 8), .alloc [.nils] 307, none, []⟩])
  (.seq (.reg [
    ⟨(some 9), .mov (.c (.i 0)), none, []⟩])
  (.seq (.seq (.reg [
    ⟨(some 24), .mov (.t 6), none, []⟩,
    ⟨(some 25), .len false (.t 24), none, []⟩,
    ⟨(some 26), .bin .add (.t 25) (.c (.i 1)), none, []⟩,
    ⟨(some 27), .mov (.c (.i 0)), none, []⟩])
  (.block 0 (.loop (.seq (.reg [
      ⟨(some 28), .bin .lss (.t 27) (.t 26), none, []⟩])
    (.seq (.cond (.t 28) (.skip) (.exit 0))
    (.seq (.block 1 (.seq (.reg [
       ⟨(some 29), .mov (.t 27), none, []⟩,
       ⟨(some 10), .alloc [.i 0] 3, none, []⟩,
       ⟨none, .store 1 (.t 10) (.t 29), none, []⟩])
     (.seq (.seq (.reg [
       ⟨(some 30), .load false 1 (.t 10), none, []⟩,
       ⟨(some 31), .bin .gtr (.t 30) (.c (.i 0)), none, []⟩])
     (.cond (.t 31) (.reg [
        ⟨(some 32), .mov (.t 0), none, []⟩,
        ⟨(some 33), .mov (.t 9), none, []⟩,
        ⟨(some 34), .mov (.t 6), none, []⟩,
        ⟨(some 35), .load false 1 (.t 10), none, []⟩,
        ⟨(some 36), .bin .sub (.t 35) (.c (.i 1)), none, []⟩,
        ⟨(some 37), .iaddr 1 (.t 34) (.t 36), none, []⟩,
        ⟨(some 38), .load false 1 (.t 37), none, []⟩,
        ⟨(some 39), .call (.fn 222) [.t 32, .t 33, .t 38], none, []⟩,
        ⟨(some 9), .mov (.t 39), none, []⟩]) (.skip)))
     (.seq (.reg [
       ⟨(some 40), .mov (.t 0), none, []⟩,
       ⟨(some 41), .mov (.t 9), none, []⟩,
       ⟨(some 42), .call (.fn 223) [.t 40, .t 41], none, []⟩])
     (.block 2 (.rangef (.t 42) [43] (.reg [
         ⟨(some 11), .mov (.t 43), none, []⟩]) (.block 3 (.seq (.reg [
          ⟨(some 44), .mov (.t 11), none, []⟩,
          ⟨(some 45), .nilck (.t 44), none, []⟩,
          ⟨(some 46), .faddr 3 (.t 45), none, []⟩,
          ⟨(some 47), .load false 1 (.t 46), none, []⟩,
          ⟨(some 48), .len false (.t 47), none, []⟩,
          ⟨(some 49), .mov (.c (.i 0)), none, []⟩])
        (.block 4 (.loop (.seq (.reg [
            ⟨(some 50), .bin .lss (.t 49) (.t 48), none, []⟩])
          (.seq (.cond (.t 50) (.skip) (.exit 4))
          (.seq (.block 5 (.seq (.reg [
             ⟨(some 51), .iaddr 1 (.t 47) (.t 49), none, []⟩,
             ⟨(some 52), .load false 1 (.t 51), none, []⟩,
             ⟨(some 13), .mov (.t 52), none, []⟩])
           (.reg [
             ⟨(some 53), .load false 1 (.t 8), none, []⟩,
             ⟨(some 54), .load false 1 (.t 10), none, []⟩,
             ⟨(some 55), .mov (.t 11), none, []⟩,
             ⟨(some 56), .nilck (.t 55), none, []⟩,
             ⟨(some 57), .faddr 2 (.t 56), none, []⟩,
             ⟨(some 58), .load false 1 (.t 57), none, []⟩,
             ⟨(some 59), .bin .sub (.t 54) (.t 58), none, []⟩,
             ⟨(some 60), .mov (.t 13), none, []⟩,
             ⟨(some 61), .build [.i 0, .i 0] [(0, 1, (.t 59)), (1, 1, (.t 60))], none, []⟩,
             ⟨(some 62), .bslice 2 [.i 0, .i 0] 1 [(0, 2, (.t 61))], none, []⟩,
             ⟨(some 63), .append 2 16 [.i 0, .i 0] 311 (.t 53) (.t 62), none, []⟩,
             ⟨none, .store 1 (.t 8) (.t 63), none, []⟩])))
          (.reg [
            ⟨(some 64), .bin .add (.t 49) (.c (.i 1)), none, []⟩,
            ⟨(some 49), .mov (.t 64), none, []⟩]))))))))))))))
    (.reg [
      ⟨(some 65), .bin .add (.t 27) (.c (.i 1)), none, []⟩,
      ⟨(some 27), .mov (.t 65), none, []⟩])))))))
  (.seq (.reg [
    ⟨(some 66), .load false 1 (.t 8), none, []⟩,
    ⟨(some 67), .call (.fn 224) [.t 66, .c (.fn 225 [])], none, []⟩])
  (.seq (.reg [
    ⟨(some 68), .load false 1 (.t 8), none, []⟩,
    ⟨(some 4), .mov (.t 68), none, []⟩,
    ⟨(some 5), .mov (.c (.i 0)), none, []⟩])
  (.ret)))))))))⟩
theorem r190_is : IsFn Tryz.prog 190 r190 := ⟨Tryz.f190, by kernel_rfl, by kernel_rfl⟩
/-- (*errata/search.run).ends$1 -/
def r191 : RFn := ⟨104, [], .scope (.seq (.reg [
     ⟨(some 9), .load false 1 (.t 1), none, []⟩,
     ⟨(some 10), .build [.i 0, .i 0, .v (.string ⟨#[]⟩)] [], none, []⟩,
     ⟨(some 11), .call (.fn 192) [.t 9, .t 10, .c (.i 0)], none, []⟩])
   (.seq (.reg [
     ⟨(some 3), .mov (.c (.i (-1))), none, []⟩])
   (.seq (.skip)
   (.block 0 (.loop (.block 1 (.seq (.reg [
        ⟨(some 13), .load false 1 (.t 1), none, []⟩,
        ⟨(some 14), .nilck (.t 13), none, []⟩,
        ⟨(some 15), .faddr 10 (.t 14), none, []⟩,
        ⟨(some 16), .load false 1 (.t 15), none, []⟩,
        ⟨(some 17), .call (.fn 193) [.t 16], none, []⟩,
        ⟨(some 12), .mov (.t 17), none, []⟩,
        ⟨(some 18), .ext (.t 12) 0, none, []⟩,
        ⟨(some 19), .ext (.t 12) 1, none, []⟩,
        ⟨(some 4), .alloc [.i 0, .i 0] 317, none, []⟩,
        ⟨none, .store 2 (.t 4) (.t 18), none, []⟩,
        ⟨(some 5), .mov (.t 19), none, []⟩])
      (.seq (.seq (.reg [
        ⟨(some 20), .mov (.t 5), none, []⟩,
        ⟨(some 21), .bin .neq (.t 20) (.c (.i 0)), none, []⟩])
      (.cond (.t 21) (.exit 0) (.skip)))
      (.seq (.seq (.reg [
        ⟨(some 22), .load false 1 (.t 1), none, []⟩,
        ⟨(some 23), .nilck (.t 22), none, []⟩,
        ⟨(some 24), .faddr 9 (.t 23), none, []⟩,
        ⟨(some 25), .load false 1 (.t 24), none, []⟩,
        ⟨(some 26), .faddr 1 (.t 4), none, []⟩,
        ⟨(some 27), .load false 1 (.t 26), none, []⟩,
        ⟨(some 28), .iaddr 1 (.t 25) (.t 27), none, []⟩,
        ⟨(some 29), .load false 1 (.t 28), none, []⟩])
      (.cond (.t 29) (.exit 1) (.skip)))
      (.seq (.reg [
        ⟨(some 30), .load false 1 (.t 1), none, []⟩,
        ⟨(some 31), .nilck (.t 30), none, []⟩,
        ⟨(some 32), .faddr 9 (.t 31), none, []⟩,
        ⟨(some 33), .load false 1 (.t 32), none, []⟩,
        ⟨(some 34), .faddr 1 (.t 4), none, []⟩,
        ⟨(some 35), .load false 1 (.t 34), none, []⟩,
        ⟨(some 36), .iaddr 1 (.t 33) (.t 35), none, []⟩,
        ⟨none, .store 1 (.t 36) (.c (.b true)), none, []⟩])
      (.seq (.reg [
        ⟨(some 37), .load false 1 (.t 1), none, []⟩,
        ⟨(some 38), .nilck (.t 37), none, []⟩,
        ⟨(some 39), .faddr 11 (.t 38), none, []⟩,
        ⟨(some 40), .faddr 0 (.t 39), none, []⟩,
        ⟨(some 41), .load false 1 (.t 40), none, []⟩,
        ⟨(some 42), .bin .add (.t 41) (.c (.i 1)), none, []⟩,
        ⟨(some 43), .nilck (.t 37), none, []⟩,
        ⟨(some 44), .faddr 11 (.t 43), none, []⟩,
        ⟨(some 45), .faddr 0 (.t 44), none, []⟩,
        ⟨none, .store 1 (.t 45) (.t 42), none, []⟩])
      (.seq (.seq (.reg [
        ⟨(some 46), .faddr 0 (.t 4), none, []⟩,
        ⟨(some 47), .load false 1 (.t 46), none, []⟩,
        ⟨(some 48), .mov (.t 3), none, []⟩,
        ⟨(some 49), .bin .neq (.t 47) (.t 48), none, []⟩])
      (.cond (.t 49) (.seq (.reg [
         ⟨(some 50), .faddr 0 (.t 4), none, []⟩,
         ⟨(some 51), .load false 1 (.t 50), none, []⟩,
         ⟨(some 3), .mov (.t 51), none, []⟩])
       (.reg [
         ⟨(some 52), .load false 1 (.t 1), none, []⟩,
         ⟨(some 53), .nilck (.t 52), none, []⟩,
         ⟨(some 54), .faddr 11 (.t 53), none, []⟩,
         ⟨(some 55), .faddr 2 (.t 54), none, []⟩,
         ⟨(some 56), .load false 1 (.t 55), none, []⟩,
         ⟨(some 57), .bin .add (.t 56) (.c (.i 1)), none, []⟩,
         ⟨(some 58), .nilck (.t 52), none, []⟩,
         ⟨(some 59), .faddr 11 (.t 58), none, []⟩,
         ⟨(some 60), .faddr 2 (.t 59), none, []⟩,
         ⟨none, .store 1 (.t 60) (.t 57), none, []⟩])) (.skip)))
      (.seq (.reg [
        ⟨(some 61), .load false 1 (.t 1), none, []⟩,
        ⟨(some 62), .nilck (.t 61), none, []⟩,
        ⟨(some 63), .faddr 6 (.t 62), none, []⟩,
        ⟨(some 64), .load false 1 (.t 63), none, []⟩,
        ⟨(some 65), .faddr 1 (.t 4), none, []⟩,
        ⟨(some 66), .load false 1 (.t 65), none, []⟩,
        ⟨(some 67), .iaddr 3 (.t 64) (.t 66), none, []⟩,
        ⟨(some 68), .load true 3 (.t 67), none, []⟩,
        ⟨(some 6), .alloc [.i 0, .i 0, .v (.string ⟨#[]⟩)] 315, none, []⟩,
        ⟨none, .store 3 (.t 6) (.t 68), none, []⟩])
      (.seq (.reg [
        ⟨(some 70), .load false 1 (.t 1), none, []⟩,
        ⟨(some 71), .nilck (.t 70), none, []⟩,
        ⟨(some 72), .faddr 0 (.t 71), none, []⟩,
        ⟨(some 73), .load false 1 (.t 72), none, []⟩,
        ⟨(some 74), .faddr 1 (.t 6), none, []⟩,
        ⟨(some 75), .load false 1 (.t 74), none, []⟩,
        ⟨(some 76), .call (.fn 194) [.t 73, .t 75], none, []⟩,
        ⟨(some 69), .mov (.t 76), none, []⟩,
        ⟨(some 77), .ext (.t 69) 0, none, []⟩,
        ⟨(some 78), .ext (.t 69) 1, none, []⟩,
        ⟨(some 7), .mov (.t 77), none, []⟩,
        ⟨(some 8), .mov (.t 78), none, []⟩])
      (.seq (.seq (.reg [
        ⟨(some 79), .mov (.t 7), none, []⟩,
        ⟨(some 80), .mov (.t 79), none, []⟩,
        ⟨(some 83), .load false 1 (.t 1), (some (80, true)), []⟩,
        ⟨(some 81), .faddr 0 (.t 6), (some (80, true)), []⟩,
        ⟨(some 82), .load false 1 (.t 81), (some (80, true)), []⟩,
        ⟨(some 84), .nilck (.t 83), (some (80, true)), []⟩,
        ⟨(some 85), .faddr 2 (.t 84), (some (80, true)), []⟩,
        ⟨(some 86), .load false 1 (.t 85), (some (80, true)), []⟩,
        ⟨(some 87), .len false (.t 86), (some (80, true)), []⟩,
        ⟨(some 88), .bin .eql (.t 82) (.t 87), (some (80, true)), []⟩,
        ⟨(some 89), .pick (.t 80) (.t 88) (.c (.b false)), none, []⟩,
        ⟨(some 90), .mov (.t 89), none, []⟩,
        ⟨(some 91), .mov (.t 0), (some (90, true)), []⟩,
        ⟨(some 92), .faddr 2 (.t 6), (some (90, true)), []⟩,
        ⟨(some 93), .load false 1 (.t 92), (some (90, true)), []⟩,
        ⟨(some 94), .faddr 0 (.t 4), (some (90, true)), []⟩,
        ⟨(some 95), .load false 1 (.t 94), (some (90, true)), []⟩,
        ⟨(some 96), .call (.val (.t 91)) [.t 93, .t 95], (some (90, true)), []⟩,
        ⟨(some 97), .un .not (.t 96), (some (90, true)), []⟩,
        ⟨(some 98), .pick (.t 90) (.t 97) (.c (.b false)), none, []⟩])
      (.cond (.t 98) (.exit 0) (.skip)))
      (.reg [
        ⟨(some 99), .load false 1 (.t 1), none, []⟩,
        ⟨(some 100), .load true 3 (.t 6), none, []⟩,
        ⟨(some 101), .faddr 0 (.t 4), none, []⟩,
        ⟨(some 102), .load false 1 (.t 101), none, []⟩,
        ⟨(some 103), .call (.fn 195) [.t 99, .t 100, .t 102], none, []⟩]))))))))))))))))⟩
theorem r191_is : IsFn Tryz.prog 191 r191 := ⟨Tryz.f191, by kernel_rfl, by kernel_rfl⟩
/-- (*errata/search.run).relax -/
def r192 : RFn := ⟨97, [], .seq (.reg [
    ⟨(some 4), .box (.t 1), none, []⟩])
  (.seq (.reg [
    ⟨(some 8), .mov (.t 0), none, []⟩,
    ⟨(some 9), .nilck (.t 8), none, []⟩,
    ⟨(some 10), .faddr 11 (.t 9), none, []⟩,
    ⟨(some 11), .faddr 1 (.t 10), none, []⟩,
    ⟨(some 12), .load false 1 (.t 11), none, []⟩,
    ⟨(some 13), .bin .add (.t 12) (.c (.i 1)), none, []⟩,
    ⟨(some 14), .nilck (.t 8), none, []⟩,
    ⟨(some 15), .faddr 11 (.t 14), none, []⟩,
    ⟨(some 16), .faddr 1 (.t 15), none, []⟩,
    ⟨none, .store 1 (.t 16) (.t 13), none, []⟩])
  (.seq (.seq (.reg [
    ⟨(some 17), .mov (.t 2), none, []⟩,
    ⟨(some 18), .mov (.t 0), none, []⟩,
    ⟨(some 19), .nilck (.t 18), none, []⟩,
    ⟨(some 20), .faddr 5 (.t 19), none, []⟩,
    ⟨(some 21), .load false 1 (.t 20), none, []⟩,
    ⟨(some 22), .bin .gtr (.t 17) (.t 21), none, []⟩])
  (.cond (.t 22) (.ret) (.skip)))
  (.seq (.reg [
    ⟨(some 28), .load true 3 (.t 4), none, []⟩,
    ⟨(some 24), .mov (.t 0), none, []⟩,
    ⟨(some 25), .nilck (.t 24), none, []⟩,
    ⟨(some 26), .faddr 7 (.t 25), none, []⟩,
    ⟨(some 27), .load false 1 (.t 26), none, []⟩,
    ⟨(some 29), .lookup (.flat [.i, .i, .s]) (.i 0) true (.t 27) (.t 28), none, []⟩,
    ⟨(some 23), .mov (.t 29), none, []⟩,
    ⟨(some 30), .ext (.t 23) 0, none, []⟩,
    ⟨(some 31), .ext (.t 23) 1, none, []⟩,
    ⟨(some 6), .mov (.t 30), none, []⟩,
    ⟨(some 7), .mov (.t 31), none, []⟩])
  (.seq (.seq (.reg [
    ⟨(some 32), .mov (.t 7), none, []⟩,
    ⟨(some 33), .un .not (.t 32), none, []⟩])
  (.cond (.t 33) (.seq (.reg [
     ⟨(some 34), .mov (.t 0), none, []⟩,
     ⟨(some 35), .nilck (.t 34), none, []⟩,
     ⟨(some 36), .faddr 6 (.t 35), none, []⟩,
     ⟨(some 37), .load false 1 (.t 36), none, []⟩,
     ⟨(some 38), .len false (.t 37), none, []⟩,
     ⟨(some 6), .mov (.t 38), none, []⟩])
   (.seq (.reg [
     ⟨(some 43), .load true 3 (.t 4), none, []⟩,
     ⟨(some 39), .mov (.t 0), none, []⟩,
     ⟨(some 40), .nilck (.t 39), none, []⟩,
     ⟨(some 41), .faddr 7 (.t 40), none, []⟩,
     ⟨(some 42), .load false 1 (.t 41), none, []⟩,
     ⟨(some 44), .mov (.t 6), none, []⟩,
     ⟨none, .mapupd (.flat [.i, .i, .s]) (.t 42) (.t 43) (.t 44), none, []⟩])
   (.reg [
     ⟨(some 52), .load true 3 (.t 4), none, []⟩,
     ⟨(some 45), .mov (.t 0), none, []⟩,
     ⟨(some 46), .mov (.t 0), none, []⟩,
     ⟨(some 47), .mov (.t 0), none, []⟩,
     ⟨(some 48), .mov (.t 0), none, []⟩,
     ⟨(some 49), .nilck (.t 48), none, []⟩,
     ⟨(some 50), .faddr 6 (.t 49), none, []⟩,
     ⟨(some 51), .load false 1 (.t 50), none, []⟩,
     ⟨(some 55), .mov (.t 0), none, []⟩,
     ⟨(some 56), .nilck (.t 55), none, []⟩,
     ⟨(some 57), .faddr 8 (.t 56), none, []⟩,
     ⟨(some 58), .load false 1 (.t 57), none, []⟩,
     ⟨(some 59), .mov (.t 2), none, []⟩,
     ⟨(some 62), .mov (.t 0), none, []⟩,
     ⟨(some 63), .nilck (.t 62), none, []⟩,
     ⟨(some 64), .faddr 9 (.t 63), none, []⟩,
     ⟨(some 65), .load false 1 (.t 64), none, []⟩,
     ⟨(some 53), .bslice 3 [.i 0, .i 0, .v (.string ⟨#[]⟩)] 1 [(0, 3, (.t 52))], none, []⟩,
     ⟨(some 54), .append 3 32 [.i 0, .i 0, .v (.string ⟨#[]⟩)] 315 (.t 51) (.t 53), none, [(58, .load false 1 (.t 57), none), (65, .load false 1 (.t 64), none)]⟩,
     ⟨(some 60), .bslice 1 [.i 0] 1 [(0, 1, (.t 59))], none, []⟩,
     ⟨(some 61), .append 1 8 [.i 0] 3 (.t 58) (.t 60), none, [(65, .load false 1 (.t 64), none)]⟩,
     ⟨(some 66), .bslice 1 [.b false] 1 [(0, 1, (.c (.b false)))], none, []⟩,
     ⟨(some 67), .append 1 1 [.b false] 4 (.t 65) (.t 66), none, []⟩,
     ⟨(some 68), .nilck (.t 45), none, []⟩,
     ⟨(some 69), .faddr 6 (.t 68), none, []⟩,
     ⟨none, .store 1 (.t 69) (.t 54), none, []⟩,
     ⟨(some 70), .nilck (.t 46), none, []⟩,
     ⟨(some 71), .faddr 8 (.t 70), none, []⟩,
     ⟨none, .store 1 (.t 71) (.t 61), none, []⟩,
     ⟨(some 72), .nilck (.t 47), none, []⟩,
     ⟨(some 73), .faddr 9 (.t 72), none, []⟩,
     ⟨none, .store 1 (.t 73) (.t 67), none, []⟩]))) (.seq (.reg [
     ⟨(some 74), .mov (.t 0), none, []⟩,
     ⟨(some 75), .nilck (.t 74), none, []⟩,
     ⟨(some 76), .faddr 8 (.t 75), none, []⟩,
     ⟨(some 77), .load false 1 (.t 76), none, []⟩,
     ⟨(some 78), .mov (.t 6), none, []⟩,
     ⟨(some 79), .iaddr 1 (.t 77) (.t 78), none, []⟩,
     ⟨(some 80), .load false 1 (.t 79), none, []⟩,
     ⟨(some 81), .mov (.t 2), none, []⟩,
     ⟨(some 82), .bin .leq (.t 80) (.t 81), none, []⟩])
   (.cond (.t 82) (.ret) (.skip)))))
  (.seq (.reg [
    ⟨(some 83), .mov (.t 0), none, []⟩,
    ⟨(some 84), .nilck (.t 83), none, []⟩,
    ⟨(some 85), .faddr 8 (.t 84), none, []⟩,
    ⟨(some 86), .load false 1 (.t 85), none, []⟩,
    ⟨(some 87), .mov (.t 6), none, []⟩,
    ⟨(some 88), .mov (.t 2), none, []⟩,
    ⟨(some 89), .iaddr 1 (.t 86) (.t 87), none, []⟩,
    ⟨none, .store 1 (.t 89) (.t 88), none, []⟩])
  (.reg [
    ⟨(some 90), .mov (.t 0), none, []⟩,
    ⟨(some 91), .nilck (.t 90), none, []⟩,
    ⟨(some 92), .faddr 10 (.t 91), none, []⟩,
    ⟨(some 93), .load false 1 (.t 92), none, []⟩,
    ⟨(some 94), .mov (.t 2), none, []⟩,
    ⟨(some 95), .mov (.t 6), none, []⟩,
    ⟨(some 96), .call (.fn 226) [.t 93, .t 94, .t 95], none, []⟩]))))))⟩
theorem r192_is : IsFn Tryz.prog 192 r192 := ⟨Tryz.f192, by kernel_rfl, by kernel_rfl⟩
end Go.Proofs.YtdajenjajmofiaaGreatDoor
