/- The abstract form of this seat's functions, printed by a program of this session. -/
import Derived.Test.YtalnnbokmpppjaaAbProg
namespace Go.Proofs.YtalnnbokmpppjaaAb
open Go Go.RowKit
set_option maxRecDepth 100000
noncomputable def ir := irOf [] Try.prog
/-! cutroom/cutroomlaw07.PlaneFormed -/
def f3 : F := ⟨21, 1,
 (.seq
  (.reg false [
   ⟨(some 1), .box (.t 0), none, 0, false⟩,
   ⟨(some 2), .mov (.k (.bool false)), none, 0, false⟩])
  (.seq
   (.seq
    (.reg false [
     ⟨(some 3), .load (some 5) (.t 1), none, 0, false⟩,
     ⟨(some 4), .call 13 [(.t 3)], none, 0, false⟩,
     ⟨(some 5), .un .not (.t 4), none, 0, false⟩])
    (.cond (.t 5)
     (.seq
      (.reg false [
       ⟨(some 2), .mov (.k (.bool true)), none, 0, false⟩])
      .ret)
     .skip))
   (.seq
    (.reg true [
     ⟨(some 6), .call 14 [], none, 0, true⟩,
     ⟨(some 7), .mov (.t 6), none, 1, true⟩,
     ⟨(some 8), .load (some 5) (.t 1), some (7, true), 3, false⟩,
     ⟨(some 9), .call 15 [(.t 8)], some (7, true), 7, false⟩,
     ⟨(some 10), .load (some 5) (.t 1), some (7, true), 3, false⟩,
     ⟨(some 11), .call 16 [(.t 10)], some (7, true), 31, true⟩,
     ⟨(some 12), .bin .eql [1] (.t 9) (.t 11), some (7, true), 63, true⟩,
     ⟨(some 13), .pick (.t 7) (.t 12) (.k (.bool false)), none, 127, true⟩,
     ⟨(some 14), .mov (.t 13), none, 255, true⟩,
     ⟨(some 15), .load (some 5) (.t 1), some (14, true), 511, false⟩,
     ⟨(some 16), .call 17 [(.t 15)], some (14, true), 1023, false⟩,
     ⟨(some 17), .load (some 5) (.t 1), some (14, true), 511, false⟩,
     ⟨(some 18), .call 18 [(.t 17)], some (14, true), 4095, true⟩,
     ⟨(some 19), .bin .eql [1] (.t 16) (.t 18), some (14, true), 8191, true⟩,
     ⟨(some 20), .pick (.t 14) (.t 19) (.k (.bool false)), none, 16383, true⟩,
     ⟨(some 2), .mov (.t 20), none, 32767, true⟩])
    .ret))),
 [.tmp 2]⟩
theorem ir_3 : ir 3 = some f3 := by kernel_rfl
/-! cutroom/cutroomlaw07.PlaneFlat -/
def f4 : F := ⟨46, 5,
 (.seq
  (.reg false [
   ⟨(some 10), .mov (.k (.bool false)), none, 0, false⟩])
  (.seq
   (.reg false [
    ⟨(some 14), .mov (.t 0), none, 0, false⟩,
    ⟨(some 15), .mov (.t 1), none, 0, false⟩,
    ⟨(some 16), .mov (.t 2), none, 0, false⟩,
    ⟨(some 17), .mov (.t 3), none, 0, false⟩,
    ⟨(some 18), .mov (.t 4), none, 0, false⟩,
    ⟨(some 19), .call 19 [(.t 14), (.t 15), (.t 16), (.t 17), (.t 18)], none, 0, false⟩,
    ⟨(some 13), .mov (.t 19), none, 0, false⟩,
    ⟨(some 20), .ext (.t 13) 0, none, 0, false⟩,
    ⟨(some 21), .ext (.t 13) 1, none, 0, false⟩,
    ⟨(some 11), .alloc [.int .i64 0, .int .i64 0, .nils, .nils, .nils], none, 0, false⟩,
    ⟨none, .store 5 (.t 11) (.t 20), none, 0, false⟩,
    ⟨(some 12), .mov (.t 21), none, 0, false⟩])
   (.seq
    (.seq
     (.reg false [
      ⟨(some 22), .mov (.t 0), none, 0, false⟩,
      ⟨(some 23), .mov (.t 1), none, 0, false⟩,
      ⟨(some 24), .call 20 [(.t 22), (.t 23)], none, 0, false⟩,
      ⟨(some 25), .un .not (.t 24), none, 0, false⟩])
     (.cond (.t 25)
      (.seq
       (.reg false [
        ⟨(some 26), .call 14 [], none, 0, false⟩,
        ⟨(some 27), .mov (.t 26), none, 0, false⟩,
        ⟨(some 28), .mov (.t 12), some (27, true), 0, false⟩,
        ⟨(some 29), .bin .eql [0] (.t 28) (.k (.int .i64 1)), some (27, true), 0, false⟩,
        ⟨(some 30), .pick (.t 27) (.t 29) (.k (.bool false)), none, 0, false⟩,
        ⟨(some 10), .mov (.t 30), none, 0, false⟩])
       .ret)
      .skip))
    (.seq
     (.reg true [
      ⟨(some 31), .call 14 [], none, 0, true⟩,
      ⟨(some 32), .mov (.t 31), none, 1, true⟩,
      ⟨(some 33), .mov (.t 12), some (32, true), 3, true⟩,
      ⟨(some 34), .bin .eql [0] (.t 33) (.k (.int .i64 0)), some (32, true), 7, true⟩,
      ⟨(some 35), .pick (.t 32) (.t 34) (.k (.bool false)), none, 15, true⟩,
      ⟨(some 36), .mov (.t 35), none, 31, true⟩,
      ⟨(some 37), .load (some 5) (.t 11), some (36, true), 63, false⟩,
      ⟨(some 38), .mov (.t 0), some (36, true), 63, false⟩,
      ⟨(some 39), .mov (.t 1), some (36, true), 63, false⟩,
      ⟨(some 40), .mov (.t 2), some (36, true), 63, false⟩,
      ⟨(some 41), .mov (.t 3), some (36, true), 63, false⟩,
      ⟨(some 42), .mov (.t 4), some (36, true), 63, false⟩,
      ⟨(some 43), .call 22 [(.t 38), (.t 39), (.t 40), (.t 41), (.t 42)], some (36, true), 4031, false⟩,
      ⟨(some 44), .call 21 [(.t 37), (.t 43)], some (36, true), 8191, true⟩,
      ⟨(some 45), .pick (.t 36) (.t 44) (.k (.bool false)), none, 16383, true⟩,
      ⟨(some 10), .mov (.t 45), none, 32767, true⟩])
     .ret)))),
 [.tmp 10]⟩
theorem ir_4 : ir 4 = some f4 := by kernel_rfl
/-! cutroom/cutroomlaw07.PlaneDistance -/
def f5 : F := ⟨42, 2,
 (.seq
  (.reg false [
   ⟨(some 2), .box (.t 0), none, 0, false⟩,
   ⟨(some 3), .box (.t 1), none, 0, false⟩,
   ⟨(some 4), .mov (.k (.bool false)), none, 0, false⟩])
  (.seq
   (.seq
    (.reg false [
     ⟨(some 6), .load (some 5) (.t 2), none, 0, false⟩,
     ⟨(some 7), .call 13 [(.t 6)], none, 0, false⟩,
     ⟨(some 8), .un .not (.t 7), none, 0, false⟩,
     ⟨(some 9), .mov (.t 8), none, 0, false⟩,
     ⟨(some 10), .load (some 5) (.t 3), some (9, false), 0, false⟩,
     ⟨(some 11), .call 13 [(.t 10)], some (9, false), 0, false⟩,
     ⟨(some 12), .un .not (.t 11), some (9, false), 0, false⟩,
     ⟨(some 13), .pick (.t 9) (.k (.bool true)) (.t 12), none, 0, false⟩])
    (.cond (.t 13)
     (.seq
      (.reg false [
       ⟨(some 4), .mov (.k (.bool true)), none, 0, false⟩])
      .ret)
     .skip))
   (.seq
    (.reg false [
     ⟨(some 14), .load (some 5) (.t 2), none, 0, false⟩,
     ⟨(some 15), .call 16 [(.t 14)], none, 0, false⟩,
     ⟨(some 16), .mov (.t 15), none, 0, false⟩,
     ⟨(some 17), .load (some 5) (.t 3), some (16, true), 0, false⟩,
     ⟨(some 18), .call 16 [(.t 17)], some (16, true), 0, false⟩,
     ⟨(some 19), .pick (.t 16) (.t 18) (.k (.bool false)), none, 0, false⟩,
     ⟨(some 20), .mov (.t 19), none, 0, false⟩,
     ⟨(some 21), .load (some 5) (.t 2), some (20, true), 0, false⟩,
     ⟨(some 22), .load (some 5) (.t 3), some (20, true), 0, false⟩,
     ⟨(some 23), .call 21 [(.t 21), (.t 22)], some (20, true), 0, false⟩,
     ⟨(some 24), .pick (.t 20) (.t 23) (.k (.bool false)), none, 0, false⟩,
     ⟨(some 5), .mov (.t 24), none, 0, false⟩])
    (.seq
     (.reg true [
      ⟨(some 25), .call 14 [], none, 0, true⟩,
      ⟨(some 26), .mov (.t 25), none, 1, true⟩,
      ⟨(some 27), .load (some 5) (.t 2), some (26, true), 3, false⟩,
      ⟨(some 28), .load (some 5) (.t 3), some (26, true), 3, false⟩,
      ⟨(some 29), .call 23 [(.t 27), (.t 28)], some (26, true), 15, true⟩,
      ⟨(some 30), .mov (.t 5), some (26, true), 3, false⟩,
      ⟨(some 31), .bin .eql [1] (.t 29) (.t 30), some (26, true), 63, true⟩,
      ⟨(some 32), .pick (.t 26) (.t 31) (.k (.bool false)), none, 127, true⟩,
      ⟨(some 33), .mov (.t 32), none, 255, true⟩,
      ⟨(some 34), .load (some 5) (.t 2), some (33, true), 511, false⟩,
      ⟨(some 35), .load (some 5) (.t 3), some (33, true), 511, false⟩,
      ⟨(some 36), .call 24 [(.t 34), (.t 35)], some (33, true), 2047, false⟩,
      ⟨(some 37), .load (some 5) (.t 2), some (33, true), 511, false⟩,
      ⟨(some 38), .load (some 5) (.t 3), some (33, true), 511, false⟩,
      ⟨(some 39), .call 25 [(.t 37), (.t 38)], some (33, true), 16383, true⟩,
      ⟨(some 40), .bin .eql [0] (.t 36) (.t 39), some (33, true), 32767, true⟩,
      ⟨(some 41), .pick (.t 33) (.t 40) (.k (.bool false)), none, 65535, true⟩,
      ⟨(some 4), .mov (.t 41), none, 131071, true⟩])
     .ret)))),
 [.tmp 4]⟩
theorem ir_5 : ir 5 = some f5 := by kernel_rfl
/-! cutroom/cutroomlaw07.PlaneMetric -/
def f6 : F := ⟨61, 3,
 (.seq
  (.reg false [
   ⟨(some 3), .box (.t 0), none, 0, false⟩,
   ⟨(some 4), .box (.t 1), none, 0, false⟩,
   ⟨(some 5), .box (.t 2), none, 0, false⟩,
   ⟨(some 6), .mov (.k (.bool false)), none, 0, false⟩])
  (.seq
   (.seq
    (.reg false [
     ⟨(some 10), .load (some 5) (.t 3), none, 0, false⟩,
     ⟨(some 11), .call 13 [(.t 10)], none, 0, false⟩,
     ⟨(some 12), .un .not (.t 11), none, 0, false⟩,
     ⟨(some 13), .mov (.t 12), none, 0, false⟩,
     ⟨(some 14), .load (some 5) (.t 4), some (13, false), 0, false⟩,
     ⟨(some 15), .call 13 [(.t 14)], some (13, false), 0, false⟩,
     ⟨(some 16), .un .not (.t 15), some (13, false), 0, false⟩,
     ⟨(some 17), .pick (.t 13) (.k (.bool true)) (.t 16), none, 0, false⟩,
     ⟨(some 18), .mov (.t 17), none, 0, false⟩,
     ⟨(some 19), .load (some 5) (.t 5), some (18, false), 0, false⟩,
     ⟨(some 20), .call 13 [(.t 19)], some (18, false), 0, false⟩,
     ⟨(some 21), .un .not (.t 20), some (18, false), 0, false⟩,
     ⟨(some 22), .pick (.t 18) (.k (.bool true)) (.t 21), none, 0, false⟩])
    (.cond (.t 22)
     (.seq
      (.reg false [
       ⟨(some 6), .mov (.k (.bool true)), none, 0, false⟩])
      .ret)
     .skip))
   (.seq
    (.reg true [
     ⟨(some 23), .load (some 5) (.t 3), none, 0, false⟩,
     ⟨(some 24), .load (some 5) (.t 4), none, 0, false⟩,
     ⟨(some 25), .call 24 [(.t 23), (.t 24)], none, 3, false⟩,
     ⟨(some 26), .load (some 5) (.t 4), none, 0, false⟩,
     ⟨(some 27), .load (some 5) (.t 5), none, 0, false⟩,
     ⟨(some 28), .call 24 [(.t 26), (.t 27)], none, 31, false⟩,
     ⟨(some 29), .load (some 5) (.t 3), none, 0, false⟩,
     ⟨(some 30), .load (some 5) (.t 5), none, 0, false⟩,
     ⟨(some 31), .call 24 [(.t 29), (.t 30)], none, 255, true⟩,
     ⟨(some 7), .mov (.t 25), none, 511, true⟩,
     ⟨(some 8), .mov (.t 28), none, 1023, true⟩,
     ⟨(some 9), .mov (.t 31), none, 2047, true⟩])
    (.seq
     (.seq
      (.reg false [
       ⟨(some 32), .mov (.t 7), none, 0, false⟩,
       ⟨(some 33), .load (some 5) (.t 4), none, 0, false⟩,
       ⟨(some 34), .load (some 5) (.t 3), none, 0, false⟩,
       ⟨(some 35), .call 24 [(.t 33), (.t 34)], none, 0, false⟩,
       ⟨(some 36), .bin .neq [0] (.t 32) (.t 35), none, 0, false⟩,
       ⟨(some 37), .mov (.t 36), none, 0, false⟩,
       ⟨(some 38), .mov (.t 7), some (37, false), 0, false⟩,
       ⟨(some 39), .bin .eql [0] (.t 38) (.k (.int .i64 0)), some (37, false), 0, false⟩,
       ⟨(some 40), .load (some 5) (.t 3), some (37, false), 0, false⟩,
       ⟨(some 41), .load (some 5) (.t 4), some (37, false), 0, false⟩,
       ⟨(some 42), .call 23 [(.t 40), (.t 41)], some (37, false), 0, false⟩,
       ⟨(some 43), .bin .neq [1] (.t 39) (.t 42), some (37, false), 0, false⟩,
       ⟨(some 44), .pick (.t 37) (.k (.bool true)) (.t 43), none, 0, false⟩])
      (.cond (.t 44)
       (.seq
        (.reg false [
         ⟨(some 6), .mov (.k (.bool false)), none, 0, false⟩])
        .ret)
       .skip))
     (.seq
      (.reg false [
       ⟨(some 45), .call 14 [], none, 0, false⟩,
       ⟨(some 46), .mov (.t 45), none, 0, false⟩,
       ⟨(some 47), .mov (.t 7), some (46, true), 0, false⟩,
       ⟨(some 48), .bin .lss [0] (.t 47) (.k (.int .i64 0)), some (46, true), 0, false⟩,
       ⟨(some 49), .mov (.t 48), some (46, true), 0, false⟩,
       ⟨(some 50), .mov (.t 8), some (49, false), 0, false⟩,
       ⟨(some 51), .bin .lss [0] (.t 50) (.k (.int .i64 0)), some (49, false), 0, false⟩,
       ⟨(some 52), .pick (.t 49) (.k (.bool true)) (.t 51), some (46, true), 0, false⟩,
       ⟨(some 53), .mov (.t 52), some (46, true), 0, false⟩,
       ⟨(some 54), .mov (.t 9), some (53, false), 0, false⟩,
       ⟨(some 55), .mov (.t 7), some (53, false), 0, false⟩,
       ⟨(some 56), .mov (.t 8), some (53, false), 0, false⟩,
       ⟨(some 57), .bin .add [0] (.t 55) (.t 56), some (53, false), 0, false⟩,
       ⟨(some 58), .bin .leq [0] (.t 54) (.t 57), some (53, false), 0, false⟩,
       ⟨(some 59), .pick (.t 53) (.k (.bool true)) (.t 58), some (46, true), 0, false⟩,
       ⟨(some 60), .pick (.t 46) (.t 59) (.k (.bool false)), none, 0, false⟩,
       ⟨(some 6), .mov (.t 60), none, 0, false⟩])
      .ret))))),
 [.tmp 6]⟩
theorem ir_6 : ir 6 = some f6 := by kernel_rfl
/-! cutroom/cutroomlaw07.PlaneFields -/
def f7 : F := ⟨77, 2,
 (.seq
  (.reg false [
   ⟨(some 2), .box (.t 0), none, 0, false⟩,
   ⟨(some 4), .mov (.k (.bool false)), none, 0, false⟩])
  (.seq
   (.seq
    (.reg false [
     ⟨(some 15), .load (some 5) (.t 2), none, 0, false⟩,
     ⟨(some 16), .call 13 [(.t 15)], none, 0, false⟩,
     ⟨(some 17), .un .not (.t 16), none, 0, false⟩])
    (.cond (.t 17)
     (.seq
      (.reg false [
       ⟨(some 4), .mov (.k (.bool true)), none, 0, false⟩])
      .ret)
     .skip))
   (.seq
    (.reg false [
     ⟨(some 19), .load (some 5) (.t 2), none, 0, false⟩,
     ⟨(some 20), .mov (.t 1), none, 0, false⟩,
     ⟨(some 21), .call 26 [(.t 19), (.t 20)], none, 0, false⟩,
     ⟨(some 18), .mov (.t 21), none, 0, false⟩,
     ⟨(some 22), .ext (.t 18) 0, none, 0, false⟩,
     ⟨(some 23), .ext (.t 18) 1, none, 0, false⟩,
     ⟨(some 5), .alloc [.int .i64 0, .int .i64 0, .nils, .nils, .nils], none, 0, false⟩,
     ⟨none, .store 5 (.t 5) (.t 22), none, 0, false⟩,
     ⟨(some 6), .mov (.t 23), none, 0, false⟩])
    (.seq
     (.reg false [
      ⟨(some 25), .load (some 5) (.t 2), none, 0, false⟩,
      ⟨(some 26), .mov (.t 1), none, 0, false⟩,
      ⟨(some 27), .call 27 [(.t 25), (.t 26)], none, 0, false⟩,
      ⟨(some 24), .mov (.t 27), none, 0, false⟩,
      ⟨(some 28), .ext (.t 24) 0, none, 0, false⟩,
      ⟨(some 29), .ext (.t 24) 1, none, 0, false⟩,
      ⟨(some 7), .alloc [.int .i64 0, .int .i64 0, .nils, .nils, .nils], none, 0, false⟩,
      ⟨none, .store 5 (.t 7) (.t 28), none, 0, false⟩,
      ⟨(some 8), .mov (.t 29), none, 0, false⟩])
     (.seq
      (.seq
       (.reg false [
        ⟨(some 30), .mov (.t 6), none, 0, false⟩,
        ⟨(some 31), .mov (.t 8), none, 0, false⟩,
        ⟨(some 32), .bin .neq [0] (.t 30) (.t 31), none, 0, false⟩,
        ⟨(some 33), .mov (.t 32), none, 0, false⟩,
        ⟨(some 34), .load (some 5) (.t 5), some (33, false), 0, false⟩,
        ⟨(some 35), .load (some 5) (.t 7), some (33, false), 0, false⟩,
        ⟨(some 36), .call 21 [(.t 34), (.t 35)], some (33, false), 0, false⟩,
        ⟨(some 37), .un .not (.t 36), some (33, false), 0, false⟩,
        ⟨(some 38), .pick (.t 33) (.k (.bool true)) (.t 37), none, 0, false⟩])
       (.cond (.t 38)
        (.seq
         (.reg false [
          ⟨(some 4), .mov (.k (.bool false)), none, 0, false⟩])
         .ret)
        .skip))
      (.seq
       (.reg false [
        ⟨(some 40), .load (some 5) (.t 2), none, 0, false⟩,
        ⟨(some 41), .call 26 [(.t 40), (.k (.int .i64 0))], none, 0, false⟩,
        ⟨(some 39), .mov (.t 41), none, 0, false⟩,
        ⟨(some 42), .ext (.t 39) 0, none, 0, false⟩,
        ⟨(some 43), .ext (.t 39) 1, none, 0, false⟩,
        ⟨(some 9), .alloc [.int .i64 0, .int .i64 0, .nils, .nils, .nils], none, 0, false⟩,
        ⟨none, .store 5 (.t 9) (.t 42), none, 0, false⟩,
        ⟨(some 10), .mov (.t 43), none, 0, false⟩])
       (.seq
        (.reg false [
         ⟨(some 45), .load (some 5) (.t 2), none, 0, false⟩,
         ⟨(some 46), .call 26 [(.t 45), (.k (.int .i64 1))], none, 0, false⟩,
         ⟨(some 44), .mov (.t 46), none, 0, false⟩,
         ⟨(some 47), .ext (.t 44) 0, none, 0, false⟩,
         ⟨(some 48), .ext (.t 44) 1, none, 0, false⟩,
         ⟨(some 11), .alloc [.int .i64 0, .int .i64 0, .nils, .nils, .nils], none, 0, false⟩,
         ⟨none, .store 5 (.t 11) (.t 47), none, 0, false⟩,
         ⟨(some 12), .mov (.t 48), none, 0, false⟩])
        (.seq
         (.seq
          (.reg false [
           ⟨(some 49), .mov (.t 10), none, 0, false⟩,
           ⟨(some 50), .bin .neq [0] (.t 49) (.k (.int .i64 0)), none, 0, false⟩,
           ⟨(some 51), .mov (.t 50), none, 0, false⟩,
           ⟨(some 52), .mov (.t 12), some (51, false), 0, false⟩,
           ⟨(some 53), .bin .neq [0] (.t 52) (.k (.int .i64 0)), some (51, false), 0, false⟩,
           ⟨(some 54), .pick (.t 51) (.k (.bool true)) (.t 53), none, 0, false⟩])
          (.cond (.t 54)
           (.seq
            (.reg false [
             ⟨(some 55), .call 14 [], none, 0, false⟩,
             ⟨(some 56), .mov (.t 55), none, 0, false⟩,
             ⟨(some 57), .mov (.t 10), some (56, true), 0, false⟩,
             ⟨(some 58), .mov (.t 12), some (56, true), 0, false⟩,
             ⟨(some 59), .bin .eql [0] (.t 57) (.t 58), some (56, true), 0, false⟩,
             ⟨(some 60), .pick (.t 56) (.t 59) (.k (.bool false)), none, 0, false⟩,
             ⟨(some 4), .mov (.t 60), none, 0, false⟩])
            .ret)
           .skip))
         (.seq
          (.reg false [
           ⟨(some 62), .load (some 5) (.t 9), none, 0, false⟩,
           ⟨(some 63), .load (some 5) (.t 11), none, 0, false⟩,
           ⟨(some 64), .call 28 [(.t 62), (.t 63)], none, 0, false⟩,
           ⟨(some 61), .mov (.t 64), none, 0, false⟩,
           ⟨(some 65), .ext (.t 61) 0, none, 0, false⟩,
           ⟨(some 66), .ext (.t 61) 1, none, 0, false⟩,
           ⟨(some 13), .alloc [.int .i64 0, .int .i64 0, .nils, .nils, .nils], none, 0, false⟩,
           ⟨none, .store 5 (.t 13) (.t 65), none, 0, false⟩,
           ⟨(some 14), .mov (.t 66), none, 0, false⟩])
          (.seq
           (.reg false [
            ⟨(some 67), .call 14 [], none, 0, false⟩,
            ⟨(some 68), .mov (.t 67), none, 0, false⟩,
            ⟨(some 69), .mov (.t 14), some (68, true), 0, false⟩,
            ⟨(some 70), .bin .eql [0] (.t 69) (.k (.int .i64 0)), some (68, true), 0, false⟩,
            ⟨(some 71), .pick (.t 68) (.t 70) (.k (.bool false)), none, 0, false⟩,
            ⟨(some 72), .mov (.t 71), none, 0, false⟩,
            ⟨(some 73), .load (some 5) (.t 13), some (72, true), 0, false⟩,
            ⟨(some 74), .load (some 5) (.t 2), some (72, true), 0, false⟩,
            ⟨(some 75), .call 21 [(.t 73), (.t 74)], some (72, true), 0, false⟩,
            ⟨(some 76), .pick (.t 72) (.t 75) (.k (.bool false)), none, 0, false⟩,
            ⟨(some 4), .mov (.t 76), none, 0, false⟩])
           .ret)))))))))),
 [.tmp 4]⟩
theorem ir_7 : ir 7 = some f7 := by kernel_rfl
/-! cutroom/cutroomlaw07.PlaneWeave -/
def f8 : F := ⟨74, 2,
 (.seq
  (.reg false [
   ⟨(some 2), .box (.t 0), none, 0, false⟩,
   ⟨(some 3), .box (.t 1), none, 0, false⟩,
   ⟨(some 4), .mov (.k (.bool false)), none, 0, false⟩])
  (.seq
   (.seq
    (.reg false [
     ⟨(some 13), .load (some 5) (.t 2), none, 0, false⟩,
     ⟨(some 14), .call 13 [(.t 13)], none, 0, false⟩,
     ⟨(some 15), .un .not (.t 14), none, 0, false⟩,
     ⟨(some 16), .mov (.t 15), none, 0, false⟩,
     ⟨(some 17), .load (some 5) (.t 3), some (16, false), 0, false⟩,
     ⟨(some 18), .call 13 [(.t 17)], some (16, false), 0, false⟩,
     ⟨(some 19), .un .not (.t 18), some (16, false), 0, false⟩,
     ⟨(some 20), .pick (.t 16) (.k (.bool true)) (.t 19), none, 0, false⟩])
    (.cond (.t 20)
     (.seq
      (.reg false [
       ⟨(some 4), .mov (.k (.bool true)), none, 0, false⟩])
      .ret)
     .skip))
   (.seq
    (.reg false [
     ⟨(some 22), .load (some 5) (.t 2), none, 0, false⟩,
     ⟨(some 23), .load (some 5) (.t 3), none, 0, false⟩,
     ⟨(some 24), .call 28 [(.t 22), (.t 23)], none, 0, false⟩,
     ⟨(some 21), .mov (.t 24), none, 0, false⟩,
     ⟨(some 25), .ext (.t 21) 0, none, 0, false⟩,
     ⟨(some 26), .ext (.t 21) 1, none, 0, false⟩,
     ⟨(some 5), .alloc [.int .i64 0, .int .i64 0, .nils, .nils, .nils], none, 0, false⟩,
     ⟨none, .store 5 (.t 5) (.t 25), none, 0, false⟩,
     ⟨(some 6), .mov (.t 26), none, 0, false⟩])
    (.seq
     (.reg false [
      ⟨(some 28), .load (some 5) (.t 2), none, 0, false⟩,
      ⟨(some 29), .load (some 5) (.t 3), none, 0, false⟩,
      ⟨(some 30), .call 29 [(.t 28), (.t 29)], none, 0, false⟩,
      ⟨(some 27), .mov (.t 30), none, 0, false⟩,
      ⟨(some 31), .ext (.t 27) 0, none, 0, false⟩,
      ⟨(some 32), .ext (.t 27) 1, none, 0, false⟩,
      ⟨(some 7), .alloc [.int .i64 0, .int .i64 0, .nils, .nils, .nils], none, 0, false⟩,
      ⟨none, .store 5 (.t 7) (.t 31), none, 0, false⟩,
      ⟨(some 8), .mov (.t 32), none, 0, false⟩])
     (.seq
      (.seq
       (.reg false [
        ⟨(some 33), .mov (.t 6), none, 0, false⟩,
        ⟨(some 34), .mov (.t 8), none, 0, false⟩,
        ⟨(some 35), .bin .neq [0] (.t 33) (.t 34), none, 0, false⟩,
        ⟨(some 36), .mov (.t 35), none, 0, false⟩,
        ⟨(some 37), .load (some 5) (.t 5), some (36, false), 0, false⟩,
        ⟨(some 38), .load (some 5) (.t 7), some (36, false), 0, false⟩,
        ⟨(some 39), .call 21 [(.t 37), (.t 38)], some (36, false), 0, false⟩,
        ⟨(some 40), .un .not (.t 39), some (36, false), 0, false⟩,
        ⟨(some 41), .pick (.t 36) (.k (.bool true)) (.t 40), none, 0, false⟩])
       (.cond (.t 41)
        (.seq
         (.reg false [
          ⟨(some 4), .mov (.k (.bool false)), none, 0, false⟩])
         .ret)
        .skip))
      (.seq
       (.seq
        (.reg false [
         ⟨(some 42), .mov (.t 6), none, 0, false⟩,
         ⟨(some 43), .bin .neq [0] (.t 42) (.k (.int .i64 0)), none, 0, false⟩])
        (.cond (.t 43)
         (.seq
          (.reg false [
           ⟨(some 44), .call 14 [], none, 0, false⟩,
           ⟨(some 4), .mov (.t 44), none, 0, false⟩])
          .ret)
         .skip))
       (.seq
        (.reg false [
         ⟨(some 46), .load (some 5) (.t 5), none, 0, false⟩,
         ⟨(some 47), .call 26 [(.t 46), (.k (.int .i64 0))], none, 0, false⟩,
         ⟨(some 45), .mov (.t 47), none, 0, false⟩,
         ⟨(some 48), .ext (.t 45) 0, none, 0, false⟩,
         ⟨(some 49), .ext (.t 45) 1, none, 0, false⟩,
         ⟨(some 9), .alloc [.int .i64 0, .int .i64 0, .nils, .nils, .nils], none, 0, false⟩,
         ⟨none, .store 5 (.t 9) (.t 48), none, 0, false⟩,
         ⟨(some 10), .mov (.t 49), none, 0, false⟩])
        (.seq
         (.reg false [
          ⟨(some 51), .load (some 5) (.t 5), none, 0, false⟩,
          ⟨(some 52), .call 26 [(.t 51), (.k (.int .i64 1))], none, 0, false⟩,
          ⟨(some 50), .mov (.t 52), none, 0, false⟩,
          ⟨(some 53), .ext (.t 50) 0, none, 0, false⟩,
          ⟨(some 54), .ext (.t 50) 1, none, 0, false⟩,
          ⟨(some 11), .alloc [.int .i64 0, .int .i64 0, .nils, .nils, .nils], none, 0, false⟩,
          ⟨none, .store 5 (.t 11) (.t 53), none, 0, false⟩,
          ⟨(some 12), .mov (.t 54), none, 0, false⟩])
         (.seq
          (.reg false [
           ⟨(some 55), .call 14 [], none, 0, false⟩,
           ⟨(some 56), .mov (.t 55), none, 0, false⟩,
           ⟨(some 57), .mov (.t 10), some (56, true), 0, false⟩,
           ⟨(some 58), .bin .eql [0] (.t 57) (.k (.int .i64 0)), some (56, true), 0, false⟩,
           ⟨(some 59), .pick (.t 56) (.t 58) (.k (.bool false)), none, 0, false⟩,
           ⟨(some 60), .mov (.t 59), none, 0, false⟩,
           ⟨(some 61), .mov (.t 12), some (60, true), 0, false⟩,
           ⟨(some 62), .bin .eql [0] (.t 61) (.k (.int .i64 0)), some (60, true), 0, false⟩,
           ⟨(some 63), .pick (.t 60) (.t 62) (.k (.bool false)), none, 0, false⟩,
           ⟨(some 64), .mov (.t 63), none, 0, false⟩,
           ⟨(some 65), .load (some 5) (.t 2), some (64, true), 0, false⟩,
           ⟨(some 66), .load (some 5) (.t 9), some (64, true), 0, false⟩,
           ⟨(some 67), .call 21 [(.t 65), (.t 66)], some (64, true), 0, false⟩,
           ⟨(some 68), .pick (.t 64) (.t 67) (.k (.bool false)), none, 0, false⟩,
           ⟨(some 69), .mov (.t 68), none, 0, false⟩,
           ⟨(some 70), .load (some 5) (.t 3), some (69, true), 0, false⟩,
           ⟨(some 71), .load (some 5) (.t 11), some (69, true), 0, false⟩,
           ⟨(some 72), .call 21 [(.t 70), (.t 71)], some (69, true), 0, false⟩,
           ⟨(some 73), .pick (.t 69) (.t 72) (.k (.bool false)), none, 0, false⟩,
           ⟨(some 4), .mov (.t 73), none, 0, false⟩])
          .ret))))))))),
 [.tmp 4]⟩
theorem ir_8 : ir 8 = some f8 := by kernel_rfl
/-! cutroom/cutroomlaw07.PlaneBlocks -/
def f9 : F := ⟨49, 2,
 (.seq
  (.reg false [
   ⟨(some 2), .box (.t 0), none, 0, false⟩,
   ⟨(some 3), .box (.t 1), none, 0, false⟩,
   ⟨(some 4), .mov (.k (.bool false)), none, 0, false⟩])
  (.seq
   (.seq
    (.reg false [
     ⟨(some 9), .load (some 5) (.t 2), none, 0, false⟩,
     ⟨(some 10), .call 13 [(.t 9)], none, 0, false⟩,
     ⟨(some 11), .un .not (.t 10), none, 0, false⟩])
    (.cond (.t 11)
     (.seq
      (.reg false [
       ⟨(some 4), .mov (.k (.bool true)), none, 0, false⟩])
      .ret)
     .skip))
   (.seq
    (.reg false [
     ⟨(some 13), .load (some 5) (.t 2), none, 0, false⟩,
     ⟨(some 14), .fadr 0 (.t 3), none, 0, false⟩,
     ⟨(some 15), .load none (.t 14), none, 0, false⟩,
     ⟨(some 16), .fadr 1 (.t 3), none, 0, false⟩,
     ⟨(some 17), .load none (.t 16), none, 0, false⟩,
     ⟨(some 18), .fadr 2 (.t 3), none, 0, false⟩,
     ⟨(some 19), .load none (.t 18), none, 0, false⟩,
     ⟨(some 20), .fadr 3 (.t 3), none, 0, false⟩,
     ⟨(some 21), .load none (.t 20), none, 0, false⟩,
     ⟨(some 22), .call 30 [(.t 13), (.t 15), (.t 17), (.t 19), (.t 21)], none, 0, false⟩,
     ⟨(some 12), .mov (.t 22), none, 0, false⟩,
     ⟨(some 23), .ext (.t 12) 0, none, 0, false⟩,
     ⟨(some 24), .ext (.t 12) 1, none, 0, false⟩,
     ⟨(some 5), .alloc [.int .i64 0, .int .i64 0, .int .i64 0, .int .i64 0, .int .i64 0, .int .i64 0, .int .i64 0, .int .i64 0, .int .i64 0, .int .i64 0, .int .i64 0, .int .i64 0, .int .i64 0, .int .i64 0, .int .i64 0, .int .i64 0, .int .i64 0, .int .i64 0, .int .i64 0, .int .i64 0, .int .i64 0, .int .i64 0, .int .i64 0, .int .i64 0, .int .i64 0, .int .i64 0, .int .i64 0, .int .i64 0, .int .i64 0, .int .i64 0, .int .i64 0, .int .i64 0, .int .i64 0, .int .i64 0, .int .i64 0, .int .i64 0, .int .i64 0, .int .i64 0, .int .i64 0, .int .i64 0, .int .i64 0, .int .i64 0, .int .i64 0, .int .i64 0, .int .i64 0, .int .i64 0, .int .i64 0, .int .i64 0, .int .i64 0, .int .i64 0, .int .i64 0, .int .i64 0, .int .i64 0, .int .i64 0, .int .i64 0, .int .i64 0, .int .i64 0, .int .i64 0, .int .i64 0, .int .i64 0, .int .i64 0, .int .i64 0, .int .i64 0, .int .i64 0], none, 0, false⟩,
     ⟨none, .store 64 (.t 5) (.t 23), none, 0, false⟩,
     ⟨(some 6), .mov (.t 24), none, 0, false⟩])
    (.seq
     (.reg false [
      ⟨(some 26), .load (some 5) (.t 2), none, 0, false⟩,
      ⟨(some 27), .fadr 0 (.t 3), none, 0, false⟩,
      ⟨(some 28), .load none (.t 27), none, 0, false⟩,
      ⟨(some 29), .fadr 1 (.t 3), none, 0, false⟩,
      ⟨(some 30), .load none (.t 29), none, 0, false⟩,
      ⟨(some 31), .fadr 2 (.t 3), none, 0, false⟩,
      ⟨(some 32), .load none (.t 31), none, 0, false⟩,
      ⟨(some 33), .fadr 3 (.t 3), none, 0, false⟩,
      ⟨(some 34), .load none (.t 33), none, 0, false⟩,
      ⟨(some 35), .call 31 [(.t 26), (.t 28), (.t 30), (.t 32), (.t 34)], none, 0, false⟩,
      ⟨(some 25), .mov (.t 35), none, 0, false⟩,
      ⟨(some 36), .ext (.t 25) 0, none, 0, false⟩,
      ⟨(some 37), .ext (.t 25) 1, none, 0, false⟩,
      ⟨(some 7), .alloc [.int .i64 0, .int .i64 0, .int .i64 0, .int .i64 0, .int .i64 0, .int .i64 0, .int .i64 0, .int .i64 0, .int .i64 0, .int .i64 0, .int .i64 0, .int .i64 0, .int .i64 0, .int .i64 0, .int .i64 0, .int .i64 0, .int .i64 0, .int .i64 0, .int .i64 0, .int .i64 0, .int .i64 0, .int .i64 0, .int .i64 0, .int .i64 0, .int .i64 0, .int .i64 0, .int .i64 0, .int .i64 0, .int .i64 0, .int .i64 0, .int .i64 0, .int .i64 0, .int .i64 0, .int .i64 0, .int .i64 0, .int .i64 0, .int .i64 0, .int .i64 0, .int .i64 0, .int .i64 0, .int .i64 0, .int .i64 0, .int .i64 0, .int .i64 0, .int .i64 0, .int .i64 0, .int .i64 0, .int .i64 0, .int .i64 0, .int .i64 0, .int .i64 0, .int .i64 0, .int .i64 0, .int .i64 0, .int .i64 0, .int .i64 0, .int .i64 0, .int .i64 0, .int .i64 0, .int .i64 0, .int .i64 0, .int .i64 0, .int .i64 0, .int .i64 0], none, 0, false⟩,
      ⟨none, .store 64 (.t 7) (.t 36), none, 0, false⟩,
      ⟨(some 8), .mov (.t 37), none, 0, false⟩])
     (.seq
      (.reg false [
       ⟨(some 38), .call 14 [], none, 0, false⟩,
       ⟨(some 39), .mov (.t 38), none, 0, false⟩,
       ⟨(some 40), .mov (.t 6), some (39, true), 0, false⟩,
       ⟨(some 41), .mov (.t 8), some (39, true), 0, false⟩,
       ⟨(some 42), .bin .eql [0] (.t 40) (.t 41), some (39, true), 0, false⟩,
       ⟨(some 43), .pick (.t 39) (.t 42) (.k (.bool false)), none, 0, false⟩,
       ⟨(some 44), .mov (.t 43), none, 0, false⟩,
       ⟨(some 45), .load (some 64) (.t 5), some (44, true), 0, false⟩,
       ⟨(some 46), .load (some 64) (.t 7), some (44, true), 0, false⟩,
       ⟨(some 47), .bin .eql [6, 2, 2, 2, 2, 2, 2, 2, 2, 2, 2, 2, 2, 2, 2, 2, 2, 2, 2, 2, 2, 2, 2, 2, 2, 2, 2, 2, 2, 2, 2, 2, 2, 2, 2, 2, 2, 2, 2, 2, 2, 2, 2, 2, 2, 2, 2, 2, 2, 2, 2, 2, 2, 2, 2, 2, 2, 2, 2, 2, 2, 2, 2, 2, 2] (.t 45) (.t 46), some (44, true), 0, false⟩,
       ⟨(some 48), .pick (.t 44) (.t 47) (.k (.bool false)), none, 0, false⟩,
       ⟨(some 4), .mov (.t 48), none, 0, false⟩])
      .ret))))),
 [.tmp 4]⟩
theorem ir_9 : ir 9 = some f9 := by kernel_rfl
/-! cutroom/cutroomlaw07.PlaneSets -/
def f10 : F := ⟨79, 3,
 (.seq
  (.reg false [
   ⟨(some 3), .box (.t 0), none, 0, false⟩,
   ⟨(some 4), .box (.t 1), none, 0, false⟩,
   ⟨(some 6), .mov (.k (.bool false)), none, 0, false⟩])
  (.seq
   (.seq
    (.reg false [
     ⟨(some 14), .load (some 5) (.t 3), none, 0, false⟩,
     ⟨(some 15), .call 13 [(.t 14)], none, 0, false⟩,
     ⟨(some 16), .un .not (.t 15), none, 0, false⟩])
    (.cond (.t 16)
     (.seq
      (.reg false [
       ⟨(some 6), .mov (.k (.bool true)), none, 0, false⟩])
      .ret)
     .skip))
   (.seq
    (.reg false [
     ⟨(some 7), .alloc [.int .i64 0, .int .i64 0, .int .i64 0, .int .i64 0, .int .i64 0, .int .i64 0, .int .i64 0, .int .i64 0, .int .i64 0, .int .i64 0, .int .i64 0, .int .i64 0, .int .i64 0, .int .i64 0, .int .i64 0, .int .i64 0, .int .i64 0, .int .i64 0, .int .i64 0, .int .i64 0, .int .i64 0, .int .i64 0, .int .i64 0, .int .i64 0, .int .i64 0, .int .i64 0, .int .i64 0, .int .i64 0, .int .i64 0, .int .i64 0, .int .i64 0, .int .i64 0, .int .i64 0, .int .i64 0, .int .i64 0, .int .i64 0, .int .i64 0, .int .i64 0, .int .i64 0, .int .i64 0, .int .i64 0, .int .i64 0, .int .i64 0, .int .i64 0, .int .i64 0, .int .i64 0, .int .i64 0, .int .i64 0, .int .i64 0, .int .i64 0, .int .i64 0, .int .i64 0, .int .i64 0, .int .i64 0, .int .i64 0, .int .i64 0, .int .i64 0, .int .i64 0, .int .i64 0, .int .i64 0, .int .i64 0, .int .i64 0, .int .i64 0, .int .i64 0], none, 0, false⟩])
    (.seq
     (.seq
      (.reg false [
       ⟨(some 8), .mov (.k (.int .i64 0)), none, 0, false⟩])
      (.blk 0
       (.loop
        (.seq
         (.seq
          (.reg false [
           ⟨(some 17), .mov (.t 8), none, 0, false⟩,
           ⟨(some 18), .bin .lss [0] (.t 17) (.k (.int .i64 64)), none, 0, false⟩,
           ⟨(some 19), .mov (.t 18), none, 0, false⟩,
           ⟨(some 20), .mov (.t 8), some (19, true), 0, false⟩,
           ⟨(some 21), .mov (.t 2), some (19, true), 0, false⟩,
           ⟨(some 22), .lenL (.t 21), some (19, true), 0, false⟩,
           ⟨(some 23), .bin .lss [0] (.t 20) (.t 22), some (19, true), 0, false⟩,
           ⟨(some 24), .pick (.t 19) (.t 23) (.k (.bool false)), none, 0, false⟩])
          (.cond (.t 24)
           .skip
           (.exit 0)))
         (.seq
          (.blk 1
           (.reg false [
            ⟨(some 27), .mov (.t 8), none, 0, false⟩,
            ⟨(some 28), .mov (.t 2), none, 0, false⟩,
            ⟨(some 29), .mov (.t 8), none, 0, false⟩,
            ⟨(some 30), .iadrL 1 (.t 28) (.t 29), none, 0, false⟩,
            ⟨(some 31), .load none (.t 30), none, 0, false⟩,
            ⟨(some 32), .iadrA 64 1 (.t 7) (.t 27), none, 0, false⟩,
            ⟨none, .store 1 (.t 32) (.t 31), none, 0, false⟩]))
          (.reg false [
           ⟨(some 25), .mov (.t 8), none, 0, false⟩,
           ⟨(some 26), .bin .add [0] (.t 25) (.k (.int .i64 1)), none, 0, false⟩,
           ⟨(some 8), .mov (.t 26), none, 0, false⟩]))))))
     (.seq
      (.reg false [
       ⟨(some 33), .load (some 5) (.t 3), none, 0, false⟩,
       ⟨(some 34), .call 32 [(.t 33)], none, 0, false⟩,
       ⟨(some 9), .alloc [.int .i64 0, .int .i64 0, .nils, .nils, .nils], none, 0, false⟩,
       ⟨none, .store 5 (.t 9) (.t 34), none, 0, false⟩])
      (.seq
       (.reg false [
        ⟨(some 36), .load (some 5) (.t 3), none, 0, false⟩,
        ⟨(some 37), .fadr 0 (.t 4), none, 0, false⟩,
        ⟨(some 38), .load none (.t 37), none, 0, false⟩,
        ⟨(some 39), .fadr 1 (.t 4), none, 0, false⟩,
        ⟨(some 40), .load none (.t 39), none, 0, false⟩,
        ⟨(some 41), .fadr 2 (.t 4), none, 0, false⟩,
        ⟨(some 42), .load none (.t 41), none, 0, false⟩,
        ⟨(some 43), .fadr 3 (.t 4), none, 0, false⟩,
        ⟨(some 44), .load none (.t 43), none, 0, false⟩,
        ⟨(some 45), .load (some 64) (.t 7), none, 0, false⟩,
        ⟨(some 46), .call 33 [(.t 36), (.t 38), (.t 40), (.t 42), (.t 44), (.t 45)], none, 0, false⟩,
        ⟨(some 35), .mov (.t 46), none, 0, false⟩,
        ⟨(some 47), .ext (.t 35) 0, none, 0, false⟩,
        ⟨(some 48), .ext (.t 35) 1, none, 0, false⟩,
        ⟨(some 10), .alloc [.int .i64 0, .int .i64 0, .nils, .nils, .nils], none, 0, false⟩,
        ⟨none, .store 5 (.t 10) (.t 47), none, 0, false⟩,
        ⟨(some 11), .mov (.t 48), none, 0, false⟩])
       (.seq
        (.reg false [
         ⟨(some 50), .load (some 5) (.t 9), none, 0, false⟩,
         ⟨(some 51), .fadr 0 (.t 4), none, 0, false⟩,
         ⟨(some 52), .load none (.t 51), none, 0, false⟩,
         ⟨(some 53), .fadr 1 (.t 4), none, 0, false⟩,
         ⟨(some 54), .load none (.t 53), none, 0, false⟩,
         ⟨(some 55), .fadr 2 (.t 4), none, 0, false⟩,
         ⟨(some 56), .load none (.t 55), none, 0, false⟩,
         ⟨(some 57), .fadr 3 (.t 4), none, 0, false⟩,
         ⟨(some 58), .load none (.t 57), none, 0, false⟩,
         ⟨(some 59), .load (some 64) (.t 7), none, 0, false⟩,
         ⟨(some 60), .call 34 [(.t 50), (.t 52), (.t 54), (.t 56), (.t 58), (.t 59)], none, 0, false⟩,
         ⟨(some 49), .mov (.t 60), none, 0, false⟩,
         ⟨(some 61), .ext (.t 49) 0, none, 0, false⟩,
         ⟨(some 62), .ext (.t 49) 1, none, 0, false⟩,
         ⟨(some 12), .alloc [.int .i64 0, .int .i64 0, .nils, .nils, .nils], none, 0, false⟩,
         ⟨none, .store 5 (.t 12) (.t 61), none, 0, false⟩,
         ⟨(some 13), .mov (.t 62), none, 0, false⟩])
        (.seq
         (.reg false [
          ⟨(some 63), .call 14 [], none, 0, false⟩,
          ⟨(some 64), .mov (.t 63), none, 0, false⟩,
          ⟨(some 65), .mov (.t 11), some (64, true), 0, false⟩,
          ⟨(some 66), .mov (.t 13), some (64, true), 0, false⟩,
          ⟨(some 67), .bin .eql [0] (.t 65) (.t 66), some (64, true), 0, false⟩,
          ⟨(some 68), .pick (.t 64) (.t 67) (.k (.bool false)), none, 0, false⟩,
          ⟨(some 69), .mov (.t 68), none, 0, false⟩,
          ⟨(some 70), .load (some 5) (.t 10), some (69, true), 0, false⟩,
          ⟨(some 71), .load (some 5) (.t 12), some (69, true), 0, false⟩,
          ⟨(some 72), .call 21 [(.t 70), (.t 71)], some (69, true), 0, false⟩,
          ⟨(some 73), .pick (.t 69) (.t 72) (.k (.bool false)), none, 0, false⟩,
          ⟨(some 74), .mov (.t 73), none, 0, false⟩,
          ⟨(some 75), .load (some 5) (.t 3), some (74, true), 0, false⟩,
          ⟨(some 76), .load (some 5) (.t 9), some (74, true), 0, false⟩,
          ⟨(some 77), .call 21 [(.t 75), (.t 76)], some (74, true), 0, false⟩,
          ⟨(some 78), .pick (.t 74) (.t 77) (.k (.bool false)), none, 0, false⟩,
          ⟨(some 6), .mov (.t 78), none, 0, false⟩])
         .ret)))))))),
 [.tmp 6]⟩
theorem ir_10 : ir 10 = some f10 := by kernel_rfl
/-! cutroom/cutroomlaw07.PlaneMacroblocks -/
def f11 : F := ⟨94, 4,
 (.seq
  (.reg false [
   ⟨(some 4), .box (.t 0), none, 0, false⟩,
   ⟨(some 5), .box (.t 1), none, 0, false⟩,
   ⟨(some 8), .mov (.k (.bool false)), none, 0, false⟩])
  (.seq
   (.seq
    (.reg false [
     ⟨(some 13), .load (some 5) (.t 4), none, 0, false⟩,
     ⟨(some 14), .call 13 [(.t 13)], none, 0, false⟩,
     ⟨(some 15), .un .not (.t 14), none, 0, false⟩,
     ⟨(some 16), .mov (.t 15), none, 0, false⟩,
     ⟨(some 17), .load (some 5) (.t 5), some (16, false), 0, false⟩,
     ⟨(some 18), .call 13 [(.t 17)], some (16, false), 0, false⟩,
     ⟨(some 19), .un .not (.t 18), some (16, false), 0, false⟩,
     ⟨(some 20), .pick (.t 16) (.k (.bool true)) (.t 19), none, 0, false⟩])
    (.cond (.t 20)
     (.seq
      (.reg false [
       ⟨(some 8), .mov (.k (.bool true)), none, 0, false⟩])
      .ret)
     .skip))
   (.seq
    (.reg false [
     ⟨(some 22), .load (some 5) (.t 4), none, 0, false⟩,
     ⟨(some 23), .mov (.t 2), none, 0, false⟩,
     ⟨(some 24), .mov (.t 3), none, 0, false⟩,
     ⟨(some 25), .call 35 [(.t 22), (.t 23), (.t 24)], none, 0, false⟩,
     ⟨(some 21), .mov (.t 25), none, 0, false⟩,
     ⟨(some 26), .ext (.t 21) 0, none, 0, false⟩,
     ⟨(some 27), .ext (.t 21) 1, none, 0, false⟩,
     ⟨(some 9), .alloc [.int .i64 0, .int .i64 0, .nils, .nils, .nils], none, 0, false⟩,
     ⟨none, .store 5 (.t 9) (.t 26), none, 0, false⟩,
     ⟨(some 10), .mov (.t 27), none, 0, false⟩])
    (.seq
     (.reg false [
      ⟨(some 29), .load (some 5) (.t 4), none, 0, false⟩,
      ⟨(some 30), .mov (.t 2), none, 0, false⟩,
      ⟨(some 31), .mov (.t 3), none, 0, false⟩,
      ⟨(some 32), .call 36 [(.t 29), (.t 30), (.t 31)], none, 0, false⟩,
      ⟨(some 28), .mov (.t 32), none, 0, false⟩,
      ⟨(some 33), .ext (.t 28) 0, none, 0, false⟩,
      ⟨(some 34), .ext (.t 28) 1, none, 0, false⟩,
      ⟨(some 11), .alloc [.int .i64 0, .int .i64 0, .nils, .nils, .nils], none, 0, false⟩,
      ⟨none, .store 5 (.t 11) (.t 33), none, 0, false⟩,
      ⟨(some 12), .mov (.t 34), none, 0, false⟩])
     (.seq
      (.seq
       (.reg false [
        ⟨(some 35), .mov (.t 10), none, 0, false⟩,
        ⟨(some 36), .mov (.t 12), none, 0, false⟩,
        ⟨(some 37), .bin .neq [0] (.t 35) (.t 36), none, 0, false⟩,
        ⟨(some 38), .mov (.t 37), none, 0, false⟩,
        ⟨(some 39), .load (some 5) (.t 9), some (38, false), 0, false⟩,
        ⟨(some 40), .load (some 5) (.t 11), some (38, false), 0, false⟩,
        ⟨(some 41), .call 21 [(.t 39), (.t 40)], some (38, false), 0, false⟩,
        ⟨(some 42), .un .not (.t 41), some (38, false), 0, false⟩,
        ⟨(some 43), .pick (.t 38) (.k (.bool true)) (.t 42), none, 0, false⟩])
       (.cond (.t 43)
        (.seq
         (.reg false [
          ⟨(some 8), .mov (.k (.bool false)), none, 0, false⟩])
         .ret)
        .skip))
      (.seq
       (.reg false [
        ⟨(some 45), .load (some 5) (.t 4), none, 0, false⟩,
        ⟨(some 46), .mov (.t 2), none, 0, false⟩,
        ⟨(some 47), .mov (.t 3), none, 0, false⟩,
        ⟨(some 48), .load (some 5) (.t 5), none, 0, false⟩,
        ⟨(some 49), .call 37 [(.t 45), (.t 46), (.t 47), (.t 48)], none, 0, false⟩,
        ⟨(some 44), .mov (.t 49), none, 0, false⟩,
        ⟨(some 50), .ext (.t 44) 0, none, 0, false⟩,
        ⟨(some 51), .ext (.t 44) 1, none, 0, false⟩,
        ⟨none, .store 5 (.t 9) (.t 50), none, 0, false⟩,
        ⟨(some 10), .mov (.t 51), none, 0, false⟩])
       (.seq
        (.reg false [
         ⟨(some 53), .load (some 5) (.t 4), none, 0, false⟩,
         ⟨(some 54), .mov (.t 2), none, 0, false⟩,
         ⟨(some 55), .mov (.t 3), none, 0, false⟩,
         ⟨(some 56), .load (some 5) (.t 5), none, 0, false⟩,
         ⟨(some 57), .call 38 [(.t 53), (.t 54), (.t 55), (.t 56)], none, 0, false⟩,
         ⟨(some 52), .mov (.t 57), none, 0, false⟩,
         ⟨(some 58), .ext (.t 52) 0, none, 0, false⟩,
         ⟨(some 59), .ext (.t 52) 1, none, 0, false⟩,
         ⟨none, .store 5 (.t 11) (.t 58), none, 0, false⟩,
         ⟨(some 12), .mov (.t 59), none, 0, false⟩])
        (.seq
         (.seq
          (.reg false [
           ⟨(some 60), .mov (.t 10), none, 0, false⟩,
           ⟨(some 61), .mov (.t 12), none, 0, false⟩,
           ⟨(some 62), .bin .neq [0] (.t 60) (.t 61), none, 0, false⟩,
           ⟨(some 63), .mov (.t 62), none, 0, false⟩,
           ⟨(some 64), .load (some 5) (.t 9), some (63, false), 0, false⟩,
           ⟨(some 65), .load (some 5) (.t 11), some (63, false), 0, false⟩,
           ⟨(some 66), .call 21 [(.t 64), (.t 65)], some (63, false), 0, false⟩,
           ⟨(some 67), .un .not (.t 66), some (63, false), 0, false⟩,
           ⟨(some 68), .pick (.t 63) (.k (.bool true)) (.t 67), none, 0, false⟩])
          (.cond (.t 68)
           (.seq
            (.reg false [
             ⟨(some 8), .mov (.k (.bool false)), none, 0, false⟩])
            .ret)
           .skip))
         (.seq
          (.reg false [
           ⟨(some 70), .load (some 5) (.t 4), none, 0, false⟩,
           ⟨(some 71), .mov (.t 3), none, 0, false⟩,
           ⟨(some 72), .load (some 5) (.t 5), none, 0, false⟩,
           ⟨(some 73), .call 39 [(.t 70), (.t 71), (.t 72)], none, 0, false⟩,
           ⟨(some 69), .mov (.t 73), none, 0, false⟩,
           ⟨(some 74), .ext (.t 69) 0, none, 0, false⟩,
           ⟨(some 75), .ext (.t 69) 1, none, 0, false⟩,
           ⟨none, .store 5 (.t 9) (.t 74), none, 0, false⟩,
           ⟨(some 10), .mov (.t 75), none, 0, false⟩])
          (.seq
           (.reg false [
            ⟨(some 77), .load (some 5) (.t 4), none, 0, false⟩,
            ⟨(some 78), .mov (.t 3), none, 0, false⟩,
            ⟨(some 79), .load (some 5) (.t 5), none, 0, false⟩,
            ⟨(some 80), .call 40 [(.t 77), (.t 78), (.t 79)], none, 0, false⟩,
            ⟨(some 76), .mov (.t 80), none, 0, false⟩,
            ⟨(some 81), .ext (.t 76) 0, none, 0, false⟩,
            ⟨(some 82), .ext (.t 76) 1, none, 0, false⟩,
            ⟨none, .store 5 (.t 11) (.t 81), none, 0, false⟩,
            ⟨(some 12), .mov (.t 82), none, 0, false⟩])
           (.seq
            (.reg false [
             ⟨(some 83), .call 14 [], none, 0, false⟩,
             ⟨(some 84), .mov (.t 83), none, 0, false⟩,
             ⟨(some 85), .mov (.t 10), some (84, true), 0, false⟩,
             ⟨(some 86), .mov (.t 12), some (84, true), 0, false⟩,
             ⟨(some 87), .bin .eql [0] (.t 85) (.t 86), some (84, true), 0, false⟩,
             ⟨(some 88), .pick (.t 84) (.t 87) (.k (.bool false)), none, 0, false⟩,
             ⟨(some 89), .mov (.t 88), none, 0, false⟩,
             ⟨(some 90), .load (some 5) (.t 9), some (89, true), 0, false⟩,
             ⟨(some 91), .load (some 5) (.t 11), some (89, true), 0, false⟩,
             ⟨(some 92), .call 21 [(.t 90), (.t 91)], some (89, true), 0, false⟩,
             ⟨(some 93), .pick (.t 89) (.t 92) (.k (.bool false)), none, 0, false⟩,
             ⟨(some 8), .mov (.t 93), none, 0, false⟩])
            .ret))))))))))),
 [.tmp 8]⟩
theorem ir_11 : ir 11 = some f11 := by kernel_rfl
/-! cutroom/cutroomlaw07.PlaneTiles -/
def f12 : F := ⟨99, 2,
 (.seq
  (.reg false [
   ⟨(some 2), .box (.t 0), none, 0, false⟩,
   ⟨(some 4), .mov (.k (.bool false)), none, 0, false⟩])
  (.seq
   (.seq
    (.reg false [
     ⟨(some 14), .load (some 5) (.t 2), none, 0, false⟩,
     ⟨(some 15), .call 13 [(.t 14)], none, 0, false⟩,
     ⟨(some 16), .un .not (.t 15), none, 0, false⟩,
     ⟨(some 17), .mov (.t 16), none, 0, false⟩,
     ⟨(some 18), .load (some 5) (.t 2), some (17, false), 0, false⟩,
     ⟨(some 19), .call 18 [(.t 18)], some (17, false), 0, false⟩,
     ⟨(some 20), .un .not (.t 19), some (17, false), 0, false⟩,
     ⟨(some 21), .pick (.t 17) (.k (.bool true)) (.t 20), none, 0, false⟩])
    (.cond (.t 21)
     (.seq
      (.reg false [
       ⟨(some 22), .call 14 [], none, 0, false⟩,
       ⟨(some 4), .mov (.t 22), none, 0, false⟩])
      .ret)
     .skip))
   (.seq
    (.reg false [
     ⟨(some 24), .fadr 0 (.t 2), none, 0, false⟩,
     ⟨(some 25), .load none (.t 24), none, 0, false⟩,
     ⟨(some 26), .fadr 1 (.t 2), none, 0, false⟩,
     ⟨(some 27), .load none (.t 26), none, 0, false⟩,
     ⟨(some 28), .call 19 [(.t 25), (.t 27), (.k (.int .u8 77)), (.k (.int .u8 78)), (.k (.int .u8 79))], none, 0, false⟩,
     ⟨(some 23), .mov (.t 28), none, 0, false⟩,
     ⟨(some 29), .ext (.t 23) 0, none, 0, false⟩,
     ⟨(some 30), .ext (.t 23) 1, none, 0, false⟩,
     ⟨(some 5), .alloc [.int .i64 0, .int .i64 0, .nils, .nils, .nils], none, 0, false⟩,
     ⟨none, .store 5 (.t 5) (.t 29), none, 0, false⟩,
     ⟨(some 6), .mov (.t 30), none, 0, false⟩])
    (.seq
     (.seq
      (.reg false [
       ⟨(some 31), .mov (.t 6), none, 0, false⟩,
       ⟨(some 32), .bin .neq [0] (.t 31) (.k (.int .i64 0)), none, 0, false⟩])
      (.cond (.t 32)
       (.seq
        (.reg false [
         ⟨(some 4), .mov (.k (.bool false)), none, 0, false⟩])
        .ret)
       .skip))
     (.seq
      (.seq
       (.reg false [
        ⟨(some 7), .mov (.k (.int .i64 0)), none, 0, false⟩])
       (.blk 0
        (.loop
         (.seq
          (.seq
           (.reg false [
            ⟨(some 33), .mov (.t 7), none, 0, false⟩,
            ⟨(some 34), .fadr 0 (.t 2), none, 0, false⟩,
            ⟨(some 35), .load none (.t 34), none, 0, false⟩,
            ⟨(some 36), .bin .quo [0] (.t 35) (.k (.int .i64 16)), none, 0, false⟩,
            ⟨(some 37), .fadr 1 (.t 2), none, 0, false⟩,
            ⟨(some 38), .load none (.t 37), none, 0, false⟩,
            ⟨(some 39), .bin .quo [0] (.t 38) (.k (.int .i64 16)), none, 0, false⟩,
            ⟨(some 40), .bin .mul [0] (.t 36) (.t 39), none, 0, false⟩,
            ⟨(some 41), .bin .lss [0] (.t 33) (.t 40), none, 0, false⟩])
           (.cond (.t 41)
            .skip
            (.exit 0)))
          (.seq
           (.blk 1
            (.seq
             (.reg true [
              ⟨(some 44), .mov (.t 7), none, 0, false⟩,
              ⟨(some 45), .fadr 0 (.t 2), none, 0, false⟩,
              ⟨(some 46), .load none (.t 45), none, 2, false⟩,
              ⟨(some 47), .bin .quo [0] (.t 46) (.k (.int .i64 16)), none, 6, false⟩,
              ⟨(some 48), .bin .rem [0] (.t 44) (.t 47), none, 15, false⟩,
              ⟨(some 49), .mov (.t 7), none, 0, false⟩,
              ⟨(some 50), .fadr 0 (.t 2), none, 0, false⟩,
              ⟨(some 51), .load none (.t 50), none, 64, false⟩,
              ⟨(some 52), .bin .quo [0] (.t 51) (.k (.int .i64 16)), none, 192, false⟩,
              ⟨(some 53), .bin .quo [0] (.t 49) (.t 52), none, 480, false⟩,
              ⟨(some 8), .mov (.t 48), none, 31, false⟩,
              ⟨(some 9), .mov (.t 53), none, 2047, true⟩])
             (.seq
              (.reg false [
               ⟨(some 54), .mov (.t 1), none, 0, false⟩,
               ⟨(some 55), .lenL (.t 54), none, 0, false⟩,
               ⟨(some 56), .bin .gtr [0] (.t 55) (.k (.int .i64 0)), none, 0, false⟩,
               ⟨(some 57), .mov (.t 56), none, 0, false⟩,
               ⟨(some 58), .mov (.t 1), some (57, true), 0, false⟩,
               ⟨(some 59), .mov (.t 7), some (57, true), 0, false⟩,
               ⟨(some 60), .mov (.t 1), some (57, true), 0, false⟩,
               ⟨(some 61), .lenL (.t 60), some (57, true), 0, false⟩,
               ⟨(some 62), .bin .rem [0] (.t 59) (.t 61), some (57, true), 0, false⟩,
               ⟨(some 63), .iadrL 1 (.t 58) (.t 62), some (57, true), 0, false⟩,
               ⟨(some 64), .load none (.t 63), some (57, true), 0, false⟩,
               ⟨(some 65), .pick (.t 57) (.t 64) (.k (.bool false)), none, 0, false⟩,
               ⟨(some 10), .mov (.t 65), none, 0, false⟩])
              (.seq
               (.reg false [
                ⟨(some 11), .mov (.k (.int .i64 0)), none, 0, false⟩])
               (.blk 2
                (.loop
                 (.seq
                  (.seq
                   (.reg false [
                    ⟨(some 66), .mov (.t 11), none, 0, false⟩,
                    ⟨(some 67), .bin .lss [0] (.t 66) (.k (.int .i64 6)), none, 0, false⟩])
                   (.cond (.t 67)
                    .skip
                    (.exit 2)))
                  (.seq
                   (.blk 3
                    (.seq
                     (.reg false [
                      ⟨(some 71), .load (some 5) (.t 2), none, 0, false⟩,
                      ⟨(some 72), .mov (.t 8), none, 0, false⟩,
                      ⟨(some 73), .mov (.t 9), none, 0, false⟩,
                      ⟨(some 74), .mov (.t 11), none, 0, false⟩,
                      ⟨(some 75), .mov (.t 10), none, 0, false⟩,
                      ⟨(some 76), .call 30 [(.t 71), (.t 72), (.t 73), (.t 74), (.t 75)], none, 0, false⟩,
                      ⟨(some 70), .mov (.t 76), none, 0, false⟩,
                      ⟨(some 77), .ext (.t 70) 0, none, 0, false⟩,
                      ⟨(some 78), .ext (.t 70) 1, none, 0, false⟩,
                      ⟨(some 12), .alloc [.int .i64 0, .int .i64 0, .int .i64 0, .int .i64 0, .int .i64 0, .int .i64 0, .int .i64 0, .int .i64 0, .int .i64 0, .int .i64 0, .int .i64 0, .int .i64 0, .int .i64 0, .int .i64 0, .int .i64 0, .int .i64 0, .int .i64 0, .int .i64 0, .int .i64 0, .int .i64 0, .int .i64 0, .int .i64 0, .int .i64 0, .int .i64 0, .int .i64 0, .int .i64 0, .int .i64 0, .int .i64 0, .int .i64 0, .int .i64 0, .int .i64 0, .int .i64 0, .int .i64 0, .int .i64 0, .int .i64 0, .int .i64 0, .int .i64 0, .int .i64 0, .int .i64 0, .int .i64 0, .int .i64 0, .int .i64 0, .int .i64 0, .int .i64 0, .int .i64 0, .int .i64 0, .int .i64 0, .int .i64 0, .int .i64 0, .int .i64 0, .int .i64 0, .int .i64 0, .int .i64 0, .int .i64 0, .int .i64 0, .int .i64 0, .int .i64 0, .int .i64 0, .int .i64 0, .int .i64 0, .int .i64 0, .int .i64 0, .int .i64 0, .int .i64 0], none, 0, false⟩,
                      ⟨none, .store 64 (.t 12) (.t 77), none, 0, false⟩,
                      ⟨(some 13), .mov (.t 78), none, 0, false⟩])
                     (.seq
                      (.seq
                       (.reg false [
                        ⟨(some 79), .mov (.t 13), none, 0, false⟩,
                        ⟨(some 80), .bin .neq [0] (.t 79) (.k (.int .i64 0)), none, 0, false⟩])
                       (.cond (.t 80)
                        (.seq
                         (.reg false [
                          ⟨(some 4), .mov (.k (.bool false)), none, 0, false⟩])
                         .ret)
                        .skip))
                      (.seq
                       (.reg false [
                        ⟨(some 82), .load (some 5) (.t 5), none, 0, false⟩,
                        ⟨(some 83), .mov (.t 8), none, 0, false⟩,
                        ⟨(some 84), .mov (.t 9), none, 0, false⟩,
                        ⟨(some 85), .mov (.t 11), none, 0, false⟩,
                        ⟨(some 86), .mov (.t 10), none, 0, false⟩,
                        ⟨(some 87), .load (some 64) (.t 12), none, 0, false⟩,
                        ⟨(some 88), .call 33 [(.t 82), (.t 83), (.t 84), (.t 85), (.t 86), (.t 87)], none, 0, false⟩,
                        ⟨(some 81), .mov (.t 88), none, 0, false⟩,
                        ⟨(some 89), .ext (.t 81) 0, none, 0, false⟩,
                        ⟨(some 90), .ext (.t 81) 1, none, 0, false⟩,
                        ⟨none, .store 5 (.t 5) (.t 89), none, 0, false⟩,
                        ⟨(some 13), .mov (.t 90), none, 0, false⟩])
                       (.seq
                        (.reg false [
                         ⟨(some 91), .mov (.t 13), none, 0, false⟩,
                         ⟨(some 92), .bin .neq [0] (.t 91) (.k (.int .i64 0)), none, 0, false⟩])
                        (.cond (.t 92)
                         (.seq
                          (.reg false [
                           ⟨(some 4), .mov (.k (.bool false)), none, 0, false⟩])
                          .ret)
                         .skip))))))
                   (.reg false [
                    ⟨(some 68), .mov (.t 11), none, 0, false⟩,
                    ⟨(some 69), .bin .add [0] (.t 68) (.k (.int .i64 1)), none, 0, false⟩,
                    ⟨(some 11), .mov (.t 69), none, 0, false⟩])))))))))
           (.reg false [
            ⟨(some 42), .mov (.t 7), none, 0, false⟩,
            ⟨(some 43), .bin .add [0] (.t 42) (.k (.int .i64 1)), none, 0, false⟩,
            ⟨(some 7), .mov (.t 43), none, 0, false⟩]))))))
      (.seq
       (.reg false [
        ⟨(some 93), .call 14 [], none, 0, false⟩,
        ⟨(some 94), .mov (.t 93), none, 0, false⟩,
        ⟨(some 95), .load (some 5) (.t 2), some (94, true), 0, false⟩,
        ⟨(some 96), .load (some 5) (.t 5), some (94, true), 0, false⟩,
        ⟨(some 97), .call 21 [(.t 95), (.t 96)], some (94, true), 0, false⟩,
        ⟨(some 98), .pick (.t 94) (.t 97) (.k (.bool false)), none, 0, false⟩,
        ⟨(some 4), .mov (.t 98), none, 0, false⟩])
       .ret)))))),
 [.tmp 4]⟩
theorem ir_12 : ir 12 = some f12 := by kernel_rfl
/-! cutroom/cutroomlaw07.light -/
def f13 : F := ⟨19, 1,
 (.seq
  (.reg false [
   ⟨(some 1), .box (.t 0), none, 0, false⟩,
   ⟨(some 2), .mov (.k (.bool false)), none, 0, false⟩])
  (.seq
   (.reg false [
    ⟨(some 3), .fadr 2 (.t 1), none, 0, false⟩,
    ⟨(some 4), .load none (.t 3), none, 0, false⟩,
    ⟨(some 5), .lenL (.t 4), none, 0, false⟩,
    ⟨(some 6), .bin .leq [0] (.t 5) (.k (.int .i64 5000)), none, 0, false⟩,
    ⟨(some 7), .mov (.t 6), none, 0, false⟩,
    ⟨(some 8), .fadr 3 (.t 1), some (7, true), 0, false⟩,
    ⟨(some 9), .load none (.t 8), some (7, true), 0, false⟩,
    ⟨(some 10), .lenL (.t 9), some (7, true), 0, false⟩,
    ⟨(some 11), .bin .leq [0] (.t 10) (.k (.int .i64 2000)), some (7, true), 0, false⟩,
    ⟨(some 12), .pick (.t 7) (.t 11) (.k (.bool false)), none, 0, false⟩,
    ⟨(some 13), .mov (.t 12), none, 0, false⟩,
    ⟨(some 14), .fadr 4 (.t 1), some (13, true), 0, false⟩,
    ⟨(some 15), .load none (.t 14), some (13, true), 0, false⟩,
    ⟨(some 16), .lenL (.t 15), some (13, true), 0, false⟩,
    ⟨(some 17), .bin .leq [0] (.t 16) (.k (.int .i64 2000)), some (13, true), 0, false⟩,
    ⟨(some 18), .pick (.t 13) (.t 17) (.k (.bool false)), none, 0, false⟩,
    ⟨(some 2), .mov (.t 18), none, 0, false⟩])
   .ret)),
 [.tmp 2]⟩
theorem ir_13 : ir 13 = some f13 := by kernel_rfl
/-! cutroom/cutroomlaw07.awake -/
def f14 : F := ⟨29, 0,
 (.seq
  (.reg false [
   ⟨(some 0), .mov (.k (.bool false)), none, 0, false⟩])
  (.seq
   (.reg false [
    ⟨(some 6), .call 19 [(.k (.int .i64 16)), (.k (.int .i64 16)), (.k (.int .u8 1)), (.k (.int .u8 2)), (.k (.int .u8 3))], none, 0, false⟩,
    ⟨(some 5), .mov (.t 6), none, 0, false⟩,
    ⟨(some 7), .ext (.t 5) 0, none, 0, false⟩,
    ⟨(some 8), .ext (.t 5) 1, none, 0, false⟩,
    ⟨(some 1), .alloc [.int .i64 0, .int .i64 0, .nils, .nils, .nils], none, 0, false⟩,
    ⟨none, .store 5 (.t 1) (.t 7), none, 0, false⟩,
    ⟨(some 2), .mov (.t 8), none, 0, false⟩])
   (.seq
    (.reg false [
     ⟨(some 10), .call 19 [(.k (.int .i64 16)), (.k (.int .i64 16)), (.k (.int .u8 4)), (.k (.int .u8 2)), (.k (.int .u8 1))], none, 0, false⟩,
     ⟨(some 9), .mov (.t 10), none, 0, false⟩,
     ⟨(some 11), .ext (.t 9) 0, none, 0, false⟩,
     ⟨(some 12), .ext (.t 9) 1, none, 0, false⟩,
     ⟨(some 3), .alloc [.int .i64 0, .int .i64 0, .nils, .nils, .nils], none, 0, false⟩,
     ⟨none, .store 5 (.t 3) (.t 11), none, 0, false⟩,
     ⟨(some 4), .mov (.t 12), none, 0, false⟩])
    (.seq
     (.reg false [
      ⟨(some 13), .mov (.t 2), none, 0, false⟩,
      ⟨(some 14), .bin .eql [0] (.t 13) (.k (.int .i64 0)), none, 0, false⟩,
      ⟨(some 15), .mov (.t 14), none, 0, false⟩,
      ⟨(some 16), .mov (.t 4), some (15, true), 0, false⟩,
      ⟨(some 17), .bin .eql [0] (.t 16) (.k (.int .i64 0)), some (15, true), 0, false⟩,
      ⟨(some 18), .pick (.t 15) (.t 17) (.k (.bool false)), none, 0, false⟩,
      ⟨(some 19), .mov (.t 18), none, 0, false⟩,
      ⟨(some 20), .load (some 5) (.t 1), some (19, true), 0, false⟩,
      ⟨(some 21), .call 17 [(.t 20)], some (19, true), 0, false⟩,
      ⟨(some 22), .pick (.t 19) (.t 21) (.k (.bool false)), none, 0, false⟩,
      ⟨(some 23), .mov (.t 22), none, 0, false⟩,
      ⟨(some 24), .load (some 5) (.t 1), some (23, true), 0, false⟩,
      ⟨(some 25), .load (some 5) (.t 3), some (23, true), 0, false⟩,
      ⟨(some 26), .call 24 [(.t 24), (.t 25)], some (23, true), 0, false⟩,
      ⟨(some 27), .bin .eql [0] (.t 26) (.k (.int .i64 3)), some (23, true), 0, false⟩,
      ⟨(some 28), .pick (.t 23) (.t 27) (.k (.bool false)), none, 0, false⟩,
      ⟨(some 0), .mov (.t 28), none, 0, false⟩])
     .ret)))),
 [.tmp 0]⟩
theorem ir_14 : ir 14 = some f14 := by kernel_rfl
/-! cutroom/plane.Formed -/
def f15 : F := ⟨66, 1,
 (.seq
  (.reg false [
   ⟨(some 1), .box (.t 0), none, 0, false⟩,
   ⟨(some 2), .mov (.k (.bool false)), none, 0, false⟩])
  (.seq
   (.seq
    (.reg false [
     ⟨(some 3), .fadr 0 (.t 1), none, 0, false⟩,
     ⟨(some 4), .load none (.t 3), none, 0, false⟩,
     ⟨(some 5), .bin .lss [0] (.t 4) (.k (.int .i64 2)), none, 0, false⟩,
     ⟨(some 6), .mov (.t 5), none, 0, false⟩,
     ⟨(some 7), .fadr 0 (.t 1), some (6, false), 0, false⟩,
     ⟨(some 8), .load none (.t 7), some (6, false), 0, false⟩,
     ⟨(some 9), .bin .gtr [0] (.t 8) (.k (.int .i64 64)), some (6, false), 0, false⟩,
     ⟨(some 10), .pick (.t 6) (.k (.bool true)) (.t 9), none, 0, false⟩,
     ⟨(some 11), .mov (.t 10), none, 0, false⟩,
     ⟨(some 12), .fadr 0 (.t 1), some (11, false), 0, false⟩,
     ⟨(some 13), .load none (.t 12), some (11, false), 0, false⟩,
     ⟨(some 14), .bin .rem [0] (.t 13) (.k (.int .i64 2)), some (11, false), 0, false⟩,
     ⟨(some 15), .bin .neq [0] (.t 14) (.k (.int .i64 0)), some (11, false), 0, false⟩,
     ⟨(some 16), .pick (.t 11) (.k (.bool true)) (.t 15), none, 0, false⟩,
     ⟨(some 17), .mov (.t 16), none, 0, false⟩,
     ⟨(some 18), .fadr 1 (.t 1), some (17, false), 0, false⟩,
     ⟨(some 19), .load none (.t 18), some (17, false), 0, false⟩,
     ⟨(some 20), .bin .lss [0] (.t 19) (.k (.int .i64 2)), some (17, false), 0, false⟩,
     ⟨(some 21), .pick (.t 17) (.k (.bool true)) (.t 20), none, 0, false⟩,
     ⟨(some 22), .mov (.t 21), none, 0, false⟩,
     ⟨(some 23), .fadr 1 (.t 1), some (22, false), 0, false⟩,
     ⟨(some 24), .load none (.t 23), some (22, false), 0, false⟩,
     ⟨(some 25), .bin .gtr [0] (.t 24) (.k (.int .i64 64)), some (22, false), 0, false⟩,
     ⟨(some 26), .pick (.t 22) (.k (.bool true)) (.t 25), none, 0, false⟩,
     ⟨(some 27), .mov (.t 26), none, 0, false⟩,
     ⟨(some 28), .fadr 1 (.t 1), some (27, false), 0, false⟩,
     ⟨(some 29), .load none (.t 28), some (27, false), 0, false⟩,
     ⟨(some 30), .bin .rem [0] (.t 29) (.k (.int .i64 2)), some (27, false), 0, false⟩,
     ⟨(some 31), .bin .neq [0] (.t 30) (.k (.int .i64 0)), some (27, false), 0, false⟩,
     ⟨(some 32), .pick (.t 27) (.k (.bool true)) (.t 31), none, 0, false⟩])
    (.cond (.t 32)
     (.seq
      (.reg false [
       ⟨(some 2), .mov (.k (.bool false)), none, 0, false⟩])
      .ret)
     .skip))
   (.seq
    (.reg false [
     ⟨(some 33), .fadr 2 (.t 1), none, 0, false⟩,
     ⟨(some 34), .load none (.t 33), none, 0, false⟩,
     ⟨(some 35), .lenL (.t 34), none, 0, false⟩,
     ⟨(some 36), .fadr 0 (.t 1), none, 0, false⟩,
     ⟨(some 37), .load none (.t 36), none, 0, false⟩,
     ⟨(some 38), .fadr 1 (.t 1), none, 0, false⟩,
     ⟨(some 39), .load none (.t 38), none, 0, false⟩,
     ⟨(some 40), .bin .mul [0] (.t 37) (.t 39), none, 0, false⟩,
     ⟨(some 41), .bin .eql [0] (.t 35) (.t 40), none, 0, false⟩,
     ⟨(some 42), .mov (.t 41), none, 0, false⟩,
     ⟨(some 43), .fadr 3 (.t 1), some (42, true), 0, false⟩,
     ⟨(some 44), .load none (.t 43), some (42, true), 0, false⟩,
     ⟨(some 45), .lenL (.t 44), some (42, true), 0, false⟩,
     ⟨(some 46), .fadr 0 (.t 1), some (42, true), 0, false⟩,
     ⟨(some 47), .load none (.t 46), some (42, true), 0, false⟩,
     ⟨(some 48), .fadr 1 (.t 1), some (42, true), 0, false⟩,
     ⟨(some 49), .load none (.t 48), some (42, true), 0, false⟩,
     ⟨(some 50), .bin .mul [0] (.t 47) (.t 49), some (42, true), 0, false⟩,
     ⟨(some 51), .bin .quo [0] (.t 50) (.k (.int .i64 4)), some (42, true), 0, false⟩,
     ⟨(some 52), .bin .eql [0] (.t 45) (.t 51), some (42, true), 0, false⟩,
     ⟨(some 53), .pick (.t 42) (.t 52) (.k (.bool false)), none, 0, false⟩,
     ⟨(some 54), .mov (.t 53), none, 0, false⟩,
     ⟨(some 55), .fadr 4 (.t 1), some (54, true), 0, false⟩,
     ⟨(some 56), .load none (.t 55), some (54, true), 0, false⟩,
     ⟨(some 57), .lenL (.t 56), some (54, true), 0, false⟩,
     ⟨(some 58), .fadr 0 (.t 1), some (54, true), 0, false⟩,
     ⟨(some 59), .load none (.t 58), some (54, true), 0, false⟩,
     ⟨(some 60), .fadr 1 (.t 1), some (54, true), 0, false⟩,
     ⟨(some 61), .load none (.t 60), some (54, true), 0, false⟩,
     ⟨(some 62), .bin .mul [0] (.t 59) (.t 61), some (54, true), 0, false⟩,
     ⟨(some 63), .bin .quo [0] (.t 62) (.k (.int .i64 4)), some (54, true), 0, false⟩,
     ⟨(some 64), .bin .eql [0] (.t 57) (.t 63), some (54, true), 0, false⟩,
     ⟨(some 65), .pick (.t 54) (.t 64) (.k (.bool false)), none, 0, false⟩,
     ⟨(some 2), .mov (.t 65), none, 0, false⟩])
    .ret))),
 [.tmp 2]⟩
theorem ir_15 : ir 15 = some f15 := by kernel_rfl
/-! cutroom/cutroomref07.Formed -/
def f16 : F := ⟨68, 1,
 (.seq
  (.reg false [
   ⟨(some 1), .box (.t 0), none, 0, false⟩,
   ⟨(some 2), .mov (.k (.bool false)), none, 0, false⟩])
  (.seq
   (.seq
    (.reg false [
     ⟨(some 3), .fadr 0 (.t 1), none, 0, false⟩,
     ⟨(some 4), .load none (.t 3), none, 0, false⟩,
     ⟨(some 5), .bin .lss [0] (.t 4) (.k (.int .i64 2)), none, 0, false⟩,
     ⟨(some 6), .mov (.t 5), none, 0, false⟩,
     ⟨(some 7), .fadr 0 (.t 1), some (6, false), 0, false⟩,
     ⟨(some 8), .load none (.t 7), some (6, false), 0, false⟩,
     ⟨(some 9), .bin .gtr [0] (.t 8) (.k (.int .i64 64)), some (6, false), 0, false⟩,
     ⟨(some 10), .pick (.t 6) (.k (.bool true)) (.t 9), none, 0, false⟩,
     ⟨(some 11), .mov (.t 10), none, 0, false⟩,
     ⟨(some 12), .fadr 0 (.t 1), some (11, false), 0, false⟩,
     ⟨(some 13), .load none (.t 12), some (11, false), 0, false⟩,
     ⟨(some 14), .bin .rem [0] (.t 13) (.k (.int .i64 2)), some (11, false), 0, false⟩,
     ⟨(some 15), .bin .neq [0] (.t 14) (.k (.int .i64 0)), some (11, false), 0, false⟩,
     ⟨(some 16), .pick (.t 11) (.k (.bool true)) (.t 15), none, 0, false⟩,
     ⟨(some 17), .mov (.t 16), none, 0, false⟩,
     ⟨(some 18), .fadr 1 (.t 1), some (17, false), 0, false⟩,
     ⟨(some 19), .load none (.t 18), some (17, false), 0, false⟩,
     ⟨(some 20), .bin .lss [0] (.t 19) (.k (.int .i64 2)), some (17, false), 0, false⟩,
     ⟨(some 21), .pick (.t 17) (.k (.bool true)) (.t 20), none, 0, false⟩,
     ⟨(some 22), .mov (.t 21), none, 0, false⟩,
     ⟨(some 23), .fadr 1 (.t 1), some (22, false), 0, false⟩,
     ⟨(some 24), .load none (.t 23), some (22, false), 0, false⟩,
     ⟨(some 25), .bin .gtr [0] (.t 24) (.k (.int .i64 64)), some (22, false), 0, false⟩,
     ⟨(some 26), .pick (.t 22) (.k (.bool true)) (.t 25), none, 0, false⟩,
     ⟨(some 27), .mov (.t 26), none, 0, false⟩,
     ⟨(some 28), .fadr 1 (.t 1), some (27, false), 0, false⟩,
     ⟨(some 29), .load none (.t 28), some (27, false), 0, false⟩,
     ⟨(some 30), .bin .rem [0] (.t 29) (.k (.int .i64 2)), some (27, false), 0, false⟩,
     ⟨(some 31), .bin .neq [0] (.t 30) (.k (.int .i64 0)), some (27, false), 0, false⟩,
     ⟨(some 32), .pick (.t 27) (.k (.bool true)) (.t 31), none, 0, false⟩])
    (.cond (.t 32)
     (.seq
      (.reg false [
       ⟨(some 2), .mov (.k (.bool false)), none, 0, false⟩])
      .ret)
     .skip))
   (.seq
    (.reg false [
     ⟨(some 33), .fadr 2 (.t 1), none, 0, false⟩,
     ⟨(some 34), .load none (.t 33), none, 0, false⟩,
     ⟨(some 35), .lenL (.t 34), none, 0, false⟩,
     ⟨(some 36), .fadr 0 (.t 1), none, 0, false⟩,
     ⟨(some 37), .load none (.t 36), none, 0, false⟩,
     ⟨(some 38), .fadr 1 (.t 1), none, 0, false⟩,
     ⟨(some 39), .load none (.t 38), none, 0, false⟩,
     ⟨(some 40), .bin .mul [0] (.t 37) (.t 39), none, 0, false⟩,
     ⟨(some 41), .bin .eql [0] (.t 35) (.t 40), none, 0, false⟩,
     ⟨(some 42), .mov (.t 41), none, 0, false⟩,
     ⟨(some 43), .fadr 3 (.t 1), some (42, true), 0, false⟩,
     ⟨(some 44), .load none (.t 43), some (42, true), 0, false⟩,
     ⟨(some 45), .lenL (.t 44), some (42, true), 0, false⟩,
     ⟨(some 46), .fadr 0 (.t 1), some (42, true), 0, false⟩,
     ⟨(some 47), .load none (.t 46), some (42, true), 0, false⟩,
     ⟨(some 48), .bin .quo [0] (.t 47) (.k (.int .i64 2)), some (42, true), 0, false⟩,
     ⟨(some 49), .fadr 1 (.t 1), some (42, true), 0, false⟩,
     ⟨(some 50), .load none (.t 49), some (42, true), 0, false⟩,
     ⟨(some 51), .bin .quo [0] (.t 50) (.k (.int .i64 2)), some (42, true), 0, false⟩,
     ⟨(some 52), .bin .mul [0] (.t 48) (.t 51), some (42, true), 0, false⟩,
     ⟨(some 53), .bin .eql [0] (.t 45) (.t 52), some (42, true), 0, false⟩,
     ⟨(some 54), .pick (.t 42) (.t 53) (.k (.bool false)), none, 0, false⟩,
     ⟨(some 55), .mov (.t 54), none, 0, false⟩,
     ⟨(some 56), .fadr 4 (.t 1), some (55, true), 0, false⟩,
     ⟨(some 57), .load none (.t 56), some (55, true), 0, false⟩,
     ⟨(some 58), .lenL (.t 57), some (55, true), 0, false⟩,
     ⟨(some 59), .fadr 0 (.t 1), some (55, true), 0, false⟩,
     ⟨(some 60), .load none (.t 59), some (55, true), 0, false⟩,
     ⟨(some 61), .bin .quo [0] (.t 60) (.k (.int .i64 2)), some (55, true), 0, false⟩,
     ⟨(some 62), .fadr 1 (.t 1), some (55, true), 0, false⟩,
     ⟨(some 63), .load none (.t 62), some (55, true), 0, false⟩,
     ⟨(some 64), .bin .quo [0] (.t 63) (.k (.int .i64 2)), some (55, true), 0, false⟩,
     ⟨(some 65), .bin .mul [0] (.t 61) (.t 64), some (55, true), 0, false⟩,
     ⟨(some 66), .bin .eql [0] (.t 58) (.t 65), some (55, true), 0, false⟩,
     ⟨(some 67), .pick (.t 55) (.t 66) (.k (.bool false)), none, 0, false⟩,
     ⟨(some 2), .mov (.t 67), none, 0, false⟩])
    .ret))),
 [.tmp 2]⟩
theorem ir_16 : ir 16 = some f16 := by kernel_rfl
/-! cutroom/plane.Valid -/
def f17 : F := ⟨17, 1,
 (.seq
  (.reg false [
   ⟨(some 1), .box (.t 0), none, 0, false⟩,
   ⟨(some 2), .mov (.k (.bool false)), none, 0, false⟩])
  (.seq
   (.reg false [
    ⟨(some 3), .load (some 5) (.t 1), none, 0, false⟩,
    ⟨(some 4), .call 15 [(.t 3)], none, 0, false⟩,
    ⟨(some 5), .mov (.t 4), none, 0, false⟩,
    ⟨(some 6), .fadr 0 (.t 1), some (5, true), 0, false⟩,
    ⟨(some 7), .load none (.t 6), some (5, true), 0, false⟩,
    ⟨(some 8), .bin .rem [0] (.t 7) (.k (.int .i64 16)), some (5, true), 0, false⟩,
    ⟨(some 9), .bin .eql [0] (.t 8) (.k (.int .i64 0)), some (5, true), 0, false⟩,
    ⟨(some 10), .pick (.t 5) (.t 9) (.k (.bool false)), none, 0, false⟩,
    ⟨(some 11), .mov (.t 10), none, 0, false⟩,
    ⟨(some 12), .fadr 1 (.t 1), some (11, true), 0, false⟩,
    ⟨(some 13), .load none (.t 12), some (11, true), 0, false⟩,
    ⟨(some 14), .bin .rem [0] (.t 13) (.k (.int .i64 16)), some (11, true), 0, false⟩,
    ⟨(some 15), .bin .eql [0] (.t 14) (.k (.int .i64 0)), some (11, true), 0, false⟩,
    ⟨(some 16), .pick (.t 11) (.t 15) (.k (.bool false)), none, 0, false⟩,
    ⟨(some 2), .mov (.t 16), none, 0, false⟩])
   .ret)),
 [.tmp 2]⟩
theorem ir_17 : ir 17 = some f17 := by kernel_rfl
/-! cutroom/cutroomref07.Valid -/
def f18 : F := ⟨17, 1,
 (.seq
  (.reg false [
   ⟨(some 1), .box (.t 0), none, 0, false⟩,
   ⟨(some 2), .mov (.k (.bool false)), none, 0, false⟩])
  (.seq
   (.reg false [
    ⟨(some 3), .load (some 5) (.t 1), none, 0, false⟩,
    ⟨(some 4), .call 16 [(.t 3)], none, 0, false⟩,
    ⟨(some 5), .mov (.t 4), none, 0, false⟩,
    ⟨(some 6), .fadr 0 (.t 1), some (5, true), 0, false⟩,
    ⟨(some 7), .load none (.t 6), some (5, true), 0, false⟩,
    ⟨(some 8), .bin .rem [0] (.t 7) (.k (.int .i64 16)), some (5, true), 0, false⟩,
    ⟨(some 9), .bin .eql [0] (.t 8) (.k (.int .i64 0)), some (5, true), 0, false⟩,
    ⟨(some 10), .pick (.t 5) (.t 9) (.k (.bool false)), none, 0, false⟩,
    ⟨(some 11), .mov (.t 10), none, 0, false⟩,
    ⟨(some 12), .fadr 1 (.t 1), some (11, true), 0, false⟩,
    ⟨(some 13), .load none (.t 12), some (11, true), 0, false⟩,
    ⟨(some 14), .bin .rem [0] (.t 13) (.k (.int .i64 16)), some (11, true), 0, false⟩,
    ⟨(some 15), .bin .eql [0] (.t 14) (.k (.int .i64 0)), some (11, true), 0, false⟩,
    ⟨(some 16), .pick (.t 11) (.t 15) (.k (.bool false)), none, 0, false⟩,
    ⟨(some 2), .mov (.t 16), none, 0, false⟩])
   .ret)),
 [.tmp 2]⟩
theorem ir_18 : ir 18 = some f18 := by kernel_rfl
/-! cutroom/plane.Flat -/
def f19 : F := ⟨54, 5,
 (.seq
  (.reg false [
   ⟨(some 10), .alloc [.int .i64 0, .int .i64 0, .nils, .nils, .nils], none, 0, false⟩,
   ⟨(some 11), .mov (.k (.int .i64 0)), none, 0, false⟩])
  (.seq
   (.seq
    (.reg false [
     ⟨(some 13), .mov (.t 0), none, 0, false⟩,
     ⟨(some 14), .bin .lss [0] (.t 13) (.k (.int .i64 2)), none, 0, false⟩,
     ⟨(some 15), .mov (.t 14), none, 0, false⟩,
     ⟨(some 16), .mov (.t 0), some (15, false), 0, false⟩,
     ⟨(some 17), .bin .gtr [0] (.t 16) (.k (.int .i64 64)), some (15, false), 0, false⟩,
     ⟨(some 18), .pick (.t 15) (.k (.bool true)) (.t 17), none, 0, false⟩,
     ⟨(some 19), .mov (.t 18), none, 0, false⟩,
     ⟨(some 20), .mov (.t 0), some (19, false), 0, false⟩,
     ⟨(some 21), .bin .rem [0] (.t 20) (.k (.int .i64 2)), some (19, false), 0, false⟩,
     ⟨(some 22), .bin .neq [0] (.t 21) (.k (.int .i64 0)), some (19, false), 0, false⟩,
     ⟨(some 23), .pick (.t 19) (.k (.bool true)) (.t 22), none, 0, false⟩,
     ⟨(some 24), .mov (.t 23), none, 0, false⟩,
     ⟨(some 25), .mov (.t 1), some (24, false), 0, false⟩,
     ⟨(some 26), .bin .lss [0] (.t 25) (.k (.int .i64 2)), some (24, false), 0, false⟩,
     ⟨(some 27), .pick (.t 24) (.k (.bool true)) (.t 26), none, 0, false⟩,
     ⟨(some 28), .mov (.t 27), none, 0, false⟩,
     ⟨(some 29), .mov (.t 1), some (28, false), 0, false⟩,
     ⟨(some 30), .bin .gtr [0] (.t 29) (.k (.int .i64 64)), some (28, false), 0, false⟩,
     ⟨(some 31), .pick (.t 28) (.k (.bool true)) (.t 30), none, 0, false⟩,
     ⟨(some 32), .mov (.t 31), none, 0, false⟩,
     ⟨(some 33), .mov (.t 1), some (32, false), 0, false⟩,
     ⟨(some 34), .bin .rem [0] (.t 33) (.k (.int .i64 2)), some (32, false), 0, false⟩,
     ⟨(some 35), .bin .neq [0] (.t 34) (.k (.int .i64 0)), some (32, false), 0, false⟩,
     ⟨(some 36), .pick (.t 32) (.k (.bool true)) (.t 35), none, 0, false⟩])
    (.cond (.t 36)
     (.seq
      (.reg false [
       ⟨(some 37), .bld [.int .i64 0, .int .i64 0, .nils, .nils, .nils] [], none, 0, false⟩,
       ⟨none, .store 5 (.t 10) (.t 37), none, 0, false⟩,
       ⟨(some 11), .mov (.k (.int .i64 1)), none, 0, false⟩])
      .ret)
     .skip))
   (.seq
    (.reg false [
     ⟨(some 38), .mov (.t 0), none, 0, false⟩,
     ⟨(some 39), .mov (.t 1), none, 0, false⟩,
     ⟨(some 40), .call 41 [(.t 38), (.t 39)], none, 0, false⟩,
     ⟨(some 12), .alloc [.int .i64 0, .int .i64 0, .nils, .nils, .nils], none, 0, false⟩,
     ⟨none, .store 5 (.t 12) (.t 40), none, 0, false⟩])
    (.seq
     (.reg false [
      ⟨(some 41), .fadr 2 (.t 12), none, 0, false⟩,
      ⟨(some 42), .load none (.t 41), none, 0, false⟩,
      ⟨(some 43), .mov (.t 2), none, 0, false⟩,
      ⟨(some 44), .call 42 [(.t 42), (.t 43)], none, 0, false⟩])
     (.seq
      (.reg false [
       ⟨(some 45), .fadr 3 (.t 12), none, 0, false⟩,
       ⟨(some 46), .load none (.t 45), none, 0, false⟩,
       ⟨(some 47), .mov (.t 3), none, 0, false⟩,
       ⟨(some 48), .call 42 [(.t 46), (.t 47)], none, 0, false⟩])
      (.seq
       (.reg false [
        ⟨(some 49), .fadr 4 (.t 12), none, 0, false⟩,
        ⟨(some 50), .load none (.t 49), none, 0, false⟩,
        ⟨(some 51), .mov (.t 4), none, 0, false⟩,
        ⟨(some 52), .call 42 [(.t 50), (.t 51)], none, 0, false⟩])
       (.seq
        (.reg false [
         ⟨(some 53), .load (some 5) (.t 12), none, 0, false⟩,
         ⟨none, .store 5 (.t 10) (.t 53), none, 0, false⟩,
         ⟨(some 11), .mov (.k (.int .i64 0)), none, 0, false⟩])
        .ret))))))),
 [.cell 10 (some 5), .tmp 11]⟩
theorem ir_19 : ir 19 = some f19 := by kernel_rfl
/-! cutroom/cutroomref07.Size -/
def f20 : F := ⟨29, 2,
 (.seq
  (.reg false [
   ⟨(some 4), .mov (.k (.bool false)), none, 0, false⟩])
  (.seq
   (.reg false [
    ⟨(some 5), .mov (.t 0), none, 0, false⟩,
    ⟨(some 6), .bin .geq [0] (.t 5) (.k (.int .i64 2)), none, 0, false⟩,
    ⟨(some 7), .mov (.t 6), none, 0, false⟩,
    ⟨(some 8), .mov (.t 0), some (7, true), 0, false⟩,
    ⟨(some 9), .bin .leq [0] (.t 8) (.k (.int .i64 64)), some (7, true), 0, false⟩,
    ⟨(some 10), .pick (.t 7) (.t 9) (.k (.bool false)), none, 0, false⟩,
    ⟨(some 11), .mov (.t 10), none, 0, false⟩,
    ⟨(some 12), .mov (.t 0), some (11, true), 0, false⟩,
    ⟨(some 13), .bin .rem [0] (.t 12) (.k (.int .i64 2)), some (11, true), 0, false⟩,
    ⟨(some 14), .bin .eql [0] (.t 13) (.k (.int .i64 0)), some (11, true), 0, false⟩,
    ⟨(some 15), .pick (.t 11) (.t 14) (.k (.bool false)), none, 0, false⟩,
    ⟨(some 16), .mov (.t 15), none, 0, false⟩,
    ⟨(some 17), .mov (.t 1), some (16, true), 0, false⟩,
    ⟨(some 18), .bin .geq [0] (.t 17) (.k (.int .i64 2)), some (16, true), 0, false⟩,
    ⟨(some 19), .pick (.t 16) (.t 18) (.k (.bool false)), none, 0, false⟩,
    ⟨(some 20), .mov (.t 19), none, 0, false⟩,
    ⟨(some 21), .mov (.t 1), some (20, true), 0, false⟩,
    ⟨(some 22), .bin .leq [0] (.t 21) (.k (.int .i64 64)), some (20, true), 0, false⟩,
    ⟨(some 23), .pick (.t 20) (.t 22) (.k (.bool false)), none, 0, false⟩,
    ⟨(some 24), .mov (.t 23), none, 0, false⟩,
    ⟨(some 25), .mov (.t 1), some (24, true), 0, false⟩,
    ⟨(some 26), .bin .rem [0] (.t 25) (.k (.int .i64 2)), some (24, true), 0, false⟩,
    ⟨(some 27), .bin .eql [0] (.t 26) (.k (.int .i64 0)), some (24, true), 0, false⟩,
    ⟨(some 28), .pick (.t 24) (.t 27) (.k (.bool false)), none, 0, false⟩,
    ⟨(some 4), .mov (.t 28), none, 0, false⟩])
   .ret)),
 [.tmp 4]⟩
theorem ir_20 : ir 20 = some f20 := by kernel_rfl
/-! cutroom/cutroomref07.Equal -/
def f21 : F := ⟨38, 2,
 (.seq
  (.reg false [
   ⟨(some 2), .box (.t 0), none, 0, false⟩,
   ⟨(some 3), .box (.t 1), none, 0, false⟩,
   ⟨(some 4), .mov (.k (.bool false)), none, 0, false⟩])
  (.seq
   (.reg false [
    ⟨(some 5), .fadr 0 (.t 2), none, 0, false⟩,
    ⟨(some 6), .load none (.t 5), none, 0, false⟩,
    ⟨(some 7), .fadr 0 (.t 3), none, 0, false⟩,
    ⟨(some 8), .load none (.t 7), none, 0, false⟩,
    ⟨(some 9), .bin .eql [0] (.t 6) (.t 8), none, 0, false⟩,
    ⟨(some 10), .mov (.t 9), none, 0, false⟩,
    ⟨(some 11), .fadr 1 (.t 2), some (10, true), 0, false⟩,
    ⟨(some 12), .load none (.t 11), some (10, true), 0, false⟩,
    ⟨(some 13), .fadr 1 (.t 3), some (10, true), 0, false⟩,
    ⟨(some 14), .load none (.t 13), some (10, true), 0, false⟩,
    ⟨(some 15), .bin .eql [0] (.t 12) (.t 14), some (10, true), 0, false⟩,
    ⟨(some 16), .pick (.t 10) (.t 15) (.k (.bool false)), none, 0, false⟩,
    ⟨(some 17), .mov (.t 16), none, 0, false⟩,
    ⟨(some 18), .fadr 2 (.t 2), some (17, true), 0, false⟩,
    ⟨(some 19), .load none (.t 18), some (17, true), 0, false⟩,
    ⟨(some 20), .fadr 2 (.t 3), some (17, true), 0, false⟩,
    ⟨(some 21), .load none (.t 20), some (17, true), 0, false⟩,
    ⟨(some 22), .call 43 [(.t 19), (.t 21)], some (17, true), 0, false⟩,
    ⟨(some 23), .pick (.t 17) (.t 22) (.k (.bool false)), none, 0, false⟩,
    ⟨(some 24), .mov (.t 23), none, 0, false⟩,
    ⟨(some 25), .fadr 3 (.t 2), some (24, true), 0, false⟩,
    ⟨(some 26), .load none (.t 25), some (24, true), 0, false⟩,
    ⟨(some 27), .fadr 3 (.t 3), some (24, true), 0, false⟩,
    ⟨(some 28), .load none (.t 27), some (24, true), 0, false⟩,
    ⟨(some 29), .call 43 [(.t 26), (.t 28)], some (24, true), 0, false⟩,
    ⟨(some 30), .pick (.t 24) (.t 29) (.k (.bool false)), none, 0, false⟩,
    ⟨(some 31), .mov (.t 30), none, 0, false⟩,
    ⟨(some 32), .fadr 4 (.t 2), some (31, true), 0, false⟩,
    ⟨(some 33), .load none (.t 32), some (31, true), 0, false⟩,
    ⟨(some 34), .fadr 4 (.t 3), some (31, true), 0, false⟩,
    ⟨(some 35), .load none (.t 34), some (31, true), 0, false⟩,
    ⟨(some 36), .call 43 [(.t 33), (.t 35)], some (31, true), 0, false⟩,
    ⟨(some 37), .pick (.t 31) (.t 36) (.k (.bool false)), none, 0, false⟩,
    ⟨(some 4), .mov (.t 37), none, 0, false⟩])
   .ret)),
 [.tmp 4]⟩
theorem ir_21 : ir 21 = some f21 := by kernel_rfl
/-! cutroom/cutroomref07.Flat -/
def f22 : F := ⟨47, 5,
 (.seq
  (.reg false [
   ⟨(some 10), .alloc [.int .i64 0, .int .i64 0, .nils, .nils, .nils], none, 0, false⟩])
  (.seq
   (.reg false [
    ⟨(some 14), .mov (.t 0), none, 0, false⟩,
    ⟨(some 15), .mov (.t 1), none, 0, false⟩,
    ⟨(some 16), .call 44 [(.t 14), (.t 15)], none, 0, false⟩,
    ⟨(some 11), .alloc [.int .i64 0, .int .i64 0, .nils, .nils, .nils], none, 0, false⟩,
    ⟨none, .store 5 (.t 11) (.t 16), none, 0, false⟩])
   (.seq
    (.seq
     (.reg false [
      ⟨(some 12), .mov (.k (.int .i64 0)), none, 0, false⟩])
     (.blk 0
      (.loop
       (.seq
        (.seq
         (.reg false [
          ⟨(some 17), .mov (.t 12), none, 0, false⟩,
          ⟨(some 18), .fadr 2 (.t 11), none, 0, false⟩,
          ⟨(some 19), .load none (.t 18), none, 0, false⟩,
          ⟨(some 20), .lenL (.t 19), none, 0, false⟩,
          ⟨(some 21), .bin .lss [0] (.t 17) (.t 20), none, 0, false⟩])
         (.cond (.t 21)
          .skip
          (.exit 0)))
        (.seq
         (.blk 1
          (.reg false [
           ⟨(some 24), .fadr 2 (.t 11), none, 0, false⟩,
           ⟨(some 25), .load none (.t 24), none, 0, false⟩,
           ⟨(some 26), .mov (.t 12), none, 0, false⟩,
           ⟨(some 27), .mov (.t 2), none, 0, false⟩,
           ⟨(some 28), .iadrL 1 (.t 25) (.t 26), none, 0, false⟩,
           ⟨none, .store 1 (.t 28) (.t 27), none, 0, false⟩]))
         (.reg false [
          ⟨(some 22), .mov (.t 12), none, 0, false⟩,
          ⟨(some 23), .bin .add [0] (.t 22) (.k (.int .i64 1)), none, 0, false⟩,
          ⟨(some 12), .mov (.t 23), none, 0, false⟩]))))))
    (.seq
     (.seq
      (.reg false [
       ⟨(some 13), .mov (.k (.int .i64 0)), none, 0, false⟩])
      (.blk 2
       (.loop
        (.seq
         (.seq
          (.reg false [
           ⟨(some 29), .mov (.t 13), none, 0, false⟩,
           ⟨(some 30), .fadr 3 (.t 11), none, 0, false⟩,
           ⟨(some 31), .load none (.t 30), none, 0, false⟩,
           ⟨(some 32), .lenL (.t 31), none, 0, false⟩,
           ⟨(some 33), .bin .lss [0] (.t 29) (.t 32), none, 0, false⟩])
          (.cond (.t 33)
           .skip
           (.exit 2)))
         (.seq
          (.blk 3
           (.reg true [
            ⟨(some 36), .fadr 3 (.t 11), none, 0, false⟩,
            ⟨(some 37), .load none (.t 36), none, 1, false⟩,
            ⟨(some 38), .mov (.t 13), none, 0, false⟩,
            ⟨(some 39), .fadr 4 (.t 11), none, 0, false⟩,
            ⟨(some 40), .load none (.t 39), none, 8, false⟩,
            ⟨(some 41), .mov (.t 13), none, 0, false⟩,
            ⟨(some 42), .mov (.t 3), none, 0, false⟩,
            ⟨(some 43), .mov (.t 4), none, 0, false⟩,
            ⟨(some 44), .iadrL 1 (.t 37) (.t 38), none, 71, false⟩,
            ⟨none, .store 1 (.t 44) (.t 42), none, 327, false⟩,
            ⟨(some 45), .iadrL 1 (.t 40) (.t 41), none, 1023, true⟩,
            ⟨none, .store 1 (.t 45) (.t 43), none, 2047, true⟩]))
          (.reg false [
           ⟨(some 34), .mov (.t 13), none, 0, false⟩,
           ⟨(some 35), .bin .add [0] (.t 34) (.k (.int .i64 1)), none, 0, false⟩,
           ⟨(some 13), .mov (.t 35), none, 0, false⟩]))))))
     (.seq
      (.reg false [
       ⟨(some 46), .load (some 5) (.t 11), none, 0, false⟩,
       ⟨none, .store 5 (.t 10) (.t 46), none, 0, false⟩])
      .ret))))),
 [.cell 10 (some 5)]⟩
theorem ir_22 : ir 22 = some f22 := by kernel_rfl
/-! cutroom/plane.Same -/
def f23 : F := ⟨46, 2,
 (.seq
  (.reg false [
   ⟨(some 2), .box (.t 0), none, 0, false⟩,
   ⟨(some 3), .box (.t 1), none, 0, false⟩,
   ⟨(some 4), .mov (.k (.bool false)), none, 0, false⟩])
  (.seq
   (.reg false [
    ⟨(some 5), .load (some 5) (.t 2), none, 0, false⟩,
    ⟨(some 6), .call 15 [(.t 5)], none, 0, false⟩,
    ⟨(some 7), .mov (.t 6), none, 0, false⟩,
    ⟨(some 8), .load (some 5) (.t 3), some (7, true), 0, false⟩,
    ⟨(some 9), .call 15 [(.t 8)], some (7, true), 0, false⟩,
    ⟨(some 10), .pick (.t 7) (.t 9) (.k (.bool false)), none, 0, false⟩,
    ⟨(some 11), .mov (.t 10), none, 0, false⟩,
    ⟨(some 12), .fadr 0 (.t 2), some (11, true), 0, false⟩,
    ⟨(some 13), .load none (.t 12), some (11, true), 0, false⟩,
    ⟨(some 14), .fadr 0 (.t 3), some (11, true), 0, false⟩,
    ⟨(some 15), .load none (.t 14), some (11, true), 0, false⟩,
    ⟨(some 16), .bin .eql [0] (.t 13) (.t 15), some (11, true), 0, false⟩,
    ⟨(some 17), .pick (.t 11) (.t 16) (.k (.bool false)), none, 0, false⟩,
    ⟨(some 18), .mov (.t 17), none, 0, false⟩,
    ⟨(some 19), .fadr 1 (.t 2), some (18, true), 0, false⟩,
    ⟨(some 20), .load none (.t 19), some (18, true), 0, false⟩,
    ⟨(some 21), .fadr 1 (.t 3), some (18, true), 0, false⟩,
    ⟨(some 22), .load none (.t 21), some (18, true), 0, false⟩,
    ⟨(some 23), .bin .eql [0] (.t 20) (.t 22), some (18, true), 0, false⟩,
    ⟨(some 24), .pick (.t 18) (.t 23) (.k (.bool false)), none, 0, false⟩,
    ⟨(some 25), .mov (.t 24), none, 0, false⟩,
    ⟨(some 26), .fadr 2 (.t 2), some (25, true), 0, false⟩,
    ⟨(some 27), .load none (.t 26), some (25, true), 0, false⟩,
    ⟨(some 28), .fadr 2 (.t 3), some (25, true), 0, false⟩,
    ⟨(some 29), .load none (.t 28), some (25, true), 0, false⟩,
    ⟨(some 30), .call 45 [(.t 27), (.t 29)], some (25, true), 0, false⟩,
    ⟨(some 31), .pick (.t 25) (.t 30) (.k (.bool false)), none, 0, false⟩,
    ⟨(some 32), .mov (.t 31), none, 0, false⟩,
    ⟨(some 33), .fadr 3 (.t 2), some (32, true), 0, false⟩,
    ⟨(some 34), .load none (.t 33), some (32, true), 0, false⟩,
    ⟨(some 35), .fadr 3 (.t 3), some (32, true), 0, false⟩,
    ⟨(some 36), .load none (.t 35), some (32, true), 0, false⟩,
    ⟨(some 37), .call 45 [(.t 34), (.t 36)], some (32, true), 0, false⟩,
    ⟨(some 38), .pick (.t 32) (.t 37) (.k (.bool false)), none, 0, false⟩,
    ⟨(some 39), .mov (.t 38), none, 0, false⟩,
    ⟨(some 40), .fadr 4 (.t 2), some (39, true), 0, false⟩,
    ⟨(some 41), .load none (.t 40), some (39, true), 0, false⟩,
    ⟨(some 42), .fadr 4 (.t 3), some (39, true), 0, false⟩,
    ⟨(some 43), .load none (.t 42), some (39, true), 0, false⟩,
    ⟨(some 44), .call 45 [(.t 41), (.t 43)], some (39, true), 0, false⟩,
    ⟨(some 45), .pick (.t 39) (.t 44) (.k (.bool false)), none, 0, false⟩,
    ⟨(some 4), .mov (.t 45), none, 0, false⟩])
   .ret)),
 [.tmp 4]⟩
theorem ir_23 : ir 23 = some f23 := by kernel_rfl
/-! cutroom/plane.Distance -/
def f24 : F := ⟨43, 2,
 (.seq
  (.reg false [
   ⟨(some 2), .box (.t 0), none, 0, false⟩,
   ⟨(some 3), .box (.t 1), none, 0, false⟩,
   ⟨(some 4), .mov (.k (.int .i64 0)), none, 0, false⟩])
  (.seq
   (.seq
    (.reg false [
     ⟨(some 5), .load (some 5) (.t 2), none, 0, false⟩,
     ⟨(some 6), .call 15 [(.t 5)], none, 0, false⟩,
     ⟨(some 7), .un .not (.t 6), none, 0, false⟩,
     ⟨(some 8), .mov (.t 7), none, 0, false⟩,
     ⟨(some 9), .load (some 5) (.t 3), some (8, false), 0, false⟩,
     ⟨(some 10), .call 15 [(.t 9)], some (8, false), 0, false⟩,
     ⟨(some 11), .un .not (.t 10), some (8, false), 0, false⟩,
     ⟨(some 12), .pick (.t 8) (.k (.bool true)) (.t 11), none, 0, false⟩,
     ⟨(some 13), .mov (.t 12), none, 0, false⟩,
     ⟨(some 14), .fadr 0 (.t 2), some (13, false), 0, false⟩,
     ⟨(some 15), .load none (.t 14), some (13, false), 0, false⟩,
     ⟨(some 16), .fadr 0 (.t 3), some (13, false), 0, false⟩,
     ⟨(some 17), .load none (.t 16), some (13, false), 0, false⟩,
     ⟨(some 18), .bin .neq [0] (.t 15) (.t 17), some (13, false), 0, false⟩,
     ⟨(some 19), .pick (.t 13) (.k (.bool true)) (.t 18), none, 0, false⟩,
     ⟨(some 20), .mov (.t 19), none, 0, false⟩,
     ⟨(some 21), .fadr 1 (.t 2), some (20, false), 0, false⟩,
     ⟨(some 22), .load none (.t 21), some (20, false), 0, false⟩,
     ⟨(some 23), .fadr 1 (.t 3), some (20, false), 0, false⟩,
     ⟨(some 24), .load none (.t 23), some (20, false), 0, false⟩,
     ⟨(some 25), .bin .neq [0] (.t 22) (.t 24), some (20, false), 0, false⟩,
     ⟨(some 26), .pick (.t 20) (.k (.bool true)) (.t 25), none, 0, false⟩])
    (.cond (.t 26)
     (.seq
      (.reg false [
       ⟨(some 4), .mov (.k (.int .i64 (-1))), none, 0, false⟩])
      .ret)
     .skip))
   (.seq
    (.reg true [
     ⟨(some 27), .fadr 2 (.t 2), none, 0, false⟩,
     ⟨(some 28), .load none (.t 27), none, 1, false⟩,
     ⟨(some 29), .fadr 2 (.t 3), none, 0, false⟩,
     ⟨(some 30), .load none (.t 29), none, 4, false⟩,
     ⟨(some 31), .call 46 [(.t 28), (.t 30)], none, 15, false⟩,
     ⟨(some 32), .fadr 3 (.t 2), none, 0, false⟩,
     ⟨(some 33), .load none (.t 32), none, 32, false⟩,
     ⟨(some 34), .fadr 3 (.t 3), none, 0, false⟩,
     ⟨(some 35), .load none (.t 34), none, 128, false⟩,
     ⟨(some 36), .call 46 [(.t 33), (.t 35)], none, 511, false⟩,
     ⟨(some 37), .fadr 4 (.t 2), none, 0, false⟩,
     ⟨(some 38), .load none (.t 37), none, 1024, false⟩,
     ⟨(some 39), .fadr 4 (.t 3), none, 0, false⟩,
     ⟨(some 40), .load none (.t 39), none, 4096, false⟩,
     ⟨(some 41), .call 46 [(.t 38), (.t 40)], none, 16383, true⟩,
     ⟨(some 42), .mm true [(.t 31), (.t 36), (.t 41)], none, 32767, true⟩,
     ⟨(some 4), .mov (.t 42), none, 65535, true⟩])
    .ret))),
 [.tmp 4]⟩
theorem ir_24 : ir 24 = some f24 := by kernel_rfl
/-! cutroom/cutroomref07.Distance -/
def f25 : F := ⟨43, 2,
 (.seq
  (.reg false [
   ⟨(some 2), .box (.t 0), none, 0, false⟩,
   ⟨(some 3), .box (.t 1), none, 0, false⟩,
   ⟨(some 4), .mov (.k (.int .i64 0)), none, 0, false⟩])
  (.seq
   (.seq
    (.reg false [
     ⟨(some 5), .load (some 5) (.t 2), none, 0, false⟩,
     ⟨(some 6), .call 16 [(.t 5)], none, 0, false⟩,
     ⟨(some 7), .un .not (.t 6), none, 0, false⟩,
     ⟨(some 8), .mov (.t 7), none, 0, false⟩,
     ⟨(some 9), .load (some 5) (.t 3), some (8, false), 0, false⟩,
     ⟨(some 10), .call 16 [(.t 9)], some (8, false), 0, false⟩,
     ⟨(some 11), .un .not (.t 10), some (8, false), 0, false⟩,
     ⟨(some 12), .pick (.t 8) (.k (.bool true)) (.t 11), none, 0, false⟩,
     ⟨(some 13), .mov (.t 12), none, 0, false⟩,
     ⟨(some 14), .fadr 0 (.t 2), some (13, false), 0, false⟩,
     ⟨(some 15), .load none (.t 14), some (13, false), 0, false⟩,
     ⟨(some 16), .fadr 0 (.t 3), some (13, false), 0, false⟩,
     ⟨(some 17), .load none (.t 16), some (13, false), 0, false⟩,
     ⟨(some 18), .bin .neq [0] (.t 15) (.t 17), some (13, false), 0, false⟩,
     ⟨(some 19), .pick (.t 13) (.k (.bool true)) (.t 18), none, 0, false⟩,
     ⟨(some 20), .mov (.t 19), none, 0, false⟩,
     ⟨(some 21), .fadr 1 (.t 2), some (20, false), 0, false⟩,
     ⟨(some 22), .load none (.t 21), some (20, false), 0, false⟩,
     ⟨(some 23), .fadr 1 (.t 3), some (20, false), 0, false⟩,
     ⟨(some 24), .load none (.t 23), some (20, false), 0, false⟩,
     ⟨(some 25), .bin .neq [0] (.t 22) (.t 24), some (20, false), 0, false⟩,
     ⟨(some 26), .pick (.t 20) (.k (.bool true)) (.t 25), none, 0, false⟩])
    (.cond (.t 26)
     (.seq
      (.reg false [
       ⟨(some 4), .mov (.k (.int .i64 (-1))), none, 0, false⟩])
      .ret)
     .skip))
   (.seq
    (.reg true [
     ⟨(some 27), .fadr 2 (.t 2), none, 0, false⟩,
     ⟨(some 28), .load none (.t 27), none, 1, false⟩,
     ⟨(some 29), .fadr 2 (.t 3), none, 0, false⟩,
     ⟨(some 30), .load none (.t 29), none, 4, false⟩,
     ⟨(some 31), .call 47 [(.t 28), (.t 30)], none, 15, false⟩,
     ⟨(some 32), .fadr 3 (.t 2), none, 0, false⟩,
     ⟨(some 33), .load none (.t 32), none, 32, false⟩,
     ⟨(some 34), .fadr 3 (.t 3), none, 0, false⟩,
     ⟨(some 35), .load none (.t 34), none, 128, false⟩,
     ⟨(some 36), .call 47 [(.t 33), (.t 35)], none, 511, false⟩,
     ⟨(some 37), .fadr 4 (.t 2), none, 0, false⟩,
     ⟨(some 38), .load none (.t 37), none, 1024, false⟩,
     ⟨(some 39), .fadr 4 (.t 3), none, 0, false⟩,
     ⟨(some 40), .load none (.t 39), none, 4096, false⟩,
     ⟨(some 41), .call 47 [(.t 38), (.t 40)], none, 16383, true⟩,
     ⟨(some 42), .mm true [(.t 31), (.t 36), (.t 41)], none, 32767, true⟩,
     ⟨(some 4), .mov (.t 42), none, 65535, true⟩])
    .ret))),
 [.tmp 4]⟩
theorem ir_25 : ir 25 = some f25 := by kernel_rfl
/-! cutroom/plane.Field -/
def f26 : F := ⟨67, 2,
 (.seq
  (.reg false [
   ⟨(some 2), .box (.t 0), none, 0, false⟩,
   ⟨(some 4), .alloc [.int .i64 0, .int .i64 0, .nils, .nils, .nils], none, 0, false⟩,
   ⟨(some 5), .mov (.k (.int .i64 0)), none, 0, false⟩])
  (.seq
   (.seq
    (.reg false [
     ⟨(some 7), .load (some 5) (.t 2), none, 0, false⟩,
     ⟨(some 8), .call 15 [(.t 7)], none, 0, false⟩,
     ⟨(some 9), .un .not (.t 8), none, 0, false⟩,
     ⟨(some 10), .mov (.t 9), none, 0, false⟩,
     ⟨(some 11), .fadr 1 (.t 2), some (10, false), 0, false⟩,
     ⟨(some 12), .load none (.t 11), some (10, false), 0, false⟩,
     ⟨(some 13), .bin .rem [0] (.t 12) (.k (.int .i64 4)), some (10, false), 0, false⟩,
     ⟨(some 14), .bin .neq [0] (.t 13) (.k (.int .i64 0)), some (10, false), 0, false⟩,
     ⟨(some 15), .pick (.t 10) (.k (.bool true)) (.t 14), none, 0, false⟩,
     ⟨(some 16), .mov (.t 15), none, 0, false⟩,
     ⟨(some 17), .mov (.t 1), some (16, false), 0, false⟩,
     ⟨(some 18), .bin .neq [0] (.t 17) (.k (.int .i64 0)), some (16, false), 0, false⟩,
     ⟨(some 19), .mov (.t 18), some (16, false), 0, false⟩,
     ⟨(some 20), .mov (.t 1), some (19, true), 0, false⟩,
     ⟨(some 21), .bin .neq [0] (.t 20) (.k (.int .i64 1)), some (19, true), 0, false⟩,
     ⟨(some 22), .pick (.t 19) (.t 21) (.k (.bool false)), some (16, false), 0, false⟩,
     ⟨(some 23), .pick (.t 16) (.k (.bool true)) (.t 22), none, 0, false⟩])
    (.cond (.t 23)
     (.seq
      (.reg false [
       ⟨(some 24), .bld [.int .i64 0, .int .i64 0, .nils, .nils, .nils] [], none, 0, false⟩,
       ⟨none, .store 5 (.t 4) (.t 24), none, 0, false⟩,
       ⟨(some 5), .mov (.k (.int .i64 1)), none, 0, false⟩])
      .ret)
     .skip))
   (.seq
    (.reg false [
     ⟨(some 25), .fadr 0 (.t 2), none, 0, false⟩,
     ⟨(some 26), .load none (.t 25), none, 0, false⟩,
     ⟨(some 27), .fadr 1 (.t 2), none, 0, false⟩,
     ⟨(some 28), .load none (.t 27), none, 0, false⟩,
     ⟨(some 29), .bin .quo [0] (.t 28) (.k (.int .i64 2)), none, 0, false⟩,
     ⟨(some 30), .call 41 [(.t 26), (.t 29)], none, 0, false⟩,
     ⟨(some 6), .alloc [.int .i64 0, .int .i64 0, .nils, .nils, .nils], none, 0, false⟩,
     ⟨none, .store 5 (.t 6) (.t 30), none, 0, false⟩])
    (.seq
     (.reg false [
      ⟨(some 31), .fadr 2 (.t 6), none, 0, false⟩,
      ⟨(some 32), .load none (.t 31), none, 0, false⟩,
      ⟨(some 33), .fadr 2 (.t 2), none, 0, false⟩,
      ⟨(some 34), .load none (.t 33), none, 0, false⟩,
      ⟨(some 35), .mov (.t 1), none, 0, false⟩,
      ⟨(some 36), .fadr 0 (.t 2), none, 0, false⟩,
      ⟨(some 37), .load none (.t 36), none, 0, false⟩,
      ⟨(some 38), .fadr 1 (.t 2), none, 0, false⟩,
      ⟨(some 39), .load none (.t 38), none, 0, false⟩,
      ⟨(some 40), .bin .quo [0] (.t 39) (.k (.int .i64 2)), none, 0, false⟩,
      ⟨(some 41), .call 48 [(.t 32), (.k (.int .i64 1)), (.k (.int .i64 0)), (.t 34), (.k (.int .i64 2)), (.t 35), (.t 37), (.t 40)], none, 0, false⟩])
     (.seq
      (.reg false [
       ⟨(some 42), .fadr 3 (.t 6), none, 0, false⟩,
       ⟨(some 43), .load none (.t 42), none, 0, false⟩,
       ⟨(some 44), .fadr 3 (.t 2), none, 0, false⟩,
       ⟨(some 45), .load none (.t 44), none, 0, false⟩,
       ⟨(some 46), .mov (.t 1), none, 0, false⟩,
       ⟨(some 47), .fadr 0 (.t 2), none, 0, false⟩,
       ⟨(some 48), .load none (.t 47), none, 0, false⟩,
       ⟨(some 49), .bin .quo [0] (.t 48) (.k (.int .i64 2)), none, 0, false⟩,
       ⟨(some 50), .fadr 1 (.t 2), none, 0, false⟩,
       ⟨(some 51), .load none (.t 50), none, 0, false⟩,
       ⟨(some 52), .bin .quo [0] (.t 51) (.k (.int .i64 4)), none, 0, false⟩,
       ⟨(some 53), .call 48 [(.t 43), (.k (.int .i64 1)), (.k (.int .i64 0)), (.t 45), (.k (.int .i64 2)), (.t 46), (.t 49), (.t 52)], none, 0, false⟩])
      (.seq
       (.reg false [
        ⟨(some 54), .fadr 4 (.t 6), none, 0, false⟩,
        ⟨(some 55), .load none (.t 54), none, 0, false⟩,
        ⟨(some 56), .fadr 4 (.t 2), none, 0, false⟩,
        ⟨(some 57), .load none (.t 56), none, 0, false⟩,
        ⟨(some 58), .mov (.t 1), none, 0, false⟩,
        ⟨(some 59), .fadr 0 (.t 2), none, 0, false⟩,
        ⟨(some 60), .load none (.t 59), none, 0, false⟩,
        ⟨(some 61), .bin .quo [0] (.t 60) (.k (.int .i64 2)), none, 0, false⟩,
        ⟨(some 62), .fadr 1 (.t 2), none, 0, false⟩,
        ⟨(some 63), .load none (.t 62), none, 0, false⟩,
        ⟨(some 64), .bin .quo [0] (.t 63) (.k (.int .i64 4)), none, 0, false⟩,
        ⟨(some 65), .call 48 [(.t 55), (.k (.int .i64 1)), (.k (.int .i64 0)), (.t 57), (.k (.int .i64 2)), (.t 58), (.t 61), (.t 64)], none, 0, false⟩])
       (.seq
        (.reg false [
         ⟨(some 66), .load (some 5) (.t 6), none, 0, false⟩,
         ⟨none, .store 5 (.t 4) (.t 66), none, 0, false⟩,
         ⟨(some 5), .mov (.k (.int .i64 0)), none, 0, false⟩])
        .ret))))))),
 [.cell 4 (some 5), .tmp 5]⟩
theorem ir_26 : ir 26 = some f26 := by kernel_rfl
/-! cutroom/cutroomref07.Field -/
def f27 : F := ⟨50, 2,
 (.seq
  (.reg false [
   ⟨(some 2), .box (.t 0), none, 0, false⟩,
   ⟨(some 4), .alloc [.int .i64 0, .int .i64 0, .nils, .nils, .nils], none, 0, false⟩,
   ⟨(some 5), .mov (.k (.int .i64 0)), none, 0, false⟩])
  (.seq
   (.seq
    (.reg false [
     ⟨(some 6), .load (some 5) (.t 2), none, 0, false⟩,
     ⟨(some 7), .call 16 [(.t 6)], none, 0, false⟩,
     ⟨(some 8), .un .not (.t 7), none, 0, false⟩,
     ⟨(some 9), .mov (.t 8), none, 0, false⟩,
     ⟨(some 10), .fadr 1 (.t 2), some (9, false), 0, false⟩,
     ⟨(some 11), .load none (.t 10), some (9, false), 0, false⟩,
     ⟨(some 12), .bin .rem [0] (.t 11) (.k (.int .i64 4)), some (9, false), 0, false⟩,
     ⟨(some 13), .bin .neq [0] (.t 12) (.k (.int .i64 0)), some (9, false), 0, false⟩,
     ⟨(some 14), .pick (.t 9) (.k (.bool true)) (.t 13), none, 0, false⟩,
     ⟨(some 15), .mov (.t 14), none, 0, false⟩,
     ⟨(some 16), .mov (.t 1), some (15, false), 0, false⟩,
     ⟨(some 17), .bin .neq [0] (.t 16) (.k (.int .i64 0)), some (15, false), 0, false⟩,
     ⟨(some 18), .mov (.t 17), some (15, false), 0, false⟩,
     ⟨(some 19), .mov (.t 1), some (18, true), 0, false⟩,
     ⟨(some 20), .bin .neq [0] (.t 19) (.k (.int .i64 1)), some (18, true), 0, false⟩,
     ⟨(some 21), .pick (.t 18) (.t 20) (.k (.bool false)), some (15, false), 0, false⟩,
     ⟨(some 22), .pick (.t 15) (.k (.bool true)) (.t 21), none, 0, false⟩])
    (.cond (.t 22)
     (.seq
      (.reg false [
       ⟨(some 23), .bld [.int .i64 0, .int .i64 0, .nils, .nils, .nils] [], none, 0, false⟩,
       ⟨none, .store 5 (.t 4) (.t 23), none, 0, false⟩,
       ⟨(some 5), .mov (.k (.int .i64 1)), none, 0, false⟩])
      .ret)
     .skip))
   (.seq
    (.reg true [
     ⟨(some 24), .fadr 0 (.t 2), none, 0, false⟩,
     ⟨(some 25), .load none (.t 24), none, 1, false⟩,
     ⟨(some 26), .fadr 1 (.t 2), none, 0, false⟩,
     ⟨(some 27), .load none (.t 26), none, 4, false⟩,
     ⟨(some 28), .bin .quo [0] (.t 27) (.k (.int .i64 2)), none, 12, false⟩,
     ⟨(some 29), .fadr 2 (.t 2), none, 0, false⟩,
     ⟨(some 30), .load none (.t 29), none, 32, false⟩,
     ⟨(some 31), .fadr 0 (.t 2), none, 0, false⟩,
     ⟨(some 32), .load none (.t 31), none, 128, false⟩,
     ⟨(some 33), .mov (.t 1), none, 0, false⟩,
     ⟨(some 34), .call 49 [(.t 30), (.t 32), (.t 33)], none, 992, false⟩,
     ⟨(some 35), .fadr 3 (.t 2), none, 0, false⟩,
     ⟨(some 36), .load none (.t 35), none, 2048, false⟩,
     ⟨(some 37), .fadr 0 (.t 2), none, 0, false⟩,
     ⟨(some 38), .load none (.t 37), none, 8192, false⟩,
     ⟨(some 39), .bin .quo [0] (.t 38) (.k (.int .i64 2)), none, 24576, false⟩,
     ⟨(some 40), .mov (.t 1), none, 0, false⟩,
     ⟨(some 41), .call 49 [(.t 36), (.t 39), (.t 40)], none, 131040, false⟩,
     ⟨(some 42), .fadr 4 (.t 2), none, 0, false⟩,
     ⟨(some 43), .load none (.t 42), none, 262144, false⟩,
     ⟨(some 44), .fadr 0 (.t 2), none, 0, false⟩,
     ⟨(some 45), .load none (.t 44), none, 1048576, false⟩,
     ⟨(some 46), .bin .quo [0] (.t 45) (.k (.int .i64 2)), none, 3145728, false⟩,
     ⟨(some 47), .mov (.t 1), none, 0, false⟩,
     ⟨(some 48), .call 49 [(.t 43), (.t 46), (.t 47)], none, 16777184, false⟩,
     ⟨(some 49), .bld [.int .i64 0, .int .i64 0, .nils, .nils, .nils] [(0, 1, (.t 25)), (1, 1, (.t 28)), (2, 1, (.t 34)), (3, 1, (.t 41)), (4, 1, (.t 48))], none, 33554431, true⟩,
     ⟨none, .store 5 (.t 4) (.t 49), none, 67108863, true⟩,
     ⟨(some 5), .mov (.k (.int .i64 0)), none, 134217727, true⟩])
    .ret))),
 [.cell 4 (some 5), .tmp 5]⟩
theorem ir_27 : ir 27 = some f27 := by kernel_rfl
/-! cutroom/plane.Weave -/
def f28 : F := ⟨87, 2,
 (.seq
  (.reg false [
   ⟨(some 2), .box (.t 0), none, 0, false⟩,
   ⟨(some 3), .box (.t 1), none, 0, false⟩,
   ⟨(some 4), .alloc [.int .i64 0, .int .i64 0, .nils, .nils, .nils], none, 0, false⟩,
   ⟨(some 5), .mov (.k (.int .i64 0)), none, 0, false⟩])
  (.seq
   (.seq
    (.reg false [
     ⟨(some 9), .load (some 5) (.t 2), none, 0, false⟩,
     ⟨(some 10), .call 15 [(.t 9)], none, 0, false⟩,
     ⟨(some 11), .un .not (.t 10), none, 0, false⟩,
     ⟨(some 12), .mov (.t 11), none, 0, false⟩,
     ⟨(some 13), .load (some 5) (.t 3), some (12, false), 0, false⟩,
     ⟨(some 14), .call 15 [(.t 13)], some (12, false), 0, false⟩,
     ⟨(some 15), .un .not (.t 14), some (12, false), 0, false⟩,
     ⟨(some 16), .pick (.t 12) (.k (.bool true)) (.t 15), none, 0, false⟩,
     ⟨(some 17), .mov (.t 16), none, 0, false⟩,
     ⟨(some 18), .fadr 0 (.t 2), some (17, false), 0, false⟩,
     ⟨(some 19), .load none (.t 18), some (17, false), 0, false⟩,
     ⟨(some 20), .fadr 0 (.t 3), some (17, false), 0, false⟩,
     ⟨(some 21), .load none (.t 20), some (17, false), 0, false⟩,
     ⟨(some 22), .bin .neq [0] (.t 19) (.t 21), some (17, false), 0, false⟩,
     ⟨(some 23), .pick (.t 17) (.k (.bool true)) (.t 22), none, 0, false⟩,
     ⟨(some 24), .mov (.t 23), none, 0, false⟩,
     ⟨(some 25), .fadr 1 (.t 2), some (24, false), 0, false⟩,
     ⟨(some 26), .load none (.t 25), some (24, false), 0, false⟩,
     ⟨(some 27), .fadr 1 (.t 3), some (24, false), 0, false⟩,
     ⟨(some 28), .load none (.t 27), some (24, false), 0, false⟩,
     ⟨(some 29), .bin .neq [0] (.t 26) (.t 28), some (24, false), 0, false⟩,
     ⟨(some 30), .pick (.t 24) (.k (.bool true)) (.t 29), none, 0, false⟩,
     ⟨(some 31), .mov (.t 30), none, 0, false⟩,
     ⟨(some 32), .fadr 1 (.t 2), some (31, false), 0, false⟩,
     ⟨(some 33), .load none (.t 32), some (31, false), 0, false⟩,
     ⟨(some 34), .bin .mul [0] (.k (.int .i64 2)) (.t 33), some (31, false), 0, false⟩,
     ⟨(some 35), .bin .gtr [0] (.t 34) (.k (.int .i64 64)), some (31, false), 0, false⟩,
     ⟨(some 36), .pick (.t 31) (.k (.bool true)) (.t 35), none, 0, false⟩])
    (.cond (.t 36)
     (.seq
      (.reg false [
       ⟨(some 37), .bld [.int .i64 0, .int .i64 0, .nils, .nils, .nils] [], none, 0, false⟩,
       ⟨none, .store 5 (.t 4) (.t 37), none, 0, false⟩,
       ⟨(some 5), .mov (.k (.int .i64 1)), none, 0, false⟩])
      .ret)
     .skip))
   (.seq
    (.reg false [
     ⟨(some 38), .fadr 0 (.t 2), none, 0, false⟩,
     ⟨(some 39), .load none (.t 38), none, 0, false⟩,
     ⟨(some 40), .fadr 1 (.t 2), none, 0, false⟩,
     ⟨(some 41), .load none (.t 40), none, 0, false⟩,
     ⟨(some 42), .bin .mul [0] (.k (.int .i64 2)) (.t 41), none, 0, false⟩,
     ⟨(some 43), .call 41 [(.t 39), (.t 42)], none, 0, false⟩,
     ⟨(some 6), .alloc [.int .i64 0, .int .i64 0, .nils, .nils, .nils], none, 0, false⟩,
     ⟨none, .store 5 (.t 6) (.t 43), none, 0, false⟩])
    (.seq
     (.seq
      (.reg false [
       ⟨(some 44), .load (some 5) (.t 2), none, 0, false⟩,
       ⟨(some 45), .load (some 5) (.t 3), none, 0, false⟩,
       ⟨(some 46), .bld [.int .i64 0, .int .i64 0, .nils, .nils, .nils, .int .i64 0, .int .i64 0, .nils, .nils, .nils] [(0, 5, (.t 44)), (5, 5, (.t 45))], none, 0, false⟩,
       ⟨(some 47), .mov (.k (.int .i64 0)), none, 0, false⟩])
      (.blk 0
       (.loop
        (.seq
         (.reg false [
          ⟨(some 48), .bin .lss [0] (.t 47) (.k (.int .i64 2)), none, 0, false⟩])
         (.seq
          (.cond (.t 48)
           .skip
           (.exit 0))
          (.seq
           (.blk 1
            (.seq
             (.reg false [
              ⟨(some 49), .mov (.t 47), none, 0, false⟩,
              ⟨(some 50), .idxA 2 5 (some 5) (.t 46) (.t 47), none, 0, false⟩,
              ⟨(some 8), .alloc [.int .i64 0, .int .i64 0, .nils, .nils, .nils], none, 0, false⟩,
              ⟨(some 7), .mov (.t 49), none, 0, false⟩,
              ⟨none, .store 5 (.t 8) (.t 50), none, 0, false⟩])
             (.seq
              (.reg false [
               ⟨(some 51), .fadr 2 (.t 6), none, 0, false⟩,
               ⟨(some 52), .load none (.t 51), none, 0, false⟩,
               ⟨(some 53), .mov (.t 7), none, 0, false⟩,
               ⟨(some 54), .fadr 2 (.t 8), none, 0, false⟩,
               ⟨(some 55), .load none (.t 54), none, 0, false⟩,
               ⟨(some 56), .fadr 0 (.t 8), none, 0, false⟩,
               ⟨(some 57), .load none (.t 56), none, 0, false⟩,
               ⟨(some 58), .fadr 1 (.t 8), none, 0, false⟩,
               ⟨(some 59), .load none (.t 58), none, 0, false⟩,
               ⟨(some 60), .call 48 [(.t 52), (.k (.int .i64 2)), (.t 53), (.t 55), (.k (.int .i64 1)), (.k (.int .i64 0)), (.t 57), (.t 59)], none, 0, false⟩])
              (.seq
               (.reg false [
                ⟨(some 61), .fadr 3 (.t 6), none, 0, false⟩,
                ⟨(some 62), .load none (.t 61), none, 0, false⟩,
                ⟨(some 63), .mov (.t 7), none, 0, false⟩,
                ⟨(some 64), .fadr 3 (.t 8), none, 0, false⟩,
                ⟨(some 65), .load none (.t 64), none, 0, false⟩,
                ⟨(some 66), .fadr 0 (.t 8), none, 0, false⟩,
                ⟨(some 67), .load none (.t 66), none, 0, false⟩,
                ⟨(some 68), .bin .quo [0] (.t 67) (.k (.int .i64 2)), none, 0, false⟩,
                ⟨(some 69), .fadr 1 (.t 8), none, 0, false⟩,
                ⟨(some 70), .load none (.t 69), none, 0, false⟩,
                ⟨(some 71), .bin .quo [0] (.t 70) (.k (.int .i64 2)), none, 0, false⟩,
                ⟨(some 72), .call 48 [(.t 62), (.k (.int .i64 2)), (.t 63), (.t 65), (.k (.int .i64 1)), (.k (.int .i64 0)), (.t 68), (.t 71)], none, 0, false⟩])
               (.reg false [
                ⟨(some 73), .fadr 4 (.t 6), none, 0, false⟩,
                ⟨(some 74), .load none (.t 73), none, 0, false⟩,
                ⟨(some 75), .mov (.t 7), none, 0, false⟩,
                ⟨(some 76), .fadr 4 (.t 8), none, 0, false⟩,
                ⟨(some 77), .load none (.t 76), none, 0, false⟩,
                ⟨(some 78), .fadr 0 (.t 8), none, 0, false⟩,
                ⟨(some 79), .load none (.t 78), none, 0, false⟩,
                ⟨(some 80), .bin .quo [0] (.t 79) (.k (.int .i64 2)), none, 0, false⟩,
                ⟨(some 81), .fadr 1 (.t 8), none, 0, false⟩,
                ⟨(some 82), .load none (.t 81), none, 0, false⟩,
                ⟨(some 83), .bin .quo [0] (.t 82) (.k (.int .i64 2)), none, 0, false⟩,
                ⟨(some 84), .call 48 [(.t 74), (.k (.int .i64 2)), (.t 75), (.t 77), (.k (.int .i64 1)), (.k (.int .i64 0)), (.t 80), (.t 83)], none, 0, false⟩])))))
           (.reg false [
            ⟨(some 85), .bin .add [0] (.t 47) (.k (.int .i64 1)), none, 0, false⟩,
            ⟨(some 47), .mov (.t 85), none, 0, false⟩])))))))
     (.seq
      (.reg false [
       ⟨(some 86), .load (some 5) (.t 6), none, 0, false⟩,
       ⟨none, .store 5 (.t 4) (.t 86), none, 0, false⟩,
       ⟨(some 5), .mov (.k (.int .i64 0)), none, 0, false⟩])
      .ret))))),
 [.cell 4 (some 5), .tmp 5]⟩
theorem ir_28 : ir 28 = some f28 := by kernel_rfl
/-! cutroom/cutroomref07.Weave -/
def f29 : F := ⟨64, 2,
 (.seq
  (.reg false [
   ⟨(some 2), .box (.t 0), none, 0, false⟩,
   ⟨(some 3), .box (.t 1), none, 0, false⟩,
   ⟨(some 4), .alloc [.int .i64 0, .int .i64 0, .nils, .nils, .nils], none, 0, false⟩,
   ⟨(some 5), .mov (.k (.int .i64 0)), none, 0, false⟩])
  (.seq
   (.seq
    (.reg false [
     ⟨(some 6), .load (some 5) (.t 2), none, 0, false⟩,
     ⟨(some 7), .call 16 [(.t 6)], none, 0, false⟩,
     ⟨(some 8), .un .not (.t 7), none, 0, false⟩,
     ⟨(some 9), .mov (.t 8), none, 0, false⟩,
     ⟨(some 10), .load (some 5) (.t 3), some (9, false), 0, false⟩,
     ⟨(some 11), .call 16 [(.t 10)], some (9, false), 0, false⟩,
     ⟨(some 12), .un .not (.t 11), some (9, false), 0, false⟩,
     ⟨(some 13), .pick (.t 9) (.k (.bool true)) (.t 12), none, 0, false⟩,
     ⟨(some 14), .mov (.t 13), none, 0, false⟩,
     ⟨(some 15), .fadr 0 (.t 2), some (14, false), 0, false⟩,
     ⟨(some 16), .load none (.t 15), some (14, false), 0, false⟩,
     ⟨(some 17), .fadr 0 (.t 3), some (14, false), 0, false⟩,
     ⟨(some 18), .load none (.t 17), some (14, false), 0, false⟩,
     ⟨(some 19), .bin .neq [0] (.t 16) (.t 18), some (14, false), 0, false⟩,
     ⟨(some 20), .pick (.t 14) (.k (.bool true)) (.t 19), none, 0, false⟩,
     ⟨(some 21), .mov (.t 20), none, 0, false⟩,
     ⟨(some 22), .fadr 1 (.t 2), some (21, false), 0, false⟩,
     ⟨(some 23), .load none (.t 22), some (21, false), 0, false⟩,
     ⟨(some 24), .fadr 1 (.t 3), some (21, false), 0, false⟩,
     ⟨(some 25), .load none (.t 24), some (21, false), 0, false⟩,
     ⟨(some 26), .bin .neq [0] (.t 23) (.t 25), some (21, false), 0, false⟩,
     ⟨(some 27), .pick (.t 21) (.k (.bool true)) (.t 26), none, 0, false⟩,
     ⟨(some 28), .mov (.t 27), none, 0, false⟩,
     ⟨(some 29), .fadr 1 (.t 2), some (28, false), 0, false⟩,
     ⟨(some 30), .load none (.t 29), some (28, false), 0, false⟩,
     ⟨(some 31), .bin .mul [0] (.k (.int .i64 2)) (.t 30), some (28, false), 0, false⟩,
     ⟨(some 32), .bin .gtr [0] (.t 31) (.k (.int .i64 64)), some (28, false), 0, false⟩,
     ⟨(some 33), .pick (.t 28) (.k (.bool true)) (.t 32), none, 0, false⟩])
    (.cond (.t 33)
     (.seq
      (.reg false [
       ⟨(some 34), .bld [.int .i64 0, .int .i64 0, .nils, .nils, .nils] [], none, 0, false⟩,
       ⟨none, .store 5 (.t 4) (.t 34), none, 0, false⟩,
       ⟨(some 5), .mov (.k (.int .i64 1)), none, 0, false⟩])
      .ret)
     .skip))
   (.seq
    (.reg true [
     ⟨(some 35), .fadr 0 (.t 2), none, 0, false⟩,
     ⟨(some 36), .load none (.t 35), none, 1, false⟩,
     ⟨(some 37), .fadr 1 (.t 2), none, 0, false⟩,
     ⟨(some 38), .load none (.t 37), none, 4, false⟩,
     ⟨(some 39), .bin .mul [0] (.k (.int .i64 2)) (.t 38), none, 12, false⟩,
     ⟨(some 40), .fadr 2 (.t 2), none, 0, false⟩,
     ⟨(some 41), .load none (.t 40), none, 32, false⟩,
     ⟨(some 42), .fadr 2 (.t 3), none, 0, false⟩,
     ⟨(some 43), .load none (.t 42), none, 128, false⟩,
     ⟨(some 44), .fadr 0 (.t 2), none, 0, false⟩,
     ⟨(some 45), .load none (.t 44), none, 512, false⟩,
     ⟨(some 46), .call 50 [(.t 41), (.t 43), (.t 45)], none, 2016, false⟩,
     ⟨(some 47), .fadr 3 (.t 2), none, 0, false⟩,
     ⟨(some 48), .load none (.t 47), none, 4096, false⟩,
     ⟨(some 49), .fadr 3 (.t 3), none, 0, false⟩,
     ⟨(some 50), .load none (.t 49), none, 16384, false⟩,
     ⟨(some 51), .fadr 0 (.t 2), none, 0, false⟩,
     ⟨(some 52), .load none (.t 51), none, 65536, false⟩,
     ⟨(some 53), .bin .quo [0] (.t 52) (.k (.int .i64 2)), none, 196608, false⟩,
     ⟨(some 54), .call 50 [(.t 48), (.t 50), (.t 53)], none, 524256, false⟩,
     ⟨(some 55), .fadr 4 (.t 2), none, 0, false⟩,
     ⟨(some 56), .load none (.t 55), none, 1048576, false⟩,
     ⟨(some 57), .fadr 4 (.t 3), none, 0, false⟩,
     ⟨(some 58), .load none (.t 57), none, 4194304, false⟩,
     ⟨(some 59), .fadr 0 (.t 2), none, 0, false⟩,
     ⟨(some 60), .load none (.t 59), none, 16777216, false⟩,
     ⟨(some 61), .bin .quo [0] (.t 60) (.k (.int .i64 2)), none, 50331648, false⟩,
     ⟨(some 62), .call 50 [(.t 56), (.t 58), (.t 61)], none, 134217696, false⟩,
     ⟨(some 63), .bld [.int .i64 0, .int .i64 0, .nils, .nils, .nils] [(0, 1, (.t 36)), (1, 1, (.t 39)), (2, 1, (.t 46)), (3, 1, (.t 54)), (4, 1, (.t 62))], none, 268435455, true⟩,
     ⟨none, .store 5 (.t 4) (.t 63), none, 536870911, true⟩,
     ⟨(some 5), .mov (.k (.int .i64 0)), none, 1073741823, true⟩])
    .ret))),
 [.cell 4 (some 5), .tmp 5]⟩
theorem ir_29 : ir 29 = some f29 := by kernel_rfl
/-! cutroom/plane.Block -/
def f30 : F := ⟨61, 5,
 (.seq
  (.reg false [
   ⟨(some 5), .box (.t 0), none, 0, false⟩,
   ⟨(some 10), .alloc [.int .i64 0, .int .i64 0, .int .i64 0, .int .i64 0, .int .i64 0, .int .i64 0, .int .i64 0, .int .i64 0, .int .i64 0, .int .i64 0, .int .i64 0, .int .i64 0, .int .i64 0, .int .i64 0, .int .i64 0, .int .i64 0, .int .i64 0, .int .i64 0, .int .i64 0, .int .i64 0, .int .i64 0, .int .i64 0, .int .i64 0, .int .i64 0, .int .i64 0, .int .i64 0, .int .i64 0, .int .i64 0, .int .i64 0, .int .i64 0, .int .i64 0, .int .i64 0, .int .i64 0, .int .i64 0, .int .i64 0, .int .i64 0, .int .i64 0, .int .i64 0, .int .i64 0, .int .i64 0, .int .i64 0, .int .i64 0, .int .i64 0, .int .i64 0, .int .i64 0, .int .i64 0, .int .i64 0, .int .i64 0, .int .i64 0, .int .i64 0, .int .i64 0, .int .i64 0, .int .i64 0, .int .i64 0, .int .i64 0, .int .i64 0, .int .i64 0, .int .i64 0, .int .i64 0, .int .i64 0, .int .i64 0, .int .i64 0, .int .i64 0, .int .i64 0], none, 0, false⟩,
   ⟨(some 11), .mov (.k (.int .i64 0)), none, 0, false⟩])
  (.seq
   (.reg false [
    ⟨(some 12), .alloc [.int .i64 0, .int .i64 0, .int .i64 0, .int .i64 0, .int .i64 0, .int .i64 0, .int .i64 0, .int .i64 0, .int .i64 0, .int .i64 0, .int .i64 0, .int .i64 0, .int .i64 0, .int .i64 0, .int .i64 0, .int .i64 0, .int .i64 0, .int .i64 0, .int .i64 0, .int .i64 0, .int .i64 0, .int .i64 0, .int .i64 0, .int .i64 0, .int .i64 0, .int .i64 0, .int .i64 0, .int .i64 0, .int .i64 0, .int .i64 0, .int .i64 0, .int .i64 0, .int .i64 0, .int .i64 0, .int .i64 0, .int .i64 0, .int .i64 0, .int .i64 0, .int .i64 0, .int .i64 0, .int .i64 0, .int .i64 0, .int .i64 0, .int .i64 0, .int .i64 0, .int .i64 0, .int .i64 0, .int .i64 0, .int .i64 0, .int .i64 0, .int .i64 0, .int .i64 0, .int .i64 0, .int .i64 0, .int .i64 0, .int .i64 0, .int .i64 0, .int .i64 0, .int .i64 0, .int .i64 0, .int .i64 0, .int .i64 0, .int .i64 0, .int .i64 0], none, 0, false⟩])
   (.seq
    (.seq
     (.reg false [
      ⟨(some 17), .load (some 5) (.t 5), none, 0, false⟩,
      ⟨(some 18), .mov (.t 1), none, 0, false⟩,
      ⟨(some 19), .mov (.t 2), none, 0, false⟩,
      ⟨(some 20), .call 51 [(.t 17), (.t 18), (.t 19)], none, 0, false⟩,
      ⟨(some 21), .un .not (.t 20), none, 0, false⟩,
      ⟨(some 22), .mov (.t 21), none, 0, false⟩,
      ⟨(some 23), .mov (.t 3), some (22, false), 0, false⟩,
      ⟨(some 24), .bin .lss [0] (.t 23) (.k (.int .i64 0)), some (22, false), 0, false⟩,
      ⟨(some 25), .pick (.t 22) (.k (.bool true)) (.t 24), none, 0, false⟩,
      ⟨(some 26), .mov (.t 25), none, 0, false⟩,
      ⟨(some 27), .mov (.t 3), some (26, false), 0, false⟩,
      ⟨(some 28), .bin .geq [0] (.t 27) (.k (.int .i64 6)), some (26, false), 0, false⟩,
      ⟨(some 29), .pick (.t 26) (.k (.bool true)) (.t 28), none, 0, false⟩])
     (.cond (.t 29)
      (.seq
       (.reg false [
        ⟨(some 30), .load (some 64) (.t 12), none, 0, false⟩,
        ⟨none, .store 64 (.t 10) (.t 30), none, 0, false⟩,
        ⟨(some 11), .mov (.k (.int .i64 1)), none, 0, false⟩])
       .ret)
      .skip))
    (.seq
     (.reg false [
      ⟨(some 32), .load (some 5) (.t 5), none, 0, false⟩,
      ⟨(some 33), .mov (.t 1), none, 0, false⟩,
      ⟨(some 34), .mov (.t 2), none, 0, false⟩,
      ⟨(some 35), .mov (.t 3), none, 0, false⟩,
      ⟨(some 36), .mov (.t 4), none, 0, false⟩,
      ⟨(some 37), .call 52 [(.t 32), (.t 33), (.t 34), (.t 35), (.t 36)], none, 0, false⟩,
      ⟨(some 31), .mov (.t 37), none, 0, false⟩,
      ⟨(some 38), .ext (.t 31) 0, none, 0, false⟩,
      ⟨(some 39), .ext (.t 31) 1, none, 0, false⟩,
      ⟨(some 40), .ext (.t 31) 2, none, 0, false⟩,
      ⟨(some 13), .mov (.t 38), none, 0, false⟩,
      ⟨(some 14), .mov (.t 39), none, 0, false⟩,
      ⟨(some 15), .mov (.t 40), none, 0, false⟩])
     (.seq
      (.seq
       (.reg false [
        ⟨(some 41), .mov (.k (.int .i64 0)), none, 0, false⟩])
       (.blk 0
        (.loop
         (.seq
          (.reg false [
           ⟨(some 42), .bin .lss [0] (.t 41) (.k (.int .i64 64)), none, 0, false⟩])
          (.seq
           (.cond (.t 42)
            .skip
            (.exit 0))
           (.seq
            (.blk 1
             (.seq
              (.reg false [
               ⟨(some 43), .mov (.t 41), none, 0, false⟩,
               ⟨(some 16), .mov (.t 43), none, 0, false⟩])
              (.reg false [
               ⟨(some 44), .mov (.t 16), none, 0, false⟩,
               ⟨(some 45), .mov (.t 13), none, 0, false⟩,
               ⟨(some 46), .mov (.t 14), none, 0, false⟩,
               ⟨(some 47), .mov (.t 16), none, 0, false⟩,
               ⟨(some 48), .bin .quo [0] (.t 47) (.k (.int .i64 8)), none, 0, false⟩,
               ⟨(some 49), .mov (.t 15), none, 0, false⟩,
               ⟨(some 50), .bin .mul [0] (.t 48) (.t 49), none, 0, false⟩,
               ⟨(some 51), .bin .add [0] (.t 46) (.t 50), none, 0, false⟩,
               ⟨(some 52), .mov (.t 16), none, 0, false⟩,
               ⟨(some 53), .bin .rem [0] (.t 52) (.k (.int .i64 8)), none, 0, false⟩,
               ⟨(some 54), .bin .add [0] (.t 51) (.t 53), none, 0, false⟩,
               ⟨(some 55), .iadrL 1 (.t 45) (.t 54), none, 0, false⟩,
               ⟨(some 56), .load none (.t 55), none, 0, false⟩,
               ⟨(some 57), .toInt .i64 (.t 56), none, 0, false⟩,
               ⟨(some 58), .iadrA 64 1 (.t 12) (.t 44), none, 0, false⟩,
               ⟨none, .store 1 (.t 58) (.t 57), none, 0, false⟩])))
            (.reg false [
             ⟨(some 59), .bin .add [0] (.t 41) (.k (.int .i64 1)), none, 0, false⟩,
             ⟨(some 41), .mov (.t 59), none, 0, false⟩])))))))
      (.seq
       (.reg false [
        ⟨(some 60), .load (some 64) (.t 12), none, 0, false⟩,
        ⟨none, .store 64 (.t 10) (.t 60), none, 0, false⟩,
        ⟨(some 11), .mov (.k (.int .i64 0)), none, 0, false⟩])
       .ret)))))),
 [.cell 10 (some 64), .tmp 11]⟩
theorem ir_30 : ir 30 = some f30 := by kernel_rfl
/-! cutroom/cutroomref07.Block -/
def f31 : F := ⟨49, 5,
 (.seq
  (.reg false [
   ⟨(some 5), .box (.t 0), none, 0, false⟩,
   ⟨(some 10), .alloc [.int .i64 0, .int .i64 0, .int .i64 0, .int .i64 0, .int .i64 0, .int .i64 0, .int .i64 0, .int .i64 0, .int .i64 0, .int .i64 0, .int .i64 0, .int .i64 0, .int .i64 0, .int .i64 0, .int .i64 0, .int .i64 0, .int .i64 0, .int .i64 0, .int .i64 0, .int .i64 0, .int .i64 0, .int .i64 0, .int .i64 0, .int .i64 0, .int .i64 0, .int .i64 0, .int .i64 0, .int .i64 0, .int .i64 0, .int .i64 0, .int .i64 0, .int .i64 0, .int .i64 0, .int .i64 0, .int .i64 0, .int .i64 0, .int .i64 0, .int .i64 0, .int .i64 0, .int .i64 0, .int .i64 0, .int .i64 0, .int .i64 0, .int .i64 0, .int .i64 0, .int .i64 0, .int .i64 0, .int .i64 0, .int .i64 0, .int .i64 0, .int .i64 0, .int .i64 0, .int .i64 0, .int .i64 0, .int .i64 0, .int .i64 0, .int .i64 0, .int .i64 0, .int .i64 0, .int .i64 0, .int .i64 0, .int .i64 0, .int .i64 0, .int .i64 0], none, 0, false⟩,
   ⟨(some 11), .mov (.k (.int .i64 0)), none, 0, false⟩])
  (.seq
   (.seq
    (.reg false [
     ⟨(some 14), .load (some 5) (.t 5), none, 0, false⟩,
     ⟨(some 15), .mov (.t 1), none, 0, false⟩,
     ⟨(some 16), .mov (.t 2), none, 0, false⟩,
     ⟨(some 17), .call 53 [(.t 14), (.t 15), (.t 16)], none, 0, false⟩,
     ⟨(some 18), .un .not (.t 17), none, 0, false⟩,
     ⟨(some 19), .mov (.t 18), none, 0, false⟩,
     ⟨(some 20), .mov (.t 3), some (19, false), 0, false⟩,
     ⟨(some 21), .bin .lss [0] (.t 20) (.k (.int .i64 0)), some (19, false), 0, false⟩,
     ⟨(some 22), .pick (.t 19) (.k (.bool true)) (.t 21), none, 0, false⟩,
     ⟨(some 23), .mov (.t 22), none, 0, false⟩,
     ⟨(some 24), .mov (.t 3), some (23, false), 0, false⟩,
     ⟨(some 25), .bin .gtr [0] (.t 24) (.k (.int .i64 5)), some (23, false), 0, false⟩,
     ⟨(some 26), .pick (.t 23) (.k (.bool true)) (.t 25), none, 0, false⟩])
    (.cond (.t 26)
     (.seq
      (.reg false [
       ⟨(some 27), .bld [.int .i64 0, .int .i64 0, .int .i64 0, .int .i64 0, .int .i64 0, .int .i64 0, .int .i64 0, .int .i64 0, .int .i64 0, .int .i64 0, .int .i64 0, .int .i64 0, .int .i64 0, .int .i64 0, .int .i64 0, .int .i64 0, .int .i64 0, .int .i64 0, .int .i64 0, .int .i64 0, .int .i64 0, .int .i64 0, .int .i64 0, .int .i64 0, .int .i64 0, .int .i64 0, .int .i64 0, .int .i64 0, .int .i64 0, .int .i64 0, .int .i64 0, .int .i64 0, .int .i64 0, .int .i64 0, .int .i64 0, .int .i64 0, .int .i64 0, .int .i64 0, .int .i64 0, .int .i64 0, .int .i64 0, .int .i64 0, .int .i64 0, .int .i64 0, .int .i64 0, .int .i64 0, .int .i64 0, .int .i64 0, .int .i64 0, .int .i64 0, .int .i64 0, .int .i64 0, .int .i64 0, .int .i64 0, .int .i64 0, .int .i64 0, .int .i64 0, .int .i64 0, .int .i64 0, .int .i64 0, .int .i64 0, .int .i64 0, .int .i64 0, .int .i64 0] [], none, 0, false⟩,
       ⟨none, .store 64 (.t 10) (.t 27), none, 0, false⟩,
       ⟨(some 11), .mov (.k (.int .i64 1)), none, 0, false⟩])
      .ret)
     .skip))
   (.seq
    (.reg false [
     ⟨(some 12), .alloc [.int .i64 0, .int .i64 0, .int .i64 0, .int .i64 0, .int .i64 0, .int .i64 0, .int .i64 0, .int .i64 0, .int .i64 0, .int .i64 0, .int .i64 0, .int .i64 0, .int .i64 0, .int .i64 0, .int .i64 0, .int .i64 0, .int .i64 0, .int .i64 0, .int .i64 0, .int .i64 0, .int .i64 0, .int .i64 0, .int .i64 0, .int .i64 0, .int .i64 0, .int .i64 0, .int .i64 0, .int .i64 0, .int .i64 0, .int .i64 0, .int .i64 0, .int .i64 0, .int .i64 0, .int .i64 0, .int .i64 0, .int .i64 0, .int .i64 0, .int .i64 0, .int .i64 0, .int .i64 0, .int .i64 0, .int .i64 0, .int .i64 0, .int .i64 0, .int .i64 0, .int .i64 0, .int .i64 0, .int .i64 0, .int .i64 0, .int .i64 0, .int .i64 0, .int .i64 0, .int .i64 0, .int .i64 0, .int .i64 0, .int .i64 0, .int .i64 0, .int .i64 0, .int .i64 0, .int .i64 0, .int .i64 0, .int .i64 0, .int .i64 0, .int .i64 0], none, 0, false⟩])
    (.seq
     (.seq
      (.reg false [
       ⟨(some 13), .mov (.k (.int .i64 0)), none, 0, false⟩])
      (.blk 0
       (.loop
        (.seq
         (.seq
          (.reg false [
           ⟨(some 28), .mov (.t 13), none, 0, false⟩,
           ⟨(some 29), .bin .lss [0] (.t 28) (.k (.int .i64 64)), none, 0, false⟩])
          (.cond (.t 29)
           .skip
           (.exit 0)))
         (.seq
          (.blk 1
           (.reg true [
            ⟨(some 32), .mov (.t 13), none, 0, false⟩,
            ⟨(some 33), .load (some 5) (.t 5), none, 0, false⟩,
            ⟨(some 34), .mov (.t 3), none, 0, false⟩,
            ⟨(some 35), .call 54 [(.t 33), (.t 34)], none, 6, false⟩,
            ⟨(some 36), .fadr 0 (.t 5), none, 0, false⟩,
            ⟨(some 37), .load none (.t 36), none, 16, false⟩,
            ⟨(some 38), .mov (.t 1), none, 0, false⟩,
            ⟨(some 39), .mov (.t 2), none, 0, false⟩,
            ⟨(some 40), .mov (.t 3), none, 0, false⟩,
            ⟨(some 41), .mov (.t 4), none, 0, false⟩,
            ⟨(some 42), .mov (.t 13), none, 0, false⟩,
            ⟨(some 43), .call 55 [(.t 37), (.t 38), (.t 39), (.t 40), (.t 41), (.t 42)], none, 2046, true⟩,
            ⟨(some 44), .iadrL 1 (.t 35) (.t 43), none, 4094, true⟩,
            ⟨(some 45), .load none (.t 44), none, 8190, true⟩,
            ⟨(some 46), .toInt .i64 (.t 45), none, 16382, true⟩,
            ⟨(some 47), .iadrA 64 1 (.t 12) (.t 32), none, 32767, true⟩,
            ⟨none, .store 1 (.t 47) (.t 46), none, 65535, true⟩]))
          (.reg false [
           ⟨(some 30), .mov (.t 13), none, 0, false⟩,
           ⟨(some 31), .bin .add [0] (.t 30) (.k (.int .i64 1)), none, 0, false⟩,
           ⟨(some 13), .mov (.t 31), none, 0, false⟩]))))))
     (.seq
      (.reg false [
       ⟨(some 48), .load (some 64) (.t 12), none, 0, false⟩,
       ⟨none, .store 64 (.t 10) (.t 48), none, 0, false⟩,
       ⟨(some 11), .mov (.k (.int .i64 0)), none, 0, false⟩])
      .ret))))),
 [.cell 10 (some 64), .tmp 11]⟩
theorem ir_31 : ir 31 = some f31 := by kernel_rfl
/-! cutroom/cutroomref07.Copy -/
def f32 : F := ⟨19, 1,
 (.seq
  (.reg false [
   ⟨(some 1), .box (.t 0), none, 0, false⟩,
   ⟨(some 2), .alloc [.int .i64 0, .int .i64 0, .nils, .nils, .nils], none, 0, false⟩])
  (.seq
   (.reg true [
    ⟨(some 3), .bldS 0 1 (some .u8) [] [], none, 0, false⟩,
    ⟨(some 4), .fadr 2 (.t 1), none, 0, false⟩,
    ⟨(some 5), .load none (.t 4), none, 2, false⟩,
    ⟨(some 6), .app 1 1 (some .u8) (.t 3) (.t 5), none, 7, false⟩,
    ⟨(some 7), .bldS 0 1 (some .u8) [] [], none, 0, false⟩,
    ⟨(some 8), .fadr 3 (.t 1), none, 0, false⟩,
    ⟨(some 9), .load none (.t 8), none, 32, false⟩,
    ⟨(some 10), .app 1 1 (some .u8) (.t 7) (.t 9), none, 127, false⟩,
    ⟨(some 11), .bldS 0 1 (some .u8) [] [], none, 0, false⟩,
    ⟨(some 12), .fadr 4 (.t 1), none, 0, false⟩,
    ⟨(some 13), .load none (.t 12), none, 512, false⟩,
    ⟨(some 14), .app 1 1 (some .u8) (.t 11) (.t 13), none, 2047, true⟩,
    ⟨(some 15), .fadr 2 (.t 1), none, 1647, false⟩,
    ⟨none, .store 1 (.t 15) (.t 6), none, 8191, true⟩,
    ⟨(some 16), .fadr 3 (.t 1), none, 16383, true⟩,
    ⟨none, .store 1 (.t 16) (.t 10), none, 32767, true⟩,
    ⟨(some 17), .fadr 4 (.t 1), none, 65535, true⟩,
    ⟨none, .store 1 (.t 17) (.t 14), none, 131071, true⟩])
   (.seq
    (.reg false [
     ⟨(some 18), .load (some 5) (.t 1), none, 0, false⟩,
     ⟨none, .store 5 (.t 2) (.t 18), none, 0, false⟩])
    .ret))),
 [.cell 2 (some 5)]⟩
theorem ir_32 : ir 32 = some f32 := by kernel_rfl
/-! cutroom/plane.SetBlock -/
def f33 : F := ⟨68, 6,
 (.seq
  (.reg false [
   ⟨(some 6), .box (.t 0), none, 0, false⟩,
   ⟨(some 11), .box (.t 5), none, 0, false⟩,
   ⟨(some 12), .alloc [.int .i64 0, .int .i64 0, .nils, .nils, .nils], none, 0, false⟩,
   ⟨(some 13), .mov (.k (.int .i64 0)), none, 0, false⟩])
  (.seq
   (.seq
    (.reg false [
     ⟨(some 20), .load (some 5) (.t 6), none, 0, false⟩,
     ⟨(some 21), .mov (.t 1), none, 0, false⟩,
     ⟨(some 22), .mov (.t 2), none, 0, false⟩,
     ⟨(some 23), .call 51 [(.t 20), (.t 21), (.t 22)], none, 0, false⟩,
     ⟨(some 24), .un .not (.t 23), none, 0, false⟩,
     ⟨(some 25), .mov (.t 24), none, 0, false⟩,
     ⟨(some 26), .mov (.t 3), some (25, false), 0, false⟩,
     ⟨(some 27), .bin .lss [0] (.t 26) (.k (.int .i64 0)), some (25, false), 0, false⟩,
     ⟨(some 28), .pick (.t 25) (.k (.bool true)) (.t 27), none, 0, false⟩,
     ⟨(some 29), .mov (.t 28), none, 0, false⟩,
     ⟨(some 30), .mov (.t 3), some (29, false), 0, false⟩,
     ⟨(some 31), .bin .geq [0] (.t 30) (.k (.int .i64 6)), some (29, false), 0, false⟩,
     ⟨(some 32), .pick (.t 29) (.k (.bool true)) (.t 31), none, 0, false⟩])
    (.cond (.t 32)
     (.seq
      (.reg false [
       ⟨(some 33), .bld [.int .i64 0, .int .i64 0, .nils, .nils, .nils] [], none, 0, false⟩,
       ⟨none, .store 5 (.t 12) (.t 33), none, 0, false⟩,
       ⟨(some 13), .mov (.k (.int .i64 1)), none, 0, false⟩])
      .ret)
     .skip))
   (.seq
    (.reg false [
     ⟨(some 34), .load (some 5) (.t 6), none, 0, false⟩,
     ⟨(some 35), .call 56 [(.t 34)], none, 0, false⟩,
     ⟨(some 14), .alloc [.int .i64 0, .int .i64 0, .nils, .nils, .nils], none, 0, false⟩,
     ⟨none, .store 5 (.t 14) (.t 35), none, 0, false⟩])
    (.seq
     (.reg false [
      ⟨(some 37), .load (some 5) (.t 14), none, 0, false⟩,
      ⟨(some 38), .mov (.t 1), none, 0, false⟩,
      ⟨(some 39), .mov (.t 2), none, 0, false⟩,
      ⟨(some 40), .mov (.t 3), none, 0, false⟩,
      ⟨(some 41), .mov (.t 4), none, 0, false⟩,
      ⟨(some 42), .call 52 [(.t 37), (.t 38), (.t 39), (.t 40), (.t 41)], none, 0, false⟩,
      ⟨(some 36), .mov (.t 42), none, 0, false⟩,
      ⟨(some 43), .ext (.t 36) 0, none, 0, false⟩,
      ⟨(some 44), .ext (.t 36) 1, none, 0, false⟩,
      ⟨(some 45), .ext (.t 36) 2, none, 0, false⟩,
      ⟨(some 15), .mov (.t 43), none, 0, false⟩,
      ⟨(some 16), .mov (.t 44), none, 0, false⟩,
      ⟨(some 17), .mov (.t 45), none, 0, false⟩])
     (.seq
      (.seq
       (.reg false [
        ⟨(some 46), .load (some 64) (.t 11), none, 0, false⟩,
        ⟨(some 47), .mov (.k (.int .i64 0)), none, 0, false⟩])
       (.blk 0
        (.loop
         (.seq
          (.reg false [
           ⟨(some 48), .bin .lss [0] (.t 47) (.k (.int .i64 64)), none, 0, false⟩])
          (.seq
           (.cond (.t 48)
            .skip
            (.exit 0))
           (.seq
            (.blk 1
             (.seq
              (.reg false [
               ⟨(some 49), .mov (.t 47), none, 0, false⟩,
               ⟨(some 50), .idxA 64 1 none (.t 46) (.t 47), none, 0, false⟩,
               ⟨(some 18), .mov (.t 49), none, 0, false⟩,
               ⟨(some 19), .mov (.t 50), none, 0, false⟩])
              (.reg false [
               ⟨(some 51), .mov (.t 15), none, 0, false⟩,
               ⟨(some 52), .mov (.t 16), none, 0, false⟩,
               ⟨(some 53), .mov (.t 18), none, 0, false⟩,
               ⟨(some 54), .bin .quo [0] (.t 53) (.k (.int .i64 8)), none, 0, false⟩,
               ⟨(some 55), .mov (.t 17), none, 0, false⟩,
               ⟨(some 56), .bin .mul [0] (.t 54) (.t 55), none, 0, false⟩,
               ⟨(some 57), .bin .add [0] (.t 52) (.t 56), none, 0, false⟩,
               ⟨(some 58), .mov (.t 18), none, 0, false⟩,
               ⟨(some 59), .bin .rem [0] (.t 58) (.k (.int .i64 8)), none, 0, false⟩,
               ⟨(some 60), .bin .add [0] (.t 57) (.t 59), none, 0, false⟩,
               ⟨(some 61), .mov (.t 19), none, 0, false⟩,
               ⟨(some 62), .mm true [(.t 61), (.k (.int .i64 0))], none, 0, false⟩,
               ⟨(some 63), .mm false [(.t 62), (.k (.int .i64 255))], none, 0, false⟩,
               ⟨(some 64), .toInt .u8 (.t 63), none, 0, false⟩,
               ⟨(some 65), .iadrL 1 (.t 51) (.t 60), none, 0, false⟩,
               ⟨none, .store 1 (.t 65) (.t 64), none, 0, false⟩])))
            (.reg false [
             ⟨(some 66), .bin .add [0] (.t 47) (.k (.int .i64 1)), none, 0, false⟩,
             ⟨(some 47), .mov (.t 66), none, 0, false⟩])))))))
      (.seq
       (.reg false [
        ⟨(some 67), .load (some 5) (.t 14), none, 0, false⟩,
        ⟨none, .store 5 (.t 12) (.t 67), none, 0, false⟩,
        ⟨(some 13), .mov (.k (.int .i64 0)), none, 0, false⟩])
       .ret)))))),
 [.cell 12 (some 5), .tmp 13]⟩
theorem ir_33 : ir 33 = some f33 := by kernel_rfl
/-! cutroom/cutroomref07.SetBlock -/
def f34 : F := ⟨52, 6,
 (.seq
  (.reg false [
   ⟨(some 6), .box (.t 0), none, 0, false⟩,
   ⟨(some 11), .box (.t 5), none, 0, false⟩,
   ⟨(some 12), .alloc [.int .i64 0, .int .i64 0, .nils, .nils, .nils], none, 0, false⟩,
   ⟨(some 13), .mov (.k (.int .i64 0)), none, 0, false⟩])
  (.seq
   (.seq
    (.reg false [
     ⟨(some 15), .load (some 5) (.t 6), none, 0, false⟩,
     ⟨(some 16), .mov (.t 1), none, 0, false⟩,
     ⟨(some 17), .mov (.t 2), none, 0, false⟩,
     ⟨(some 18), .call 53 [(.t 15), (.t 16), (.t 17)], none, 0, false⟩,
     ⟨(some 19), .un .not (.t 18), none, 0, false⟩,
     ⟨(some 20), .mov (.t 19), none, 0, false⟩,
     ⟨(some 21), .mov (.t 3), some (20, false), 0, false⟩,
     ⟨(some 22), .bin .lss [0] (.t 21) (.k (.int .i64 0)), some (20, false), 0, false⟩,
     ⟨(some 23), .pick (.t 20) (.k (.bool true)) (.t 22), none, 0, false⟩,
     ⟨(some 24), .mov (.t 23), none, 0, false⟩,
     ⟨(some 25), .mov (.t 3), some (24, false), 0, false⟩,
     ⟨(some 26), .bin .gtr [0] (.t 25) (.k (.int .i64 5)), some (24, false), 0, false⟩,
     ⟨(some 27), .pick (.t 24) (.k (.bool true)) (.t 26), none, 0, false⟩])
    (.cond (.t 27)
     (.seq
      (.reg false [
       ⟨(some 28), .bld [.int .i64 0, .int .i64 0, .nils, .nils, .nils] [], none, 0, false⟩,
       ⟨none, .store 5 (.t 12) (.t 28), none, 0, false⟩,
       ⟨(some 13), .mov (.k (.int .i64 1)), none, 0, false⟩])
      .ret)
     .skip))
   (.seq
    (.reg false [
     ⟨(some 29), .load (some 5) (.t 6), none, 0, false⟩,
     ⟨(some 30), .call 32 [(.t 29)], none, 0, false⟩,
     ⟨none, .store 5 (.t 6) (.t 30), none, 0, false⟩])
    (.seq
     (.seq
      (.reg false [
       ⟨(some 14), .mov (.k (.int .i64 0)), none, 0, false⟩])
      (.blk 0
       (.loop
        (.seq
         (.seq
          (.reg false [
           ⟨(some 31), .mov (.t 14), none, 0, false⟩,
           ⟨(some 32), .bin .lss [0] (.t 31) (.k (.int .i64 64)), none, 0, false⟩])
          (.cond (.t 32)
           .skip
           (.exit 0)))
         (.seq
          (.blk 1
           (.reg true [
            ⟨(some 35), .load (some 5) (.t 6), none, 0, false⟩,
            ⟨(some 36), .mov (.t 3), none, 0, false⟩,
            ⟨(some 37), .call 54 [(.t 35), (.t 36)], none, 3, false⟩,
            ⟨(some 38), .fadr 0 (.t 6), none, 0, false⟩,
            ⟨(some 39), .load none (.t 38), none, 8, false⟩,
            ⟨(some 40), .mov (.t 1), none, 0, false⟩,
            ⟨(some 41), .mov (.t 2), none, 0, false⟩,
            ⟨(some 42), .mov (.t 3), none, 0, false⟩,
            ⟨(some 43), .mov (.t 4), none, 0, false⟩,
            ⟨(some 44), .mov (.t 14), none, 0, false⟩,
            ⟨(some 45), .call 55 [(.t 39), (.t 40), (.t 41), (.t 42), (.t 43), (.t 44)], none, 1023, false⟩,
            ⟨(some 46), .mov (.t 14), none, 0, false⟩,
            ⟨(some 47), .iadrA 64 1 (.t 11) (.t 46), none, 2048, false⟩,
            ⟨(some 48), .load none (.t 47), none, 6144, false⟩,
            ⟨(some 49), .call 57 [(.t 48)], none, 16383, true⟩,
            ⟨(some 50), .iadrL 1 (.t 37) (.t 45), none, 32767, true⟩,
            ⟨none, .store 1 (.t 50) (.t 49), none, 65535, true⟩]))
          (.reg false [
           ⟨(some 33), .mov (.t 14), none, 0, false⟩,
           ⟨(some 34), .bin .add [0] (.t 33) (.k (.int .i64 1)), none, 0, false⟩,
           ⟨(some 14), .mov (.t 34), none, 0, false⟩]))))))
     (.seq
      (.reg false [
       ⟨(some 51), .load (some 5) (.t 6), none, 0, false⟩,
       ⟨none, .store 5 (.t 12) (.t 51), none, 0, false⟩,
       ⟨(some 13), .mov (.k (.int .i64 0)), none, 0, false⟩])
      .ret))))),
 [.cell 12 (some 5), .tmp 13]⟩
theorem ir_34 : ir 34 = some f34 := by kernel_rfl
/-! cutroom/plane.Macroblock -/
def f35 : F := ⟨52, 3,
 (.seq
  (.reg false [
   ⟨(some 3), .box (.t 0), none, 0, false⟩,
   ⟨(some 6), .alloc [.int .i64 0, .int .i64 0, .nils, .nils, .nils], none, 0, false⟩,
   ⟨(some 7), .mov (.k (.int .i64 0)), none, 0, false⟩])
  (.seq
   (.seq
    (.reg false [
     ⟨(some 9), .load (some 5) (.t 3), none, 0, false⟩,
     ⟨(some 10), .mov (.t 1), none, 0, false⟩,
     ⟨(some 11), .mov (.t 2), none, 0, false⟩,
     ⟨(some 12), .call 51 [(.t 9), (.t 10), (.t 11)], none, 0, false⟩,
     ⟨(some 13), .un .not (.t 12), none, 0, false⟩])
    (.cond (.t 13)
     (.seq
      (.reg false [
       ⟨(some 14), .bld [.int .i64 0, .int .i64 0, .nils, .nils, .nils] [], none, 0, false⟩,
       ⟨none, .store 5 (.t 6) (.t 14), none, 0, false⟩,
       ⟨(some 7), .mov (.k (.int .i64 1)), none, 0, false⟩])
      .ret)
     .skip))
   (.seq
    (.reg false [
     ⟨(some 15), .call 41 [(.k (.int .i64 16)), (.k (.int .i64 16))], none, 0, false⟩,
     ⟨(some 8), .alloc [.int .i64 0, .int .i64 0, .nils, .nils, .nils], none, 0, false⟩,
     ⟨none, .store 5 (.t 8) (.t 15), none, 0, false⟩])
    (.seq
     (.reg false [
      ⟨(some 16), .fadr 2 (.t 8), none, 0, false⟩,
      ⟨(some 17), .load none (.t 16), none, 0, false⟩,
      ⟨(some 18), .fadr 2 (.t 3), none, 0, false⟩,
      ⟨(some 19), .load none (.t 18), none, 0, false⟩,
      ⟨(some 20), .fadr 0 (.t 3), none, 0, false⟩,
      ⟨(some 21), .load none (.t 20), none, 0, false⟩,
      ⟨(some 22), .mov (.t 1), none, 0, false⟩,
      ⟨(some 23), .bin .mul [0] (.t 22) (.k (.int .i64 16)), none, 0, false⟩,
      ⟨(some 24), .mov (.t 2), none, 0, false⟩,
      ⟨(some 25), .bin .mul [0] (.t 24) (.k (.int .i64 16)), none, 0, false⟩,
      ⟨(some 26), .call 58 [(.t 17), (.k (.int .i64 16)), (.k (.int .i64 0)), (.k (.int .i64 0)), (.t 19), (.t 21), (.t 23), (.t 25), (.k (.int .i64 16)), (.k (.int .i64 16))], none, 0, false⟩])
     (.seq
      (.reg false [
       ⟨(some 27), .fadr 3 (.t 8), none, 0, false⟩,
       ⟨(some 28), .load none (.t 27), none, 0, false⟩,
       ⟨(some 29), .fadr 3 (.t 3), none, 0, false⟩,
       ⟨(some 30), .load none (.t 29), none, 0, false⟩,
       ⟨(some 31), .fadr 0 (.t 3), none, 0, false⟩,
       ⟨(some 32), .load none (.t 31), none, 0, false⟩,
       ⟨(some 33), .bin .quo [0] (.t 32) (.k (.int .i64 2)), none, 0, false⟩,
       ⟨(some 34), .mov (.t 1), none, 0, false⟩,
       ⟨(some 35), .bin .mul [0] (.t 34) (.k (.int .i64 8)), none, 0, false⟩,
       ⟨(some 36), .mov (.t 2), none, 0, false⟩,
       ⟨(some 37), .bin .mul [0] (.t 36) (.k (.int .i64 8)), none, 0, false⟩,
       ⟨(some 38), .call 58 [(.t 28), (.k (.int .i64 8)), (.k (.int .i64 0)), (.k (.int .i64 0)), (.t 30), (.t 33), (.t 35), (.t 37), (.k (.int .i64 8)), (.k (.int .i64 8))], none, 0, false⟩])
      (.seq
       (.reg false [
        ⟨(some 39), .fadr 4 (.t 8), none, 0, false⟩,
        ⟨(some 40), .load none (.t 39), none, 0, false⟩,
        ⟨(some 41), .fadr 4 (.t 3), none, 0, false⟩,
        ⟨(some 42), .load none (.t 41), none, 0, false⟩,
        ⟨(some 43), .fadr 0 (.t 3), none, 0, false⟩,
        ⟨(some 44), .load none (.t 43), none, 0, false⟩,
        ⟨(some 45), .bin .quo [0] (.t 44) (.k (.int .i64 2)), none, 0, false⟩,
        ⟨(some 46), .mov (.t 1), none, 0, false⟩,
        ⟨(some 47), .bin .mul [0] (.t 46) (.k (.int .i64 8)), none, 0, false⟩,
        ⟨(some 48), .mov (.t 2), none, 0, false⟩,
        ⟨(some 49), .bin .mul [0] (.t 48) (.k (.int .i64 8)), none, 0, false⟩,
        ⟨(some 50), .call 58 [(.t 40), (.k (.int .i64 8)), (.k (.int .i64 0)), (.k (.int .i64 0)), (.t 42), (.t 45), (.t 47), (.t 49), (.k (.int .i64 8)), (.k (.int .i64 8))], none, 0, false⟩])
       (.seq
        (.reg false [
         ⟨(some 51), .load (some 5) (.t 8), none, 0, false⟩,
         ⟨none, .store 5 (.t 6) (.t 51), none, 0, false⟩,
         ⟨(some 7), .mov (.k (.int .i64 0)), none, 0, false⟩])
        .ret))))))),
 [.cell 6 (some 5), .tmp 7]⟩
theorem ir_35 : ir 35 = some f35 := by kernel_rfl
/-! cutroom/cutroomref07.Macroblock -/
def f36 : F := ⟨24, 3,
 (.seq
  (.reg false [
   ⟨(some 3), .box (.t 0), none, 0, false⟩,
   ⟨(some 6), .alloc [.int .i64 0, .int .i64 0, .nils, .nils, .nils], none, 0, false⟩,
   ⟨(some 7), .mov (.k (.int .i64 0)), none, 0, false⟩])
  (.seq
   (.seq
    (.reg false [
     ⟨(some 9), .load (some 5) (.t 3), none, 0, false⟩,
     ⟨(some 10), .mov (.t 1), none, 0, false⟩,
     ⟨(some 11), .mov (.t 2), none, 0, false⟩,
     ⟨(some 12), .call 53 [(.t 9), (.t 10), (.t 11)], none, 0, false⟩,
     ⟨(some 13), .un .not (.t 12), none, 0, false⟩])
    (.cond (.t 13)
     (.seq
      (.reg false [
       ⟨(some 14), .bld [.int .i64 0, .int .i64 0, .nils, .nils, .nils] [], none, 0, false⟩,
       ⟨none, .store 5 (.t 6) (.t 14), none, 0, false⟩,
       ⟨(some 7), .mov (.k (.int .i64 1)), none, 0, false⟩])
      .ret)
     .skip))
   (.seq
    (.reg false [
     ⟨(some 15), .call 44 [(.k (.int .i64 16)), (.k (.int .i64 16))], none, 0, false⟩,
     ⟨(some 8), .alloc [.int .i64 0, .int .i64 0, .nils, .nils, .nils], none, 0, false⟩,
     ⟨none, .store 5 (.t 8) (.t 15), none, 0, false⟩])
    (.seq
     (.reg false [
      ⟨(some 16), .load (some 5) (.t 8), none, 0, false⟩,
      ⟨(some 17), .load (some 5) (.t 3), none, 0, false⟩,
      ⟨(some 18), .mov (.t 1), none, 0, false⟩,
      ⟨(some 19), .bin .mul [0] (.k (.int .i64 16)) (.t 18), none, 0, false⟩,
      ⟨(some 20), .mov (.t 2), none, 0, false⟩,
      ⟨(some 21), .bin .mul [0] (.k (.int .i64 16)) (.t 20), none, 0, false⟩,
      ⟨(some 22), .call 59 [(.t 16), (.k (.int .i64 0)), (.k (.int .i64 0)), (.t 17), (.t 19), (.t 21), (.k (.int .i64 16)), (.k (.int .i64 16))], none, 0, false⟩])
     (.seq
      (.reg false [
       ⟨(some 23), .load (some 5) (.t 8), none, 0, false⟩,
       ⟨none, .store 5 (.t 6) (.t 23), none, 0, false⟩,
       ⟨(some 7), .mov (.k (.int .i64 0)), none, 0, false⟩])
      .ret))))),
 [.cell 6 (some 5), .tmp 7]⟩
theorem ir_36 : ir 36 = some f36 := by kernel_rfl
/-! cutroom/plane.SetMacroblock -/
def f37 : F := ⟨70, 4,
 (.seq
  (.reg false [
   ⟨(some 4), .box (.t 0), none, 0, false⟩,
   ⟨(some 7), .box (.t 3), none, 0, false⟩,
   ⟨(some 8), .alloc [.int .i64 0, .int .i64 0, .nils, .nils, .nils], none, 0, false⟩,
   ⟨(some 9), .mov (.k (.int .i64 0)), none, 0, false⟩])
  (.seq
   (.seq
    (.reg false [
     ⟨(some 11), .load (some 5) (.t 4), none, 0, false⟩,
     ⟨(some 12), .mov (.t 1), none, 0, false⟩,
     ⟨(some 13), .mov (.t 2), none, 0, false⟩,
     ⟨(some 14), .call 51 [(.t 11), (.t 12), (.t 13)], none, 0, false⟩,
     ⟨(some 15), .un .not (.t 14), none, 0, false⟩,
     ⟨(some 16), .mov (.t 15), none, 0, false⟩,
     ⟨(some 17), .load (some 5) (.t 7), some (16, false), 0, false⟩,
     ⟨(some 18), .call 15 [(.t 17)], some (16, false), 0, false⟩,
     ⟨(some 19), .un .not (.t 18), some (16, false), 0, false⟩,
     ⟨(some 20), .pick (.t 16) (.k (.bool true)) (.t 19), none, 0, false⟩,
     ⟨(some 21), .mov (.t 20), none, 0, false⟩,
     ⟨(some 22), .fadr 0 (.t 7), some (21, false), 0, false⟩,
     ⟨(some 23), .load none (.t 22), some (21, false), 0, false⟩,
     ⟨(some 24), .bin .neq [0] (.t 23) (.k (.int .i64 16)), some (21, false), 0, false⟩,
     ⟨(some 25), .pick (.t 21) (.k (.bool true)) (.t 24), none, 0, false⟩,
     ⟨(some 26), .mov (.t 25), none, 0, false⟩,
     ⟨(some 27), .fadr 1 (.t 7), some (26, false), 0, false⟩,
     ⟨(some 28), .load none (.t 27), some (26, false), 0, false⟩,
     ⟨(some 29), .bin .neq [0] (.t 28) (.k (.int .i64 16)), some (26, false), 0, false⟩,
     ⟨(some 30), .pick (.t 26) (.k (.bool true)) (.t 29), none, 0, false⟩])
    (.cond (.t 30)
     (.seq
      (.reg false [
       ⟨(some 31), .bld [.int .i64 0, .int .i64 0, .nils, .nils, .nils] [], none, 0, false⟩,
       ⟨none, .store 5 (.t 8) (.t 31), none, 0, false⟩,
       ⟨(some 9), .mov (.k (.int .i64 1)), none, 0, false⟩])
      .ret)
     .skip))
   (.seq
    (.reg false [
     ⟨(some 32), .load (some 5) (.t 4), none, 0, false⟩,
     ⟨(some 33), .call 56 [(.t 32)], none, 0, false⟩,
     ⟨(some 10), .alloc [.int .i64 0, .int .i64 0, .nils, .nils, .nils], none, 0, false⟩,
     ⟨none, .store 5 (.t 10) (.t 33), none, 0, false⟩])
    (.seq
     (.reg false [
      ⟨(some 34), .fadr 2 (.t 10), none, 0, false⟩,
      ⟨(some 35), .load none (.t 34), none, 0, false⟩,
      ⟨(some 36), .fadr 0 (.t 4), none, 0, false⟩,
      ⟨(some 37), .load none (.t 36), none, 0, false⟩,
      ⟨(some 38), .mov (.t 1), none, 0, false⟩,
      ⟨(some 39), .bin .mul [0] (.t 38) (.k (.int .i64 16)), none, 0, false⟩,
      ⟨(some 40), .mov (.t 2), none, 0, false⟩,
      ⟨(some 41), .bin .mul [0] (.t 40) (.k (.int .i64 16)), none, 0, false⟩,
      ⟨(some 42), .fadr 2 (.t 7), none, 0, false⟩,
      ⟨(some 43), .load none (.t 42), none, 0, false⟩,
      ⟨(some 44), .call 58 [(.t 35), (.t 37), (.t 39), (.t 41), (.t 43), (.k (.int .i64 16)), (.k (.int .i64 0)), (.k (.int .i64 0)), (.k (.int .i64 16)), (.k (.int .i64 16))], none, 0, false⟩])
     (.seq
      (.reg false [
       ⟨(some 45), .fadr 3 (.t 10), none, 0, false⟩,
       ⟨(some 46), .load none (.t 45), none, 0, false⟩,
       ⟨(some 47), .fadr 0 (.t 4), none, 0, false⟩,
       ⟨(some 48), .load none (.t 47), none, 0, false⟩,
       ⟨(some 49), .bin .quo [0] (.t 48) (.k (.int .i64 2)), none, 0, false⟩,
       ⟨(some 50), .mov (.t 1), none, 0, false⟩,
       ⟨(some 51), .bin .mul [0] (.t 50) (.k (.int .i64 8)), none, 0, false⟩,
       ⟨(some 52), .mov (.t 2), none, 0, false⟩,
       ⟨(some 53), .bin .mul [0] (.t 52) (.k (.int .i64 8)), none, 0, false⟩,
       ⟨(some 54), .fadr 3 (.t 7), none, 0, false⟩,
       ⟨(some 55), .load none (.t 54), none, 0, false⟩,
       ⟨(some 56), .call 58 [(.t 46), (.t 49), (.t 51), (.t 53), (.t 55), (.k (.int .i64 8)), (.k (.int .i64 0)), (.k (.int .i64 0)), (.k (.int .i64 8)), (.k (.int .i64 8))], none, 0, false⟩])
      (.seq
       (.reg false [
        ⟨(some 57), .fadr 4 (.t 10), none, 0, false⟩,
        ⟨(some 58), .load none (.t 57), none, 0, false⟩,
        ⟨(some 59), .fadr 0 (.t 4), none, 0, false⟩,
        ⟨(some 60), .load none (.t 59), none, 0, false⟩,
        ⟨(some 61), .bin .quo [0] (.t 60) (.k (.int .i64 2)), none, 0, false⟩,
        ⟨(some 62), .mov (.t 1), none, 0, false⟩,
        ⟨(some 63), .bin .mul [0] (.t 62) (.k (.int .i64 8)), none, 0, false⟩,
        ⟨(some 64), .mov (.t 2), none, 0, false⟩,
        ⟨(some 65), .bin .mul [0] (.t 64) (.k (.int .i64 8)), none, 0, false⟩,
        ⟨(some 66), .fadr 4 (.t 7), none, 0, false⟩,
        ⟨(some 67), .load none (.t 66), none, 0, false⟩,
        ⟨(some 68), .call 58 [(.t 58), (.t 61), (.t 63), (.t 65), (.t 67), (.k (.int .i64 8)), (.k (.int .i64 0)), (.k (.int .i64 0)), (.k (.int .i64 8)), (.k (.int .i64 8))], none, 0, false⟩])
       (.seq
        (.reg false [
         ⟨(some 69), .load (some 5) (.t 10), none, 0, false⟩,
         ⟨none, .store 5 (.t 8) (.t 69), none, 0, false⟩,
         ⟨(some 9), .mov (.k (.int .i64 0)), none, 0, false⟩])
        .ret))))))),
 [.cell 8 (some 5), .tmp 9]⟩
theorem ir_37 : ir 37 = some f37 := by kernel_rfl
/-! cutroom/cutroomref07.SetMacroblock -/
def f38 : F := ⟨31, 4,
 (.seq
  (.reg false [
   ⟨(some 4), .box (.t 0), none, 0, false⟩,
   ⟨(some 7), .box (.t 3), none, 0, false⟩,
   ⟨(some 8), .alloc [.int .i64 0, .int .i64 0, .nils, .nils, .nils], none, 0, false⟩,
   ⟨(some 9), .mov (.k (.int .i64 0)), none, 0, false⟩])
  (.seq
   (.seq
    (.reg false [
     ⟨(some 10), .load (some 5) (.t 4), none, 0, false⟩,
     ⟨(some 11), .mov (.t 1), none, 0, false⟩,
     ⟨(some 12), .mov (.t 2), none, 0, false⟩,
     ⟨(some 13), .call 53 [(.t 10), (.t 11), (.t 12)], none, 0, false⟩,
     ⟨(some 14), .un .not (.t 13), none, 0, false⟩,
     ⟨(some 15), .mov (.t 14), none, 0, false⟩,
     ⟨(some 16), .load (some 5) (.t 7), some (15, false), 0, false⟩,
     ⟨(some 17), .call 60 [(.t 16), (.k (.int .i64 16)), (.k (.int .i64 16))], some (15, false), 0, false⟩,
     ⟨(some 18), .un .not (.t 17), some (15, false), 0, false⟩,
     ⟨(some 19), .pick (.t 15) (.k (.bool true)) (.t 18), none, 0, false⟩])
    (.cond (.t 19)
     (.seq
      (.reg false [
       ⟨(some 20), .bld [.int .i64 0, .int .i64 0, .nils, .nils, .nils] [], none, 0, false⟩,
       ⟨none, .store 5 (.t 8) (.t 20), none, 0, false⟩,
       ⟨(some 9), .mov (.k (.int .i64 1)), none, 0, false⟩])
      .ret)
     .skip))
   (.seq
    (.reg false [
     ⟨(some 21), .load (some 5) (.t 4), none, 0, false⟩,
     ⟨(some 22), .call 32 [(.t 21)], none, 0, false⟩,
     ⟨none, .store 5 (.t 4) (.t 22), none, 0, false⟩])
    (.seq
     (.reg false [
      ⟨(some 23), .load (some 5) (.t 4), none, 0, false⟩,
      ⟨(some 24), .mov (.t 1), none, 0, false⟩,
      ⟨(some 25), .bin .mul [0] (.k (.int .i64 16)) (.t 24), none, 0, false⟩,
      ⟨(some 26), .mov (.t 2), none, 0, false⟩,
      ⟨(some 27), .bin .mul [0] (.k (.int .i64 16)) (.t 26), none, 0, false⟩,
      ⟨(some 28), .load (some 5) (.t 7), none, 0, false⟩,
      ⟨(some 29), .call 59 [(.t 23), (.t 25), (.t 27), (.t 28), (.k (.int .i64 0)), (.k (.int .i64 0)), (.k (.int .i64 16)), (.k (.int .i64 16))], none, 0, false⟩])
     (.seq
      (.reg false [
       ⟨(some 30), .load (some 5) (.t 4), none, 0, false⟩,
       ⟨none, .store 5 (.t 8) (.t 30), none, 0, false⟩,
       ⟨(some 9), .mov (.k (.int .i64 0)), none, 0, false⟩])
      .ret))))),
 [.cell 8 (some 5), .tmp 9]⟩
theorem ir_38 : ir 38 = some f38 := by kernel_rfl
/-! cutroom/plane.SetRow -/
def f39 : F := ⟨87, 3,
 (.seq
  (.reg false [
   ⟨(some 3), .box (.t 0), none, 0, false⟩,
   ⟨(some 5), .box (.t 2), none, 0, false⟩,
   ⟨(some 6), .alloc [.int .i64 0, .int .i64 0, .nils, .nils, .nils], none, 0, false⟩,
   ⟨(some 7), .mov (.k (.int .i64 0)), none, 0, false⟩])
  (.seq
   (.seq
    (.reg false [
     ⟨(some 9), .load (some 5) (.t 3), none, 0, false⟩,
     ⟨(some 10), .mov (.t 1), none, 0, false⟩,
     ⟨(some 11), .call 51 [(.t 9), (.k (.int .i64 0)), (.t 10)], none, 0, false⟩,
     ⟨(some 12), .un .not (.t 11), none, 0, false⟩,
     ⟨(some 13), .mov (.t 12), none, 0, false⟩,
     ⟨(some 14), .load (some 5) (.t 5), some (13, false), 0, false⟩,
     ⟨(some 15), .call 17 [(.t 14)], some (13, false), 0, false⟩,
     ⟨(some 16), .un .not (.t 15), some (13, false), 0, false⟩,
     ⟨(some 17), .pick (.t 13) (.k (.bool true)) (.t 16), none, 0, false⟩,
     ⟨(some 18), .mov (.t 17), none, 0, false⟩,
     ⟨(some 19), .fadr 0 (.t 5), some (18, false), 0, false⟩,
     ⟨(some 20), .load none (.t 19), some (18, false), 0, false⟩,
     ⟨(some 21), .fadr 0 (.t 3), some (18, false), 0, false⟩,
     ⟨(some 22), .load none (.t 21), some (18, false), 0, false⟩,
     ⟨(some 23), .bin .neq [0] (.t 20) (.t 22), some (18, false), 0, false⟩,
     ⟨(some 24), .pick (.t 18) (.k (.bool true)) (.t 23), none, 0, false⟩,
     ⟨(some 25), .mov (.t 24), none, 0, false⟩,
     ⟨(some 26), .fadr 1 (.t 5), some (25, false), 0, false⟩,
     ⟨(some 27), .load none (.t 26), some (25, false), 0, false⟩,
     ⟨(some 28), .fadr 1 (.t 3), some (25, false), 0, false⟩,
     ⟨(some 29), .load none (.t 28), some (25, false), 0, false⟩,
     ⟨(some 30), .bin .neq [0] (.t 27) (.t 29), some (25, false), 0, false⟩,
     ⟨(some 31), .pick (.t 25) (.k (.bool true)) (.t 30), none, 0, false⟩])
    (.cond (.t 31)
     (.seq
      (.reg false [
       ⟨(some 32), .bld [.int .i64 0, .int .i64 0, .nils, .nils, .nils] [], none, 0, false⟩,
       ⟨none, .store 5 (.t 6) (.t 32), none, 0, false⟩,
       ⟨(some 7), .mov (.k (.int .i64 1)), none, 0, false⟩])
      .ret)
     .skip))
   (.seq
    (.reg false [
     ⟨(some 33), .load (some 5) (.t 3), none, 0, false⟩,
     ⟨(some 34), .call 56 [(.t 33)], none, 0, false⟩,
     ⟨(some 8), .alloc [.int .i64 0, .int .i64 0, .nils, .nils, .nils], none, 0, false⟩,
     ⟨none, .store 5 (.t 8) (.t 34), none, 0, false⟩])
    (.seq
     (.reg false [
      ⟨(some 35), .fadr 2 (.t 8), none, 0, false⟩,
      ⟨(some 36), .load none (.t 35), none, 0, false⟩,
      ⟨(some 37), .fadr 0 (.t 3), none, 0, false⟩,
      ⟨(some 38), .load none (.t 37), none, 0, false⟩,
      ⟨(some 39), .mov (.t 1), none, 0, false⟩,
      ⟨(some 40), .bin .mul [0] (.t 39) (.k (.int .i64 16)), none, 0, false⟩,
      ⟨(some 41), .fadr 2 (.t 5), none, 0, false⟩,
      ⟨(some 42), .load none (.t 41), none, 0, false⟩,
      ⟨(some 43), .fadr 0 (.t 3), none, 0, false⟩,
      ⟨(some 44), .load none (.t 43), none, 0, false⟩,
      ⟨(some 45), .mov (.t 1), none, 0, false⟩,
      ⟨(some 46), .bin .mul [0] (.t 45) (.k (.int .i64 16)), none, 0, false⟩,
      ⟨(some 47), .fadr 0 (.t 3), none, 0, false⟩,
      ⟨(some 48), .load none (.t 47), none, 0, false⟩,
      ⟨(some 49), .call 58 [(.t 36), (.t 38), (.k (.int .i64 0)), (.t 40), (.t 42), (.t 44), (.k (.int .i64 0)), (.t 46), (.t 48), (.k (.int .i64 16))], none, 0, false⟩])
     (.seq
      (.reg false [
       ⟨(some 50), .fadr 3 (.t 8), none, 0, false⟩,
       ⟨(some 51), .load none (.t 50), none, 0, false⟩,
       ⟨(some 52), .fadr 0 (.t 3), none, 0, false⟩,
       ⟨(some 53), .load none (.t 52), none, 0, false⟩,
       ⟨(some 54), .bin .quo [0] (.t 53) (.k (.int .i64 2)), none, 0, false⟩,
       ⟨(some 55), .mov (.t 1), none, 0, false⟩,
       ⟨(some 56), .bin .mul [0] (.t 55) (.k (.int .i64 8)), none, 0, false⟩,
       ⟨(some 57), .fadr 3 (.t 5), none, 0, false⟩,
       ⟨(some 58), .load none (.t 57), none, 0, false⟩,
       ⟨(some 59), .fadr 0 (.t 3), none, 0, false⟩,
       ⟨(some 60), .load none (.t 59), none, 0, false⟩,
       ⟨(some 61), .bin .quo [0] (.t 60) (.k (.int .i64 2)), none, 0, false⟩,
       ⟨(some 62), .mov (.t 1), none, 0, false⟩,
       ⟨(some 63), .bin .mul [0] (.t 62) (.k (.int .i64 8)), none, 0, false⟩,
       ⟨(some 64), .fadr 0 (.t 3), none, 0, false⟩,
       ⟨(some 65), .load none (.t 64), none, 0, false⟩,
       ⟨(some 66), .bin .quo [0] (.t 65) (.k (.int .i64 2)), none, 0, false⟩,
       ⟨(some 67), .call 58 [(.t 51), (.t 54), (.k (.int .i64 0)), (.t 56), (.t 58), (.t 61), (.k (.int .i64 0)), (.t 63), (.t 66), (.k (.int .i64 8))], none, 0, false⟩])
      (.seq
       (.reg false [
        ⟨(some 68), .fadr 4 (.t 8), none, 0, false⟩,
        ⟨(some 69), .load none (.t 68), none, 0, false⟩,
        ⟨(some 70), .fadr 0 (.t 3), none, 0, false⟩,
        ⟨(some 71), .load none (.t 70), none, 0, false⟩,
        ⟨(some 72), .bin .quo [0] (.t 71) (.k (.int .i64 2)), none, 0, false⟩,
        ⟨(some 73), .mov (.t 1), none, 0, false⟩,
        ⟨(some 74), .bin .mul [0] (.t 73) (.k (.int .i64 8)), none, 0, false⟩,
        ⟨(some 75), .fadr 4 (.t 5), none, 0, false⟩,
        ⟨(some 76), .load none (.t 75), none, 0, false⟩,
        ⟨(some 77), .fadr 0 (.t 3), none, 0, false⟩,
        ⟨(some 78), .load none (.t 77), none, 0, false⟩,
        ⟨(some 79), .bin .quo [0] (.t 78) (.k (.int .i64 2)), none, 0, false⟩,
        ⟨(some 80), .mov (.t 1), none, 0, false⟩,
        ⟨(some 81), .bin .mul [0] (.t 80) (.k (.int .i64 8)), none, 0, false⟩,
        ⟨(some 82), .fadr 0 (.t 3), none, 0, false⟩,
        ⟨(some 83), .load none (.t 82), none, 0, false⟩,
        ⟨(some 84), .bin .quo [0] (.t 83) (.k (.int .i64 2)), none, 0, false⟩,
        ⟨(some 85), .call 58 [(.t 69), (.t 72), (.k (.int .i64 0)), (.t 74), (.t 76), (.t 79), (.k (.int .i64 0)), (.t 81), (.t 84), (.k (.int .i64 8))], none, 0, false⟩])
       (.seq
        (.reg false [
         ⟨(some 86), .load (some 5) (.t 8), none, 0, false⟩,
         ⟨none, .store 5 (.t 6) (.t 86), none, 0, false⟩,
         ⟨(some 7), .mov (.k (.int .i64 0)), none, 0, false⟩])
        .ret))))))),
 [.cell 6 (some 5), .tmp 7]⟩
theorem ir_39 : ir 39 = some f39 := by kernel_rfl
/-! cutroom/cutroomref07.SetRow -/
def f40 : F := ⟨34, 3,
 (.seq
  (.reg false [
   ⟨(some 3), .box (.t 0), none, 0, false⟩,
   ⟨(some 5), .box (.t 2), none, 0, false⟩,
   ⟨(some 6), .alloc [.int .i64 0, .int .i64 0, .nils, .nils, .nils], none, 0, false⟩,
   ⟨(some 7), .mov (.k (.int .i64 0)), none, 0, false⟩])
  (.seq
   (.seq
    (.reg false [
     ⟨(some 8), .load (some 5) (.t 3), none, 0, false⟩,
     ⟨(some 9), .mov (.t 1), none, 0, false⟩,
     ⟨(some 10), .call 53 [(.t 8), (.k (.int .i64 0)), (.t 9)], none, 0, false⟩,
     ⟨(some 11), .un .not (.t 10), none, 0, false⟩,
     ⟨(some 12), .mov (.t 11), none, 0, false⟩,
     ⟨(some 13), .load (some 5) (.t 5), some (12, false), 0, false⟩,
     ⟨(some 14), .fadr 0 (.t 3), some (12, false), 0, false⟩,
     ⟨(some 15), .load none (.t 14), some (12, false), 0, false⟩,
     ⟨(some 16), .fadr 1 (.t 3), some (12, false), 0, false⟩,
     ⟨(some 17), .load none (.t 16), some (12, false), 0, false⟩,
     ⟨(some 18), .call 60 [(.t 13), (.t 15), (.t 17)], some (12, false), 0, false⟩,
     ⟨(some 19), .un .not (.t 18), some (12, false), 0, false⟩,
     ⟨(some 20), .pick (.t 12) (.k (.bool true)) (.t 19), none, 0, false⟩])
    (.cond (.t 20)
     (.seq
      (.reg false [
       ⟨(some 21), .bld [.int .i64 0, .int .i64 0, .nils, .nils, .nils] [], none, 0, false⟩,
       ⟨none, .store 5 (.t 6) (.t 21), none, 0, false⟩,
       ⟨(some 7), .mov (.k (.int .i64 1)), none, 0, false⟩])
      .ret)
     .skip))
   (.seq
    (.reg false [
     ⟨(some 22), .load (some 5) (.t 3), none, 0, false⟩,
     ⟨(some 23), .call 32 [(.t 22)], none, 0, false⟩,
     ⟨none, .store 5 (.t 3) (.t 23), none, 0, false⟩])
    (.seq
     (.reg false [
      ⟨(some 24), .load (some 5) (.t 3), none, 0, false⟩,
      ⟨(some 25), .mov (.t 1), none, 0, false⟩,
      ⟨(some 26), .bin .mul [0] (.k (.int .i64 16)) (.t 25), none, 0, false⟩,
      ⟨(some 27), .load (some 5) (.t 5), none, 0, false⟩,
      ⟨(some 28), .mov (.t 1), none, 0, false⟩,
      ⟨(some 29), .bin .mul [0] (.k (.int .i64 16)) (.t 28), none, 0, false⟩,
      ⟨(some 30), .fadr 0 (.t 3), none, 0, false⟩,
      ⟨(some 31), .load none (.t 30), none, 0, false⟩,
      ⟨(some 32), .call 59 [(.t 24), (.k (.int .i64 0)), (.t 26), (.t 27), (.k (.int .i64 0)), (.t 29), (.t 31), (.k (.int .i64 16))], none, 0, false⟩])
     (.seq
      (.reg false [
       ⟨(some 33), .load (some 5) (.t 3), none, 0, false⟩,
       ⟨none, .store 5 (.t 6) (.t 33), none, 0, false⟩,
       ⟨(some 7), .mov (.k (.int .i64 0)), none, 0, false⟩])
      .ret))))),
 [.cell 6 (some 5), .tmp 7]⟩
theorem ir_40 : ir 40 = some f40 := by kernel_rfl
/-! cutroom/plane.empty -/
def f41 : F := ⟨22, 2,
 (.seq
  (.reg false [
   ⟨(some 4), .alloc [.int .i64 0, .int .i64 0, .nils, .nils, .nils], none, 0, false⟩])
  (.seq
   (.reg true [
    ⟨(some 5), .mov (.t 0), none, 0, false⟩,
    ⟨(some 6), .mov (.t 1), none, 0, false⟩,
    ⟨(some 7), .mov (.t 0), none, 0, false⟩,
    ⟨(some 8), .mov (.t 1), none, 0, false⟩,
    ⟨(some 9), .bin .mul [0] (.t 7) (.t 8), none, 12, false⟩,
    ⟨(some 10), .mk 1 1 (some .u8) [.int .u8 0] (.t 9) (.t 9), none, 28, false⟩,
    ⟨(some 11), .mov (.t 0), none, 0, false⟩,
    ⟨(some 12), .mov (.t 1), none, 0, false⟩,
    ⟨(some 13), .bin .mul [0] (.t 11) (.t 12), none, 192, false⟩,
    ⟨(some 14), .bin .quo [0] (.t 13) (.k (.int .i64 4)), none, 448, false⟩,
    ⟨(some 15), .mk 1 1 (some .u8) [.int .u8 0] (.t 14) (.t 14), none, 960, false⟩,
    ⟨(some 16), .mov (.t 0), none, 0, false⟩,
    ⟨(some 17), .mov (.t 1), none, 0, false⟩,
    ⟨(some 18), .bin .mul [0] (.t 16) (.t 17), none, 6144, false⟩,
    ⟨(some 19), .bin .quo [0] (.t 18) (.k (.int .i64 4)), none, 14336, false⟩,
    ⟨(some 20), .mk 1 1 (some .u8) [.int .u8 0] (.t 19) (.t 19), none, 30720, false⟩,
    ⟨(some 21), .bld [.int .i64 0, .int .i64 0, .nils, .nils, .nils] [(0, 1, (.t 5)), (1, 1, (.t 6)), (2, 1, (.t 10)), (3, 1, (.t 15)), (4, 1, (.t 20))], none, 65535, true⟩,
    ⟨none, .store 5 (.t 4) (.t 21), none, 131071, true⟩])
   .ret)),
 [.cell 4 (some 5)]⟩
theorem ir_41 : ir 41 = some f41 := by kernel_rfl
/-! cutroom/plane.fill[[]byte,byte] -/
def f42 : F := ⟨15, 2,
 (.seq
  (.reg false [
   ⟨(some 5), .mov (.t 0), none, 0, false⟩,
   ⟨(some 6), .lenL (.t 5), none, 0, false⟩,
   ⟨(some 7), .mov (.k (.int .i64 0)), none, 0, false⟩])
  (.blk 0
   (.loop
    (.seq
     (.reg false [
      ⟨(some 8), .bin .lss [0] (.t 7) (.t 6), none, 0, false⟩])
     (.seq
      (.cond (.t 8)
       .skip
       (.exit 0))
      (.seq
       (.blk 1
        (.seq
         (.reg false [
          ⟨(some 9), .mov (.t 7), none, 0, false⟩,
          ⟨(some 4), .mov (.t 9), none, 0, false⟩])
         (.reg false [
          ⟨(some 10), .mov (.t 0), none, 0, false⟩,
          ⟨(some 11), .mov (.t 4), none, 0, false⟩,
          ⟨(some 12), .mov (.t 1), none, 0, false⟩,
          ⟨(some 13), .iadrL 1 (.t 10) (.t 11), none, 0, false⟩,
          ⟨none, .store 1 (.t 13) (.t 12), none, 0, false⟩])))
       (.reg false [
        ⟨(some 14), .bin .add [0] (.t 7) (.k (.int .i64 1)), none, 0, false⟩,
        ⟨(some 7), .mov (.t 14), none, 0, false⟩]))))))),
 []⟩
theorem ir_42 : ir 42 = some f42 := by kernel_rfl
/-! cutroom/cutroomref02.SameBytes -/
def f43 : F := ⟨10, 2,
 (.seq
  (.reg false [
   ⟨(some 4), .mov (.k (.bool false)), none, 0, false⟩])
  (.seq
   (.reg false [
    ⟨(some 5), .mov (.t 0), none, 0, false⟩,
    ⟨(some 6), .b2s (.t 5), none, 0, false⟩,
    ⟨(some 7), .mov (.t 1), none, 0, false⟩,
    ⟨(some 8), .b2s (.t 7), none, 0, false⟩,
    ⟨(some 9), .bin .eql [0] (.t 6) (.t 8), none, 0, false⟩,
    ⟨(some 4), .mov (.t 9), none, 0, false⟩])
   .ret)),
 [.tmp 4]⟩
theorem ir_43 : ir 43 = some f43 := by kernel_rfl
/-! cutroom/cutroomref07.Blank -/
def f44 : F := ⟨24, 2,
 (.seq
  (.reg false [
   ⟨(some 4), .alloc [.int .i64 0, .int .i64 0, .nils, .nils, .nils], none, 0, false⟩])
  (.seq
   (.reg true [
    ⟨(some 5), .mov (.t 0), none, 0, false⟩,
    ⟨(some 6), .mov (.t 1), none, 0, false⟩,
    ⟨(some 7), .mov (.t 0), none, 0, false⟩,
    ⟨(some 8), .mov (.t 1), none, 0, false⟩,
    ⟨(some 9), .bin .mul [0] (.t 7) (.t 8), none, 12, false⟩,
    ⟨(some 10), .mk 1 1 (some .u8) [.int .u8 0] (.t 9) (.t 9), none, 28, false⟩,
    ⟨(some 11), .mov (.t 0), none, 0, false⟩,
    ⟨(some 12), .bin .quo [0] (.t 11) (.k (.int .i64 2)), none, 64, false⟩,
    ⟨(some 13), .mov (.t 1), none, 0, false⟩,
    ⟨(some 14), .bin .quo [0] (.t 13) (.k (.int .i64 2)), none, 256, false⟩,
    ⟨(some 15), .bin .mul [0] (.t 12) (.t 14), none, 960, false⟩,
    ⟨(some 16), .mk 1 1 (some .u8) [.int .u8 0] (.t 15) (.t 15), none, 1984, false⟩,
    ⟨(some 17), .mov (.t 0), none, 0, false⟩,
    ⟨(some 18), .bin .quo [0] (.t 17) (.k (.int .i64 2)), none, 4096, false⟩,
    ⟨(some 19), .mov (.t 1), none, 0, false⟩,
    ⟨(some 20), .bin .quo [0] (.t 19) (.k (.int .i64 2)), none, 16384, false⟩,
    ⟨(some 21), .bin .mul [0] (.t 18) (.t 20), none, 61440, false⟩,
    ⟨(some 22), .mk 1 1 (some .u8) [.int .u8 0] (.t 21) (.t 21), none, 126976, false⟩,
    ⟨(some 23), .bld [.int .i64 0, .int .i64 0, .nils, .nils, .nils] [(0, 1, (.t 5)), (1, 1, (.t 6)), (2, 1, (.t 10)), (3, 1, (.t 16)), (4, 1, (.t 22))], none, 262143, true⟩,
    ⟨none, .store 5 (.t 4) (.t 23), none, 524287, true⟩])
   .ret)),
 [.cell 4 (some 5)]⟩
theorem ir_44 : ir 44 = some f44 := by kernel_rfl
/-! slices.Equal[[]byte,byte] -/
def f45 : F := ⟨26, 2,
 (.seq
  (.reg false [
   ⟨(some 4), .mov (.k (.bool false)), none, 0, false⟩])
  (.seq
   (.seq
    (.reg false [
     ⟨(some 6), .mov (.t 0), none, 0, false⟩,
     ⟨(some 7), .lenL (.t 6), none, 0, false⟩,
     ⟨(some 8), .mov (.t 1), none, 0, false⟩,
     ⟨(some 9), .lenL (.t 8), none, 0, false⟩,
     ⟨(some 10), .bin .neq [0] (.t 7) (.t 9), none, 0, false⟩])
    (.cond (.t 10)
     (.seq
      (.reg false [
       ⟨(some 4), .mov (.k (.bool false)), none, 0, false⟩])
      .ret)
     .skip))
   (.seq
    (.seq
     (.reg false [
      ⟨(some 11), .mov (.t 0), none, 0, false⟩,
      ⟨(some 12), .lenL (.t 11), none, 0, false⟩,
      ⟨(some 13), .mov (.k (.int .i64 0)), none, 0, false⟩])
     (.blk 0
      (.loop
       (.seq
        (.reg false [
         ⟨(some 14), .bin .lss [0] (.t 13) (.t 12), none, 0, false⟩])
        (.seq
         (.cond (.t 14)
          .skip
          (.exit 0))
         (.seq
          (.blk 1
           (.seq
            (.reg false [
             ⟨(some 15), .mov (.t 13), none, 0, false⟩,
             ⟨(some 5), .mov (.t 15), none, 0, false⟩])
            (.seq
             (.reg true [
              ⟨(some 16), .mov (.t 0), none, 0, false⟩,
              ⟨(some 17), .mov (.t 5), none, 0, false⟩,
              ⟨(some 18), .iadrL 1 (.t 16) (.t 17), none, 3, false⟩,
              ⟨(some 19), .load none (.t 18), none, 7, false⟩,
              ⟨(some 20), .mov (.t 1), none, 0, false⟩,
              ⟨(some 21), .mov (.t 5), none, 0, false⟩,
              ⟨(some 22), .iadrL 1 (.t 20) (.t 21), none, 48, false⟩,
              ⟨(some 23), .load none (.t 22), none, 112, false⟩,
              ⟨(some 24), .bin .neq [0] (.t 19) (.t 23), none, 255, true⟩])
             (.cond (.t 24)
              (.seq
               (.reg false [
                ⟨(some 4), .mov (.k (.bool false)), none, 0, false⟩])
               .ret)
              .skip))))
          (.reg false [
           ⟨(some 25), .bin .add [0] (.t 13) (.k (.int .i64 1)), none, 0, false⟩,
           ⟨(some 13), .mov (.t 25), none, 0, false⟩])))))))
    (.seq
     (.reg false [
      ⟨(some 4), .mov (.k (.bool true)), none, 0, false⟩])
     .ret)))),
 [.tmp 4]⟩
theorem ir_45 : ir 45 = some f45 := by kernel_rfl
/-! cutroom/plane.apart -/
def f46 : F := ⟨35, 2,
 (.seq
  (.reg false [
   ⟨(some 4), .mov (.k (.int .i64 0)), none, 0, false⟩])
  (.seq
   (.reg false [
    ⟨(some 5), .mov (.k (.int .i64 0)), none, 0, false⟩])
   (.seq
    (.seq
     (.reg false [
      ⟨(some 8), .mov (.t 0), none, 0, false⟩,
      ⟨(some 9), .lenL (.t 8), none, 0, false⟩,
      ⟨(some 10), .mov (.k (.int .i64 0)), none, 0, false⟩])
     (.blk 0
      (.loop
       (.seq
        (.reg false [
         ⟨(some 11), .bin .lss [0] (.t 10) (.t 9), none, 0, false⟩])
        (.seq
         (.cond (.t 11)
          .skip
          (.exit 0))
         (.seq
          (.blk 1
           (.seq
            (.reg false [
             ⟨(some 12), .mov (.t 10), none, 0, false⟩,
             ⟨(some 13), .iadrL 1 (.t 8) (.t 10), none, 0, false⟩,
             ⟨(some 14), .load none (.t 13), none, 0, false⟩,
             ⟨(some 6), .mov (.t 12), none, 0, false⟩,
             ⟨(some 7), .mov (.t 14), none, 0, false⟩])
            (.reg true [
             ⟨(some 15), .mov (.t 5), none, 0, false⟩,
             ⟨(some 16), .mov (.t 7), none, 0, false⟩,
             ⟨(some 17), .toInt .i64 (.t 16), none, 2, false⟩,
             ⟨(some 18), .mov (.t 1), none, 0, false⟩,
             ⟨(some 19), .mov (.t 6), none, 0, false⟩,
             ⟨(some 20), .iadrL 1 (.t 18) (.t 19), none, 24, false⟩,
             ⟨(some 21), .load none (.t 20), none, 56, false⟩,
             ⟨(some 22), .toInt .i64 (.t 21), none, 120, false⟩,
             ⟨(some 23), .bin .sub [0] (.t 17) (.t 22), none, 254, false⟩,
             ⟨(some 24), .mov (.t 1), none, 0, false⟩,
             ⟨(some 25), .mov (.t 6), none, 0, false⟩,
             ⟨(some 26), .iadrL 1 (.t 24) (.t 25), none, 1536, false⟩,
             ⟨(some 27), .load none (.t 26), none, 3584, false⟩,
             ⟨(some 28), .toInt .i64 (.t 27), none, 7680, false⟩,
             ⟨(some 29), .mov (.t 7), none, 0, false⟩,
             ⟨(some 30), .toInt .i64 (.t 29), none, 16384, false⟩,
             ⟨(some 31), .bin .sub [0] (.t 28) (.t 30), none, 65024, false⟩,
             ⟨(some 32), .mm true [(.t 15), (.t 23), (.t 31)], none, 131071, true⟩,
             ⟨(some 5), .mov (.t 32), none, 262143, true⟩])))
          (.reg false [
           ⟨(some 33), .bin .add [0] (.t 10) (.k (.int .i64 1)), none, 0, false⟩,
           ⟨(some 10), .mov (.t 33), none, 0, false⟩])))))))
    (.seq
     (.reg false [
      ⟨(some 34), .mov (.t 5), none, 0, false⟩,
      ⟨(some 4), .mov (.t 34), none, 0, false⟩])
     .ret)))),
 [.tmp 4]⟩
theorem ir_46 : ir 46 = some f46 := by kernel_rfl
/-! cutroom/cutroomref07.apart -/
def f47 : F := ⟨38, 2,
 (.seq
  (.reg false [
   ⟨(some 4), .mov (.k (.int .i64 0)), none, 0, false⟩])
  (.seq
   (.reg false [
    ⟨(some 5), .mov (.k (.int .i64 0)), none, 0, false⟩])
   (.seq
    (.seq
     (.reg false [
      ⟨(some 6), .mov (.k (.int .i64 0)), none, 0, false⟩])
     (.blk 0
      (.loop
       (.seq
        (.seq
         (.reg false [
          ⟨(some 7), .mov (.t 6), none, 0, false⟩,
          ⟨(some 8), .mov (.t 0), none, 0, false⟩,
          ⟨(some 9), .lenL (.t 8), none, 0, false⟩,
          ⟨(some 10), .bin .lss [0] (.t 7) (.t 9), none, 0, false⟩])
         (.cond (.t 10)
          .skip
          (.exit 0)))
        (.seq
         (.blk 1
          (.reg true [
           ⟨(some 13), .mov (.t 5), none, 0, false⟩,
           ⟨(some 14), .mov (.t 0), none, 0, false⟩,
           ⟨(some 15), .mov (.t 6), none, 0, false⟩,
           ⟨(some 16), .iadrL 1 (.t 14) (.t 15), none, 6, false⟩,
           ⟨(some 17), .load none (.t 16), none, 14, false⟩,
           ⟨(some 18), .toInt .i64 (.t 17), none, 30, false⟩,
           ⟨(some 19), .mov (.t 1), none, 0, false⟩,
           ⟨(some 20), .mov (.t 6), none, 0, false⟩,
           ⟨(some 21), .iadrL 1 (.t 19) (.t 20), none, 192, false⟩,
           ⟨(some 22), .load none (.t 21), none, 448, false⟩,
           ⟨(some 23), .toInt .i64 (.t 22), none, 960, false⟩,
           ⟨(some 24), .bin .sub [0] (.t 18) (.t 23), none, 2046, false⟩,
           ⟨(some 25), .mov (.t 1), none, 0, false⟩,
           ⟨(some 26), .mov (.t 6), none, 0, false⟩,
           ⟨(some 27), .iadrL 1 (.t 25) (.t 26), none, 12288, false⟩,
           ⟨(some 28), .load none (.t 27), none, 28672, false⟩,
           ⟨(some 29), .toInt .i64 (.t 28), none, 61440, false⟩,
           ⟨(some 30), .mov (.t 0), none, 0, false⟩,
           ⟨(some 31), .mov (.t 6), none, 0, false⟩,
           ⟨(some 32), .iadrL 1 (.t 30) (.t 31), none, 393216, false⟩,
           ⟨(some 33), .load none (.t 32), none, 917504, false⟩,
           ⟨(some 34), .toInt .i64 (.t 33), none, 1966080, false⟩,
           ⟨(some 35), .bin .sub [0] (.t 29) (.t 34), none, 4190208, false⟩,
           ⟨(some 36), .mm true [(.t 13), (.t 24), (.t 35)], none, 8388607, true⟩,
           ⟨(some 5), .mov (.t 36), none, 16777215, true⟩]))
         (.reg false [
          ⟨(some 11), .mov (.t 6), none, 0, false⟩,
          ⟨(some 12), .bin .add [0] (.t 11) (.k (.int .i64 1)), none, 0, false⟩,
          ⟨(some 6), .mov (.t 12), none, 0, false⟩]))))))
    (.seq
     (.reg false [
      ⟨(some 37), .mov (.t 5), none, 0, false⟩,
      ⟨(some 4), .mov (.t 37), none, 0, false⟩])
     .ret)))),
 [.tmp 4]⟩
theorem ir_47 : ir 47 = some f47 := by kernel_rfl
/-! cutroom/plane.lines[[]byte,byte] -/
def f48 : F := ⟨45, 8,
 (.seq
  (.reg false [
   ⟨(some 17), .mov (.t 7), none, 0, false⟩,
   ⟨(some 18), .mov (.k (.int .i64 0)), none, 0, false⟩])
  (.blk 0
   (.loop
    (.seq
     (.reg false [
      ⟨(some 19), .bin .lss [0] (.t 18) (.t 17), none, 0, false⟩])
     (.seq
      (.cond (.t 19)
       .skip
       (.exit 0))
      (.seq
       (.blk 1
        (.seq
         (.reg false [
          ⟨(some 20), .mov (.t 18), none, 0, false⟩,
          ⟨(some 16), .mov (.t 20), none, 0, false⟩])
         (.reg true [
          ⟨(some 21), .mov (.t 0), none, 0, false⟩,
          ⟨(some 22), .mov (.t 16), none, 0, false⟩,
          ⟨(some 23), .mov (.t 1), none, 0, false⟩,
          ⟨(some 24), .bin .mul [0] (.t 22) (.t 23), none, 6, false⟩,
          ⟨(some 25), .mov (.t 2), none, 0, false⟩,
          ⟨(some 26), .bin .add [0] (.t 24) (.t 25), none, 30, false⟩,
          ⟨(some 27), .mov (.t 6), none, 0, false⟩,
          ⟨(some 28), .bin .mul [0] (.t 26) (.t 27), none, 126, false⟩,
          ⟨(some 29), .subL 1 (.t 21) (some (.t 28)) none none, none, 255, false⟩,
          ⟨(some 30), .mov (.t 6), none, 0, false⟩,
          ⟨(some 31), .subL 1 (.t 29) none (some (.t 30)) none, none, 1023, false⟩,
          ⟨(some 32), .mov (.t 3), none, 0, false⟩,
          ⟨(some 33), .mov (.t 16), none, 0, false⟩,
          ⟨(some 34), .mov (.t 4), none, 0, false⟩,
          ⟨(some 35), .bin .mul [0] (.t 33) (.t 34), none, 12288, false⟩,
          ⟨(some 36), .mov (.t 5), none, 0, false⟩,
          ⟨(some 37), .bin .add [0] (.t 35) (.t 36), none, 61440, false⟩,
          ⟨(some 38), .mov (.t 6), none, 0, false⟩,
          ⟨(some 39), .bin .mul [0] (.t 37) (.t 38), none, 258048, false⟩,
          ⟨(some 40), .subL 1 (.t 32) (some (.t 39)) none none, none, 522240, false⟩,
          ⟨(some 41), .mov (.t 6), none, 0, false⟩,
          ⟨(some 42), .subL 1 (.t 40) none (some (.t 41)) none, none, 2095104, false⟩,
          ⟨(some 43), .copy 1 (.t 31) (.t 42), none, 4194303, true⟩])))
       (.reg false [
        ⟨(some 44), .bin .add [0] (.t 18) (.k (.int .i64 1)), none, 0, false⟩,
        ⟨(some 18), .mov (.t 44), none, 0, false⟩]))))))),
 []⟩
theorem ir_48 : ir 48 = some f48 := by kernel_rfl
/-! cutroom/cutroomref07.lines -/
def f49 : F := ⟨29, 3,
 (.seq
  (.reg false [
   ⟨(some 6), .mov (.k (.nils)), none, 0, false⟩])
  (.seq
   (.reg false [
    ⟨(some 7), .mov (.k (.nils)), none, 0, false⟩])
   (.seq
    (.seq
     (.reg false [
      ⟨(some 9), .mov (.t 2), none, 0, false⟩,
      ⟨(some 10), .mov (.t 1), none, 0, false⟩,
      ⟨(some 11), .bin .mul [0] (.t 9) (.t 10), none, 0, false⟩,
      ⟨(some 8), .mov (.t 11), none, 0, false⟩])
     (.blk 0
      (.loop
       (.seq
        (.seq
         (.reg false [
          ⟨(some 12), .mov (.t 8), none, 0, false⟩,
          ⟨(some 13), .mov (.t 0), none, 0, false⟩,
          ⟨(some 14), .lenL (.t 13), none, 0, false⟩,
          ⟨(some 15), .bin .lss [0] (.t 12) (.t 14), none, 0, false⟩])
         (.cond (.t 15)
          .skip
          (.exit 0)))
        (.seq
         (.blk 1
          (.reg false [
           ⟨(some 20), .mov (.t 7), none, 0, false⟩,
           ⟨(some 21), .mov (.t 0), none, 0, false⟩,
           ⟨(some 22), .mov (.t 8), none, 0, false⟩,
           ⟨(some 23), .mov (.t 8), none, 0, false⟩,
           ⟨(some 24), .mov (.t 1), none, 0, false⟩,
           ⟨(some 25), .bin .add [0] (.t 23) (.t 24), none, 0, false⟩,
           ⟨(some 26), .subL 1 (.t 21) (some (.t 22)) (some (.t 25)) none, none, 0, false⟩,
           ⟨(some 27), .app 1 1 (some .u8) (.t 20) (.t 26), none, 0, false⟩,
           ⟨(some 7), .mov (.t 27), none, 0, false⟩]))
         (.reg false [
          ⟨(some 16), .mov (.t 8), none, 0, false⟩,
          ⟨(some 17), .mov (.t 1), none, 0, false⟩,
          ⟨(some 18), .bin .mul [0] (.k (.int .i64 2)) (.t 17), none, 0, false⟩,
          ⟨(some 19), .bin .add [0] (.t 16) (.t 18), none, 0, false⟩,
          ⟨(some 8), .mov (.t 19), none, 0, false⟩]))))))
    (.seq
     (.reg false [
      ⟨(some 28), .mov (.t 7), none, 0, false⟩,
      ⟨(some 6), .mov (.t 28), none, 0, false⟩])
     .ret)))),
 [.tmp 6]⟩
theorem ir_49 : ir 49 = some f49 := by kernel_rfl
/-! cutroom/cutroomref07.woven -/
def f50 : F := ⟨32, 3,
 (.seq
  (.reg false [
   ⟨(some 6), .mov (.k (.nils)), none, 0, false⟩])
  (.seq
   (.reg false [
    ⟨(some 7), .mov (.k (.nils)), none, 0, false⟩])
   (.seq
    (.seq
     (.reg false [
      ⟨(some 8), .mov (.k (.int .i64 0)), none, 0, false⟩])
     (.blk 0
      (.loop
       (.seq
        (.seq
         (.reg false [
          ⟨(some 9), .mov (.t 8), none, 0, false⟩,
          ⟨(some 10), .mov (.t 0), none, 0, false⟩,
          ⟨(some 11), .lenL (.t 10), none, 0, false⟩,
          ⟨(some 12), .bin .lss [0] (.t 9) (.t 11), none, 0, false⟩])
         (.cond (.t 12)
          .skip
          (.exit 0)))
        (.seq
         (.blk 1
          (.reg true [
           ⟨(some 16), .mov (.t 7), none, 0, false⟩,
           ⟨(some 17), .mov (.t 0), none, 0, false⟩,
           ⟨(some 18), .mov (.t 8), none, 0, false⟩,
           ⟨(some 19), .mov (.t 8), none, 0, false⟩,
           ⟨(some 20), .mov (.t 2), none, 0, false⟩,
           ⟨(some 21), .bin .add [0] (.t 19) (.t 20), none, 24, false⟩,
           ⟨(some 22), .subL 1 (.t 17) (some (.t 18)) (some (.t 21)) none, none, 62, false⟩,
           ⟨(some 23), .app 1 1 (some .u8) (.t 16) (.t 22), none, 127, false⟩,
           ⟨(some 24), .mov (.t 1), none, 0, false⟩,
           ⟨(some 25), .mov (.t 8), none, 0, false⟩,
           ⟨(some 26), .mov (.t 8), none, 0, false⟩,
           ⟨(some 27), .mov (.t 2), none, 0, false⟩,
           ⟨(some 28), .bin .add [0] (.t 26) (.t 27), none, 3072, false⟩,
           ⟨(some 29), .subL 1 (.t 24) (some (.t 25)) (some (.t 28)) none, none, 7936, false⟩,
           ⟨(some 30), .app 1 1 (some .u8) (.t 23) (.t 29), none, 16383, true⟩,
           ⟨(some 7), .mov (.t 30), none, 32767, true⟩]))
         (.reg false [
          ⟨(some 13), .mov (.t 8), none, 0, false⟩,
          ⟨(some 14), .mov (.t 2), none, 0, false⟩,
          ⟨(some 15), .bin .add [0] (.t 13) (.t 14), none, 0, false⟩,
          ⟨(some 8), .mov (.t 15), none, 0, false⟩]))))))
    (.seq
     (.reg false [
      ⟨(some 31), .mov (.t 7), none, 0, false⟩,
      ⟨(some 6), .mov (.t 31), none, 0, false⟩])
     .ret)))),
 [.tmp 6]⟩
theorem ir_50 : ir 50 = some f50 := by kernel_rfl
/-! cutroom/plane.within -/
def f51 : F := ⟨31, 3,
 (.seq
  (.reg false [
   ⟨(some 3), .box (.t 0), none, 0, false⟩,
   ⟨(some 6), .mov (.k (.bool false)), none, 0, false⟩])
  (.seq
   (.reg false [
    ⟨(some 7), .load (some 5) (.t 3), none, 0, false⟩,
    ⟨(some 8), .call 17 [(.t 7)], none, 0, false⟩,
    ⟨(some 9), .mov (.t 8), none, 0, false⟩,
    ⟨(some 10), .mov (.t 1), some (9, true), 0, false⟩,
    ⟨(some 11), .bin .geq [0] (.t 10) (.k (.int .i64 0)), some (9, true), 0, false⟩,
    ⟨(some 12), .pick (.t 9) (.t 11) (.k (.bool false)), none, 0, false⟩,
    ⟨(some 13), .mov (.t 12), none, 0, false⟩,
    ⟨(some 14), .mov (.t 1), some (13, true), 0, false⟩,
    ⟨(some 15), .fadr 0 (.t 3), some (13, true), 0, false⟩,
    ⟨(some 16), .load none (.t 15), some (13, true), 0, false⟩,
    ⟨(some 17), .bin .quo [0] (.t 16) (.k (.int .i64 16)), some (13, true), 0, false⟩,
    ⟨(some 18), .bin .lss [0] (.t 14) (.t 17), some (13, true), 0, false⟩,
    ⟨(some 19), .pick (.t 13) (.t 18) (.k (.bool false)), none, 0, false⟩,
    ⟨(some 20), .mov (.t 19), none, 0, false⟩,
    ⟨(some 21), .mov (.t 2), some (20, true), 0, false⟩,
    ⟨(some 22), .bin .geq [0] (.t 21) (.k (.int .i64 0)), some (20, true), 0, false⟩,
    ⟨(some 23), .pick (.t 20) (.t 22) (.k (.bool false)), none, 0, false⟩,
    ⟨(some 24), .mov (.t 23), none, 0, false⟩,
    ⟨(some 25), .mov (.t 2), some (24, true), 0, false⟩,
    ⟨(some 26), .fadr 1 (.t 3), some (24, true), 0, false⟩,
    ⟨(some 27), .load none (.t 26), some (24, true), 0, false⟩,
    ⟨(some 28), .bin .quo [0] (.t 27) (.k (.int .i64 16)), some (24, true), 0, false⟩,
    ⟨(some 29), .bin .lss [0] (.t 25) (.t 28), some (24, true), 0, false⟩,
    ⟨(some 30), .pick (.t 24) (.t 29) (.k (.bool false)), none, 0, false⟩,
    ⟨(some 6), .mov (.t 30), none, 0, false⟩])
   .ret)),
 [.tmp 6]⟩
theorem ir_51 : ir 51 = some f51 := by kernel_rfl
/-! cutroom/plane.where -/
def f52 : F := ⟨78, 5,
 (.seq
  (.reg false [
   ⟨(some 5), .box (.t 0), none, 0, false⟩,
   ⟨(some 10), .mov (.k (.nils)), none, 0, false⟩,
   ⟨(some 11), .mov (.k (.int .i64 0)), none, 0, false⟩,
   ⟨(some 12), .mov (.k (.int .i64 0)), none, 0, false⟩])
  (.seq
   (.reg false [
    ⟨(some 15), .mov (.t 2), none, 0, false⟩,
    ⟨(some 16), .bin .mul [0] (.t 15) (.k (.int .i64 8)), none, 0, false⟩,
    ⟨(some 17), .fadr 0 (.t 5), none, 0, false⟩,
    ⟨(some 18), .load none (.t 17), none, 0, false⟩,
    ⟨(some 19), .bin .quo [0] (.t 18) (.k (.int .i64 2)), none, 0, false⟩,
    ⟨(some 20), .bin .mul [0] (.t 16) (.t 19), none, 0, false⟩,
    ⟨(some 21), .mov (.t 1), none, 0, false⟩,
    ⟨(some 22), .bin .mul [0] (.t 21) (.k (.int .i64 8)), none, 0, false⟩,
    ⟨(some 23), .bin .add [0] (.t 20) (.t 22), none, 0, false⟩,
    ⟨(some 13), .mov (.t 23), none, 0, false⟩])
   (.seq
    (.seq
     (.reg false [
      ⟨(some 24), .mov (.t 3), none, 0, false⟩])
     (.blk 0
      (.seq
       (.reg false [
        ⟨(some 26), .bin .eql [0] (.t 24) (.k (.int .i64 4)), none, 0, false⟩,
        ⟨(some 25), .mov (.t 26), none, 0, false⟩])
       (.cond (.t 25)
        (.seq
         (.reg true [
          ⟨(some 27), .fadr 3 (.t 5), none, 0, false⟩,
          ⟨(some 28), .load none (.t 27), none, 1, false⟩,
          ⟨(some 29), .mov (.t 13), none, 0, false⟩,
          ⟨(some 30), .fadr 0 (.t 5), none, 0, false⟩,
          ⟨(some 31), .load none (.t 30), none, 8, false⟩,
          ⟨(some 32), .bin .quo [0] (.t 31) (.k (.int .i64 2)), none, 24, false⟩,
          ⟨(some 10), .mov (.t 28), none, 3, false⟩,
          ⟨(some 11), .mov (.t 29), none, 71, false⟩,
          ⟨(some 12), .mov (.t 32), none, 255, true⟩])
         .ret)
        (.seq
         (.reg false [
          ⟨(some 34), .bin .eql [0] (.t 24) (.k (.int .i64 5)), none, 0, false⟩,
          ⟨(some 33), .mov (.t 34), none, 0, false⟩])
         (.cond (.t 33)
          (.seq
           (.reg true [
            ⟨(some 35), .fadr 4 (.t 5), none, 0, false⟩,
            ⟨(some 36), .load none (.t 35), none, 1, false⟩,
            ⟨(some 37), .mov (.t 13), none, 0, false⟩,
            ⟨(some 38), .fadr 0 (.t 5), none, 0, false⟩,
            ⟨(some 39), .load none (.t 38), none, 8, false⟩,
            ⟨(some 40), .bin .quo [0] (.t 39) (.k (.int .i64 2)), none, 24, false⟩,
            ⟨(some 10), .mov (.t 36), none, 3, false⟩,
            ⟨(some 11), .mov (.t 37), none, 71, false⟩,
            ⟨(some 12), .mov (.t 40), none, 255, true⟩])
           .ret)
          .skip))))))
    (.seq
     (.reg false [
      ⟨(some 41), .mov (.t 2), none, 0, false⟩,
      ⟨(some 42), .bin .mul [0] (.t 41) (.k (.int .i64 16)), none, 0, false⟩,
      ⟨(some 43), .fadr 0 (.t 5), none, 0, false⟩,
      ⟨(some 44), .load none (.t 43), none, 0, false⟩,
      ⟨(some 45), .bin .mul [0] (.t 42) (.t 44), none, 0, false⟩,
      ⟨(some 46), .mov (.t 1), none, 0, false⟩,
      ⟨(some 47), .bin .mul [0] (.t 46) (.k (.int .i64 16)), none, 0, false⟩,
      ⟨(some 48), .bin .add [0] (.t 45) (.t 47), none, 0, false⟩,
      ⟨(some 49), .mov (.t 3), none, 0, false⟩,
      ⟨(some 50), .bin .rem [0] (.t 49) (.k (.int .i64 2)), none, 0, false⟩,
      ⟨(some 51), .bin .mul [0] (.t 50) (.k (.int .i64 8)), none, 0, false⟩,
      ⟨(some 52), .bin .add [0] (.t 48) (.t 51), none, 0, false⟩,
      ⟨(some 14), .mov (.t 52), none, 0, false⟩])
     (.seq
      (.seq
       (.reg false [
        ⟨(some 53), .mov (.t 4), none, 0, false⟩])
       (.cond (.t 53)
        (.seq
         (.reg true [
          ⟨(some 54), .fadr 2 (.t 5), none, 0, false⟩,
          ⟨(some 55), .load none (.t 54), none, 1, false⟩,
          ⟨(some 56), .mov (.t 14), none, 0, false⟩,
          ⟨(some 57), .mov (.t 3), none, 0, false⟩,
          ⟨(some 58), .bin .quo [0] (.t 57) (.k (.int .i64 2)), none, 8, false⟩,
          ⟨(some 59), .fadr 0 (.t 5), none, 0, false⟩,
          ⟨(some 60), .load none (.t 59), none, 32, false⟩,
          ⟨(some 61), .bin .mul [0] (.t 58) (.t 60), none, 120, false⟩,
          ⟨(some 62), .bin .add [0] (.t 56) (.t 61), none, 252, false⟩,
          ⟨(some 63), .fadr 0 (.t 5), none, 0, false⟩,
          ⟨(some 64), .load none (.t 63), none, 512, false⟩,
          ⟨(some 65), .bin .mul [0] (.k (.int .i64 2)) (.t 64), none, 1536, false⟩,
          ⟨(some 10), .mov (.t 55), none, 3, false⟩,
          ⟨(some 11), .mov (.t 62), none, 4607, false⟩,
          ⟨(some 12), .mov (.t 65), none, 16383, true⟩])
         .ret)
        .skip))
      (.seq
       (.reg true [
        ⟨(some 66), .fadr 2 (.t 5), none, 0, false⟩,
        ⟨(some 67), .load none (.t 66), none, 1, false⟩,
        ⟨(some 68), .mov (.t 14), none, 0, false⟩,
        ⟨(some 69), .mov (.t 3), none, 0, false⟩,
        ⟨(some 70), .bin .quo [0] (.t 69) (.k (.int .i64 2)), none, 8, false⟩,
        ⟨(some 71), .bin .mul [0] (.t 70) (.k (.int .i64 8)), none, 24, false⟩,
        ⟨(some 72), .fadr 0 (.t 5), none, 0, false⟩,
        ⟨(some 73), .load none (.t 72), none, 64, false⟩,
        ⟨(some 74), .bin .mul [0] (.t 71) (.t 73), none, 248, false⟩,
        ⟨(some 75), .bin .add [0] (.t 68) (.t 74), none, 508, false⟩,
        ⟨(some 76), .fadr 0 (.t 5), none, 0, false⟩,
        ⟨(some 77), .load none (.t 76), none, 1024, false⟩,
        ⟨(some 10), .mov (.t 67), none, 3, false⟩,
        ⟨(some 11), .mov (.t 75), none, 5119, false⟩,
        ⟨(some 12), .mov (.t 77), none, 16383, true⟩])
       .ret)))))),
 [.tmp 10, .tmp 11, .tmp 12]⟩
theorem ir_52 : ir 52 = some f52 := by kernel_rfl
/-! cutroom/cutroomref07.Has -/
def f53 : F := ⟨31, 3,
 (.seq
  (.reg false [
   ⟨(some 3), .box (.t 0), none, 0, false⟩,
   ⟨(some 6), .mov (.k (.bool false)), none, 0, false⟩])
  (.seq
   (.reg false [
    ⟨(some 7), .load (some 5) (.t 3), none, 0, false⟩,
    ⟨(some 8), .call 18 [(.t 7)], none, 0, false⟩,
    ⟨(some 9), .mov (.t 8), none, 0, false⟩,
    ⟨(some 10), .mov (.t 1), some (9, true), 0, false⟩,
    ⟨(some 11), .bin .geq [0] (.t 10) (.k (.int .i64 0)), some (9, true), 0, false⟩,
    ⟨(some 12), .pick (.t 9) (.t 11) (.k (.bool false)), none, 0, false⟩,
    ⟨(some 13), .mov (.t 12), none, 0, false⟩,
    ⟨(some 14), .mov (.t 1), some (13, true), 0, false⟩,
    ⟨(some 15), .fadr 0 (.t 3), some (13, true), 0, false⟩,
    ⟨(some 16), .load none (.t 15), some (13, true), 0, false⟩,
    ⟨(some 17), .bin .quo [0] (.t 16) (.k (.int .i64 16)), some (13, true), 0, false⟩,
    ⟨(some 18), .bin .lss [0] (.t 14) (.t 17), some (13, true), 0, false⟩,
    ⟨(some 19), .pick (.t 13) (.t 18) (.k (.bool false)), none, 0, false⟩,
    ⟨(some 20), .mov (.t 19), none, 0, false⟩,
    ⟨(some 21), .mov (.t 2), some (20, true), 0, false⟩,
    ⟨(some 22), .bin .geq [0] (.t 21) (.k (.int .i64 0)), some (20, true), 0, false⟩,
    ⟨(some 23), .pick (.t 20) (.t 22) (.k (.bool false)), none, 0, false⟩,
    ⟨(some 24), .mov (.t 23), none, 0, false⟩,
    ⟨(some 25), .mov (.t 2), some (24, true), 0, false⟩,
    ⟨(some 26), .fadr 1 (.t 3), some (24, true), 0, false⟩,
    ⟨(some 27), .load none (.t 26), some (24, true), 0, false⟩,
    ⟨(some 28), .bin .quo [0] (.t 27) (.k (.int .i64 16)), some (24, true), 0, false⟩,
    ⟨(some 29), .bin .lss [0] (.t 25) (.t 28), some (24, true), 0, false⟩,
    ⟨(some 30), .pick (.t 24) (.t 29) (.k (.bool false)), none, 0, false⟩,
    ⟨(some 6), .mov (.t 30), none, 0, false⟩])
   .ret)),
 [.tmp 6]⟩
theorem ir_53 : ir 53 = some f53 := by kernel_rfl
/-! cutroom/cutroomref07.Plane -/
def f54 : F := ⟨16, 2,
 (.seq
  (.reg false [
   ⟨(some 2), .box (.t 0), none, 0, false⟩,
   ⟨(some 4), .mov (.k (.nils)), none, 0, false⟩])
  (.seq
   (.seq
    (.reg false [
     ⟨(some 5), .mov (.t 1), none, 0, false⟩])
    (.blk 0
     (.seq
      (.reg false [
       ⟨(some 7), .bin .eql [0] (.t 5) (.k (.int .i64 4)), none, 0, false⟩,
       ⟨(some 6), .mov (.t 7), none, 0, false⟩])
      (.cond (.t 6)
       (.seq
        (.reg false [
         ⟨(some 8), .fadr 3 (.t 2), none, 0, false⟩,
         ⟨(some 9), .load none (.t 8), none, 0, false⟩,
         ⟨(some 4), .mov (.t 9), none, 0, false⟩])
        .ret)
       (.seq
        (.reg false [
         ⟨(some 11), .bin .eql [0] (.t 5) (.k (.int .i64 5)), none, 0, false⟩,
         ⟨(some 10), .mov (.t 11), none, 0, false⟩])
        (.cond (.t 10)
         (.seq
          (.reg false [
           ⟨(some 12), .fadr 4 (.t 2), none, 0, false⟩,
           ⟨(some 13), .load none (.t 12), none, 0, false⟩,
           ⟨(some 4), .mov (.t 13), none, 0, false⟩])
          .ret)
         .skip))))))
   (.seq
    (.reg false [
     ⟨(some 14), .fadr 2 (.t 2), none, 0, false⟩,
     ⟨(some 15), .load none (.t 14), none, 0, false⟩,
     ⟨(some 4), .mov (.t 15), none, 0, false⟩])
    .ret))),
 [.tmp 4]⟩
theorem ir_54 : ir 54 = some f54 := by kernel_rfl
/-! cutroom/cutroomref07.Place -/
def f55 : F := ⟨59, 6,
 (.seq
  (.reg false [
   ⟨(some 12), .mov (.k (.int .i64 0)), none, 0, false⟩])
  (.seq
   (.seq
    (.reg false [
     ⟨(some 14), .mov (.t 3), none, 0, false⟩,
     ⟨(some 15), .bin .geq [0] (.t 14) (.k (.int .i64 4)), none, 0, false⟩])
    (.cond (.t 15)
     (.seq
      (.reg false [
       ⟨(some 16), .mov (.t 2), none, 0, false⟩,
       ⟨(some 17), .bin .mul [0] (.k (.int .i64 8)) (.t 16), none, 0, false⟩,
       ⟨(some 18), .mov (.t 5), none, 0, false⟩,
       ⟨(some 19), .bin .quo [0] (.t 18) (.k (.int .i64 8)), none, 0, false⟩,
       ⟨(some 20), .bin .add [0] (.t 17) (.t 19), none, 0, false⟩,
       ⟨(some 21), .mov (.t 0), none, 0, false⟩,
       ⟨(some 22), .bin .quo [0] (.t 21) (.k (.int .i64 2)), none, 0, false⟩,
       ⟨(some 23), .bin .mul [0] (.t 20) (.t 22), none, 0, false⟩,
       ⟨(some 24), .mov (.t 1), none, 0, false⟩,
       ⟨(some 25), .bin .mul [0] (.k (.int .i64 8)) (.t 24), none, 0, false⟩,
       ⟨(some 26), .bin .add [0] (.t 23) (.t 25), none, 0, false⟩,
       ⟨(some 27), .mov (.t 5), none, 0, false⟩,
       ⟨(some 28), .bin .rem [0] (.t 27) (.k (.int .i64 8)), none, 0, false⟩,
       ⟨(some 29), .bin .add [0] (.t 26) (.t 28), none, 0, false⟩,
       ⟨(some 12), .mov (.t 29), none, 0, false⟩])
      .ret)
     .skip))
   (.seq
    (.reg false [
     ⟨(some 30), .mov (.t 3), none, 0, false⟩,
     ⟨(some 31), .bin .quo [0] (.t 30) (.k (.int .i64 2)), none, 0, false⟩,
     ⟨(some 32), .bin .mul [0] (.k (.int .i64 8)) (.t 31), none, 0, false⟩,
     ⟨(some 33), .mov (.t 5), none, 0, false⟩,
     ⟨(some 34), .bin .quo [0] (.t 33) (.k (.int .i64 8)), none, 0, false⟩,
     ⟨(some 35), .bin .add [0] (.t 32) (.t 34), none, 0, false⟩,
     ⟨(some 13), .mov (.t 35), none, 0, false⟩])
    (.seq
     (.seq
      (.reg false [
       ⟨(some 36), .mov (.t 4), none, 0, false⟩])
      (.cond (.t 36)
       (.reg false [
        ⟨(some 37), .mov (.t 5), none, 0, false⟩,
        ⟨(some 38), .bin .quo [0] (.t 37) (.k (.int .i64 8)), none, 0, false⟩,
        ⟨(some 39), .bin .mul [0] (.k (.int .i64 2)) (.t 38), none, 0, false⟩,
        ⟨(some 40), .mov (.t 3), none, 0, false⟩,
        ⟨(some 41), .bin .quo [0] (.t 40) (.k (.int .i64 2)), none, 0, false⟩,
        ⟨(some 42), .bin .add [0] (.t 39) (.t 41), none, 0, false⟩,
        ⟨(some 13), .mov (.t 42), none, 0, false⟩])
       .skip))
     (.seq
      (.reg false [
       ⟨(some 43), .mov (.t 2), none, 0, false⟩,
       ⟨(some 44), .bin .mul [0] (.k (.int .i64 16)) (.t 43), none, 0, false⟩,
       ⟨(some 45), .mov (.t 13), none, 0, false⟩,
       ⟨(some 46), .bin .add [0] (.t 44) (.t 45), none, 0, false⟩,
       ⟨(some 47), .mov (.t 0), none, 0, false⟩,
       ⟨(some 48), .bin .mul [0] (.t 46) (.t 47), none, 0, false⟩,
       ⟨(some 49), .mov (.t 1), none, 0, false⟩,
       ⟨(some 50), .bin .mul [0] (.k (.int .i64 16)) (.t 49), none, 0, false⟩,
       ⟨(some 51), .bin .add [0] (.t 48) (.t 50), none, 0, false⟩,
       ⟨(some 52), .mov (.t 3), none, 0, false⟩,
       ⟨(some 53), .bin .rem [0] (.t 52) (.k (.int .i64 2)), none, 0, false⟩,
       ⟨(some 54), .bin .mul [0] (.k (.int .i64 8)) (.t 53), none, 0, false⟩,
       ⟨(some 55), .bin .add [0] (.t 51) (.t 54), none, 0, false⟩,
       ⟨(some 56), .mov (.t 5), none, 0, false⟩,
       ⟨(some 57), .bin .rem [0] (.t 56) (.k (.int .i64 8)), none, 0, false⟩,
       ⟨(some 58), .bin .add [0] (.t 55) (.t 57), none, 0, false⟩,
       ⟨(some 12), .mov (.t 58), none, 0, false⟩])
      .ret))))),
 [.tmp 12]⟩
theorem ir_55 : ir 55 = some f55 := by kernel_rfl
/-! cutroom/plane.clone -/
def f56 : F := ⟨25, 1,
 (.seq
  (.reg false [
   ⟨(some 1), .box (.t 0), none, 0, false⟩,
   ⟨(some 2), .alloc [.int .i64 0, .int .i64 0, .nils, .nils, .nils], none, 0, false⟩])
  (.seq
   (.reg false [
    ⟨(some 4), .fadr 0 (.t 1), none, 0, false⟩,
    ⟨(some 5), .load none (.t 4), none, 0, false⟩,
    ⟨(some 6), .fadr 1 (.t 1), none, 0, false⟩,
    ⟨(some 7), .load none (.t 6), none, 0, false⟩,
    ⟨(some 8), .call 41 [(.t 5), (.t 7)], none, 0, false⟩,
    ⟨(some 3), .alloc [.int .i64 0, .int .i64 0, .nils, .nils, .nils], none, 0, false⟩,
    ⟨none, .store 5 (.t 3) (.t 8), none, 0, false⟩])
   (.seq
    (.reg false [
     ⟨(some 9), .fadr 2 (.t 3), none, 0, false⟩,
     ⟨(some 10), .load none (.t 9), none, 0, false⟩,
     ⟨(some 11), .fadr 2 (.t 1), none, 0, false⟩,
     ⟨(some 12), .load none (.t 11), none, 0, false⟩,
     ⟨(some 13), .copy 1 (.t 10) (.t 12), none, 0, false⟩])
    (.seq
     (.reg false [
      ⟨(some 14), .fadr 3 (.t 3), none, 0, false⟩,
      ⟨(some 15), .load none (.t 14), none, 0, false⟩,
      ⟨(some 16), .fadr 3 (.t 1), none, 0, false⟩,
      ⟨(some 17), .load none (.t 16), none, 0, false⟩,
      ⟨(some 18), .copy 1 (.t 15) (.t 17), none, 0, false⟩])
     (.seq
      (.reg false [
       ⟨(some 19), .fadr 4 (.t 3), none, 0, false⟩,
       ⟨(some 20), .load none (.t 19), none, 0, false⟩,
       ⟨(some 21), .fadr 4 (.t 1), none, 0, false⟩,
       ⟨(some 22), .load none (.t 21), none, 0, false⟩,
       ⟨(some 23), .copy 1 (.t 20) (.t 22), none, 0, false⟩])
      (.seq
       (.reg false [
        ⟨(some 24), .load (some 5) (.t 3), none, 0, false⟩,
        ⟨none, .store 5 (.t 2) (.t 24), none, 0, false⟩])
       .ret)))))),
 [.cell 2 (some 5)]⟩
theorem ir_56 : ir 56 = some f56 := by kernel_rfl
/-! cutroom/cutroomref07.Clip -/
def f57 : F := ⟨7, 1,
 (.seq
  (.reg false [
   ⟨(some 2), .mov (.k (.int .u8 0)), none, 0, false⟩])
  (.seq
   (.reg false [
    ⟨(some 3), .mov (.t 0), none, 0, false⟩,
    ⟨(some 4), .mm false [(.t 3), (.k (.int .i64 255))], none, 0, false⟩,
    ⟨(some 5), .mm true [(.k (.int .i64 0)), (.t 4)], none, 0, false⟩,
    ⟨(some 6), .toInt .u8 (.t 5), none, 0, false⟩,
    ⟨(some 2), .mov (.t 6), none, 0, false⟩])
   .ret)),
 [.tmp 2]⟩
theorem ir_57 : ir 57 = some f57 := by kernel_rfl
/-! cutroom/plane.part -/
def f58 : F := ⟨49, 10,
 (.seq
  (.reg false [
   ⟨(some 21), .mov (.t 9), none, 0, false⟩,
   ⟨(some 22), .mov (.k (.int .i64 0)), none, 0, false⟩])
  (.blk 0
   (.loop
    (.seq
     (.reg false [
      ⟨(some 23), .bin .lss [0] (.t 22) (.t 21), none, 0, false⟩])
     (.seq
      (.cond (.t 23)
       .skip
       (.exit 0))
      (.seq
       (.blk 1
        (.seq
         (.reg false [
          ⟨(some 24), .mov (.t 22), none, 0, false⟩,
          ⟨(some 20), .mov (.t 24), none, 0, false⟩])
         (.reg true [
          ⟨(some 25), .mov (.t 0), none, 0, false⟩,
          ⟨(some 26), .mov (.t 3), none, 0, false⟩,
          ⟨(some 27), .mov (.t 20), none, 0, false⟩,
          ⟨(some 28), .bin .add [0] (.t 26) (.t 27), none, 6, false⟩,
          ⟨(some 29), .mov (.t 1), none, 0, false⟩,
          ⟨(some 30), .bin .mul [0] (.t 28) (.t 29), none, 30, false⟩,
          ⟨(some 31), .mov (.t 2), none, 0, false⟩,
          ⟨(some 32), .bin .add [0] (.t 30) (.t 31), none, 126, false⟩,
          ⟨(some 33), .subL 1 (.t 25) (some (.t 32)) none none, none, 255, false⟩,
          ⟨(some 34), .mov (.t 8), none, 0, false⟩,
          ⟨(some 35), .subL 1 (.t 33) none (some (.t 34)) none, none, 1023, false⟩,
          ⟨(some 36), .mov (.t 4), none, 0, false⟩,
          ⟨(some 37), .mov (.t 7), none, 0, false⟩,
          ⟨(some 38), .mov (.t 20), none, 0, false⟩,
          ⟨(some 39), .bin .add [0] (.t 37) (.t 38), none, 12288, false⟩,
          ⟨(some 40), .mov (.t 5), none, 0, false⟩,
          ⟨(some 41), .bin .mul [0] (.t 39) (.t 40), none, 61440, false⟩,
          ⟨(some 42), .mov (.t 6), none, 0, false⟩,
          ⟨(some 43), .bin .add [0] (.t 41) (.t 42), none, 258048, false⟩,
          ⟨(some 44), .subL 1 (.t 36) (some (.t 43)) none none, none, 522240, false⟩,
          ⟨(some 45), .mov (.t 8), none, 0, false⟩,
          ⟨(some 46), .subL 1 (.t 44) none (some (.t 45)) none, none, 2095104, false⟩,
          ⟨(some 47), .copy 1 (.t 35) (.t 46), none, 4194303, true⟩])))
       (.reg false [
        ⟨(some 48), .bin .add [0] (.t 22) (.k (.int .i64 1)), none, 0, false⟩,
        ⟨(some 22), .mov (.t 48), none, 0, false⟩]))))))),
 []⟩
theorem ir_58 : ir 58 = some f58 := by kernel_rfl
/-! cutroom/cutroomref07.Paste -/
def f59 : F := ⟨77, 8,
 (.seq
  (.reg false [
   ⟨(some 8), .box (.t 0), none, 0, false⟩,
   ⟨(some 11), .box (.t 3), none, 0, false⟩])
  (.seq
   (.reg false [
    ⟨(some 16), .fadr 2 (.t 8), none, 0, false⟩,
    ⟨(some 17), .load none (.t 16), none, 0, false⟩,
    ⟨(some 18), .fadr 0 (.t 8), none, 0, false⟩,
    ⟨(some 19), .load none (.t 18), none, 0, false⟩,
    ⟨(some 20), .mov (.t 1), none, 0, false⟩,
    ⟨(some 21), .mov (.t 2), none, 0, false⟩,
    ⟨(some 22), .fadr 2 (.t 11), none, 0, false⟩,
    ⟨(some 23), .load none (.t 22), none, 0, false⟩,
    ⟨(some 24), .fadr 0 (.t 11), none, 0, false⟩,
    ⟨(some 25), .load none (.t 24), none, 0, false⟩,
    ⟨(some 26), .mov (.t 4), none, 0, false⟩,
    ⟨(some 27), .mov (.t 5), none, 0, false⟩,
    ⟨(some 28), .mov (.t 6), none, 0, false⟩,
    ⟨(some 29), .mov (.t 7), none, 0, false⟩,
    ⟨(some 30), .call 61 [(.t 17), (.t 19), (.t 20), (.t 21), (.t 23), (.t 25), (.t 26), (.t 27), (.t 28), (.t 29)], none, 0, false⟩])
   (.seq
    (.reg false [
     ⟨(some 31), .fadr 3 (.t 8), none, 0, false⟩,
     ⟨(some 32), .load none (.t 31), none, 0, false⟩,
     ⟨(some 33), .fadr 0 (.t 8), none, 0, false⟩,
     ⟨(some 34), .load none (.t 33), none, 0, false⟩,
     ⟨(some 35), .bin .quo [0] (.t 34) (.k (.int .i64 2)), none, 0, false⟩,
     ⟨(some 36), .mov (.t 1), none, 0, false⟩,
     ⟨(some 37), .bin .quo [0] (.t 36) (.k (.int .i64 2)), none, 0, false⟩,
     ⟨(some 38), .mov (.t 2), none, 0, false⟩,
     ⟨(some 39), .bin .quo [0] (.t 38) (.k (.int .i64 2)), none, 0, false⟩,
     ⟨(some 40), .fadr 3 (.t 11), none, 0, false⟩,
     ⟨(some 41), .load none (.t 40), none, 0, false⟩,
     ⟨(some 42), .fadr 0 (.t 11), none, 0, false⟩,
     ⟨(some 43), .load none (.t 42), none, 0, false⟩,
     ⟨(some 44), .bin .quo [0] (.t 43) (.k (.int .i64 2)), none, 0, false⟩,
     ⟨(some 45), .mov (.t 4), none, 0, false⟩,
     ⟨(some 46), .bin .quo [0] (.t 45) (.k (.int .i64 2)), none, 0, false⟩,
     ⟨(some 47), .mov (.t 5), none, 0, false⟩,
     ⟨(some 48), .bin .quo [0] (.t 47) (.k (.int .i64 2)), none, 0, false⟩,
     ⟨(some 49), .mov (.t 6), none, 0, false⟩,
     ⟨(some 50), .bin .quo [0] (.t 49) (.k (.int .i64 2)), none, 0, false⟩,
     ⟨(some 51), .mov (.t 7), none, 0, false⟩,
     ⟨(some 52), .bin .quo [0] (.t 51) (.k (.int .i64 2)), none, 0, false⟩,
     ⟨(some 53), .call 61 [(.t 32), (.t 35), (.t 37), (.t 39), (.t 41), (.t 44), (.t 46), (.t 48), (.t 50), (.t 52)], none, 0, false⟩])
    (.reg false [
     ⟨(some 54), .fadr 4 (.t 8), none, 0, false⟩,
     ⟨(some 55), .load none (.t 54), none, 0, false⟩,
     ⟨(some 56), .fadr 0 (.t 8), none, 0, false⟩,
     ⟨(some 57), .load none (.t 56), none, 0, false⟩,
     ⟨(some 58), .bin .quo [0] (.t 57) (.k (.int .i64 2)), none, 0, false⟩,
     ⟨(some 59), .mov (.t 1), none, 0, false⟩,
     ⟨(some 60), .bin .quo [0] (.t 59) (.k (.int .i64 2)), none, 0, false⟩,
     ⟨(some 61), .mov (.t 2), none, 0, false⟩,
     ⟨(some 62), .bin .quo [0] (.t 61) (.k (.int .i64 2)), none, 0, false⟩,
     ⟨(some 63), .fadr 4 (.t 11), none, 0, false⟩,
     ⟨(some 64), .load none (.t 63), none, 0, false⟩,
     ⟨(some 65), .fadr 0 (.t 11), none, 0, false⟩,
     ⟨(some 66), .load none (.t 65), none, 0, false⟩,
     ⟨(some 67), .bin .quo [0] (.t 66) (.k (.int .i64 2)), none, 0, false⟩,
     ⟨(some 68), .mov (.t 4), none, 0, false⟩,
     ⟨(some 69), .bin .quo [0] (.t 68) (.k (.int .i64 2)), none, 0, false⟩,
     ⟨(some 70), .mov (.t 5), none, 0, false⟩,
     ⟨(some 71), .bin .quo [0] (.t 70) (.k (.int .i64 2)), none, 0, false⟩,
     ⟨(some 72), .mov (.t 6), none, 0, false⟩,
     ⟨(some 73), .bin .quo [0] (.t 72) (.k (.int .i64 2)), none, 0, false⟩,
     ⟨(some 74), .mov (.t 7), none, 0, false⟩,
     ⟨(some 75), .bin .quo [0] (.t 74) (.k (.int .i64 2)), none, 0, false⟩,
     ⟨(some 76), .call 61 [(.t 55), (.t 58), (.t 60), (.t 62), (.t 64), (.t 67), (.t 69), (.t 71), (.t 73), (.t 75)], none, 0, false⟩])))),
 []⟩
theorem ir_59 : ir 59 = some f59 := by kernel_rfl
/-! cutroom/cutroomref07.Sized -/
def f60 : F := ⟨21, 3,
 (.seq
  (.reg false [
   ⟨(some 3), .box (.t 0), none, 0, false⟩,
   ⟨(some 6), .mov (.k (.bool false)), none, 0, false⟩])
  (.seq
   (.reg false [
    ⟨(some 7), .load (some 5) (.t 3), none, 0, false⟩,
    ⟨(some 8), .call 16 [(.t 7)], none, 0, false⟩,
    ⟨(some 9), .mov (.t 8), none, 0, false⟩,
    ⟨(some 10), .fadr 0 (.t 3), some (9, true), 0, false⟩,
    ⟨(some 11), .load none (.t 10), some (9, true), 0, false⟩,
    ⟨(some 12), .mov (.t 1), some (9, true), 0, false⟩,
    ⟨(some 13), .bin .eql [0] (.t 11) (.t 12), some (9, true), 0, false⟩,
    ⟨(some 14), .pick (.t 9) (.t 13) (.k (.bool false)), none, 0, false⟩,
    ⟨(some 15), .mov (.t 14), none, 0, false⟩,
    ⟨(some 16), .fadr 1 (.t 3), some (15, true), 0, false⟩,
    ⟨(some 17), .load none (.t 16), some (15, true), 0, false⟩,
    ⟨(some 18), .mov (.t 2), some (15, true), 0, false⟩,
    ⟨(some 19), .bin .eql [0] (.t 17) (.t 18), some (15, true), 0, false⟩,
    ⟨(some 20), .pick (.t 15) (.t 19) (.k (.bool false)), none, 0, false⟩,
    ⟨(some 6), .mov (.t 20), none, 0, false⟩])
   .ret)),
 [.tmp 6]⟩
theorem ir_60 : ir 60 = some f60 := by kernel_rfl
/-! cutroom/cutroomref07.cut -/
def f61 : F := ⟨55, 10,
 (.seq
  (.reg false [
   ⟨(some 20), .mov (.k (.int .i64 0)), none, 0, false⟩])
  (.blk 0
   (.loop
    (.seq
     (.seq
      (.reg false [
       ⟨(some 22), .mov (.t 20), none, 0, false⟩,
       ⟨(some 23), .mov (.t 9), none, 0, false⟩,
       ⟨(some 24), .bin .lss [0] (.t 22) (.t 23), none, 0, false⟩])
      (.cond (.t 24)
       .skip
       (.exit 0)))
     (.seq
      (.blk 1
       (.seq
        (.reg false [
         ⟨(some 21), .mov (.k (.int .i64 0)), none, 0, false⟩])
        (.blk 2
         (.loop
          (.seq
           (.seq
            (.reg false [
             ⟨(some 27), .mov (.t 21), none, 0, false⟩,
             ⟨(some 28), .mov (.t 8), none, 0, false⟩,
             ⟨(some 29), .bin .lss [0] (.t 27) (.t 28), none, 0, false⟩])
            (.cond (.t 29)
             .skip
             (.exit 2)))
           (.seq
            (.blk 3
             (.reg false [
              ⟨(some 32), .mov (.t 0), none, 0, false⟩,
              ⟨(some 33), .mov (.t 3), none, 0, false⟩,
              ⟨(some 34), .mov (.t 20), none, 0, false⟩,
              ⟨(some 35), .bin .add [0] (.t 33) (.t 34), none, 0, false⟩,
              ⟨(some 36), .mov (.t 1), none, 0, false⟩,
              ⟨(some 37), .bin .mul [0] (.t 35) (.t 36), none, 0, false⟩,
              ⟨(some 38), .mov (.t 2), none, 0, false⟩,
              ⟨(some 39), .bin .add [0] (.t 37) (.t 38), none, 0, false⟩,
              ⟨(some 40), .mov (.t 21), none, 0, false⟩,
              ⟨(some 41), .bin .add [0] (.t 39) (.t 40), none, 0, false⟩,
              ⟨(some 42), .mov (.t 4), none, 0, false⟩,
              ⟨(some 43), .mov (.t 7), none, 0, false⟩,
              ⟨(some 44), .mov (.t 20), none, 0, false⟩,
              ⟨(some 45), .bin .add [0] (.t 43) (.t 44), none, 0, false⟩,
              ⟨(some 46), .mov (.t 5), none, 0, false⟩,
              ⟨(some 47), .bin .mul [0] (.t 45) (.t 46), none, 0, false⟩,
              ⟨(some 48), .mov (.t 6), none, 0, false⟩,
              ⟨(some 49), .bin .add [0] (.t 47) (.t 48), none, 0, false⟩,
              ⟨(some 50), .mov (.t 21), none, 0, false⟩,
              ⟨(some 51), .bin .add [0] (.t 49) (.t 50), none, 0, false⟩,
              ⟨(some 52), .iadrL 1 (.t 42) (.t 51), none, 0, false⟩,
              ⟨(some 53), .load none (.t 52), none, 0, false⟩,
              ⟨(some 54), .iadrL 1 (.t 32) (.t 41), none, 0, false⟩,
              ⟨none, .store 1 (.t 54) (.t 53), none, 0, false⟩]))
            (.reg false [
             ⟨(some 30), .mov (.t 21), none, 0, false⟩,
             ⟨(some 31), .bin .add [0] (.t 30) (.k (.int .i64 1)), none, 0, false⟩,
             ⟨(some 21), .mov (.t 31), none, 0, false⟩])))))))
      (.reg false [
       ⟨(some 25), .mov (.t 20), none, 0, false⟩,
       ⟨(some 26), .bin .add [0] (.t 25) (.k (.int .i64 1)), none, 0, false⟩,
       ⟨(some 20), .mov (.t 26), none, 0, false⟩])))))),
 []⟩
theorem ir_61 : ir 61 = some f61 := by kernel_rfl
end Go.Proofs.YtalnnbokmpppjaaAb
