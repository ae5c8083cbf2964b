/- The program's types as the interpreter sees them. Printed by a program. -/
import Derived.Test.YtmmpjnjdddaldaaGreatDoorRows
import Derived.Test.YtmmpjnjdddaldaaGreatDoorPmX
set_option linter.unusedVariables false
set_option maxRecDepth 100000
namespace Go.Proofs.YtmmpjnjdddaldaaGreatDoor
open Go.Pm
def tys : Tree Ty :=
  .node 91 ⟨.func, 1, 8, [.nilFunc], []⟩
  (.node 45 ⟨.struct [(0, 3), (1, 3), (2, 3)], 3, 24, [.int .i64 0, .int .i64 0, .int .i64 0], [.int .i64, .int .i64, .int .i64]⟩
   (.node 22 ⟨.struct [(0, 3), (1, 3)], 2, 16, [.int .i64 0, .int .i64 0], [.int .i64, .int .i64]⟩
    (.node 10 ⟨.str, 1, 16, [.str []], []⟩
     (.node 5 ⟨.int .u8, 1, 1, [.int .u8 0], []⟩
      (.node 3 ⟨.int .i64, 1, 8, [.int .i64 0], []⟩
       (.node 2 ⟨.int .i64, 1, 8, [.int .i64 0], []⟩
        (.node 1 ⟨.func, 1, 8, [.nilFunc], []⟩
         (.nil)
         (.nil))
        (.nil))
       (.node 4 ⟨.bool, 1, 1, [.bool false], []⟩
        (.nil)
        (.nil)))
      (.node 8 ⟨.struct [(0, 2), (1, 3), (2, 4), (3, 6)], 4, 24, [.int .i64 0, .int .i64 0, .bool false, .int .u8 0], [.int .i64, .int .i64, .bool, .int .u8]⟩
       (.node 7 ⟨.struct [(0, 2), (1, 3), (2, 4), (3, 6)], 4, 24, [.int .i64 0, .int .i64 0, .bool false, .int .u8 0], [.int .i64, .int .i64, .bool, .int .u8]⟩
        (.node 6 ⟨.int .u8, 1, 1, [.int .u8 0], []⟩
         (.nil)
         (.nil))
        (.nil))
       (.node 9 ⟨.str, 1, 16, [.str []], []⟩
        (.nil)
        (.nil))))
     (.node 17 ⟨.ptr, 1, 8, [.nilPtr], []⟩
      (.node 15 ⟨.ptr, 1, 8, [.nilPtr], []⟩
       (.node 12 ⟨.int .u64, 1, 8, [.int .u64 0], []⟩
        (.node 11 ⟨.str, 1, 16, [.str []], []⟩
         (.nil)
         (.nil))
        (.nil))
       (.node 16 ⟨.ptr, 1, 8, [.nilPtr], []⟩
        (.nil)
        (.nil)))
      (.node 20 ⟨.iface, 1, 16, [.nilIface], []⟩
       (.node 19 ⟨.struct [(0, 17)], 1, 8, [.nilPtr], []⟩
        (.node 18 ⟨.struct [(0, 17)], 1, 8, [.nilPtr], []⟩
         (.nil)
         (.nil))
        (.nil))
       (.node 21 ⟨.int .i32, 1, 4, [.int .i32 0], []⟩
        (.nil)
        (.nil)))))
    (.node 35 ⟨.func, 1, 8, [.nilFunc], []⟩
     (.node 28 ⟨.func, 1, 8, [.nilFunc], []⟩
      (.node 26 ⟨.func, 1, 8, [.nilFunc], []⟩
       (.node 24 ⟨.int .i64, 1, 8, [.int .i64 0], []⟩
        (.node 23 ⟨.struct [(0, 3), (1, 3)], 2, 16, [.int .i64 0, .int .i64 0], [.int .i64, .int .i64]⟩
         (.nil)
         (.nil))
        (.nil))
       (.node 27 ⟨.func, 1, 8, [.nilFunc], []⟩
        (.nil)
        (.nil)))
      (.node 32 ⟨.func, 1, 8, [.nilFunc], []⟩
       (.node 31 ⟨.func, 1, 8, [.nilFunc], []⟩
        (.node 30 ⟨.func, 1, 8, [.nilFunc], []⟩
         (.nil)
         (.nil))
        (.nil))
       (.node 34 ⟨.func, 1, 8, [.nilFunc], []⟩
        (.nil)
        (.nil))))
     (.node 41 ⟨.func, 1, 8, [.nilFunc], []⟩
      (.node 39 ⟨.func, 1, 8, [.nilFunc], []⟩
       (.node 37 ⟨.iface, 1, 16, [.nilIface], []⟩
        (.node 36 ⟨.iface, 1, 16, [.nilIface], []⟩
         (.nil)
         (.nil))
        (.nil))
       (.node 40 ⟨.func, 1, 8, [.nilFunc], []⟩
        (.nil)
        (.nil)))
      (.node 43 ⟨.func, 1, 8, [.nilFunc], []⟩
       (.node 42 ⟨.func, 1, 8, [.nilFunc], []⟩
        (.nil)
        (.nil))
       (.node 44 ⟨.func, 1, 8, [.nilFunc], []⟩
        (.nil)
        (.nil))))))
   (.node 69 ⟨.slice 46, 1, 24, [.nilSlice], []⟩
    (.node 58 ⟨.func, 1, 8, [.nilFunc], []⟩
     (.node 52 ⟨.func, 1, 8, [.nilFunc], []⟩
      (.node 50 ⟨.func, 1, 8, [.nilFunc], []⟩
       (.node 48 ⟨.func, 1, 8, [.nilFunc], []⟩
        (.node 46 ⟨.struct [(0, 3), (1, 3), (2, 3)], 3, 24, [.int .i64 0, .int .i64 0, .int .i64 0], [.int .i64, .int .i64, .int .i64]⟩
         (.nil)
         (.nil))
        (.nil))
       (.node 51 ⟨.array 5 9, 5, 80, [.str [], .str [], .str [], .str [], .str []], [.str, .str, .str, .str, .str]⟩
        (.nil)
        (.nil)))
      (.node 55 ⟨.array 256 4, 256, 256, [.bool false, .bool false, .bool false, .bool false, .bool false, .bool false, .bool false, .bool false, .bool false, .bool false, .bool false, .bool false, .bool false, .bool false, .bool false, .bool false, .bool false, .bool false, .bool false, .bool false, .bool false, .bool false, .bool false, .bool false, .bool false, .bool false, .bool false, .bool false, .bool false, .bool false, .bool false, .bool false, .bool false, .bool false, .bool false, .bool false, .bool false, .bool false, .bool false, .bool false, .bool false, .bool false, .bool false, .bool false, .bool false, .bool false, .bool false, .bool false, .bool false, .bool false, .bool false, .bool false, .bool false, .bool false, .bool false, .bool false, .bool false, .bool false, .bool false, .bool false, .bool false, .bool false, .bool false, .bool false, .bool false, .bool false, .bool false, .bool false, .bool false, .bool false, .bool false, .bool false, .bool false, .bool false, .bool false, .bool false, .bool false, .bool false, .bool false, .bool false, .bool false, .bool false, .bool false, .bool false, .bool false, .bool false, .bool false, .bool false, .bool false, .bool false, .bool false, .bool false, .bool false, .bool false, .bool false, .bool false, .bool false, .bool false, .bool false, .bool false, .bool false, .bool false, .bool false, .bool false, .bool false, .bool false, .bool false, .bool false, .bool false, .bool false, .bool false, .bool false, .bool false, .bool false, .bool false, .bool false, .bool false, .bool false, .bool false, .bool false, .bool false, .bool false, .bool false, .bool false, .bool false, .bool false, .bool false, .bool false, .bool false, .bool false, .bool false, .bool false, .bool false, .bool false, .bool false, .bool false, .bool false, .bool false, .bool false, .bool false, .bool false, .bool false, .bool false, .bool false, .bool false, .bool false, .bool false, .bool false, .bool false, .bool false, .bool false, .bool false, .bool false, .bool false, .bool false, .bool false, .bool false, .bool false, .bool false, .bool false, .bool false, .bool false, .bool false, .bool false, .bool false, .bool false, .bool false, .bool false, .bool false, .bool false, .bool false, .bool false, .bool false, .bool false, .bool false, .bool false, .bool false, .bool false, .bool false, .bool false, .bool false, .bool false, .bool false, .bool false, .bool false, .bool false, .bool false, .bool false, .bool false, .bool false, .bool false, .bool false, .bool false, .bool false, .bool false, .bool false, .bool false, .bool false, .bool false, .bool false, .bool false, .bool false, .bool false, .bool false, .bool false, .bool false, .bool false, .bool false, .bool false, .bool false, .bool false, .bool false, .bool false, .bool false, .bool false, .bool false, .bool false, .bool false, .bool false, .bool false, .bool false, .bool false, .bool false, .bool false, .bool false, .bool false, .bool false, .bool false, .bool false, .bool false, .bool false, .bool false, .bool false, .bool false, .bool false, .bool false, .bool false, .bool false, .bool false, .bool false, .bool false, .bool false, .bool false, .bool false, .bool false, .bool false, .bool false, .bool false, .bool false, .bool false, .bool false, .bool false, .bool false, .bool false, .bool false, .bool false], [.bool, .bool, .bool, .bool, .bool, .bool, .bool, .bool, .bool, .bool, .bool, .bool, .bool, .bool, .bool, .bool, .bool, .bool, .bool, .bool, .bool, .bool, .bool, .bool, .bool, .bool, .bool, .bool, .bool, .bool, .bool, .bool, .bool, .bool, .bool, .bool, .bool, .bool, .bool, .bool, .bool, .bool, .bool, .bool, .bool, .bool, .bool, .bool, .bool, .bool, .bool, .bool, .bool, .bool, .bool, .bool, .bool, .bool, .bool, .bool, .bool, .bool, .bool, .bool, .bool, .bool, .bool, .bool, .bool, .bool, .bool, .bool, .bool, .bool, .bool, .bool, .bool, .bool, .bool, .bool, .bool, .bool, .bool, .bool, .bool, .bool, .bool, .bool, .bool, .bool, .bool, .bool, .bool, .bool, .bool, .bool, .bool, .bool, .bool, .bool, .bool, .bool, .bool, .bool, .bool, .bool, .bool, .bool, .bool, .bool, .bool, .bool, .bool, .bool, .bool, .bool, .bool, .bool, .bool, .bool, .bool, .bool, .bool, .bool, .bool, .bool, .bool, .bool, .bool, .bool, .bool, .bool, .bool, .bool, .bool, .bool, .bool, .bool, .bool, .bool, .bool, .bool, .bool, .bool, .bool, .bool, .bool, .bool, .bool, .bool, .bool, .bool, .bool, .bool, .bool, .bool, .bool, .bool, .bool, .bool, .bool, .bool, .bool, .bool, .bool, .bool, .bool, .bool, .bool, .bool, .bool, .bool, .bool, .bool, .bool, .bool, .bool, .bool, .bool, .bool, .bool, .bool, .bool, .bool, .bool, .bool, .bool, .bool, .bool, .bool, .bool, .bool, .bool, .bool, .bool, .bool, .bool, .bool, .bool, .bool, .bool, .bool, .bool, .bool, .bool, .bool, .bool, .bool, .bool, .bool, .bool, .bool, .bool, .bool, .bool, .bool, .bool, .bool, .bool, .bool, .bool, .bool, .bool, .bool, .bool, .bool, .bool, .bool, .bool, .bool, .bool, .bool, .bool, .bool, .bool, .bool, .bool, .bool, .bool, .bool, .bool, .bool, .bool, .bool, .bool, .bool, .bool, .bool, .bool, .bool, .bool, .bool, .bool, .bool, .bool, .bool]⟩
       (.node 54 ⟨.func, 1, 8, [.nilFunc], []⟩
        (.node 53 ⟨.slice 9, 1, 24, [.nilSlice], []⟩
         (.nil)
         (.nil))
        (.nil))
       (.node 56 ⟨.array 256 4, 256, 256, [.bool false, .bool false, .bool false, .bool false, .bool false, .bool false, .bool false, .bool false, .bool false, .bool false, .bool false, .bool false, .bool false, .bool false, .bool false, .bool false, .bool false, .bool false, .bool false, .bool false, .bool false, .bool false, .bool false, .bool false, .bool false, .bool false, .bool false, .bool false, .bool false, .bool false, .bool false, .bool false, .bool false, .bool false, .bool false, .bool false, .bool false, .bool false, .bool false, .bool false, .bool false, .bool false, .bool false, .bool false, .bool false, .bool false, .bool false, .bool false, .bool false, .bool false, .bool false, .bool false, .bool false, .bool false, .bool false, .bool false, .bool false, .bool false, .bool false, .bool false, .bool false, .bool false, .bool false, .bool false, .bool false, .bool false, .bool false, .bool false, .bool false, .bool false, .bool false, .bool false, .bool false, .bool false, .bool false, .bool false, .bool false, .bool false, .bool false, .bool false, .bool false, .bool false, .bool false, .bool false, .bool false, .bool false, .bool false, .bool false, .bool false, .bool false, .bool false, .bool false, .bool false, .bool false, .bool false, .bool false, .bool false, .bool false, .bool false, .bool false, .bool false, .bool false, .bool false, .bool false, .bool false, .bool false, .bool false, .bool false, .bool false, .bool false, .bool false, .bool false, .bool false, .bool false, .bool false, .bool false, .bool false, .bool false, .bool false, .bool false, .bool false, .bool false, .bool false, .bool false, .bool false, .bool false, .bool false, .bool false, .bool false, .bool false, .bool false, .bool false, .bool false, .bool false, .bool false, .bool false, .bool false, .bool false, .bool false, .bool false, .bool false, .bool false, .bool false, .bool false, .bool false, .bool false, .bool false, .bool false, .bool false, .bool false, .bool false, .bool false, .bool false, .bool false, .bool false, .bool false, .bool false, .bool false, .bool false, .bool false, .bool false, .bool false, .bool false, .bool false, .bool false, .bool false, .bool false, .bool false, .bool false, .bool false, .bool false, .bool false, .bool false, .bool false, .bool false, .bool false, .bool false, .bool false, .bool false, .bool false, .bool false, .bool false, .bool false, .bool false, .bool false, .bool false, .bool false, .bool false, .bool false, .bool false, .bool false, .bool false, .bool false, .bool false, .bool false, .bool false, .bool false, .bool false, .bool false, .bool false, .bool false, .bool false, .bool false, .bool false, .bool false, .bool false, .bool false, .bool false, .bool false, .bool false, .bool false, .bool false, .bool false, .bool false, .bool false, .bool false, .bool false, .bool false, .bool false, .bool false, .bool false, .bool false, .bool false, .bool false, .bool false, .bool false, .bool false, .bool false, .bool false, .bool false, .bool false, .bool false, .bool false, .bool false, .bool false, .bool false, .bool false, .bool false, .bool false, .bool false, .bool false, .bool false, .bool false, .bool false, .bool false, .bool false, .bool false, .bool false, .bool false, .bool false, .bool false, .bool false, .bool false, .bool false, .bool false, .bool false], [.bool, .bool, .bool, .bool, .bool, .bool, .bool, .bool, .bool, .bool, .bool, .bool, .bool, .bool, .bool, .bool, .bool, .bool, .bool, .bool, .bool, .bool, .bool, .bool, .bool, .bool, .bool, .bool, .bool, .bool, .bool, .bool, .bool, .bool, .bool, .bool, .bool, .bool, .bool, .bool, .bool, .bool, .bool, .bool, .bool, .bool, .bool, .bool, .bool, .bool, .bool, .bool, .bool, .bool, .bool, .bool, .bool, .bool, .bool, .bool, .bool, .bool, .bool, .bool, .bool, .bool, .bool, .bool, .bool, .bool, .bool, .bool, .bool, .bool, .bool, .bool, .bool, .bool, .bool, .bool, .bool, .bool, .bool, .bool, .bool, .bool, .bool, .bool, .bool, .bool, .bool, .bool, .bool, .bool, .bool, .bool, .bool, .bool, .bool, .bool, .bool, .bool, .bool, .bool, .bool, .bool, .bool, .bool, .bool, .bool, .bool, .bool, .bool, .bool, .bool, .bool, .bool, .bool, .bool, .bool, .bool, .bool, .bool, .bool, .bool, .bool, .bool, .bool, .bool, .bool, .bool, .bool, .bool, .bool, .bool, .bool, .bool, .bool, .bool, .bool, .bool, .bool, .bool, .bool, .bool, .bool, .bool, .bool, .bool, .bool, .bool, .bool, .bool, .bool, .bool, .bool, .bool, .bool, .bool, .bool, .bool, .bool, .bool, .bool, .bool, .bool, .bool, .bool, .bool, .bool, .bool, .bool, .bool, .bool, .bool, .bool, .bool, .bool, .bool, .bool, .bool, .bool, .bool, .bool, .bool, .bool, .bool, .bool, .bool, .bool, .bool, .bool, .bool, .bool, .bool, .bool, .bool, .bool, .bool, .bool, .bool, .bool, .bool, .bool, .bool, .bool, .bool, .bool, .bool, .bool, .bool, .bool, .bool, .bool, .bool, .bool, .bool, .bool, .bool, .bool, .bool, .bool, .bool, .bool, .bool, .bool, .bool, .bool, .bool, .bool, .bool, .bool, .bool, .bool, .bool, .bool, .bool, .bool, .bool, .bool, .bool, .bool, .bool, .bool, .bool, .bool, .bool, .bool, .bool, .bool, .bool, .bool, .bool, .bool, .bool, .bool]⟩
        (.nil)
        (.nil))))
     (.node 63 ⟨.func, 1, 8, [.nilFunc], []⟩
      (.node 61 ⟨.func, 1, 8, [.nilFunc], []⟩
       (.node 60 ⟨.ptr, 1, 8, [.nilPtr], []⟩
        (.node 59 ⟨.func, 1, 8, [.nilFunc], []⟩
         (.nil)
         (.nil))
        (.nil))
       (.node 62 ⟨.array 7 3, 7, 56, [.int .i64 0, .int .i64 0, .int .i64 0, .int .i64 0, .int .i64 0, .int .i64 0, .int .i64 0], [.int .i64, .int .i64, .int .i64, .int .i64, .int .i64, .int .i64, .int .i64]⟩
        (.nil)
        (.nil)))
      (.node 67 ⟨.func, 1, 8, [.nilFunc], []⟩
       (.node 65 ⟨.func, 1, 8, [.nilFunc], []⟩
        (.node 64 ⟨.slice 3, 1, 24, [.nilSlice], []⟩
         (.nil)
         (.nil))
        (.nil))
       (.node 68 ⟨.func, 1, 8, [.nilFunc], []⟩
        (.nil)
        (.nil)))))
    (.node 80 ⟨.func, 1, 8, [.nilFunc], []⟩
     (.node 75 ⟨.func, 1, 8, [.nilFunc], []⟩
      (.node 73 ⟨.func, 1, 8, [.nilFunc], []⟩
       (.node 72 ⟨.func, 1, 8, [.nilFunc], []⟩
        (.node 71 ⟨.func, 1, 8, [.nilFunc], []⟩
         (.nil)
         (.nil))
        (.nil))
       (.node 74 ⟨.func, 1, 8, [.nilFunc], []⟩
        (.nil)
        (.nil)))
      (.node 78 ⟨.array 10 9, 10, 160, [.str [], .str [], .str [], .str [], .str [], .str [], .str [], .str [], .str [], .str []], [.str, .str, .str, .str, .str, .str, .str, .str, .str, .str]⟩
       (.node 77 ⟨.array 8 9, 8, 128, [.str [], .str [], .str [], .str [], .str [], .str [], .str [], .str []], [.str, .str, .str, .str, .str, .str, .str, .str]⟩
        (.node 76 ⟨.array 2 75, 2, 16, [.nilFunc, .nilFunc], []⟩
         (.nil)
         (.nil))
        (.nil))
       (.node 79 ⟨.slice 5, 1, 24, [.nilSlice], []⟩
        (.nil)
        (.nil))))
     (.node 87 ⟨.func, 1, 8, [.nilFunc], []⟩
      (.node 84 ⟨.func, 1, 8, [.nilFunc], []⟩
       (.node 83 ⟨.func, 1, 8, [.nilFunc], []⟩
        (.node 81 ⟨.func, 1, 8, [.nilFunc], []⟩
         (.nil)
         (.nil))
        (.nil))
       (.node 85 ⟨.int .i64, 1, 8, [.int .i64 0], []⟩
        (.nil)
        (.nil)))
      (.node 89 ⟨.func, 1, 8, [.nilFunc], []⟩
       (.node 88 ⟨.ptr, 1, 8, [.nilPtr], []⟩
        (.nil)
        (.nil))
       (.node 90 ⟨.func, 1, 8, [.nilFunc], []⟩
        (.nil)
        (.nil)))))))
  (.node 136 ⟨.func, 1, 8, [.nilFunc], []⟩
   (.node 116 ⟨.func, 1, 8, [.nilFunc], []⟩
    (.node 103 ⟨.func, 1, 8, [.nilFunc], []⟩
     (.node 97 ⟨.struct [(0, 95), (1, 79)], 2, 32, [.nilPtr, .nilSlice], []⟩
      (.node 95 ⟨.ptr, 1, 8, [.nilPtr], []⟩
       (.node 94 ⟨.func, 1, 8, [.nilFunc], []⟩
        (.node 92 ⟨.int .u64, 1, 8, [.int .u64 0], []⟩
         (.nil)
         (.nil))
        (.nil))
       (.node 96 ⟨.struct [(0, 95), (1, 79)], 2, 32, [.nilPtr, .nilSlice], []⟩
        (.nil)
        (.nil)))
      (.node 100 ⟨.func, 1, 8, [.nilFunc], []⟩
       (.node 99 ⟨.func, 1, 8, [.nilFunc], []⟩
        (.node 98 ⟨.func, 1, 8, [.nilFunc], []⟩
         (.nil)
         (.nil))
        (.nil))
       (.node 102 ⟨.func, 1, 8, [.nilFunc], []⟩
        (.nil)
        (.nil))))
     (.node 109 ⟨.struct [(0, 9), (1, 9), (2, 37)], 3, 48, [.str [], .str [], .nilIface], []⟩
      (.node 107 ⟨.func, 1, 8, [.nilFunc], []⟩
       (.node 105 ⟨.int .u64, 1, 8, [.int .u64 0], []⟩
        (.node 104 ⟨.func, 1, 8, [.nilFunc], []⟩
         (.nil)
         (.nil))
        (.nil))
       (.node 108 ⟨.func, 1, 8, [.nilFunc], []⟩
        (.nil)
        (.nil)))
      (.node 112 ⟨.int .u32, 1, 4, [.int .u32 0], []⟩
       (.node 111 ⟨.func, 1, 8, [.nilFunc], []⟩
        (.node 110 ⟨.struct [(0, 9), (1, 9), (2, 37)], 3, 48, [.str [], .str [], .nilIface], []⟩
         (.nil)
         (.nil))
        (.nil))
       (.node 114 ⟨.func, 1, 8, [.nilFunc], []⟩
        (.nil)
        (.nil)))))
    (.node 126 ⟨.struct [(0, 5), (1, 5)], 2, 2, [.int .u8 0, .int .u8 0], [.int .u8, .int .u8]⟩
     (.node 121 ⟨.func, 1, 8, [.nilFunc], []⟩
      (.node 119 ⟨.func, 1, 8, [.nilFunc], []⟩
       (.node 118 ⟨.func, 1, 8, [.nilFunc], []⟩
        (.node 117 ⟨.ptr, 1, 8, [.nilPtr], []⟩
         (.nil)
         (.nil))
        (.nil))
       (.node 120 ⟨.func, 1, 8, [.nilFunc], []⟩
        (.nil)
        (.nil)))
      (.node 124 ⟨.array 256 5, 256, 256, [.int .u8 0, .int .u8 0, .int .u8 0, .int .u8 0, .int .u8 0, .int .u8 0, .int .u8 0, .int .u8 0, .int .u8 0, .int .u8 0, .int .u8 0, .int .u8 0, .int .u8 0, .int .u8 0, .int .u8 0, .int .u8 0, .int .u8 0, .int .u8 0, .int .u8 0, .int .u8 0, .int .u8 0, .int .u8 0, .int .u8 0, .int .u8 0, .int .u8 0, .int .u8 0, .int .u8 0, .int .u8 0, .int .u8 0, .int .u8 0, .int .u8 0, .int .u8 0, .int .u8 0, .int .u8 0, .int .u8 0, .int .u8 0, .int .u8 0, .int .u8 0, .int .u8 0, .int .u8 0, .int .u8 0, .int .u8 0, .int .u8 0, .int .u8 0, .int .u8 0, .int .u8 0, .int .u8 0, .int .u8 0, .int .u8 0, .int .u8 0, .int .u8 0, .int .u8 0, .int .u8 0, .int .u8 0, .int .u8 0, .int .u8 0, .int .u8 0, .int .u8 0, .int .u8 0, .int .u8 0, .int .u8 0, .int .u8 0, .int .u8 0, .int .u8 0, .int .u8 0, .int .u8 0, .int .u8 0, .int .u8 0, .int .u8 0, .int .u8 0, .int .u8 0, .int .u8 0, .int .u8 0, .int .u8 0, .int .u8 0, .int .u8 0, .int .u8 0, .int .u8 0, .int .u8 0, .int .u8 0, .int .u8 0, .int .u8 0, .int .u8 0, .int .u8 0, .int .u8 0, .int .u8 0, .int .u8 0, .int .u8 0, .int .u8 0, .int .u8 0, .int .u8 0, .int .u8 0, .int .u8 0, .int .u8 0, .int .u8 0, .int .u8 0, .int .u8 0, .int .u8 0, .int .u8 0, .int .u8 0, .int .u8 0, .int .u8 0, .int .u8 0, .int .u8 0, .int .u8 0, .int .u8 0, .int .u8 0, .int .u8 0, .int .u8 0, .int .u8 0, .int .u8 0, .int .u8 0, .int .u8 0, .int .u8 0, .int .u8 0, .int .u8 0, .int .u8 0, .int .u8 0, .int .u8 0, .int .u8 0, .int .u8 0, .int .u8 0, .int .u8 0, .int .u8 0, .int .u8 0, .int .u8 0, .int .u8 0, .int .u8 0, .int .u8 0, .int .u8 0, .int .u8 0, .int .u8 0, .int .u8 0, .int .u8 0, .int .u8 0, .int .u8 0, .int .u8 0, .int .u8 0, .int .u8 0, .int .u8 0, .int .u8 0, .int .u8 0, .int .u8 0, .int .u8 0, .int .u8 0, .int .u8 0, .int .u8 0, .int .u8 0, .int .u8 0, .int .u8 0, .int .u8 0, .int .u8 0, .int .u8 0, .int .u8 0, .int .u8 0, .int .u8 0, .int .u8 0, .int .u8 0, .int .u8 0, .int .u8 0, .int .u8 0, .int .u8 0, .int .u8 0, .int .u8 0, .int .u8 0, .int .u8 0, .int .u8 0, .int .u8 0, .int .u8 0, .int .u8 0, .int .u8 0, .int .u8 0, .int .u8 0, .int .u8 0, .int .u8 0, .int .u8 0, .int .u8 0, .int .u8 0, .int .u8 0, .int .u8 0, .int .u8 0, .int .u8 0, .int .u8 0, .int .u8 0, .int .u8 0, .int .u8 0, .int .u8 0, .int .u8 0, .int .u8 0, .int .u8 0, .int .u8 0, .int .u8 0, .int .u8 0, .int .u8 0, .int .u8 0, .int .u8 0, .int .u8 0, .int .u8 0, .int .u8 0, .int .u8 0, .int .u8 0, .int .u8 0, .int .u8 0, .int .u8 0, .int .u8 0, .int .u8 0, .int .u8 0, .int .u8 0, .int .u8 0, .int .u8 0, .int .u8 0, .int .u8 0, .int .u8 0, .int .u8 0, .int .u8 0, .int .u8 0, .int .u8 0, .int .u8 0, .int .u8 0, .int .u8 0, .int .u8 0, .int .u8 0, .int .u8 0, .int .u8 0, .int .u8 0, .int .u8 0, .int .u8 0, .int .u8 0, .int .u8 0, .int .u8 0, .int .u8 0, .int .u8 0, .int .u8 0, .int .u8 0, .int .u8 0, .int .u8 0, .int .u8 0, .int .u8 0, .int .u8 0, .int .u8 0, .int .u8 0, .int .u8 0, .int .u8 0, .int .u8 0, .int .u8 0, .int .u8 0, .int .u8 0, .int .u8 0, .int .u8 0, .int .u8 0, .int .u8 0, .int .u8 0, .int .u8 0, .int .u8 0, .int .u8 0, .int .u8 0], [.int .u8, .int .u8, .int .u8, .int .u8, .int .u8, .int .u8, .int .u8, .int .u8, .int .u8, .int .u8, .int .u8, .int .u8, .int .u8, .int .u8, .int .u8, .int .u8, .int .u8, .int .u8, .int .u8, .int .u8, .int .u8, .int .u8, .int .u8, .int .u8, .int .u8, .int .u8, .int .u8, .int .u8, .int .u8, .int .u8, .int .u8, .int .u8, .int .u8, .int .u8, .int .u8, .int .u8, .int .u8, .int .u8, .int .u8, .int .u8, .int .u8, .int .u8, .int .u8, .int .u8, .int .u8, .int .u8, .int .u8, .int .u8, .int .u8, .int .u8, .int .u8, .int .u8, .int .u8, .int .u8, .int .u8, .int .u8, .int .u8, .int .u8, .int .u8, .int .u8, .int .u8, .int .u8, .int .u8, .int .u8, .int .u8, .int .u8, .int .u8, .int .u8, .int .u8, .int .u8, .int .u8, .int .u8, .int .u8, .int .u8, .int .u8, .int .u8, .int .u8, .int .u8, .int .u8, .int .u8, .int .u8, .int .u8, .int .u8, .int .u8, .int .u8, .int .u8, .int .u8, .int .u8, .int .u8, .int .u8, .int .u8, .int .u8, .int .u8, .int .u8, .int .u8, .int .u8, .int .u8, .int .u8, .int .u8, .int .u8, .int .u8, .int .u8, .int .u8, .int .u8, .int .u8, .int .u8, .int .u8, .int .u8, .int .u8, .int .u8, .int .u8, .int .u8, .int .u8, .int .u8, .int .u8, .int .u8, .int .u8, .int .u8, .int .u8, .int .u8, .int .u8, .int .u8, .int .u8, .int .u8, .int .u8, .int .u8, .int .u8, .int .u8, .int .u8, .int .u8, .int .u8, .int .u8, .int .u8, .int .u8, .int .u8, .int .u8, .int .u8, .int .u8, .int .u8, .int .u8, .int .u8, .int .u8, .int .u8, .int .u8, .int .u8, .int .u8, .int .u8, .int .u8, .int .u8, .int .u8, .int .u8, .int .u8, .int .u8, .int .u8, .int .u8, .int .u8, .int .u8, .int .u8, .int .u8, .int .u8, .int .u8, .int .u8, .int .u8, .int .u8, .int .u8, .int .u8, .int .u8, .int .u8, .int .u8, .int .u8, .int .u8, .int .u8, .int .u8, .int .u8, .int .u8, .int .u8, .int .u8, .int .u8, .int .u8, .int .u8, .int .u8, .int .u8, .int .u8, .int .u8, .int .u8, .int .u8, .int .u8, .int .u8, .int .u8, .int .u8, .int .u8, .int .u8, .int .u8, .int .u8, .int .u8, .int .u8, .int .u8, .int .u8, .int .u8, .int .u8, .int .u8, .int .u8, .int .u8, .int .u8, .int .u8, .int .u8, .int .u8, .int .u8, .int .u8, .int .u8, .int .u8, .int .u8, .int .u8, .int .u8, .int .u8, .int .u8, .int .u8, .int .u8, .int .u8, .int .u8, .int .u8, .int .u8, .int .u8, .int .u8, .int .u8, .int .u8, .int .u8, .int .u8, .int .u8, .int .u8, .int .u8, .int .u8, .int .u8, .int .u8, .int .u8, .int .u8, .int .u8, .int .u8, .int .u8, .int .u8, .int .u8, .int .u8, .int .u8, .int .u8, .int .u8, .int .u8, .int .u8, .int .u8, .int .u8, .int .u8, .int .u8, .int .u8, .int .u8, .int .u8, .int .u8, .int .u8]⟩
       (.node 123 ⟨.func, 1, 8, [.nilFunc], []⟩
        (.node 122 ⟨.func, 1, 8, [.nilFunc], []⟩
         (.nil)
         (.nil))
        (.nil))
       (.node 125 ⟨.struct [(0, 5), (1, 5)], 2, 2, [.int .u8 0, .int .u8 0], [.int .u8, .int .u8]⟩
        (.nil)
        (.nil))))
     (.node 131 ⟨.func, 1, 8, [.nilFunc], []⟩
      (.node 129 ⟨.func, 1, 8, [.nilFunc], []⟩
       (.node 128 ⟨.func, 1, 8, [.nilFunc], []⟩
        (.node 127 ⟨.array 16 126, 32, 32, [.int .u8 0, .int .u8 0, .int .u8 0, .int .u8 0, .int .u8 0, .int .u8 0, .int .u8 0, .int .u8 0, .int .u8 0, .int .u8 0, .int .u8 0, .int .u8 0, .int .u8 0, .int .u8 0, .int .u8 0, .int .u8 0, .int .u8 0, .int .u8 0, .int .u8 0, .int .u8 0, .int .u8 0, .int .u8 0, .int .u8 0, .int .u8 0, .int .u8 0, .int .u8 0, .int .u8 0, .int .u8 0, .int .u8 0, .int .u8 0, .int .u8 0, .int .u8 0], [.int .u8, .int .u8, .int .u8, .int .u8, .int .u8, .int .u8, .int .u8, .int .u8, .int .u8, .int .u8, .int .u8, .int .u8, .int .u8, .int .u8, .int .u8, .int .u8, .int .u8, .int .u8, .int .u8, .int .u8, .int .u8, .int .u8, .int .u8, .int .u8, .int .u8, .int .u8, .int .u8, .int .u8, .int .u8, .int .u8, .int .u8, .int .u8]⟩
         (.nil)
         (.nil))
        (.nil))
       (.node 130 ⟨.func, 1, 8, [.nilFunc], []⟩
        (.nil)
        (.nil)))
      (.node 133 ⟨.struct [(0, 9)], 1, 16, [.str []], [.str]⟩
       (.node 132 ⟨.ptr, 1, 8, [.nilPtr], []⟩
        (.nil)
        (.nil))
       (.node 134 ⟨.struct [(0, 9)], 1, 16, [.str []], [.str]⟩
        (.nil)
        (.nil))))))
   (.node 158 ⟨.func, 1, 8, [.nilFunc], []⟩
    (.node 148 ⟨.func, 1, 8, [.nilFunc], []⟩
     (.node 142 ⟨.func, 1, 8, [.nilFunc], []⟩
      (.node 139 ⟨.func, 1, 8, [.nilFunc], []⟩
       (.node 138 ⟨.array 24 5, 24, 24, [.int .u8 0, .int .u8 0, .int .u8 0, .int .u8 0, .int .u8 0, .int .u8 0, .int .u8 0, .int .u8 0, .int .u8 0, .int .u8 0, .int .u8 0, .int .u8 0, .int .u8 0, .int .u8 0, .int .u8 0, .int .u8 0, .int .u8 0, .int .u8 0, .int .u8 0, .int .u8 0, .int .u8 0, .int .u8 0, .int .u8 0, .int .u8 0], [.int .u8, .int .u8, .int .u8, .int .u8, .int .u8, .int .u8, .int .u8, .int .u8, .int .u8, .int .u8, .int .u8, .int .u8, .int .u8, .int .u8, .int .u8, .int .u8, .int .u8, .int .u8, .int .u8, .int .u8, .int .u8, .int .u8, .int .u8, .int .u8]⟩
        (.node 137 ⟨.func, 1, 8, [.nilFunc], []⟩
         (.nil)
         (.nil))
        (.nil))
       (.node 140 ⟨.func, 1, 8, [.nilFunc], []⟩
        (.nil)
        (.nil)))
      (.node 146 ⟨.func, 1, 8, [.nilFunc], []⟩
       (.node 144 ⟨.int .i64, 1, 8, [.int .i64 0], []⟩
        (.node 143 ⟨.func, 1, 8, [.nilFunc], []⟩
         (.nil)
         (.nil))
        (.nil))
       (.node 147 ⟨.func, 1, 8, [.nilFunc], []⟩
        (.nil)
        (.nil))))
     (.node 154 ⟨.array 65 5, 65, 65, [.int .u8 0, .int .u8 0, .int .u8 0, .int .u8 0, .int .u8 0, .int .u8 0, .int .u8 0, .int .u8 0, .int .u8 0, .int .u8 0, .int .u8 0, .int .u8 0, .int .u8 0, .int .u8 0, .int .u8 0, .int .u8 0, .int .u8 0, .int .u8 0, .int .u8 0, .int .u8 0, .int .u8 0, .int .u8 0, .int .u8 0, .int .u8 0, .int .u8 0, .int .u8 0, .int .u8 0, .int .u8 0, .int .u8 0, .int .u8 0, .int .u8 0, .int .u8 0, .int .u8 0, .int .u8 0, .int .u8 0, .int .u8 0, .int .u8 0, .int .u8 0, .int .u8 0, .int .u8 0, .int .u8 0, .int .u8 0, .int .u8 0, .int .u8 0, .int .u8 0, .int .u8 0, .int .u8 0, .int .u8 0, .int .u8 0, .int .u8 0, .int .u8 0, .int .u8 0, .int .u8 0, .int .u8 0, .int .u8 0, .int .u8 0, .int .u8 0, .int .u8 0, .int .u8 0, .int .u8 0, .int .u8 0, .int .u8 0, .int .u8 0, .int .u8 0, .int .u8 0], [.int .u8, .int .u8, .int .u8, .int .u8, .int .u8, .int .u8, .int .u8, .int .u8, .int .u8, .int .u8, .int .u8, .int .u8, .int .u8, .int .u8, .int .u8, .int .u8, .int .u8, .int .u8, .int .u8, .int .u8, .int .u8, .int .u8, .int .u8, .int .u8, .int .u8, .int .u8, .int .u8, .int .u8, .int .u8, .int .u8, .int .u8, .int .u8, .int .u8, .int .u8, .int .u8, .int .u8, .int .u8, .int .u8, .int .u8, .int .u8, .int .u8, .int .u8, .int .u8, .int .u8, .int .u8, .int .u8, .int .u8, .int .u8, .int .u8, .int .u8, .int .u8, .int .u8, .int .u8, .int .u8, .int .u8, .int .u8, .int .u8, .int .u8, .int .u8, .int .u8, .int .u8, .int .u8, .int .u8, .int .u8, .int .u8]⟩
      (.node 152 ⟨.func, 1, 8, [.nilFunc], []⟩
       (.node 151 ⟨.func, 1, 8, [.nilFunc], []⟩
        (.node 150 ⟨.func, 1, 8, [.nilFunc], []⟩
         (.nil)
         (.nil))
        (.nil))
       (.node 153 ⟨.array 20 105, 20, 160, [.int .u64 0, .int .u64 0, .int .u64 0, .int .u64 0, .int .u64 0, .int .u64 0, .int .u64 0, .int .u64 0, .int .u64 0, .int .u64 0, .int .u64 0, .int .u64 0, .int .u64 0, .int .u64 0, .int .u64 0, .int .u64 0, .int .u64 0, .int .u64 0, .int .u64 0, .int .u64 0], [.int .u64, .int .u64, .int .u64, .int .u64, .int .u64, .int .u64, .int .u64, .int .u64, .int .u64, .int .u64, .int .u64, .int .u64, .int .u64, .int .u64, .int .u64, .int .u64, .int .u64, .int .u64, .int .u64, .int .u64]⟩
        (.nil)
        (.nil)))
      (.node 156 ⟨.func, 1, 8, [.nilFunc], []⟩
       (.node 155 ⟨.int .u64, 1, 8, [.int .u64 0], []⟩
        (.nil)
        (.nil))
       (.node 157 ⟨.func, 1, 8, [.nilFunc], []⟩
        (.nil)
        (.nil)))))
    (.node 168 ⟨.struct [(0, 167)], 0, 0, [], []⟩
     (.node 163 ⟨.array 32 5, 32, 32, [.int .u8 0, .int .u8 0, .int .u8 0, .int .u8 0, .int .u8 0, .int .u8 0, .int .u8 0, .int .u8 0, .int .u8 0, .int .u8 0, .int .u8 0, .int .u8 0, .int .u8 0, .int .u8 0, .int .u8 0, .int .u8 0, .int .u8 0, .int .u8 0, .int .u8 0, .int .u8 0, .int .u8 0, .int .u8 0, .int .u8 0, .int .u8 0, .int .u8 0, .int .u8 0, .int .u8 0, .int .u8 0, .int .u8 0, .int .u8 0, .int .u8 0, .int .u8 0], [.int .u8, .int .u8, .int .u8, .int .u8, .int .u8, .int .u8, .int .u8, .int .u8, .int .u8, .int .u8, .int .u8, .int .u8, .int .u8, .int .u8, .int .u8, .int .u8, .int .u8, .int .u8, .int .u8, .int .u8, .int .u8, .int .u8, .int .u8, .int .u8, .int .u8, .int .u8, .int .u8, .int .u8, .int .u8, .int .u8, .int .u8, .int .u8]⟩
      (.node 161 ⟨.ptr, 1, 8, [.nilPtr], []⟩
       (.node 160 ⟨.func, 1, 8, [.nilFunc], []⟩
        (.node 159 ⟨.ptr, 1, 8, [.nilPtr], []⟩
         (.nil)
         (.nil))
        (.nil))
       (.node 162 ⟨.func, 1, 8, [.nilFunc], []⟩
        (.nil)
        (.nil)))
      (.node 166 ⟨.struct [(0, 17), (1, 17), (2, 17), (3, 9)], 4, 40, [.nilPtr, .nilPtr, .nilPtr, .str []], []⟩
       (.node 165 ⟨.struct [(0, 17), (1, 17), (2, 17), (3, 9)], 4, 40, [.nilPtr, .nilPtr, .nilPtr, .str []], []⟩
        (.node 164 ⟨.array 64 5, 64, 64, [.int .u8 0, .int .u8 0, .int .u8 0, .int .u8 0, .int .u8 0, .int .u8 0, .int .u8 0, .int .u8 0, .int .u8 0, .int .u8 0, .int .u8 0, .int .u8 0, .int .u8 0, .int .u8 0, .int .u8 0, .int .u8 0, .int .u8 0, .int .u8 0, .int .u8 0, .int .u8 0, .int .u8 0, .int .u8 0, .int .u8 0, .int .u8 0, .int .u8 0, .int .u8 0, .int .u8 0, .int .u8 0, .int .u8 0, .int .u8 0, .int .u8 0, .int .u8 0, .int .u8 0, .int .u8 0, .int .u8 0, .int .u8 0, .int .u8 0, .int .u8 0, .int .u8 0, .int .u8 0, .int .u8 0, .int .u8 0, .int .u8 0, .int .u8 0, .int .u8 0, .int .u8 0, .int .u8 0, .int .u8 0, .int .u8 0, .int .u8 0, .int .u8 0, .int .u8 0, .int .u8 0, .int .u8 0, .int .u8 0, .int .u8 0, .int .u8 0, .int .u8 0, .int .u8 0, .int .u8 0, .int .u8 0, .int .u8 0, .int .u8 0, .int .u8 0], [.int .u8, .int .u8, .int .u8, .int .u8, .int .u8, .int .u8, .int .u8, .int .u8, .int .u8, .int .u8, .int .u8, .int .u8, .int .u8, .int .u8, .int .u8, .int .u8, .int .u8, .int .u8, .int .u8, .int .u8, .int .u8, .int .u8, .int .u8, .int .u8, .int .u8, .int .u8, .int .u8, .int .u8, .int .u8, .int .u8, .int .u8, .int .u8, .int .u8, .int .u8, .int .u8, .int .u8, .int .u8, .int .u8, .int .u8, .int .u8, .int .u8, .int .u8, .int .u8, .int .u8, .int .u8, .int .u8, .int .u8, .int .u8, .int .u8, .int .u8, .int .u8, .int .u8, .int .u8, .int .u8, .int .u8, .int .u8, .int .u8, .int .u8, .int .u8, .int .u8, .int .u8, .int .u8, .int .u8, .int .u8]⟩
         (.nil)
         (.nil))
        (.nil))
       (.node 167 ⟨.array 0 16, 0, 0, [], []⟩
        (.nil)
        (.nil))))
     (.node 173 ⟨.int .i32, 1, 4, [.int .i32 0], []⟩
      (.node 171 ⟨.int .u8, 1, 1, [.int .u8 0], []⟩
       (.node 170 ⟨.int .u8, 1, 1, [.int .u8 0], []⟩
        (.node 169 ⟨.struct [(0, 167)], 0, 0, [], []⟩
         (.nil)
         (.nil))
        (.nil))
       (.node 172 ⟨.func, 1, 8, [.nilFunc], []⟩
        (.nil)
        (.nil)))
      (.node 175 ⟨.struct [(0, 12), (1, 12), (2, 112), (3, 170), (4, 5), (5, 5), (6, 171), (7, 172), (8, 117), (9, 173), (10, 174)], 11, 48, [.int .u64 0, .int .u64 0, .int .u32 0, .int .u8 0, .int .u8 0, .int .u8 0, .int .u8 0, .nilFunc, .nilPtr, .int .i32 0, .int .i32 0], []⟩
       (.node 174 ⟨.int .i32, 1, 4, [.int .i32 0], []⟩
        (.nil)
        (.nil))
       (.node 176 ⟨.struct [(0, 12), (1, 12), (2, 112), (3, 170), (4, 5), (5, 5), (6, 171), (7, 172), (8, 117), (9, 173), (10, 174)], 11, 48, [.int .u64 0, .int .u64 0, .int .u32 0, .int .u8 0, .int .u8 0, .int .u8 0, .int .u8 0, .nilFunc, .nilPtr, .int .i32 0, .int .i32 0], []⟩
        (.nil)
        (.nil)))))))

def Y (t : TypeId) : Option Ty := tys.get t
theorem env : Env Tryz.prog Y := ⟨fun t y h => Tree.all_get (p := tyOk Tryz.prog) (by kernel_rfl) h⟩
theorem mixed : Tryz.prog.follows .mixedOrders = true := by kernel_rfl
@[simp] theorem Y_1 : Y 1 = some ⟨.func, 1, 8, [.nilFunc], []⟩ := rfl
@[simp] theorem Y_2 : Y 2 = some ⟨.int .i64, 1, 8, [.int .i64 0], []⟩ := rfl
@[simp] theorem Y_3 : Y 3 = some ⟨.int .i64, 1, 8, [.int .i64 0], []⟩ := rfl
@[simp] theorem Y_4 : Y 4 = some ⟨.bool, 1, 1, [.bool false], []⟩ := rfl
@[simp] theorem Y_5 : Y 5 = some ⟨.int .u8, 1, 1, [.int .u8 0], []⟩ := rfl
@[simp] theorem Y_6 : Y 6 = some ⟨.int .u8, 1, 1, [.int .u8 0], []⟩ := rfl
@[simp] theorem Y_7 : Y 7 = some ⟨.struct [(0, 2), (1, 3), (2, 4), (3, 6)], 4, 24, [.int .i64 0, .int .i64 0, .bool false, .int .u8 0], [.int .i64, .int .i64, .bool, .int .u8]⟩ := rfl
@[simp] theorem Y_8 : Y 8 = some ⟨.struct [(0, 2), (1, 3), (2, 4), (3, 6)], 4, 24, [.int .i64 0, .int .i64 0, .bool false, .int .u8 0], [.int .i64, .int .i64, .bool, .int .u8]⟩ := rfl
@[simp] theorem Y_9 : Y 9 = some ⟨.str, 1, 16, [.str []], []⟩ := rfl
@[simp] theorem Y_10 : Y 10 = some ⟨.str, 1, 16, [.str []], []⟩ := rfl
@[simp] theorem Y_11 : Y 11 = some ⟨.str, 1, 16, [.str []], []⟩ := rfl
@[simp] theorem Y_12 : Y 12 = some ⟨.int .u64, 1, 8, [.int .u64 0], []⟩ := rfl
@[simp] theorem Y_15 : Y 15 = some ⟨.ptr, 1, 8, [.nilPtr], []⟩ := rfl
@[simp] theorem Y_16 : Y 16 = some ⟨.ptr, 1, 8, [.nilPtr], []⟩ := rfl
@[simp] theorem Y_17 : Y 17 = some ⟨.ptr, 1, 8, [.nilPtr], []⟩ := rfl
@[simp] theorem Y_18 : Y 18 = some ⟨.struct [(0, 17)], 1, 8, [.nilPtr], []⟩ := rfl
@[simp] theorem Y_19 : Y 19 = some ⟨.struct [(0, 17)], 1, 8, [.nilPtr], []⟩ := rfl
@[simp] theorem Y_20 : Y 20 = some ⟨.iface, 1, 16, [.nilIface], []⟩ := rfl
@[simp] theorem Y_21 : Y 21 = some ⟨.int .i32, 1, 4, [.int .i32 0], []⟩ := rfl
@[simp] theorem Y_22 : Y 22 = some ⟨.struct [(0, 3), (1, 3)], 2, 16, [.int .i64 0, .int .i64 0], [.int .i64, .int .i64]⟩ := rfl
@[simp] theorem Y_23 : Y 23 = some ⟨.struct [(0, 3), (1, 3)], 2, 16, [.int .i64 0, .int .i64 0], [.int .i64, .int .i64]⟩ := rfl
@[simp] theorem Y_24 : Y 24 = some ⟨.int .i64, 1, 8, [.int .i64 0], []⟩ := rfl
@[simp] theorem Y_26 : Y 26 = some ⟨.func, 1, 8, [.nilFunc], []⟩ := rfl
@[simp] theorem Y_27 : Y 27 = some ⟨.func, 1, 8, [.nilFunc], []⟩ := rfl
@[simp] theorem Y_28 : Y 28 = some ⟨.func, 1, 8, [.nilFunc], []⟩ := rfl
@[simp] theorem Y_30 : Y 30 = some ⟨.func, 1, 8, [.nilFunc], []⟩ := rfl
@[simp] theorem Y_31 : Y 31 = some ⟨.func, 1, 8, [.nilFunc], []⟩ := rfl
@[simp] theorem Y_32 : Y 32 = some ⟨.func, 1, 8, [.nilFunc], []⟩ := rfl
@[simp] theorem Y_34 : Y 34 = some ⟨.func, 1, 8, [.nilFunc], []⟩ := rfl
@[simp] theorem Y_35 : Y 35 = some ⟨.func, 1, 8, [.nilFunc], []⟩ := rfl
@[simp] theorem Y_36 : Y 36 = some ⟨.iface, 1, 16, [.nilIface], []⟩ := rfl
@[simp] theorem Y_37 : Y 37 = some ⟨.iface, 1, 16, [.nilIface], []⟩ := rfl
@[simp] theorem Y_39 : Y 39 = some ⟨.func, 1, 8, [.nilFunc], []⟩ := rfl
@[simp] theorem Y_40 : Y 40 = some ⟨.func, 1, 8, [.nilFunc], []⟩ := rfl
@[simp] theorem Y_41 : Y 41 = some ⟨.func, 1, 8, [.nilFunc], []⟩ := rfl
@[simp] theorem Y_42 : Y 42 = some ⟨.func, 1, 8, [.nilFunc], []⟩ := rfl
@[simp] theorem Y_43 : Y 43 = some ⟨.func, 1, 8, [.nilFunc], []⟩ := rfl
@[simp] theorem Y_44 : Y 44 = some ⟨.func, 1, 8, [.nilFunc], []⟩ := rfl
@[simp] theorem Y_45 : Y 45 = some ⟨.struct [(0, 3), (1, 3), (2, 3)], 3, 24, [.int .i64 0, .int .i64 0, .int .i64 0], [.int .i64, .int .i64, .int .i64]⟩ := rfl
@[simp] theorem Y_46 : Y 46 = some ⟨.struct [(0, 3), (1, 3), (2, 3)], 3, 24, [.int .i64 0, .int .i64 0, .int .i64 0], [.int .i64, .int .i64, .int .i64]⟩ := rfl
@[simp] theorem Y_48 : Y 48 = some ⟨.func, 1, 8, [.nilFunc], []⟩ := rfl
@[simp] theorem Y_50 : Y 50 = some ⟨.func, 1, 8, [.nilFunc], []⟩ := rfl
@[simp] theorem Y_51 : Y 51 = some ⟨.array 5 9, 5, 80, [.str [], .str [], .str [], .str [], .str []], [.str, .str, .str, .str, .str]⟩ := rfl
@[simp] theorem Y_52 : Y 52 = some ⟨.func, 1, 8, [.nilFunc], []⟩ := rfl
@[simp] theorem Y_53 : Y 53 = some ⟨.slice 9, 1, 24, [.nilSlice], []⟩ := rfl
@[simp] theorem Y_54 : Y 54 = some ⟨.func, 1, 8, [.nilFunc], []⟩ := rfl
@[simp] theorem Y_55 : Y 55 = some ⟨.array 256 4, 256, 256, [.bool false, .bool false, .bool false, .bool false, .bool false, .bool false, .bool false, .bool false, .bool false, .bool false, .bool false, .bool false, .bool false, .bool false, .bool false, .bool false, .bool false, .bool false, .bool false, .bool false, .bool false, .bool false, .bool false, .bool false, .bool false, .bool false, .bool false, .bool false, .bool false, .bool false, .bool false, .bool false, .bool false, .bool false, .bool false, .bool false, .bool false, .bool false, .bool false, .bool false, .bool false, .bool false, .bool false, .bool false, .bool false, .bool false, .bool false, .bool false, .bool false, .bool false, .bool false, .bool false, .bool false, .bool false, .bool false, .bool false, .bool false, .bool false, .bool false, .bool false, .bool false, .bool false, .bool false, .bool false, .bool false, .bool false, .bool false, .bool false, .bool false, .bool false, .bool false, .bool false, .bool false, .bool false, .bool false, .bool false, .bool false, .bool false, .bool false, .bool false, .bool false, .bool false, .bool false, .bool false, .bool false, .bool false, .bool false, .bool false, .bool false, .bool false, .bool false, .bool false, .bool false, .bool false, .bool false, .bool false, .bool false, .bool false, .bool false, .bool false, .bool false, .bool false, .bool false, .bool false, .bool false, .bool false, .bool false, .bool false, .bool false, .bool false, .bool false, .bool false, .bool false, .bool false, .bool false, .bool false, .bool false, .bool false, .bool false, .bool false, .bool false, .bool false, .bool false, .bool false, .bool false, .bool false, .bool false, .bool false, .bool false, .bool false, .bool false, .bool false, .bool false, .bool false, .bool false, .bool false, .bool false, .bool false, .bool false, .bool false, .bool false, .bool false, .bool false, .bool false, .bool false, .bool false, .bool false, .bool false, .bool false, .bool false, .bool false, .bool false, .bool false, .bool false, .bool false, .bool false, .bool false, .bool false, .bool false, .bool false, .bool false, .bool false, .bool false, .bool false, .bool false, .bool false, .bool false, .bool false, .bool false, .bool false, .bool false, .bool false, .bool false, .bool false, .bool false, .bool false, .bool false, .bool false, .bool false, .bool false, .bool false, .bool false, .bool false, .bool false, .bool false, .bool false, .bool false, .bool false, .bool false, .bool false, .bool false, .bool false, .bool false, .bool false, .bool false, .bool false, .bool false, .bool false, .bool false, .bool false, .bool false, .bool false, .bool false, .bool false, .bool false, .bool false, .bool false, .bool false, .bool false, .bool false, .bool false, .bool false, .bool false, .bool false, .bool false, .bool false, .bool false, .bool false, .bool false, .bool false, .bool false, .bool false, .bool false, .bool false, .bool false, .bool false, .bool false, .bool false, .bool false, .bool false, .bool false, .bool false, .bool false, .bool false, .bool false, .bool false, .bool false, .bool false, .bool false, .bool false, .bool false, .bool false, .bool false, .bool false, .bool false, .bool false, .bool false, .bool false, .bool false, .bool false, .bool false, .bool false, .bool false, .bool false, .bool false, .bool false], [.bool, .bool, .bool, .bool, .bool, .bool, .bool, .bool, .bool, .bool, .bool, .bool, .bool, .bool, .bool, .bool, .bool, .bool, .bool, .bool, .bool, .bool, .bool, .bool, .bool, .bool, .bool, .bool, .bool, .bool, .bool, .bool, .bool, .bool, .bool, .bool, .bool, .bool, .bool, .bool, .bool, .bool, .bool, .bool, .bool, .bool, .bool, .bool, .bool, .bool, .bool, .bool, .bool, .bool, .bool, .bool, .bool, .bool, .bool, .bool, .bool, .bool, .bool, .bool, .bool, .bool, .bool, .bool, .bool, .bool, .bool, .bool, .bool, .bool, .bool, .bool, .bool, .bool, .bool, .bool, .bool, .bool, .bool, .bool, .bool, .bool, .bool, .bool, .bool, .bool, .bool, .bool, .bool, .bool, .bool, .bool, .bool, .bool, .bool, .bool, .bool, .bool, .bool, .bool, .bool, .bool, .bool, .bool, .bool, .bool, .bool, .bool, .bool, .bool, .bool, .bool, .bool, .bool, .bool, .bool, .bool, .bool, .bool, .bool, .bool, .bool, .bool, .bool, .bool, .bool, .bool, .bool, .bool, .bool, .bool, .bool, .bool, .bool, .bool, .bool, .bool, .bool, .bool, .bool, .bool, .bool, .bool, .bool, .bool, .bool, .bool, .bool, .bool, .bool, .bool, .bool, .bool, .bool, .bool, .bool, .bool, .bool, .bool, .bool, .bool, .bool, .bool, .bool, .bool, .bool, .bool, .bool, .bool, .bool, .bool, .bool, .bool, .bool, .bool, .bool, .bool, .bool, .bool, .bool, .bool, .bool, .bool, .bool, .bool, .bool, .bool, .bool, .bool, .bool, .bool, .bool, .bool, .bool, .bool, .bool, .bool, .bool, .bool, .bool, .bool, .bool, .bool, .bool, .bool, .bool, .bool, .bool, .bool, .bool, .bool, .bool, .bool, .bool, .bool, .bool, .bool, .bool, .bool, .bool, .bool, .bool, .bool, .bool, .bool, .bool, .bool, .bool, .bool, .bool, .bool, .bool, .bool, .bool, .bool, .bool, .bool, .bool, .bool, .bool, .bool, .bool, .bool, .bool, .bool, .bool, .bool, .bool, .bool, .bool, .bool, .bool]⟩ := rfl
@[simp] theorem Y_56 : Y 56 = some ⟨.array 256 4, 256, 256, [.bool false, .bool false, .bool false, .bool false, .bool false, .bool false, .bool false, .bool false, .bool false, .bool false, .bool false, .bool false, .bool false, .bool false, .bool false, .bool false, .bool false, .bool false, .bool false, .bool false, .bool false, .bool false, .bool false, .bool false, .bool false, .bool false, .bool false, .bool false, .bool false, .bool false, .bool false, .bool false, .bool false, .bool false, .bool false, .bool false, .bool false, .bool false, .bool false, .bool false, .bool false, .bool false, .bool false, .bool false, .bool false, .bool false, .bool false, .bool false, .bool false, .bool false, .bool false, .bool false, .bool false, .bool false, .bool false, .bool false, .bool false, .bool false, .bool false, .bool false, .bool false, .bool false, .bool false, .bool false, .bool false, .bool false, .bool false, .bool false, .bool false, .bool false, .bool false, .bool false, .bool false, .bool false, .bool false, .bool false, .bool false, .bool false, .bool false, .bool false, .bool false, .bool false, .bool false, .bool false, .bool false, .bool false, .bool false, .bool false, .bool false, .bool false, .bool false, .bool false, .bool false, .bool false, .bool false, .bool false, .bool false, .bool false, .bool false, .bool false, .bool false, .bool false, .bool false, .bool false, .bool false, .bool false, .bool false, .bool false, .bool false, .bool false, .bool false, .bool false, .bool false, .bool false, .bool false, .bool false, .bool false, .bool false, .bool false, .bool false, .bool false, .bool false, .bool false, .bool false, .bool false, .bool false, .bool false, .bool false, .bool false, .bool false, .bool false, .bool false, .bool false, .bool false, .bool false, .bool false, .bool false, .bool false, .bool false, .bool false, .bool false, .bool false, .bool false, .bool false, .bool false, .bool false, .bool false, .bool false, .bool false, .bool false, .bool false, .bool false, .bool false, .bool false, .bool false, .bool false, .bool false, .bool false, .bool false, .bool false, .bool false, .bool false, .bool false, .bool false, .bool false, .bool false, .bool false, .bool false, .bool false, .bool false, .bool false, .bool false, .bool false, .bool false, .bool false, .bool false, .bool false, .bool false, .bool false, .bool false, .bool false, .bool false, .bool false, .bool false, .bool false, .bool false, .bool false, .bool false, .bool false, .bool false, .bool false, .bool false, .bool false, .bool false, .bool false, .bool false, .bool false, .bool false, .bool false, .bool false, .bool false, .bool false, .bool false, .bool false, .bool false, .bool false, .bool false, .bool false, .bool false, .bool false, .bool false, .bool false, .bool false, .bool false, .bool false, .bool false, .bool false, .bool false, .bool false, .bool false, .bool false, .bool false, .bool false, .bool false, .bool false, .bool false, .bool false, .bool false, .bool false, .bool false, .bool false, .bool false, .bool false, .bool false, .bool false, .bool false, .bool false, .bool false, .bool false, .bool false, .bool false, .bool false, .bool false, .bool false, .bool false, .bool false, .bool false, .bool false, .bool false, .bool false, .bool false, .bool false, .bool false, .bool false, .bool false, .bool false], [.bool, .bool, .bool, .bool, .bool, .bool, .bool, .bool, .bool, .bool, .bool, .bool, .bool, .bool, .bool, .bool, .bool, .bool, .bool, .bool, .bool, .bool, .bool, .bool, .bool, .bool, .bool, .bool, .bool, .bool, .bool, .bool, .bool, .bool, .bool, .bool, .bool, .bool, .bool, .bool, .bool, .bool, .bool, .bool, .bool, .bool, .bool, .bool, .bool, .bool, .bool, .bool, .bool, .bool, .bool, .bool, .bool, .bool, .bool, .bool, .bool, .bool, .bool, .bool, .bool, .bool, .bool, .bool, .bool, .bool, .bool, .bool, .bool, .bool, .bool, .bool, .bool, .bool, .bool, .bool, .bool, .bool, .bool, .bool, .bool, .bool, .bool, .bool, .bool, .bool, .bool, .bool, .bool, .bool, .bool, .bool, .bool, .bool, .bool, .bool, .bool, .bool, .bool, .bool, .bool, .bool, .bool, .bool, .bool, .bool, .bool, .bool, .bool, .bool, .bool, .bool, .bool, .bool, .bool, .bool, .bool, .bool, .bool, .bool, .bool, .bool, .bool, .bool, .bool, .bool, .bool, .bool, .bool, .bool, .bool, .bool, .bool, .bool, .bool, .bool, .bool, .bool, .bool, .bool, .bool, .bool, .bool, .bool, .bool, .bool, .bool, .bool, .bool, .bool, .bool, .bool, .bool, .bool, .bool, .bool, .bool, .bool, .bool, .bool, .bool, .bool, .bool, .bool, .bool, .bool, .bool, .bool, .bool, .bool, .bool, .bool, .bool, .bool, .bool, .bool, .bool, .bool, .bool, .bool, .bool, .bool, .bool, .bool, .bool, .bool, .bool, .bool, .bool, .bool, .bool, .bool, .bool, .bool, .bool, .bool, .bool, .bool, .bool, .bool, .bool, .bool, .bool, .bool, .bool, .bool, .bool, .bool, .bool, .bool, .bool, .bool, .bool, .bool, .bool, .bool, .bool, .bool, .bool, .bool, .bool, .bool, .bool, .bool, .bool, .bool, .bool, .bool, .bool, .bool, .bool, .bool, .bool, .bool, .bool, .bool, .bool, .bool, .bool, .bool, .bool, .bool, .bool, .bool, .bool, .bool, .bool, .bool, .bool, .bool, .bool, .bool]⟩ := rfl
@[simp] theorem Y_58 : Y 58 = some ⟨.func, 1, 8, [.nilFunc], []⟩ := rfl
@[simp] theorem Y_59 : Y 59 = some ⟨.func, 1, 8, [.nilFunc], []⟩ := rfl
@[simp] theorem Y_60 : Y 60 = some ⟨.ptr, 1, 8, [.nilPtr], []⟩ := rfl
@[simp] theorem Y_61 : Y 61 = some ⟨.func, 1, 8, [.nilFunc], []⟩ := rfl
@[simp] theorem Y_62 : Y 62 = some ⟨.array 7 3, 7, 56, [.int .i64 0, .int .i64 0, .int .i64 0, .int .i64 0, .int .i64 0, .int .i64 0, .int .i64 0], [.int .i64, .int .i64, .int .i64, .int .i64, .int .i64, .int .i64, .int .i64]⟩ := rfl
@[simp] theorem Y_63 : Y 63 = some ⟨.func, 1, 8, [.nilFunc], []⟩ := rfl
@[simp] theorem Y_64 : Y 64 = some ⟨.slice 3, 1, 24, [.nilSlice], []⟩ := rfl
@[simp] theorem Y_65 : Y 65 = some ⟨.func, 1, 8, [.nilFunc], []⟩ := rfl
@[simp] theorem Y_67 : Y 67 = some ⟨.func, 1, 8, [.nilFunc], []⟩ := rfl
@[simp] theorem Y_68 : Y 68 = some ⟨.func, 1, 8, [.nilFunc], []⟩ := rfl
@[simp] theorem Y_69 : Y 69 = some ⟨.slice 46, 1, 24, [.nilSlice], []⟩ := rfl
@[simp] theorem Y_71 : Y 71 = some ⟨.func, 1, 8, [.nilFunc], []⟩ := rfl
@[simp] theorem Y_72 : Y 72 = some ⟨.func, 1, 8, [.nilFunc], []⟩ := rfl
@[simp] theorem Y_73 : Y 73 = some ⟨.func, 1, 8, [.nilFunc], []⟩ := rfl
@[simp] theorem Y_74 : Y 74 = some ⟨.func, 1, 8, [.nilFunc], []⟩ := rfl
@[simp] theorem Y_75 : Y 75 = some ⟨.func, 1, 8, [.nilFunc], []⟩ := rfl
@[simp] theorem Y_76 : Y 76 = some ⟨.array 2 75, 2, 16, [.nilFunc, .nilFunc], []⟩ := rfl
@[simp] theorem Y_77 : Y 77 = some ⟨.array 8 9, 8, 128, [.str [], .str [], .str [], .str [], .str [], .str [], .str [], .str []], [.str, .str, .str, .str, .str, .str, .str, .str]⟩ := rfl
@[simp] theorem Y_78 : Y 78 = some ⟨.array 10 9, 10, 160, [.str [], .str [], .str [], .str [], .str [], .str [], .str [], .str [], .str [], .str []], [.str, .str, .str, .str, .str, .str, .str, .str, .str, .str]⟩ := rfl
@[simp] theorem Y_79 : Y 79 = some ⟨.slice 5, 1, 24, [.nilSlice], []⟩ := rfl
@[simp] theorem Y_80 : Y 80 = some ⟨.func, 1, 8, [.nilFunc], []⟩ := rfl
@[simp] theorem Y_81 : Y 81 = some ⟨.func, 1, 8, [.nilFunc], []⟩ := rfl
@[simp] theorem Y_83 : Y 83 = some ⟨.func, 1, 8, [.nilFunc], []⟩ := rfl
@[simp] theorem Y_84 : Y 84 = some ⟨.func, 1, 8, [.nilFunc], []⟩ := rfl
@[simp] theorem Y_85 : Y 85 = some ⟨.int .i64, 1, 8, [.int .i64 0], []⟩ := rfl
@[simp] theorem Y_87 : Y 87 = some ⟨.func, 1, 8, [.nilFunc], []⟩ := rfl
@[simp] theorem Y_88 : Y 88 = some ⟨.ptr, 1, 8, [.nilPtr], []⟩ := rfl
@[simp] theorem Y_89 : Y 89 = some ⟨.func, 1, 8, [.nilFunc], []⟩ := rfl
@[simp] theorem Y_90 : Y 90 = some ⟨.func, 1, 8, [.nilFunc], []⟩ := rfl
@[simp] theorem Y_91 : Y 91 = some ⟨.func, 1, 8, [.nilFunc], []⟩ := rfl
@[simp] theorem Y_92 : Y 92 = some ⟨.int .u64, 1, 8, [.int .u64 0], []⟩ := rfl
@[simp] theorem Y_94 : Y 94 = some ⟨.func, 1, 8, [.nilFunc], []⟩ := rfl
@[simp] theorem Y_95 : Y 95 = some ⟨.ptr, 1, 8, [.nilPtr], []⟩ := rfl
@[simp] theorem Y_96 : Y 96 = some ⟨.struct [(0, 95), (1, 79)], 2, 32, [.nilPtr, .nilSlice], []⟩ := rfl
@[simp] theorem Y_97 : Y 97 = some ⟨.struct [(0, 95), (1, 79)], 2, 32, [.nilPtr, .nilSlice], []⟩ := rfl
@[simp] theorem Y_98 : Y 98 = some ⟨.func, 1, 8, [.nilFunc], []⟩ := rfl
@[simp] theorem Y_99 : Y 99 = some ⟨.func, 1, 8, [.nilFunc], []⟩ := rfl
@[simp] theorem Y_100 : Y 100 = some ⟨.func, 1, 8, [.nilFunc], []⟩ := rfl
@[simp] theorem Y_102 : Y 102 = some ⟨.func, 1, 8, [.nilFunc], []⟩ := rfl
@[simp] theorem Y_103 : Y 103 = some ⟨.func, 1, 8, [.nilFunc], []⟩ := rfl
@[simp] theorem Y_104 : Y 104 = some ⟨.func, 1, 8, [.nilFunc], []⟩ := rfl
@[simp] theorem Y_105 : Y 105 = some ⟨.int .u64, 1, 8, [.int .u64 0], []⟩ := rfl
@[simp] theorem Y_107 : Y 107 = some ⟨.func, 1, 8, [.nilFunc], []⟩ := rfl
@[simp] theorem Y_108 : Y 108 = some ⟨.func, 1, 8, [.nilFunc], []⟩ := rfl
@[simp] theorem Y_109 : Y 109 = some ⟨.struct [(0, 9), (1, 9), (2, 37)], 3, 48, [.str [], .str [], .nilIface], []⟩ := rfl
@[simp] theorem Y_110 : Y 110 = some ⟨.struct [(0, 9), (1, 9), (2, 37)], 3, 48, [.str [], .str [], .nilIface], []⟩ := rfl
@[simp] theorem Y_111 : Y 111 = some ⟨.func, 1, 8, [.nilFunc], []⟩ := rfl
@[simp] theorem Y_112 : Y 112 = some ⟨.int .u32, 1, 4, [.int .u32 0], []⟩ := rfl
@[simp] theorem Y_114 : Y 114 = some ⟨.func, 1, 8, [.nilFunc], []⟩ := rfl
@[simp] theorem Y_116 : Y 116 = some ⟨.func, 1, 8, [.nilFunc], []⟩ := rfl
@[simp] theorem Y_117 : Y 117 = some ⟨.ptr, 1, 8, [.nilPtr], []⟩ := rfl
@[simp] theorem Y_118 : Y 118 = some ⟨.func, 1, 8, [.nilFunc], []⟩ := rfl
@[simp] theorem Y_119 : Y 119 = some ⟨.func, 1, 8, [.nilFunc], []⟩ := rfl
@[simp] theorem Y_120 : Y 120 = some ⟨.func, 1, 8, [.nilFunc], []⟩ := rfl
@[simp] theorem Y_121 : Y 121 = some ⟨.func, 1, 8, [.nilFunc], []⟩ := rfl
@[simp] theorem Y_122 : Y 122 = some ⟨.func, 1, 8, [.nilFunc], []⟩ := rfl
@[simp] theorem Y_123 : Y 123 = some ⟨.func, 1, 8, [.nilFunc], []⟩ := rfl
@[simp] theorem Y_124 : Y 124 = some ⟨.array 256 5, 256, 256, [.int .u8 0, .int .u8 0, .int .u8 0, .int .u8 0, .int .u8 0, .int .u8 0, .int .u8 0, .int .u8 0, .int .u8 0, .int .u8 0, .int .u8 0, .int .u8 0, .int .u8 0, .int .u8 0, .int .u8 0, .int .u8 0, .int .u8 0, .int .u8 0, .int .u8 0, .int .u8 0, .int .u8 0, .int .u8 0, .int .u8 0, .int .u8 0, .int .u8 0, .int .u8 0, .int .u8 0, .int .u8 0, .int .u8 0, .int .u8 0, .int .u8 0, .int .u8 0, .int .u8 0, .int .u8 0, .int .u8 0, .int .u8 0, .int .u8 0, .int .u8 0, .int .u8 0, .int .u8 0, .int .u8 0, .int .u8 0, .int .u8 0, .int .u8 0, .int .u8 0, .int .u8 0, .int .u8 0, .int .u8 0, .int .u8 0, .int .u8 0, .int .u8 0, .int .u8 0, .int .u8 0, .int .u8 0, .int .u8 0, .int .u8 0, .int .u8 0, .int .u8 0, .int .u8 0, .int .u8 0, .int .u8 0, .int .u8 0, .int .u8 0, .int .u8 0, .int .u8 0, .int .u8 0, .int .u8 0, .int .u8 0, .int .u8 0, .int .u8 0, .int .u8 0, .int .u8 0, .int .u8 0, .int .u8 0, .int .u8 0, .int .u8 0, .int .u8 0, .int .u8 0, .int .u8 0, .int .u8 0, .int .u8 0, .int .u8 0, .int .u8 0, .int .u8 0, .int .u8 0, .int .u8 0, .int .u8 0, .int .u8 0, .int .u8 0, .int .u8 0, .int .u8 0, .int .u8 0, .int .u8 0, .int .u8 0, .int .u8 0, .int .u8 0, .int .u8 0, .int .u8 0, .int .u8 0, .int .u8 0, .int .u8 0, .int .u8 0, .int .u8 0, .int .u8 0, .int .u8 0, .int .u8 0, .int .u8 0, .int .u8 0, .int .u8 0, .int .u8 0, .int .u8 0, .int .u8 0, .int .u8 0, .int .u8 0, .int .u8 0, .int .u8 0, .int .u8 0, .int .u8 0, .int .u8 0, .int .u8 0, .int .u8 0, .int .u8 0, .int .u8 0, .int .u8 0, .int .u8 0, .int .u8 0, .int .u8 0, .int .u8 0, .int .u8 0, .int .u8 0, .int .u8 0, .int .u8 0, .int .u8 0, .int .u8 0, .int .u8 0, .int .u8 0, .int .u8 0, .int .u8 0, .int .u8 0, .int .u8 0, .int .u8 0, .int .u8 0, .int .u8 0, .int .u8 0, .int .u8 0, .int .u8 0, .int .u8 0, .int .u8 0, .int .u8 0, .int .u8 0, .int .u8 0, .int .u8 0, .int .u8 0, .int .u8 0, .int .u8 0, .int .u8 0, .int .u8 0, .int .u8 0, .int .u8 0, .int .u8 0, .int .u8 0, .int .u8 0, .int .u8 0, .int .u8 0, .int .u8 0, .int .u8 0, .int .u8 0, .int .u8 0, .int .u8 0, .int .u8 0, .int .u8 0, .int .u8 0, .int .u8 0, .int .u8 0, .int .u8 0, .int .u8 0, .int .u8 0, .int .u8 0, .int .u8 0, .int .u8 0, .int .u8 0, .int .u8 0, .int .u8 0, .int .u8 0, .int .u8 0, .int .u8 0, .int .u8 0, .int .u8 0, .int .u8 0, .int .u8 0, .int .u8 0, .int .u8 0, .int .u8 0, .int .u8 0, .int .u8 0, .int .u8 0, .int .u8 0, .int .u8 0, .int .u8 0, .int .u8 0, .int .u8 0, .int .u8 0, .int .u8 0, .int .u8 0, .int .u8 0, .int .u8 0, .int .u8 0, .int .u8 0, .int .u8 0, .int .u8 0, .int .u8 0, .int .u8 0, .int .u8 0, .int .u8 0, .int .u8 0, .int .u8 0, .int .u8 0, .int .u8 0, .int .u8 0, .int .u8 0, .int .u8 0, .int .u8 0, .int .u8 0, .int .u8 0, .int .u8 0, .int .u8 0, .int .u8 0, .int .u8 0, .int .u8 0, .int .u8 0, .int .u8 0, .int .u8 0, .int .u8 0, .int .u8 0, .int .u8 0, .int .u8 0, .int .u8 0, .int .u8 0, .int .u8 0, .int .u8 0, .int .u8 0, .int .u8 0, .int .u8 0, .int .u8 0, .int .u8 0, .int .u8 0, .int .u8 0, .int .u8 0, .int .u8 0, .int .u8 0, .int .u8 0, .int .u8 0, .int .u8 0, .int .u8 0, .int .u8 0, .int .u8 0], [.int .u8, .int .u8, .int .u8, .int .u8, .int .u8, .int .u8, .int .u8, .int .u8, .int .u8, .int .u8, .int .u8, .int .u8, .int .u8, .int .u8, .int .u8, .int .u8, .int .u8, .int .u8, .int .u8, .int .u8, .int .u8, .int .u8, .int .u8, .int .u8, .int .u8, .int .u8, .int .u8, .int .u8, .int .u8, .int .u8, .int .u8, .int .u8, .int .u8, .int .u8, .int .u8, .int .u8, .int .u8, .int .u8, .int .u8, .int .u8, .int .u8, .int .u8, .int .u8, .int .u8, .int .u8, .int .u8, .int .u8, .int .u8, .int .u8, .int .u8, .int .u8, .int .u8, .int .u8, .int .u8, .int .u8, .int .u8, .int .u8, .int .u8, .int .u8, .int .u8, .int .u8, .int .u8, .int .u8, .int .u8, .int .u8, .int .u8, .int .u8, .int .u8, .int .u8, .int .u8, .int .u8, .int .u8, .int .u8, .int .u8, .int .u8, .int .u8, .int .u8, .int .u8, .int .u8, .int .u8, .int .u8, .int .u8, .int .u8, .int .u8, .int .u8, .int .u8, .int .u8, .int .u8, .int .u8, .int .u8, .int .u8, .int .u8, .int .u8, .int .u8, .int .u8, .int .u8, .int .u8, .int .u8, .int .u8, .int .u8, .int .u8, .int .u8, .int .u8, .int .u8, .int .u8, .int .u8, .int .u8, .int .u8, .int .u8, .int .u8, .int .u8, .int .u8, .int .u8, .int .u8, .int .u8, .int .u8, .int .u8, .int .u8, .int .u8, .int .u8, .int .u8, .int .u8, .int .u8, .int .u8, .int .u8, .int .u8, .int .u8, .int .u8, .int .u8, .int .u8, .int .u8, .int .u8, .int .u8, .int .u8, .int .u8, .int .u8, .int .u8, .int .u8, .int .u8, .int .u8, .int .u8, .int .u8, .int .u8, .int .u8, .int .u8, .int .u8, .int .u8, .int .u8, .int .u8, .int .u8, .int .u8, .int .u8, .int .u8, .int .u8, .int .u8, .int .u8, .int .u8, .int .u8, .int .u8, .int .u8, .int .u8, .int .u8, .int .u8, .int .u8, .int .u8, .int .u8, .int .u8, .int .u8, .int .u8, .int .u8, .int .u8, .int .u8, .int .u8, .int .u8, .int .u8, .int .u8, .int .u8, .int .u8, .int .u8, .int .u8, .int .u8, .int .u8, .int .u8, .int .u8, .int .u8, .int .u8, .int .u8, .int .u8, .int .u8, .int .u8, .int .u8, .int .u8, .int .u8, .int .u8, .int .u8, .int .u8, .int .u8, .int .u8, .int .u8, .int .u8, .int .u8, .int .u8, .int .u8, .int .u8, .int .u8, .int .u8, .int .u8, .int .u8, .int .u8, .int .u8, .int .u8, .int .u8, .int .u8, .int .u8, .int .u8, .int .u8, .int .u8, .int .u8, .int .u8, .int .u8, .int .u8, .int .u8, .int .u8, .int .u8, .int .u8, .int .u8, .int .u8, .int .u8, .int .u8, .int .u8, .int .u8, .int .u8, .int .u8, .int .u8, .int .u8, .int .u8, .int .u8, .int .u8, .int .u8, .int .u8, .int .u8, .int .u8, .int .u8, .int .u8, .int .u8, .int .u8, .int .u8, .int .u8, .int .u8, .int .u8, .int .u8, .int .u8, .int .u8, .int .u8, .int .u8, .int .u8]⟩ := rfl
@[simp] theorem Y_125 : Y 125 = some ⟨.struct [(0, 5), (1, 5)], 2, 2, [.int .u8 0, .int .u8 0], [.int .u8, .int .u8]⟩ := rfl
@[simp] theorem Y_126 : Y 126 = some ⟨.struct [(0, 5), (1, 5)], 2, 2, [.int .u8 0, .int .u8 0], [.int .u8, .int .u8]⟩ := rfl
@[simp] theorem Y_127 : Y 127 = some ⟨.array 16 126, 32, 32, [.int .u8 0, .int .u8 0, .int .u8 0, .int .u8 0, .int .u8 0, .int .u8 0, .int .u8 0, .int .u8 0, .int .u8 0, .int .u8 0, .int .u8 0, .int .u8 0, .int .u8 0, .int .u8 0, .int .u8 0, .int .u8 0, .int .u8 0, .int .u8 0, .int .u8 0, .int .u8 0, .int .u8 0, .int .u8 0, .int .u8 0, .int .u8 0, .int .u8 0, .int .u8 0, .int .u8 0, .int .u8 0, .int .u8 0, .int .u8 0, .int .u8 0, .int .u8 0], [.int .u8, .int .u8, .int .u8, .int .u8, .int .u8, .int .u8, .int .u8, .int .u8, .int .u8, .int .u8, .int .u8, .int .u8, .int .u8, .int .u8, .int .u8, .int .u8, .int .u8, .int .u8, .int .u8, .int .u8, .int .u8, .int .u8, .int .u8, .int .u8, .int .u8, .int .u8, .int .u8, .int .u8, .int .u8, .int .u8, .int .u8, .int .u8]⟩ := rfl
@[simp] theorem Y_128 : Y 128 = some ⟨.func, 1, 8, [.nilFunc], []⟩ := rfl
@[simp] theorem Y_129 : Y 129 = some ⟨.func, 1, 8, [.nilFunc], []⟩ := rfl
@[simp] theorem Y_130 : Y 130 = some ⟨.func, 1, 8, [.nilFunc], []⟩ := rfl
@[simp] theorem Y_131 : Y 131 = some ⟨.func, 1, 8, [.nilFunc], []⟩ := rfl
@[simp] theorem Y_132 : Y 132 = some ⟨.ptr, 1, 8, [.nilPtr], []⟩ := rfl
@[simp] theorem Y_133 : Y 133 = some ⟨.struct [(0, 9)], 1, 16, [.str []], [.str]⟩ := rfl
@[simp] theorem Y_134 : Y 134 = some ⟨.struct [(0, 9)], 1, 16, [.str []], [.str]⟩ := rfl
@[simp] theorem Y_136 : Y 136 = some ⟨.func, 1, 8, [.nilFunc], []⟩ := rfl
@[simp] theorem Y_137 : Y 137 = some ⟨.func, 1, 8, [.nilFunc], []⟩ := rfl
@[simp] theorem Y_138 : Y 138 = some ⟨.array 24 5, 24, 24, [.int .u8 0, .int .u8 0, .int .u8 0, .int .u8 0, .int .u8 0, .int .u8 0, .int .u8 0, .int .u8 0, .int .u8 0, .int .u8 0, .int .u8 0, .int .u8 0, .int .u8 0, .int .u8 0, .int .u8 0, .int .u8 0, .int .u8 0, .int .u8 0, .int .u8 0, .int .u8 0, .int .u8 0, .int .u8 0, .int .u8 0, .int .u8 0], [.int .u8, .int .u8, .int .u8, .int .u8, .int .u8, .int .u8, .int .u8, .int .u8, .int .u8, .int .u8, .int .u8, .int .u8, .int .u8, .int .u8, .int .u8, .int .u8, .int .u8, .int .u8, .int .u8, .int .u8, .int .u8, .int .u8, .int .u8, .int .u8]⟩ := rfl
@[simp] theorem Y_139 : Y 139 = some ⟨.func, 1, 8, [.nilFunc], []⟩ := rfl
@[simp] theorem Y_140 : Y 140 = some ⟨.func, 1, 8, [.nilFunc], []⟩ := rfl
@[simp] theorem Y_142 : Y 142 = some ⟨.func, 1, 8, [.nilFunc], []⟩ := rfl
@[simp] theorem Y_143 : Y 143 = some ⟨.func, 1, 8, [.nilFunc], []⟩ := rfl
@[simp] theorem Y_144 : Y 144 = some ⟨.int .i64, 1, 8, [.int .i64 0], []⟩ := rfl
@[simp] theorem Y_146 : Y 146 = some ⟨.func, 1, 8, [.nilFunc], []⟩ := rfl
@[simp] theorem Y_147 : Y 147 = some ⟨.func, 1, 8, [.nilFunc], []⟩ := rfl
@[simp] theorem Y_148 : Y 148 = some ⟨.func, 1, 8, [.nilFunc], []⟩ := rfl
@[simp] theorem Y_150 : Y 150 = some ⟨.func, 1, 8, [.nilFunc], []⟩ := rfl
@[simp] theorem Y_151 : Y 151 = some ⟨.func, 1, 8, [.nilFunc], []⟩ := rfl
@[simp] theorem Y_152 : Y 152 = some ⟨.func, 1, 8, [.nilFunc], []⟩ := rfl
@[simp] theorem Y_153 : Y 153 = some ⟨.array 20 105, 20, 160, [.int .u64 0, .int .u64 0, .int .u64 0, .int .u64 0, .int .u64 0, .int .u64 0, .int .u64 0, .int .u64 0, .int .u64 0, .int .u64 0, .int .u64 0, .int .u64 0, .int .u64 0, .int .u64 0, .int .u64 0, .int .u64 0, .int .u64 0, .int .u64 0, .int .u64 0, .int .u64 0], [.int .u64, .int .u64, .int .u64, .int .u64, .int .u64, .int .u64, .int .u64, .int .u64, .int .u64, .int .u64, .int .u64, .int .u64, .int .u64, .int .u64, .int .u64, .int .u64, .int .u64, .int .u64, .int .u64, .int .u64]⟩ := rfl
@[simp] theorem Y_154 : Y 154 = some ⟨.array 65 5, 65, 65, [.int .u8 0, .int .u8 0, .int .u8 0, .int .u8 0, .int .u8 0, .int .u8 0, .int .u8 0, .int .u8 0, .int .u8 0, .int .u8 0, .int .u8 0, .int .u8 0, .int .u8 0, .int .u8 0, .int .u8 0, .int .u8 0, .int .u8 0, .int .u8 0, .int .u8 0, .int .u8 0, .int .u8 0, .int .u8 0, .int .u8 0, .int .u8 0, .int .u8 0, .int .u8 0, .int .u8 0, .int .u8 0, .int .u8 0, .int .u8 0, .int .u8 0, .int .u8 0, .int .u8 0, .int .u8 0, .int .u8 0, .int .u8 0, .int .u8 0, .int .u8 0, .int .u8 0, .int .u8 0, .int .u8 0, .int .u8 0, .int .u8 0, .int .u8 0, .int .u8 0, .int .u8 0, .int .u8 0, .int .u8 0, .int .u8 0, .int .u8 0, .int .u8 0, .int .u8 0, .int .u8 0, .int .u8 0, .int .u8 0, .int .u8 0, .int .u8 0, .int .u8 0, .int .u8 0, .int .u8 0, .int .u8 0, .int .u8 0, .int .u8 0, .int .u8 0, .int .u8 0], [.int .u8, .int .u8, .int .u8, .int .u8, .int .u8, .int .u8, .int .u8, .int .u8, .int .u8, .int .u8, .int .u8, .int .u8, .int .u8, .int .u8, .int .u8, .int .u8, .int .u8, .int .u8, .int .u8, .int .u8, .int .u8, .int .u8, .int .u8, .int .u8, .int .u8, .int .u8, .int .u8, .int .u8, .int .u8, .int .u8, .int .u8, .int .u8, .int .u8, .int .u8, .int .u8, .int .u8, .int .u8, .int .u8, .int .u8, .int .u8, .int .u8, .int .u8, .int .u8, .int .u8, .int .u8, .int .u8, .int .u8, .int .u8, .int .u8, .int .u8, .int .u8, .int .u8, .int .u8, .int .u8, .int .u8, .int .u8, .int .u8, .int .u8, .int .u8, .int .u8, .int .u8, .int .u8, .int .u8, .int .u8, .int .u8]⟩ := rfl
@[simp] theorem Y_155 : Y 155 = some ⟨.int .u64, 1, 8, [.int .u64 0], []⟩ := rfl
@[simp] theorem Y_156 : Y 156 = some ⟨.func, 1, 8, [.nilFunc], []⟩ := rfl
@[simp] theorem Y_157 : Y 157 = some ⟨.func, 1, 8, [.nilFunc], []⟩ := rfl
@[simp] theorem Y_158 : Y 158 = some ⟨.func, 1, 8, [.nilFunc], []⟩ := rfl
@[simp] theorem Y_159 : Y 159 = some ⟨.ptr, 1, 8, [.nilPtr], []⟩ := rfl
@[simp] theorem Y_160 : Y 160 = some ⟨.func, 1, 8, [.nilFunc], []⟩ := rfl
@[simp] theorem Y_161 : Y 161 = some ⟨.ptr, 1, 8, [.nilPtr], []⟩ := rfl
@[simp] theorem Y_162 : Y 162 = some ⟨.func, 1, 8, [.nilFunc], []⟩ := rfl
@[simp] theorem Y_163 : Y 163 = some ⟨.array 32 5, 32, 32, [.int .u8 0, .int .u8 0, .int .u8 0, .int .u8 0, .int .u8 0, .int .u8 0, .int .u8 0, .int .u8 0, .int .u8 0, .int .u8 0, .int .u8 0, .int .u8 0, .int .u8 0, .int .u8 0, .int .u8 0, .int .u8 0, .int .u8 0, .int .u8 0, .int .u8 0, .int .u8 0, .int .u8 0, .int .u8 0, .int .u8 0, .int .u8 0, .int .u8 0, .int .u8 0, .int .u8 0, .int .u8 0, .int .u8 0, .int .u8 0, .int .u8 0, .int .u8 0], [.int .u8, .int .u8, .int .u8, .int .u8, .int .u8, .int .u8, .int .u8, .int .u8, .int .u8, .int .u8, .int .u8, .int .u8, .int .u8, .int .u8, .int .u8, .int .u8, .int .u8, .int .u8, .int .u8, .int .u8, .int .u8, .int .u8, .int .u8, .int .u8, .int .u8, .int .u8, .int .u8, .int .u8, .int .u8, .int .u8, .int .u8, .int .u8]⟩ := rfl
@[simp] theorem Y_164 : Y 164 = some ⟨.array 64 5, 64, 64, [.int .u8 0, .int .u8 0, .int .u8 0, .int .u8 0, .int .u8 0, .int .u8 0, .int .u8 0, .int .u8 0, .int .u8 0, .int .u8 0, .int .u8 0, .int .u8 0, .int .u8 0, .int .u8 0, .int .u8 0, .int .u8 0, .int .u8 0, .int .u8 0, .int .u8 0, .int .u8 0, .int .u8 0, .int .u8 0, .int .u8 0, .int .u8 0, .int .u8 0, .int .u8 0, .int .u8 0, .int .u8 0, .int .u8 0, .int .u8 0, .int .u8 0, .int .u8 0, .int .u8 0, .int .u8 0, .int .u8 0, .int .u8 0, .int .u8 0, .int .u8 0, .int .u8 0, .int .u8 0, .int .u8 0, .int .u8 0, .int .u8 0, .int .u8 0, .int .u8 0, .int .u8 0, .int .u8 0, .int .u8 0, .int .u8 0, .int .u8 0, .int .u8 0, .int .u8 0, .int .u8 0, .int .u8 0, .int .u8 0, .int .u8 0, .int .u8 0, .int .u8 0, .int .u8 0, .int .u8 0, .int .u8 0, .int .u8 0, .int .u8 0, .int .u8 0], [.int .u8, .int .u8, .int .u8, .int .u8, .int .u8, .int .u8, .int .u8, .int .u8, .int .u8, .int .u8, .int .u8, .int .u8, .int .u8, .int .u8, .int .u8, .int .u8, .int .u8, .int .u8, .int .u8, .int .u8, .int .u8, .int .u8, .int .u8, .int .u8, .int .u8, .int .u8, .int .u8, .int .u8, .int .u8, .int .u8, .int .u8, .int .u8, .int .u8, .int .u8, .int .u8, .int .u8, .int .u8, .int .u8, .int .u8, .int .u8, .int .u8, .int .u8, .int .u8, .int .u8, .int .u8, .int .u8, .int .u8, .int .u8, .int .u8, .int .u8, .int .u8, .int .u8, .int .u8, .int .u8, .int .u8, .int .u8, .int .u8, .int .u8, .int .u8, .int .u8, .int .u8, .int .u8, .int .u8, .int .u8]⟩ := rfl
@[simp] theorem Y_165 : Y 165 = some ⟨.struct [(0, 17), (1, 17), (2, 17), (3, 9)], 4, 40, [.nilPtr, .nilPtr, .nilPtr, .str []], []⟩ := rfl
@[simp] theorem Y_166 : Y 166 = some ⟨.struct [(0, 17), (1, 17), (2, 17), (3, 9)], 4, 40, [.nilPtr, .nilPtr, .nilPtr, .str []], []⟩ := rfl
@[simp] theorem Y_167 : Y 167 = some ⟨.array 0 16, 0, 0, [], []⟩ := rfl
@[simp] theorem Y_168 : Y 168 = some ⟨.struct [(0, 167)], 0, 0, [], []⟩ := rfl
@[simp] theorem Y_169 : Y 169 = some ⟨.struct [(0, 167)], 0, 0, [], []⟩ := rfl
@[simp] theorem Y_170 : Y 170 = some ⟨.int .u8, 1, 1, [.int .u8 0], []⟩ := rfl
@[simp] theorem Y_171 : Y 171 = some ⟨.int .u8, 1, 1, [.int .u8 0], []⟩ := rfl
@[simp] theorem Y_172 : Y 172 = some ⟨.func, 1, 8, [.nilFunc], []⟩ := rfl
@[simp] theorem Y_173 : Y 173 = some ⟨.int .i32, 1, 4, [.int .i32 0], []⟩ := rfl
@[simp] theorem Y_174 : Y 174 = some ⟨.int .i32, 1, 4, [.int .i32 0], []⟩ := rfl
@[simp] theorem Y_175 : Y 175 = some ⟨.struct [(0, 12), (1, 12), (2, 112), (3, 170), (4, 5), (5, 5), (6, 171), (7, 172), (8, 117), (9, 173), (10, 174)], 11, 48, [.int .u64 0, .int .u64 0, .int .u32 0, .int .u8 0, .int .u8 0, .int .u8 0, .int .u8 0, .nilFunc, .nilPtr, .int .i32 0, .int .i32 0], []⟩ := rfl
@[simp] theorem Y_176 : Y 176 = some ⟨.struct [(0, 12), (1, 12), (2, 112), (3, 170), (4, 5), (5, 5), (6, 171), (7, 172), (8, 117), (9, 173), (10, 174)], 11, 48, [.int .u64 0, .int .u64 0, .int .u32 0, .int .u8 0, .int .u8 0, .int .u8 0, .int .u8 0, .nilFunc, .nilPtr, .int .i32 0, .int .i32 0], []⟩ := rfl
end Go.Proofs.YtmmpjnjdddaldaaGreatDoor
