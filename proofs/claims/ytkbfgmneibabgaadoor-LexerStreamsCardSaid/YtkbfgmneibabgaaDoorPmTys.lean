/- The program's types as the interpreter sees them. Printed by a program. -/
import Derived.Test.YtkbfgmneibabgaaDoorRows
import Derived.Test.YtkbfgmneibabgaaDoorPmX
set_option linter.unusedVariables false
set_option maxRecDepth 100000
namespace Go.Proofs.YtkbfgmneibabgaaDoor
open Go.Pm
def tys : Tree Ty :=
  .node 92 ⟨.func, 1, 8, [.nilFunc], []⟩
  (.node 48 ⟨.func, 1, 8, [.nilFunc], []⟩
   (.node 23 ⟨.slice 42, 1, 24, [.nilSlice], []⟩
    (.node 11 ⟨.str, 1, 16, [.str []], []⟩
     (.node 6 ⟨.int .u8, 1, 1, [.int .u8 0], []⟩
      (.node 3 ⟨.int .i64, 1, 8, [.int .i64 0], []⟩
       (.node 2 ⟨.int .i64, 1, 8, [.int .i64 0], []⟩
        (.node 1 ⟨.func, 1, 8, [.nilFunc], []⟩
         (.nil)
         (.nil))
        (.nil))
       (.node 5 ⟨.int .u8, 1, 1, [.int .u8 0], []⟩
        (.node 4 ⟨.bool, 1, 1, [.bool false], []⟩
         (.nil)
         (.nil))
        (.nil)))
      (.node 9 ⟨.str, 1, 16, [.str []], []⟩
       (.node 8 ⟨.struct [(0, 2), (1, 3), (2, 4), (3, 6)], 4, 24, [.int .i64 0, .int .i64 0, .bool false, .int .u8 0], [.int .i64, .int .i64, .bool, .int .u8]⟩
        (.node 7 ⟨.struct [(0, 2), (1, 3), (2, 4), (3, 6)], 4, 24, [.int .i64 0, .int .i64 0, .bool false, .int .u8 0], [.int .i64, .int .i64, .bool, .int .u8]⟩
         (.nil)
         (.nil))
        (.nil))
       (.node 10 ⟨.str, 1, 16, [.str []], []⟩
        (.nil)
        (.nil))))
     (.node 18 ⟨.struct [(0, 17)], 1, 8, [.nilPtr], []⟩
      (.node 16 ⟨.ptr, 1, 8, [.nilPtr], []⟩
       (.node 15 ⟨.ptr, 1, 8, [.nilPtr], []⟩
        (.node 12 ⟨.int .u64, 1, 8, [.int .u64 0], []⟩
         (.nil)
         (.nil))
        (.nil))
       (.node 17 ⟨.ptr, 1, 8, [.nilPtr], []⟩
        (.nil)
        (.nil)))
      (.node 21 ⟨.int .i32, 1, 4, [.int .i32 0], []⟩
       (.node 20 ⟨.iface, 1, 16, [.nilIface], []⟩
        (.node 19 ⟨.struct [(0, 17)], 1, 8, [.nilPtr], []⟩
         (.nil)
         (.nil))
        (.nil))
       (.node 22 ⟨.func, 1, 8, [.nilFunc], []⟩
        (.nil)
        (.nil)))))
    (.node 37 ⟨.struct [(0, 3), (1, 9), (2, 3), (3, 9), (4, 3), (5, 4)], 6, 64, [.int .i64 0, .str [], .int .i64 0, .str [], .int .i64 0, .bool false], [.int .i64, .str, .int .i64, .str, .int .i64, .bool]⟩
     (.node 32 ⟨.func, 1, 8, [.nilFunc], []⟩
      (.node 27 ⟨.slice 38, 1, 24, [.nilSlice], []⟩
       (.node 26 ⟨.func, 1, 8, [.nilFunc], []⟩
        (.node 24 ⟨.int .i64, 1, 8, [.int .i64 0], []⟩
         (.nil)
         (.nil))
        (.nil))
       (.node 30 ⟨.func, 1, 8, [.nilFunc], []⟩
        (.node 29 ⟨.func, 1, 8, [.nilFunc], []⟩
         (.nil)
         (.nil))
        (.nil)))
      (.node 35 ⟨.func, 1, 8, [.nilFunc], []⟩
       (.node 34 ⟨.ptr, 1, 8, [.nilPtr], []⟩
        (.node 33 ⟨.func, 1, 8, [.nilFunc], []⟩
         (.nil)
         (.nil))
        (.nil))
       (.node 36 ⟨.slice 5, 1, 24, [.nilSlice], []⟩
        (.nil)
        (.nil))))
     (.node 42 ⟨.struct [(0, 3), (1, 9), (2, 3), (3, 9), (4, 3), (5, 3), (6, 4)], 7, 72, [.int .i64 0, .str [], .int .i64 0, .str [], .int .i64 0, .int .i64 0, .bool false], [.int .i64, .str, .int .i64, .str, .int .i64, .int .i64, .bool]⟩
      (.node 40 ⟨.func, 1, 8, [.nilFunc], []⟩
       (.node 39 ⟨.slice 9, 1, 24, [.nilSlice], []⟩
        (.node 38 ⟨.struct [(0, 3), (1, 9), (2, 3), (3, 9), (4, 3), (5, 4)], 6, 64, [.int .i64 0, .str [], .int .i64 0, .str [], .int .i64 0, .bool false], [.int .i64, .str, .int .i64, .str, .int .i64, .bool]⟩
         (.nil)
         (.nil))
        (.nil))
       (.node 41 ⟨.struct [(0, 3), (1, 9), (2, 3), (3, 9), (4, 3), (5, 3), (6, 4)], 7, 72, [.int .i64 0, .str [], .int .i64 0, .str [], .int .i64 0, .int .i64 0, .bool false], [.int .i64, .str, .int .i64, .str, .int .i64, .int .i64, .bool]⟩
        (.nil)
        (.nil)))
      (.node 45 ⟨.int .u16, 1, 2, [.int .u16 0], []⟩
       (.node 44 ⟨.func, 1, 8, [.nilFunc], []⟩
        (.node 43 ⟨.func, 1, 8, [.nilFunc], []⟩
         (.nil)
         (.nil))
        (.nil))
       (.node 47 ⟨.func, 1, 8, [.nilFunc], []⟩
        (.nil)
        (.nil))))))
   (.node 70 ⟨.func, 1, 8, [.nilFunc], []⟩
    (.node 60 ⟨.func, 1, 8, [.nilFunc], []⟩
     (.node 55 ⟨.func, 1, 8, [.nilFunc], []⟩
      (.node 51 ⟨.ptr, 1, 8, [.nilPtr], []⟩
       (.node 50 ⟨.func, 1, 8, [.nilFunc], []⟩
        (.node 49 ⟨.func, 1, 8, [.nilFunc], []⟩
         (.nil)
         (.nil))
        (.nil))
       (.node 53 ⟨.func, 1, 8, [.nilFunc], []⟩
        (.node 52 ⟨.func, 1, 8, [.nilFunc], []⟩
         (.nil)
         (.nil))
        (.nil)))
      (.node 58 ⟨.struct [(0, 5), (1, 9), (2, 3), (3, 3), (4, 5)], 5, 48, [.int .u8 0, .str [], .int .i64 0, .int .i64 0, .int .u8 0], [.int .u8, .str, .int .i64, .int .i64, .int .u8]⟩
       (.node 57 ⟨.struct [(0, 5), (1, 9), (2, 3), (3, 3), (4, 5)], 5, 48, [.int .u8 0, .str [], .int .i64 0, .int .i64 0, .int .u8 0], [.int .u8, .str, .int .i64, .int .i64, .int .u8]⟩
        (.node 56 ⟨.func, 1, 8, [.nilFunc], []⟩
         (.nil)
         (.nil))
        (.nil))
       (.node 59 ⟨.func, 1, 8, [.nilFunc], []⟩
        (.nil)
        (.nil))))
     (.node 65 ⟨.func, 1, 8, [.nilFunc], []⟩
      (.node 63 ⟨.func, 1, 8, [.nilFunc], []⟩
       (.node 62 ⟨.func, 1, 8, [.nilFunc], []⟩
        (.node 61 ⟨.func, 1, 8, [.nilFunc], []⟩
         (.nil)
         (.nil))
        (.nil))
       (.node 64 ⟨.slice 58, 1, 24, [.nilSlice], []⟩
        (.nil)
        (.nil)))
      (.node 68 ⟨.struct [(0, 27), (1, 3), (2, 24), (3, 3)], 4, 48, [.nilSlice, .int .i64 0, .int .i64 0, .int .i64 0], []⟩
       (.node 67 ⟨.struct [(0, 27), (1, 3), (2, 24), (3, 3)], 4, 48, [.nilSlice, .int .i64 0, .int .i64 0, .int .i64 0], []⟩
        (.node 66 ⟨.ptr, 1, 8, [.nilPtr], []⟩
         (.nil)
         (.nil))
        (.nil))
       (.node 69 ⟨.func, 1, 8, [.nilFunc], []⟩
        (.nil)
        (.nil)))))
    (.node 81 ⟨.func, 1, 8, [.nilFunc], []⟩
     (.node 75 ⟨.struct [(0, 9), (1, 3), (2, 73), (3, 23), (4, 24), (5, 3)], 6, 88, [.str [], .int .i64 0, .nilSlice, .nilSlice, .int .i64 0, .int .i64 0], []⟩
      (.node 73 ⟨.slice 3, 1, 24, [.nilSlice], []⟩
       (.node 72 ⟨.ptr, 1, 8, [.nilPtr], []⟩
        (.node 71 ⟨.func, 1, 8, [.nilFunc], []⟩
         (.nil)
         (.nil))
        (.nil))
       (.node 74 ⟨.struct [(0, 9), (1, 3), (2, 73), (3, 23), (4, 24), (5, 3)], 6, 88, [.str [], .int .i64 0, .nilSlice, .nilSlice, .int .i64 0, .int .i64 0], []⟩
        (.nil)
        (.nil)))
      (.node 78 ⟨.func, 1, 8, [.nilFunc], []⟩
       (.node 77 ⟨.func, 1, 8, [.nilFunc], []⟩
        (.node 76 ⟨.func, 1, 8, [.nilFunc], []⟩
         (.nil)
         (.nil))
        (.nil))
       (.node 80 ⟨.func, 1, 8, [.nilFunc], []⟩
        (.nil)
        (.nil))))
     (.node 86 ⟨.struct [(0, 84), (1, 36)], 2, 32, [.nilPtr, .nilSlice], []⟩
      (.node 84 ⟨.ptr, 1, 8, [.nilPtr], []⟩
       (.node 83 ⟨.func, 1, 8, [.nilFunc], []⟩
        (.node 82 ⟨.func, 1, 8, [.nilFunc], []⟩
         (.nil)
         (.nil))
        (.nil))
       (.node 85 ⟨.struct [(0, 84), (1, 36)], 2, 32, [.nilPtr, .nilSlice], []⟩
        (.nil)
        (.nil)))
      (.node 89 ⟨.func, 1, 8, [.nilFunc], []⟩
       (.node 88 ⟨.iface, 1, 16, [.nilIface], []⟩
        (.node 87 ⟨.iface, 1, 16, [.nilIface], []⟩
         (.nil)
         (.nil))
        (.nil))
       (.node 90 ⟨.func, 1, 8, [.nilFunc], []⟩
        (.nil)
        (.nil)))))))
  (.node 139 ⟨.func, 1, 8, [.nilFunc], []⟩
   (.node 115 ⟨.ptr, 1, 8, [.nilPtr], []⟩
    (.node 104 ⟨.func, 1, 8, [.nilFunc], []⟩
     (.node 98 ⟨.func, 1, 8, [.nilFunc], []⟩
      (.node 95 ⟨.func, 1, 8, [.nilFunc], []⟩
       (.node 94 ⟨.func, 1, 8, [.nilFunc], []⟩
        (.node 93 ⟨.func, 1, 8, [.nilFunc], []⟩
         (.nil)
         (.nil))
        (.nil))
       (.node 97 ⟨.struct [(0, 23), (1, 42), (8, 3), (9, 3), (10, 24)], 11, 120, [.nilSlice, .int .i64 0, .str [], .int .i64 0, .str [], .int .i64 0, .int .i64 0, .bool false, .int .i64 0, .int .i64 0, .int .i64 0], []⟩
        (.node 96 ⟨.struct [(0, 23), (1, 42), (8, 3), (9, 3), (10, 24)], 11, 120, [.nilSlice, .int .i64 0, .str [], .int .i64 0, .str [], .int .i64 0, .int .i64 0, .bool false, .int .i64 0, .int .i64 0, .int .i64 0], []⟩
         (.nil)
         (.nil))
        (.nil)))
      (.node 102 ⟨.func, 1, 8, [.nilFunc], []⟩
       (.node 100 ⟨.func, 1, 8, [.nilFunc], []⟩
        (.node 99 ⟨.func, 1, 8, [.nilFunc], []⟩
         (.nil)
         (.nil))
        (.nil))
       (.node 103 ⟨.func, 1, 8, [.nilFunc], []⟩
        (.nil)
        (.nil))))
     (.node 109 ⟨.func, 1, 8, [.nilFunc], []⟩
      (.node 107 ⟨.slice 105, 1, 24, [.nilSlice], []⟩
       (.node 106 ⟨.func, 1, 8, [.nilFunc], []⟩
        (.node 105 ⟨.func, 1, 8, [.nilFunc], []⟩
         (.nil)
         (.nil))
        (.nil))
       (.node 108 ⟨.func, 1, 8, [.nilFunc], []⟩
        (.nil)
        (.nil)))
      (.node 113 ⟨.func, 1, 8, [.nilFunc], []⟩
       (.node 111 ⟨.func, 1, 8, [.nilFunc], []⟩
        (.node 110 ⟨.func, 1, 8, [.nilFunc], []⟩
         (.nil)
         (.nil))
        (.nil))
       (.node 114 ⟨.func, 1, 8, [.nilFunc], []⟩
        (.nil)
        (.nil)))))
    (.node 127 ⟨.func, 1, 8, [.nilFunc], []⟩
     (.node 121 ⟨.func, 1, 8, [.nilFunc], []⟩
      (.node 118 ⟨.func, 1, 8, [.nilFunc], []⟩
       (.node 117 ⟨.func, 1, 8, [.nilFunc], []⟩
        (.node 116 ⟨.func, 1, 8, [.nilFunc], []⟩
         (.nil)
         (.nil))
        (.nil))
       (.node 120 ⟨.func, 1, 8, [.nilFunc], []⟩
        (.node 119 ⟨.func, 1, 8, [.nilFunc], []⟩
         (.nil)
         (.nil))
        (.nil)))
      (.node 124 ⟨.func, 1, 8, [.nilFunc], []⟩
       (.node 123 ⟨.func, 1, 8, [.nilFunc], []⟩
        (.node 122 ⟨.int .u64, 1, 8, [.int .u64 0], []⟩
         (.nil)
         (.nil))
        (.nil))
       (.node 126 ⟨.func, 1, 8, [.nilFunc], []⟩
        (.nil)
        (.nil))))
     (.node 133 ⟨.int .i64, 1, 8, [.int .i64 0], []⟩
      (.node 130 ⟨.func, 1, 8, [.nilFunc], []⟩
       (.node 129 ⟨.func, 1, 8, [.nilFunc], []⟩
        (.node 128 ⟨.func, 1, 8, [.nilFunc], []⟩
         (.nil)
         (.nil))
        (.nil))
       (.node 132 ⟨.func, 1, 8, [.nilFunc], []⟩
        (.nil)
        (.nil)))
      (.node 137 ⟨.func, 1, 8, [.nilFunc], []⟩
       (.node 136 ⟨.ptr, 1, 8, [.nilPtr], []⟩
        (.node 135 ⟨.func, 1, 8, [.nilFunc], []⟩
         (.nil)
         (.nil))
        (.nil))
       (.node 138 ⟨.func, 1, 8, [.nilFunc], []⟩
        (.nil)
        (.nil))))))
   (.node 163 ⟨.func, 1, 8, [.nilFunc], []⟩
    (.node 151 ⟨.int .u32, 1, 4, [.int .u32 0], []⟩
     (.node 146 ⟨.func, 1, 8, [.nilFunc], []⟩
      (.node 143 ⟨.struct [(0, 9), (1, 9), (2, 88)], 3, 48, [.str [], .str [], .nilIface], []⟩
       (.node 142 ⟨.func, 1, 8, [.nilFunc], []⟩
        (.node 140 ⟨.int .u64, 1, 8, [.int .u64 0], []⟩
         (.nil)
         (.nil))
        (.nil))
       (.node 145 ⟨.func, 1, 8, [.nilFunc], []⟩
        (.node 144 ⟨.struct [(0, 9), (1, 9), (2, 88)], 3, 48, [.str [], .str [], .nilIface], []⟩
         (.nil)
         (.nil))
        (.nil)))
      (.node 149 ⟨.struct [(0, 5), (1, 5)], 2, 2, [.int .u8 0, .int .u8 0], [.int .u8, .int .u8]⟩
       (.node 148 ⟨.struct [(0, 5), (1, 5)], 2, 2, [.int .u8 0, .int .u8 0], [.int .u8, .int .u8]⟩
        (.node 147 ⟨.array 256 5, 256, 256, [.int .u8 0, .int .u8 0, .int .u8 0, .int .u8 0, .int .u8 0, .int .u8 0, .int .u8 0, .int .u8 0, .int .u8 0, .int .u8 0, .int .u8 0, .int .u8 0, .int .u8 0, .int .u8 0, .int .u8 0, .int .u8 0, .int .u8 0, .int .u8 0, .int .u8 0, .int .u8 0, .int .u8 0, .int .u8 0, .int .u8 0, .int .u8 0, .int .u8 0, .int .u8 0, .int .u8 0, .int .u8 0, .int .u8 0, .int .u8 0, .int .u8 0, .int .u8 0, .int .u8 0, .int .u8 0, .int .u8 0, .int .u8 0, .int .u8 0, .int .u8 0, .int .u8 0, .int .u8 0, .int .u8 0, .int .u8 0, .int .u8 0, .int .u8 0, .int .u8 0, .int .u8 0, .int .u8 0, .int .u8 0, .int .u8 0, .int .u8 0, .int .u8 0, .int .u8 0, .int .u8 0, .int .u8 0, .int .u8 0, .int .u8 0, .int .u8 0, .int .u8 0, .int .u8 0, .int .u8 0, .int .u8 0, .int .u8 0, .int .u8 0, .int .u8 0, .int .u8 0, .int .u8 0, .int .u8 0, .int .u8 0, .int .u8 0, .int .u8 0, .int .u8 0, .int .u8 0, .int .u8 0, .int .u8 0, .int .u8 0, .int .u8 0, .int .u8 0, .int .u8 0, .int .u8 0, .int .u8 0, .int .u8 0, .int .u8 0, .int .u8 0, .int .u8 0, .int .u8 0, .int .u8 0, .int .u8 0, .int .u8 0, .int .u8 0, .int .u8 0, .int .u8 0, .int .u8 0, .int .u8 0, .int .u8 0, .int .u8 0, .int .u8 0, .int .u8 0, .int .u8 0, .int .u8 0, .int .u8 0, .int .u8 0, .int .u8 0, .int .u8 0, .int .u8 0, .int .u8 0, .int .u8 0, .int .u8 0, .int .u8 0, .int .u8 0, .int .u8 0, .int .u8 0, .int .u8 0, .int .u8 0, .int .u8 0, .int .u8 0, .int .u8 0, .int .u8 0, .int .u8 0, .int .u8 0, .int .u8 0, .int .u8 0, .int .u8 0, .int .u8 0, .int .u8 0, .int .u8 0, .int .u8 0, .int .u8 0, .int .u8 0, .int .u8 0, .int .u8 0, .int .u8 0, .int .u8 0, .int .u8 0, .int .u8 0, .int .u8 0, .int .u8 0, .int .u8 0, .int .u8 0, .int .u8 0, .int .u8 0, .int .u8 0, .int .u8 0, .int .u8 0, .int .u8 0, .int .u8 0, .int .u8 0, .int .u8 0, .int .u8 0, .int .u8 0, .int .u8 0, .int .u8 0, .int .u8 0, .int .u8 0, .int .u8 0, .int .u8 0, .int .u8 0, .int .u8 0, .int .u8 0, .int .u8 0, .int .u8 0, .int .u8 0, .int .u8 0, .int .u8 0, .int .u8 0, .int .u8 0, .int .u8 0, .int .u8 0, .int .u8 0, .int .u8 0, .int .u8 0, .int .u8 0, .int .u8 0, .int .u8 0, .int .u8 0, .int .u8 0, .int .u8 0, .int .u8 0, .int .u8 0, .int .u8 0, .int .u8 0, .int .u8 0, .int .u8 0, .int .u8 0, .int .u8 0, .int .u8 0, .int .u8 0, .int .u8 0, .int .u8 0, .int .u8 0, .int .u8 0, .int .u8 0, .int .u8 0, .int .u8 0, .int .u8 0, .int .u8 0, .int .u8 0, .int .u8 0, .int .u8 0, .int .u8 0, .int .u8 0, .int .u8 0, .int .u8 0, .int .u8 0, .int .u8 0, .int .u8 0, .int .u8 0, .int .u8 0, .int .u8 0, .int .u8 0, .int .u8 0, .int .u8 0, .int .u8 0, .int .u8 0, .int .u8 0, .int .u8 0, .int .u8 0, .int .u8 0, .int .u8 0, .int .u8 0, .int .u8 0, .int .u8 0, .int .u8 0, .int .u8 0, .int .u8 0, .int .u8 0, .int .u8 0, .int .u8 0, .int .u8 0, .int .u8 0, .int .u8 0, .int .u8 0, .int .u8 0, .int .u8 0, .int .u8 0, .int .u8 0, .int .u8 0, .int .u8 0, .int .u8 0, .int .u8 0, .int .u8 0, .int .u8 0, .int .u8 0, .int .u8 0, .int .u8 0, .int .u8 0, .int .u8 0, .int .u8 0, .int .u8 0, .int .u8 0, .int .u8 0, .int .u8 0, .int .u8 0, .int .u8 0, .int .u8 0, .int .u8 0, .int .u8 0], [.int .u8, .int .u8, .int .u8, .int .u8, .int .u8, .int .u8, .int .u8, .int .u8, .int .u8, .int .u8, .int .u8, .int .u8, .int .u8, .int .u8, .int .u8, .int .u8, .int .u8, .int .u8, .int .u8, .int .u8, .int .u8, .int .u8, .int .u8, .int .u8, .int .u8, .int .u8, .int .u8, .int .u8, .int .u8, .int .u8, .int .u8, .int .u8, .int .u8, .int .u8, .int .u8, .int .u8, .int .u8, .int .u8, .int .u8, .int .u8, .int .u8, .int .u8, .int .u8, .int .u8, .int .u8, .int .u8, .int .u8, .int .u8, .int .u8, .int .u8, .int .u8, .int .u8, .int .u8, .int .u8, .int .u8, .int .u8, .int .u8, .int .u8, .int .u8, .int .u8, .int .u8, .int .u8, .int .u8, .int .u8, .int .u8, .int .u8, .int .u8, .int .u8, .int .u8, .int .u8, .int .u8, .int .u8, .int .u8, .int .u8, .int .u8, .int .u8, .int .u8, .int .u8, .int .u8, .int .u8, .int .u8, .int .u8, .int .u8, .int .u8, .int .u8, .int .u8, .int .u8, .int .u8, .int .u8, .int .u8, .int .u8, .int .u8, .int .u8, .int .u8, .int .u8, .int .u8, .int .u8, .int .u8, .int .u8, .int .u8, .int .u8, .int .u8, .int .u8, .int .u8, .int .u8, .int .u8, .int .u8, .int .u8, .int .u8, .int .u8, .int .u8, .int .u8, .int .u8, .int .u8, .int .u8, .int .u8, .int .u8, .int .u8, .int .u8, .int .u8, .int .u8, .int .u8, .int .u8, .int .u8, .int .u8, .int .u8, .int .u8, .int .u8, .int .u8, .int .u8, .int .u8, .int .u8, .int .u8, .int .u8, .int .u8, .int .u8, .int .u8, .int .u8, .int .u8, .int .u8, .int .u8, .int .u8, .int .u8, .int .u8, .int .u8, .int .u8, .int .u8, .int .u8, .int .u8, .int .u8, .int .u8, .int .u8, .int .u8, .int .u8, .int .u8, .int .u8, .int .u8, .int .u8, .int .u8, .int .u8, .int .u8, .int .u8, .int .u8, .int .u8, .int .u8, .int .u8, .int .u8, .int .u8, .int .u8, .int .u8, .int .u8, .int .u8, .int .u8, .int .u8, .int .u8, .int .u8, .int .u8, .int .u8, .int .u8, .int .u8, .int .u8, .int .u8, .int .u8, .int .u8, .int .u8, .int .u8, .int .u8, .int .u8, .int .u8, .int .u8, .int .u8, .int .u8, .int .u8, .int .u8, .int .u8, .int .u8, .int .u8, .int .u8, .int .u8, .int .u8, .int .u8, .int .u8, .int .u8, .int .u8, .int .u8, .int .u8, .int .u8, .int .u8, .int .u8, .int .u8, .int .u8, .int .u8, .int .u8, .int .u8, .int .u8, .int .u8, .int .u8, .int .u8, .int .u8, .int .u8, .int .u8, .int .u8, .int .u8, .int .u8, .int .u8, .int .u8, .int .u8, .int .u8, .int .u8, .int .u8, .int .u8, .int .u8, .int .u8, .int .u8, .int .u8, .int .u8, .int .u8, .int .u8, .int .u8, .int .u8, .int .u8, .int .u8, .int .u8, .int .u8, .int .u8, .int .u8, .int .u8, .int .u8, .int .u8, .int .u8, .int .u8, .int .u8, .int .u8, .int .u8, .int .u8, .int .u8]⟩
         (.nil)
         (.nil))
        (.nil))
       (.node 150 ⟨.array 16 149, 32, 32, [.int .u8 0, .int .u8 0, .int .u8 0, .int .u8 0, .int .u8 0, .int .u8 0, .int .u8 0, .int .u8 0, .int .u8 0, .int .u8 0, .int .u8 0, .int .u8 0, .int .u8 0, .int .u8 0, .int .u8 0, .int .u8 0, .int .u8 0, .int .u8 0, .int .u8 0, .int .u8 0, .int .u8 0, .int .u8 0, .int .u8 0, .int .u8 0, .int .u8 0, .int .u8 0, .int .u8 0, .int .u8 0, .int .u8 0, .int .u8 0, .int .u8 0, .int .u8 0], [.int .u8, .int .u8, .int .u8, .int .u8, .int .u8, .int .u8, .int .u8, .int .u8, .int .u8, .int .u8, .int .u8, .int .u8, .int .u8, .int .u8, .int .u8, .int .u8, .int .u8, .int .u8, .int .u8, .int .u8, .int .u8, .int .u8, .int .u8, .int .u8, .int .u8, .int .u8, .int .u8, .int .u8, .int .u8, .int .u8, .int .u8, .int .u8]⟩
        (.nil)
        (.nil))))
     (.node 157 ⟨.struct [(0, 9)], 1, 16, [.str []], [.str]⟩
      (.node 155 ⟨.ptr, 1, 8, [.nilPtr], []⟩
       (.node 154 ⟨.func, 1, 8, [.nilFunc], []⟩
        (.node 153 ⟨.func, 1, 8, [.nilFunc], []⟩
         (.nil)
         (.nil))
        (.nil))
       (.node 156 ⟨.struct [(0, 9)], 1, 16, [.str []], [.str]⟩
        (.nil)
        (.nil)))
      (.node 160 ⟨.func, 1, 8, [.nilFunc], []⟩
       (.node 159 ⟨.array 24 5, 24, 24, [.int .u8 0, .int .u8 0, .int .u8 0, .int .u8 0, .int .u8 0, .int .u8 0, .int .u8 0, .int .u8 0, .int .u8 0, .int .u8 0, .int .u8 0, .int .u8 0, .int .u8 0, .int .u8 0, .int .u8 0, .int .u8 0, .int .u8 0, .int .u8 0, .int .u8 0, .int .u8 0, .int .u8 0, .int .u8 0, .int .u8 0, .int .u8 0], [.int .u8, .int .u8, .int .u8, .int .u8, .int .u8, .int .u8, .int .u8, .int .u8, .int .u8, .int .u8, .int .u8, .int .u8, .int .u8, .int .u8, .int .u8, .int .u8, .int .u8, .int .u8, .int .u8, .int .u8, .int .u8, .int .u8, .int .u8, .int .u8]⟩
        (.node 158 ⟨.func, 1, 8, [.nilFunc], []⟩
         (.nil)
         (.nil))
        (.nil))
       (.node 161 ⟨.func, 1, 8, [.nilFunc], []⟩
        (.nil)
        (.nil)))))
    (.node 173 ⟨.array 0 16, 0, 0, [], []⟩
     (.node 168 ⟨.func, 1, 8, [.nilFunc], []⟩
      (.node 166 ⟨.array 65 5, 65, 65, [.int .u8 0, .int .u8 0, .int .u8 0, .int .u8 0, .int .u8 0, .int .u8 0, .int .u8 0, .int .u8 0, .int .u8 0, .int .u8 0, .int .u8 0, .int .u8 0, .int .u8 0, .int .u8 0, .int .u8 0, .int .u8 0, .int .u8 0, .int .u8 0, .int .u8 0, .int .u8 0, .int .u8 0, .int .u8 0, .int .u8 0, .int .u8 0, .int .u8 0, .int .u8 0, .int .u8 0, .int .u8 0, .int .u8 0, .int .u8 0, .int .u8 0, .int .u8 0, .int .u8 0, .int .u8 0, .int .u8 0, .int .u8 0, .int .u8 0, .int .u8 0, .int .u8 0, .int .u8 0, .int .u8 0, .int .u8 0, .int .u8 0, .int .u8 0, .int .u8 0, .int .u8 0, .int .u8 0, .int .u8 0, .int .u8 0, .int .u8 0, .int .u8 0, .int .u8 0, .int .u8 0, .int .u8 0, .int .u8 0, .int .u8 0, .int .u8 0, .int .u8 0, .int .u8 0, .int .u8 0, .int .u8 0, .int .u8 0, .int .u8 0, .int .u8 0, .int .u8 0], [.int .u8, .int .u8, .int .u8, .int .u8, .int .u8, .int .u8, .int .u8, .int .u8, .int .u8, .int .u8, .int .u8, .int .u8, .int .u8, .int .u8, .int .u8, .int .u8, .int .u8, .int .u8, .int .u8, .int .u8, .int .u8, .int .u8, .int .u8, .int .u8, .int .u8, .int .u8, .int .u8, .int .u8, .int .u8, .int .u8, .int .u8, .int .u8, .int .u8, .int .u8, .int .u8, .int .u8, .int .u8, .int .u8, .int .u8, .int .u8, .int .u8, .int .u8, .int .u8, .int .u8, .int .u8, .int .u8, .int .u8, .int .u8, .int .u8, .int .u8, .int .u8, .int .u8, .int .u8, .int .u8, .int .u8, .int .u8, .int .u8, .int .u8, .int .u8, .int .u8, .int .u8, .int .u8, .int .u8, .int .u8, .int .u8]⟩
       (.node 165 ⟨.array 20 140, 20, 160, [.int .u64 0, .int .u64 0, .int .u64 0, .int .u64 0, .int .u64 0, .int .u64 0, .int .u64 0, .int .u64 0, .int .u64 0, .int .u64 0, .int .u64 0, .int .u64 0, .int .u64 0, .int .u64 0, .int .u64 0, .int .u64 0, .int .u64 0, .int .u64 0, .int .u64 0, .int .u64 0], [.int .u64, .int .u64, .int .u64, .int .u64, .int .u64, .int .u64, .int .u64, .int .u64, .int .u64, .int .u64, .int .u64, .int .u64, .int .u64, .int .u64, .int .u64, .int .u64, .int .u64, .int .u64, .int .u64, .int .u64]⟩
        (.node 164 ⟨.func, 1, 8, [.nilFunc], []⟩
         (.nil)
         (.nil))
        (.nil))
       (.node 167 ⟨.func, 1, 8, [.nilFunc], []⟩
        (.nil)
        (.nil)))
      (.node 171 ⟨.struct [(0, 17), (1, 17), (2, 17), (3, 9)], 4, 40, [.nilPtr, .nilPtr, .nilPtr, .str []], []⟩
       (.node 170 ⟨.array 64 5, 64, 64, [.int .u8 0, .int .u8 0, .int .u8 0, .int .u8 0, .int .u8 0, .int .u8 0, .int .u8 0, .int .u8 0, .int .u8 0, .int .u8 0, .int .u8 0, .int .u8 0, .int .u8 0, .int .u8 0, .int .u8 0, .int .u8 0, .int .u8 0, .int .u8 0, .int .u8 0, .int .u8 0, .int .u8 0, .int .u8 0, .int .u8 0, .int .u8 0, .int .u8 0, .int .u8 0, .int .u8 0, .int .u8 0, .int .u8 0, .int .u8 0, .int .u8 0, .int .u8 0, .int .u8 0, .int .u8 0, .int .u8 0, .int .u8 0, .int .u8 0, .int .u8 0, .int .u8 0, .int .u8 0, .int .u8 0, .int .u8 0, .int .u8 0, .int .u8 0, .int .u8 0, .int .u8 0, .int .u8 0, .int .u8 0, .int .u8 0, .int .u8 0, .int .u8 0, .int .u8 0, .int .u8 0, .int .u8 0, .int .u8 0, .int .u8 0, .int .u8 0, .int .u8 0, .int .u8 0, .int .u8 0, .int .u8 0, .int .u8 0, .int .u8 0, .int .u8 0], [.int .u8, .int .u8, .int .u8, .int .u8, .int .u8, .int .u8, .int .u8, .int .u8, .int .u8, .int .u8, .int .u8, .int .u8, .int .u8, .int .u8, .int .u8, .int .u8, .int .u8, .int .u8, .int .u8, .int .u8, .int .u8, .int .u8, .int .u8, .int .u8, .int .u8, .int .u8, .int .u8, .int .u8, .int .u8, .int .u8, .int .u8, .int .u8, .int .u8, .int .u8, .int .u8, .int .u8, .int .u8, .int .u8, .int .u8, .int .u8, .int .u8, .int .u8, .int .u8, .int .u8, .int .u8, .int .u8, .int .u8, .int .u8, .int .u8, .int .u8, .int .u8, .int .u8, .int .u8, .int .u8, .int .u8, .int .u8, .int .u8, .int .u8, .int .u8, .int .u8, .int .u8, .int .u8, .int .u8, .int .u8]⟩
        (.node 169 ⟨.array 32 5, 32, 32, [.int .u8 0, .int .u8 0, .int .u8 0, .int .u8 0, .int .u8 0, .int .u8 0, .int .u8 0, .int .u8 0, .int .u8 0, .int .u8 0, .int .u8 0, .int .u8 0, .int .u8 0, .int .u8 0, .int .u8 0, .int .u8 0, .int .u8 0, .int .u8 0, .int .u8 0, .int .u8 0, .int .u8 0, .int .u8 0, .int .u8 0, .int .u8 0, .int .u8 0, .int .u8 0, .int .u8 0, .int .u8 0, .int .u8 0, .int .u8 0, .int .u8 0, .int .u8 0], [.int .u8, .int .u8, .int .u8, .int .u8, .int .u8, .int .u8, .int .u8, .int .u8, .int .u8, .int .u8, .int .u8, .int .u8, .int .u8, .int .u8, .int .u8, .int .u8, .int .u8, .int .u8, .int .u8, .int .u8, .int .u8, .int .u8, .int .u8, .int .u8, .int .u8, .int .u8, .int .u8, .int .u8, .int .u8, .int .u8, .int .u8, .int .u8]⟩
         (.nil)
         (.nil))
        (.nil))
       (.node 172 ⟨.struct [(0, 17), (1, 17), (2, 17), (3, 9)], 4, 40, [.nilPtr, .nilPtr, .nilPtr, .str []], []⟩
        (.nil)
        (.nil))))
     (.node 178 ⟨.func, 1, 8, [.nilFunc], []⟩
      (.node 176 ⟨.int .u8, 1, 1, [.int .u8 0], []⟩
       (.node 175 ⟨.struct [(0, 173)], 0, 0, [], []⟩
        (.node 174 ⟨.struct [(0, 173)], 0, 0, [], []⟩
         (.nil)
         (.nil))
        (.nil))
       (.node 177 ⟨.int .u8, 1, 1, [.int .u8 0], []⟩
        (.nil)
        (.nil)))
      (.node 181 ⟨.struct [(0, 12), (1, 12), (2, 151), (3, 176), (4, 5), (5, 5), (6, 177), (7, 178), (8, 115), (9, 179), (10, 180)], 11, 48, [.int .u64 0, .int .u64 0, .int .u32 0, .int .u8 0, .int .u8 0, .int .u8 0, .int .u8 0, .nilFunc, .nilPtr, .int .i32 0, .int .i32 0], []⟩
       (.node 180 ⟨.int .i32, 1, 4, [.int .i32 0], []⟩
        (.node 179 ⟨.int .i32, 1, 4, [.int .i32 0], []⟩
         (.nil)
         (.nil))
        (.nil))
       (.node 182 ⟨.struct [(0, 12), (1, 12), (2, 151), (3, 176), (4, 5), (5, 5), (6, 177), (7, 178), (8, 115), (9, 179), (10, 180)], 11, 48, [.int .u64 0, .int .u64 0, .int .u32 0, .int .u8 0, .int .u8 0, .int .u8 0, .int .u8 0, .nilFunc, .nilPtr, .int .i32 0, .int .i32 0], []⟩
        (.nil)
        (.nil)))))))

def Y (t : TypeId) : Option Ty := tys.get t
theorem env : Env Tryd.prog Y := ⟨fun t y h => Tree.all_get (p := tyOk Tryd.prog) (by kernel_rfl) h⟩
theorem mixed : Tryd.prog.follows .mixedOrders = true := by kernel_rfl
@[simp] theorem Y_1 : Y 1 = some ⟨.func, 1, 8, [.nilFunc], []⟩ := rfl
@[simp] theorem Y_2 : Y 2 = some ⟨.int .i64, 1, 8, [.int .i64 0], []⟩ := rfl
@[simp] theorem Y_3 : Y 3 = some ⟨.int .i64, 1, 8, [.int .i64 0], []⟩ := rfl
@[simp] theorem Y_4 : Y 4 = some ⟨.bool, 1, 1, [.bool false], []⟩ := rfl
@[simp] theorem Y_5 : Y 5 = some ⟨.int .u8, 1, 1, [.int .u8 0], []⟩ := rfl
@[simp] theorem Y_6 : Y 6 = some ⟨.int .u8, 1, 1, [.int .u8 0], []⟩ := rfl
@[simp] theorem Y_7 : Y 7 = some ⟨.struct [(0, 2), (1, 3), (2, 4), (3, 6)], 4, 24, [.int .i64 0, .int .i64 0, .bool false, .int .u8 0], [.int .i64, .int .i64, .bool, .int .u8]⟩ := rfl
@[simp] theorem Y_8 : Y 8 = some ⟨.struct [(0, 2), (1, 3), (2, 4), (3, 6)], 4, 24, [.int .i64 0, .int .i64 0, .bool false, .int .u8 0], [.int .i64, .int .i64, .bool, .int .u8]⟩ := rfl
@[simp] theorem Y_9 : Y 9 = some ⟨.str, 1, 16, [.str []], []⟩ := rfl
@[simp] theorem Y_10 : Y 10 = some ⟨.str, 1, 16, [.str []], []⟩ := rfl
@[simp] theorem Y_11 : Y 11 = some ⟨.str, 1, 16, [.str []], []⟩ := rfl
@[simp] theorem Y_12 : Y 12 = some ⟨.int .u64, 1, 8, [.int .u64 0], []⟩ := rfl
@[simp] theorem Y_15 : Y 15 = some ⟨.ptr, 1, 8, [.nilPtr], []⟩ := rfl
@[simp] theorem Y_16 : Y 16 = some ⟨.ptr, 1, 8, [.nilPtr], []⟩ := rfl
@[simp] theorem Y_17 : Y 17 = some ⟨.ptr, 1, 8, [.nilPtr], []⟩ := rfl
@[simp] theorem Y_18 : Y 18 = some ⟨.struct [(0, 17)], 1, 8, [.nilPtr], []⟩ := rfl
@[simp] theorem Y_19 : Y 19 = some ⟨.struct [(0, 17)], 1, 8, [.nilPtr], []⟩ := rfl
@[simp] theorem Y_20 : Y 20 = some ⟨.iface, 1, 16, [.nilIface], []⟩ := rfl
@[simp] theorem Y_21 : Y 21 = some ⟨.int .i32, 1, 4, [.int .i32 0], []⟩ := rfl
@[simp] theorem Y_22 : Y 22 = some ⟨.func, 1, 8, [.nilFunc], []⟩ := rfl
@[simp] theorem Y_23 : Y 23 = some ⟨.slice 42, 1, 24, [.nilSlice], []⟩ := rfl
@[simp] theorem Y_24 : Y 24 = some ⟨.int .i64, 1, 8, [.int .i64 0], []⟩ := rfl
@[simp] theorem Y_26 : Y 26 = some ⟨.func, 1, 8, [.nilFunc], []⟩ := rfl
@[simp] theorem Y_27 : Y 27 = some ⟨.slice 38, 1, 24, [.nilSlice], []⟩ := rfl
@[simp] theorem Y_29 : Y 29 = some ⟨.func, 1, 8, [.nilFunc], []⟩ := rfl
@[simp] theorem Y_30 : Y 30 = some ⟨.func, 1, 8, [.nilFunc], []⟩ := rfl
@[simp] theorem Y_32 : Y 32 = some ⟨.func, 1, 8, [.nilFunc], []⟩ := rfl
@[simp] theorem Y_33 : Y 33 = some ⟨.func, 1, 8, [.nilFunc], []⟩ := rfl
@[simp] theorem Y_34 : Y 34 = some ⟨.ptr, 1, 8, [.nilPtr], []⟩ := rfl
@[simp] theorem Y_35 : Y 35 = some ⟨.func, 1, 8, [.nilFunc], []⟩ := rfl
@[simp] theorem Y_36 : Y 36 = some ⟨.slice 5, 1, 24, [.nilSlice], []⟩ := rfl
@[simp] theorem Y_37 : Y 37 = some ⟨.struct [(0, 3), (1, 9), (2, 3), (3, 9), (4, 3), (5, 4)], 6, 64, [.int .i64 0, .str [], .int .i64 0, .str [], .int .i64 0, .bool false], [.int .i64, .str, .int .i64, .str, .int .i64, .bool]⟩ := rfl
@[simp] theorem Y_38 : Y 38 = some ⟨.struct [(0, 3), (1, 9), (2, 3), (3, 9), (4, 3), (5, 4)], 6, 64, [.int .i64 0, .str [], .int .i64 0, .str [], .int .i64 0, .bool false], [.int .i64, .str, .int .i64, .str, .int .i64, .bool]⟩ := rfl
@[simp] theorem Y_39 : Y 39 = some ⟨.slice 9, 1, 24, [.nilSlice], []⟩ := rfl
@[simp] theorem Y_40 : Y 40 = some ⟨.func, 1, 8, [.nilFunc], []⟩ := rfl
@[simp] theorem Y_41 : Y 41 = some ⟨.struct [(0, 3), (1, 9), (2, 3), (3, 9), (4, 3), (5, 3), (6, 4)], 7, 72, [.int .i64 0, .str [], .int .i64 0, .str [], .int .i64 0, .int .i64 0, .bool false], [.int .i64, .str, .int .i64, .str, .int .i64, .int .i64, .bool]⟩ := rfl
@[simp] theorem Y_42 : Y 42 = some ⟨.struct [(0, 3), (1, 9), (2, 3), (3, 9), (4, 3), (5, 3), (6, 4)], 7, 72, [.int .i64 0, .str [], .int .i64 0, .str [], .int .i64 0, .int .i64 0, .bool false], [.int .i64, .str, .int .i64, .str, .int .i64, .int .i64, .bool]⟩ := rfl
@[simp] theorem Y_43 : Y 43 = some ⟨.func, 1, 8, [.nilFunc], []⟩ := rfl
@[simp] theorem Y_44 : Y 44 = some ⟨.func, 1, 8, [.nilFunc], []⟩ := rfl
@[simp] theorem Y_45 : Y 45 = some ⟨.int .u16, 1, 2, [.int .u16 0], []⟩ := rfl
@[simp] theorem Y_47 : Y 47 = some ⟨.func, 1, 8, [.nilFunc], []⟩ := rfl
@[simp] theorem Y_48 : Y 48 = some ⟨.func, 1, 8, [.nilFunc], []⟩ := rfl
@[simp] theorem Y_49 : Y 49 = some ⟨.func, 1, 8, [.nilFunc], []⟩ := rfl
@[simp] theorem Y_50 : Y 50 = some ⟨.func, 1, 8, [.nilFunc], []⟩ := rfl
@[simp] theorem Y_51 : Y 51 = some ⟨.ptr, 1, 8, [.nilPtr], []⟩ := rfl
@[simp] theorem Y_52 : Y 52 = some ⟨.func, 1, 8, [.nilFunc], []⟩ := rfl
@[simp] theorem Y_53 : Y 53 = some ⟨.func, 1, 8, [.nilFunc], []⟩ := rfl
@[simp] theorem Y_55 : Y 55 = some ⟨.func, 1, 8, [.nilFunc], []⟩ := rfl
@[simp] theorem Y_56 : Y 56 = some ⟨.func, 1, 8, [.nilFunc], []⟩ := rfl
@[simp] theorem Y_57 : Y 57 = some ⟨.struct [(0, 5), (1, 9), (2, 3), (3, 3), (4, 5)], 5, 48, [.int .u8 0, .str [], .int .i64 0, .int .i64 0, .int .u8 0], [.int .u8, .str, .int .i64, .int .i64, .int .u8]⟩ := rfl
@[simp] theorem Y_58 : Y 58 = some ⟨.struct [(0, 5), (1, 9), (2, 3), (3, 3), (4, 5)], 5, 48, [.int .u8 0, .str [], .int .i64 0, .int .i64 0, .int .u8 0], [.int .u8, .str, .int .i64, .int .i64, .int .u8]⟩ := rfl
@[simp] theorem Y_59 : Y 59 = some ⟨.func, 1, 8, [.nilFunc], []⟩ := rfl
@[simp] theorem Y_60 : Y 60 = some ⟨.func, 1, 8, [.nilFunc], []⟩ := rfl
@[simp] theorem Y_61 : Y 61 = some ⟨.func, 1, 8, [.nilFunc], []⟩ := rfl
@[simp] theorem Y_62 : Y 62 = some ⟨.func, 1, 8, [.nilFunc], []⟩ := rfl
@[simp] theorem Y_63 : Y 63 = some ⟨.func, 1, 8, [.nilFunc], []⟩ := rfl
@[simp] theorem Y_64 : Y 64 = some ⟨.slice 58, 1, 24, [.nilSlice], []⟩ := rfl
@[simp] theorem Y_65 : Y 65 = some ⟨.func, 1, 8, [.nilFunc], []⟩ := rfl
@[simp] theorem Y_66 : Y 66 = some ⟨.ptr, 1, 8, [.nilPtr], []⟩ := rfl
@[simp] theorem Y_67 : Y 67 = some ⟨.struct [(0, 27), (1, 3), (2, 24), (3, 3)], 4, 48, [.nilSlice, .int .i64 0, .int .i64 0, .int .i64 0], []⟩ := rfl
@[simp] theorem Y_68 : Y 68 = some ⟨.struct [(0, 27), (1, 3), (2, 24), (3, 3)], 4, 48, [.nilSlice, .int .i64 0, .int .i64 0, .int .i64 0], []⟩ := rfl
@[simp] theorem Y_69 : Y 69 = some ⟨.func, 1, 8, [.nilFunc], []⟩ := rfl
@[simp] theorem Y_70 : Y 70 = some ⟨.func, 1, 8, [.nilFunc], []⟩ := rfl
@[simp] theorem Y_71 : Y 71 = some ⟨.func, 1, 8, [.nilFunc], []⟩ := rfl
@[simp] theorem Y_72 : Y 72 = some ⟨.ptr, 1, 8, [.nilPtr], []⟩ := rfl
@[simp] theorem Y_73 : Y 73 = some ⟨.slice 3, 1, 24, [.nilSlice], []⟩ := rfl
@[simp] theorem Y_74 : Y 74 = some ⟨.struct [(0, 9), (1, 3), (2, 73), (3, 23), (4, 24), (5, 3)], 6, 88, [.str [], .int .i64 0, .nilSlice, .nilSlice, .int .i64 0, .int .i64 0], []⟩ := rfl
@[simp] theorem Y_75 : Y 75 = some ⟨.struct [(0, 9), (1, 3), (2, 73), (3, 23), (4, 24), (5, 3)], 6, 88, [.str [], .int .i64 0, .nilSlice, .nilSlice, .int .i64 0, .int .i64 0], []⟩ := rfl
@[simp] theorem Y_76 : Y 76 = some ⟨.func, 1, 8, [.nilFunc], []⟩ := rfl
@[simp] theorem Y_77 : Y 77 = some ⟨.func, 1, 8, [.nilFunc], []⟩ := rfl
@[simp] theorem Y_78 : Y 78 = some ⟨.func, 1, 8, [.nilFunc], []⟩ := rfl
@[simp] theorem Y_80 : Y 80 = some ⟨.func, 1, 8, [.nilFunc], []⟩ := rfl
@[simp] theorem Y_81 : Y 81 = some ⟨.func, 1, 8, [.nilFunc], []⟩ := rfl
@[simp] theorem Y_82 : Y 82 = some ⟨.func, 1, 8, [.nilFunc], []⟩ := rfl
@[simp] theorem Y_83 : Y 83 = some ⟨.func, 1, 8, [.nilFunc], []⟩ := rfl
@[simp] theorem Y_84 : Y 84 = some ⟨.ptr, 1, 8, [.nilPtr], []⟩ := rfl
@[simp] theorem Y_85 : Y 85 = some ⟨.struct [(0, 84), (1, 36)], 2, 32, [.nilPtr, .nilSlice], []⟩ := rfl
@[simp] theorem Y_86 : Y 86 = some ⟨.struct [(0, 84), (1, 36)], 2, 32, [.nilPtr, .nilSlice], []⟩ := rfl
@[simp] theorem Y_87 : Y 87 = some ⟨.iface, 1, 16, [.nilIface], []⟩ := rfl
@[simp] theorem Y_88 : Y 88 = some ⟨.iface, 1, 16, [.nilIface], []⟩ := rfl
@[simp] theorem Y_89 : Y 89 = some ⟨.func, 1, 8, [.nilFunc], []⟩ := rfl
@[simp] theorem Y_90 : Y 90 = some ⟨.func, 1, 8, [.nilFunc], []⟩ := rfl
@[simp] theorem Y_92 : Y 92 = some ⟨.func, 1, 8, [.nilFunc], []⟩ := rfl
@[simp] theorem Y_93 : Y 93 = some ⟨.func, 1, 8, [.nilFunc], []⟩ := rfl
@[simp] theorem Y_94 : Y 94 = some ⟨.func, 1, 8, [.nilFunc], []⟩ := rfl
@[simp] theorem Y_95 : Y 95 = some ⟨.func, 1, 8, [.nilFunc], []⟩ := rfl
@[simp] theorem Y_96 : Y 96 = some ⟨.struct [(0, 23), (1, 42), (8, 3), (9, 3), (10, 24)], 11, 120, [.nilSlice, .int .i64 0, .str [], .int .i64 0, .str [], .int .i64 0, .int .i64 0, .bool false, .int .i64 0, .int .i64 0, .int .i64 0], []⟩ := rfl
@[simp] theorem Y_97 : Y 97 = some ⟨.struct [(0, 23), (1, 42), (8, 3), (9, 3), (10, 24)], 11, 120, [.nilSlice, .int .i64 0, .str [], .int .i64 0, .str [], .int .i64 0, .int .i64 0, .bool false, .int .i64 0, .int .i64 0, .int .i64 0], []⟩ := rfl
@[simp] theorem Y_98 : Y 98 = some ⟨.func, 1, 8, [.nilFunc], []⟩ := rfl
@[simp] theorem Y_99 : Y 99 = some ⟨.func, 1, 8, [.nilFunc], []⟩ := rfl
@[simp] theorem Y_100 : Y 100 = some ⟨.func, 1, 8, [.nilFunc], []⟩ := rfl
@[simp] theorem Y_102 : Y 102 = some ⟨.func, 1, 8, [.nilFunc], []⟩ := rfl
@[simp] theorem Y_103 : Y 103 = some ⟨.func, 1, 8, [.nilFunc], []⟩ := rfl
@[simp] theorem Y_104 : Y 104 = some ⟨.func, 1, 8, [.nilFunc], []⟩ := rfl
@[simp] theorem Y_105 : Y 105 = some ⟨.func, 1, 8, [.nilFunc], []⟩ := rfl
@[simp] theorem Y_106 : Y 106 = some ⟨.func, 1, 8, [.nilFunc], []⟩ := rfl
@[simp] theorem Y_107 : Y 107 = some ⟨.slice 105, 1, 24, [.nilSlice], []⟩ := rfl
@[simp] theorem Y_108 : Y 108 = some ⟨.func, 1, 8, [.nilFunc], []⟩ := rfl
@[simp] theorem Y_109 : Y 109 = some ⟨.func, 1, 8, [.nilFunc], []⟩ := rfl
@[simp] theorem Y_110 : Y 110 = some ⟨.func, 1, 8, [.nilFunc], []⟩ := rfl
@[simp] theorem Y_111 : Y 111 = some ⟨.func, 1, 8, [.nilFunc], []⟩ := rfl
@[simp] theorem Y_113 : Y 113 = some ⟨.func, 1, 8, [.nilFunc], []⟩ := rfl
@[simp] theorem Y_114 : Y 114 = some ⟨.func, 1, 8, [.nilFunc], []⟩ := rfl
@[simp] theorem Y_115 : Y 115 = some ⟨.ptr, 1, 8, [.nilPtr], []⟩ := rfl
@[simp] theorem Y_116 : Y 116 = some ⟨.func, 1, 8, [.nilFunc], []⟩ := rfl
@[simp] theorem Y_117 : Y 117 = some ⟨.func, 1, 8, [.nilFunc], []⟩ := rfl
@[simp] theorem Y_118 : Y 118 = some ⟨.func, 1, 8, [.nilFunc], []⟩ := rfl
@[simp] theorem Y_119 : Y 119 = some ⟨.func, 1, 8, [.nilFunc], []⟩ := rfl
@[simp] theorem Y_120 : Y 120 = some ⟨.func, 1, 8, [.nilFunc], []⟩ := rfl
@[simp] theorem Y_121 : Y 121 = some ⟨.func, 1, 8, [.nilFunc], []⟩ := rfl
@[simp] theorem Y_122 : Y 122 = some ⟨.int .u64, 1, 8, [.int .u64 0], []⟩ := rfl
@[simp] theorem Y_123 : Y 123 = some ⟨.func, 1, 8, [.nilFunc], []⟩ := rfl
@[simp] theorem Y_124 : Y 124 = some ⟨.func, 1, 8, [.nilFunc], []⟩ := rfl
@[simp] theorem Y_126 : Y 126 = some ⟨.func, 1, 8, [.nilFunc], []⟩ := rfl
@[simp] theorem Y_127 : Y 127 = some ⟨.func, 1, 8, [.nilFunc], []⟩ := rfl
@[simp] theorem Y_128 : Y 128 = some ⟨.func, 1, 8, [.nilFunc], []⟩ := rfl
@[simp] theorem Y_129 : Y 129 = some ⟨.func, 1, 8, [.nilFunc], []⟩ := rfl
@[simp] theorem Y_130 : Y 130 = some ⟨.func, 1, 8, [.nilFunc], []⟩ := rfl
@[simp] theorem Y_132 : Y 132 = some ⟨.func, 1, 8, [.nilFunc], []⟩ := rfl
@[simp] theorem Y_133 : Y 133 = some ⟨.int .i64, 1, 8, [.int .i64 0], []⟩ := rfl
@[simp] theorem Y_135 : Y 135 = some ⟨.func, 1, 8, [.nilFunc], []⟩ := rfl
@[simp] theorem Y_136 : Y 136 = some ⟨.ptr, 1, 8, [.nilPtr], []⟩ := rfl
@[simp] theorem Y_137 : Y 137 = some ⟨.func, 1, 8, [.nilFunc], []⟩ := rfl
@[simp] theorem Y_138 : Y 138 = some ⟨.func, 1, 8, [.nilFunc], []⟩ := rfl
@[simp] theorem Y_139 : Y 139 = some ⟨.func, 1, 8, [.nilFunc], []⟩ := rfl
@[simp] theorem Y_140 : Y 140 = some ⟨.int .u64, 1, 8, [.int .u64 0], []⟩ := rfl
@[simp] theorem Y_142 : Y 142 = some ⟨.func, 1, 8, [.nilFunc], []⟩ := rfl
@[simp] theorem Y_143 : Y 143 = some ⟨.struct [(0, 9), (1, 9), (2, 88)], 3, 48, [.str [], .str [], .nilIface], []⟩ := rfl
@[simp] theorem Y_144 : Y 144 = some ⟨.struct [(0, 9), (1, 9), (2, 88)], 3, 48, [.str [], .str [], .nilIface], []⟩ := rfl
@[simp] theorem Y_145 : Y 145 = some ⟨.func, 1, 8, [.nilFunc], []⟩ := rfl
@[simp] theorem Y_146 : Y 146 = some ⟨.func, 1, 8, [.nilFunc], []⟩ := rfl
@[simp] theorem Y_147 : Y 147 = some ⟨.array 256 5, 256, 256, [.int .u8 0, .int .u8 0, .int .u8 0, .int .u8 0, .int .u8 0, .int .u8 0, .int .u8 0, .int .u8 0, .int .u8 0, .int .u8 0, .int .u8 0, .int .u8 0, .int .u8 0, .int .u8 0, .int .u8 0, .int .u8 0, .int .u8 0, .int .u8 0, .int .u8 0, .int .u8 0, .int .u8 0, .int .u8 0, .int .u8 0, .int .u8 0, .int .u8 0, .int .u8 0, .int .u8 0, .int .u8 0, .int .u8 0, .int .u8 0, .int .u8 0, .int .u8 0, .int .u8 0, .int .u8 0, .int .u8 0, .int .u8 0, .int .u8 0, .int .u8 0, .int .u8 0, .int .u8 0, .int .u8 0, .int .u8 0, .int .u8 0, .int .u8 0, .int .u8 0, .int .u8 0, .int .u8 0, .int .u8 0, .int .u8 0, .int .u8 0, .int .u8 0, .int .u8 0, .int .u8 0, .int .u8 0, .int .u8 0, .int .u8 0, .int .u8 0, .int .u8 0, .int .u8 0, .int .u8 0, .int .u8 0, .int .u8 0, .int .u8 0, .int .u8 0, .int .u8 0, .int .u8 0, .int .u8 0, .int .u8 0, .int .u8 0, .int .u8 0, .int .u8 0, .int .u8 0, .int .u8 0, .int .u8 0, .int .u8 0, .int .u8 0, .int .u8 0, .int .u8 0, .int .u8 0, .int .u8 0, .int .u8 0, .int .u8 0, .int .u8 0, .int .u8 0, .int .u8 0, .int .u8 0, .int .u8 0, .int .u8 0, .int .u8 0, .int .u8 0, .int .u8 0, .int .u8 0, .int .u8 0, .int .u8 0, .int .u8 0, .int .u8 0, .int .u8 0, .int .u8 0, .int .u8 0, .int .u8 0, .int .u8 0, .int .u8 0, .int .u8 0, .int .u8 0, .int .u8 0, .int .u8 0, .int .u8 0, .int .u8 0, .int .u8 0, .int .u8 0, .int .u8 0, .int .u8 0, .int .u8 0, .int .u8 0, .int .u8 0, .int .u8 0, .int .u8 0, .int .u8 0, .int .u8 0, .int .u8 0, .int .u8 0, .int .u8 0, .int .u8 0, .int .u8 0, .int .u8 0, .int .u8 0, .int .u8 0, .int .u8 0, .int .u8 0, .int .u8 0, .int .u8 0, .int .u8 0, .int .u8 0, .int .u8 0, .int .u8 0, .int .u8 0, .int .u8 0, .int .u8 0, .int .u8 0, .int .u8 0, .int .u8 0, .int .u8 0, .int .u8 0, .int .u8 0, .int .u8 0, .int .u8 0, .int .u8 0, .int .u8 0, .int .u8 0, .int .u8 0, .int .u8 0, .int .u8 0, .int .u8 0, .int .u8 0, .int .u8 0, .int .u8 0, .int .u8 0, .int .u8 0, .int .u8 0, .int .u8 0, .int .u8 0, .int .u8 0, .int .u8 0, .int .u8 0, .int .u8 0, .int .u8 0, .int .u8 0, .int .u8 0, .int .u8 0, .int .u8 0, .int .u8 0, .int .u8 0, .int .u8 0, .int .u8 0, .int .u8 0, .int .u8 0, .int .u8 0, .int .u8 0, .int .u8 0, .int .u8 0, .int .u8 0, .int .u8 0, .int .u8 0, .int .u8 0, .int .u8 0, .int .u8 0, .int .u8 0, .int .u8 0, .int .u8 0, .int .u8 0, .int .u8 0, .int .u8 0, .int .u8 0, .int .u8 0, .int .u8 0, .int .u8 0, .int .u8 0, .int .u8 0, .int .u8 0, .int .u8 0, .int .u8 0, .int .u8 0, .int .u8 0, .int .u8 0, .int .u8 0, .int .u8 0, .int .u8 0, .int .u8 0, .int .u8 0, .int .u8 0, .int .u8 0, .int .u8 0, .int .u8 0, .int .u8 0, .int .u8 0, .int .u8 0, .int .u8 0, .int .u8 0, .int .u8 0, .int .u8 0, .int .u8 0, .int .u8 0, .int .u8 0, .int .u8 0, .int .u8 0, .int .u8 0, .int .u8 0, .int .u8 0, .int .u8 0, .int .u8 0, .int .u8 0, .int .u8 0, .int .u8 0, .int .u8 0, .int .u8 0, .int .u8 0, .int .u8 0, .int .u8 0, .int .u8 0, .int .u8 0, .int .u8 0, .int .u8 0, .int .u8 0, .int .u8 0, .int .u8 0, .int .u8 0, .int .u8 0, .int .u8 0, .int .u8 0, .int .u8 0, .int .u8 0, .int .u8 0, .int .u8 0, .int .u8 0, .int .u8 0, .int .u8 0], [.int .u8, .int .u8, .int .u8, .int .u8, .int .u8, .int .u8, .int .u8, .int .u8, .int .u8, .int .u8, .int .u8, .int .u8, .int .u8, .int .u8, .int .u8, .int .u8, .int .u8, .int .u8, .int .u8, .int .u8, .int .u8, .int .u8, .int .u8, .int .u8, .int .u8, .int .u8, .int .u8, .int .u8, .int .u8, .int .u8, .int .u8, .int .u8, .int .u8, .int .u8, .int .u8, .int .u8, .int .u8, .int .u8, .int .u8, .int .u8, .int .u8, .int .u8, .int .u8, .int .u8, .int .u8, .int .u8, .int .u8, .int .u8, .int .u8, .int .u8, .int .u8, .int .u8, .int .u8, .int .u8, .int .u8, .int .u8, .int .u8, .int .u8, .int .u8, .int .u8, .int .u8, .int .u8, .int .u8, .int .u8, .int .u8, .int .u8, .int .u8, .int .u8, .int .u8, .int .u8, .int .u8, .int .u8, .int .u8, .int .u8, .int .u8, .int .u8, .int .u8, .int .u8, .int .u8, .int .u8, .int .u8, .int .u8, .int .u8, .int .u8, .int .u8, .int .u8, .int .u8, .int .u8, .int .u8, .int .u8, .int .u8, .int .u8, .int .u8, .int .u8, .int .u8, .int .u8, .int .u8, .int .u8, .int .u8, .int .u8, .int .u8, .int .u8, .int .u8, .int .u8, .int .u8, .int .u8, .int .u8, .int .u8, .int .u8, .int .u8, .int .u8, .int .u8, .int .u8, .int .u8, .int .u8, .int .u8, .int .u8, .int .u8, .int .u8, .int .u8, .int .u8, .int .u8, .int .u8, .int .u8, .int .u8, .int .u8, .int .u8, .int .u8, .int .u8, .int .u8, .int .u8, .int .u8, .int .u8, .int .u8, .int .u8, .int .u8, .int .u8, .int .u8, .int .u8, .int .u8, .int .u8, .int .u8, .int .u8, .int .u8, .int .u8, .int .u8, .int .u8, .int .u8, .int .u8, .int .u8, .int .u8, .int .u8, .int .u8, .int .u8, .int .u8, .int .u8, .int .u8, .int .u8, .int .u8, .int .u8, .int .u8, .int .u8, .int .u8, .int .u8, .int .u8, .int .u8, .int .u8, .int .u8, .int .u8, .int .u8, .int .u8, .int .u8, .int .u8, .int .u8, .int .u8, .int .u8, .int .u8, .int .u8, .int .u8, .int .u8, .int .u8, .int .u8, .int .u8, .int .u8, .int .u8, .int .u8, .int .u8, .int .u8, .int .u8, .int .u8, .int .u8, .int .u8, .int .u8, .int .u8, .int .u8, .int .u8, .int .u8, .int .u8, .int .u8, .int .u8, .int .u8, .int .u8, .int .u8, .int .u8, .int .u8, .int .u8, .int .u8, .int .u8, .int .u8, .int .u8, .int .u8, .int .u8, .int .u8, .int .u8, .int .u8, .int .u8, .int .u8, .int .u8, .int .u8, .int .u8, .int .u8, .int .u8, .int .u8, .int .u8, .int .u8, .int .u8, .int .u8, .int .u8, .int .u8, .int .u8, .int .u8, .int .u8, .int .u8, .int .u8, .int .u8, .int .u8, .int .u8, .int .u8, .int .u8, .int .u8, .int .u8, .int .u8, .int .u8, .int .u8, .int .u8, .int .u8, .int .u8, .int .u8, .int .u8, .int .u8, .int .u8, .int .u8, .int .u8, .int .u8, .int .u8, .int .u8]⟩ := rfl
@[simp] theorem Y_148 : Y 148 = some ⟨.struct [(0, 5), (1, 5)], 2, 2, [.int .u8 0, .int .u8 0], [.int .u8, .int .u8]⟩ := rfl
@[simp] theorem Y_149 : Y 149 = some ⟨.struct [(0, 5), (1, 5)], 2, 2, [.int .u8 0, .int .u8 0], [.int .u8, .int .u8]⟩ := rfl
@[simp] theorem Y_150 : Y 150 = some ⟨.array 16 149, 32, 32, [.int .u8 0, .int .u8 0, .int .u8 0, .int .u8 0, .int .u8 0, .int .u8 0, .int .u8 0, .int .u8 0, .int .u8 0, .int .u8 0, .int .u8 0, .int .u8 0, .int .u8 0, .int .u8 0, .int .u8 0, .int .u8 0, .int .u8 0, .int .u8 0, .int .u8 0, .int .u8 0, .int .u8 0, .int .u8 0, .int .u8 0, .int .u8 0, .int .u8 0, .int .u8 0, .int .u8 0, .int .u8 0, .int .u8 0, .int .u8 0, .int .u8 0, .int .u8 0], [.int .u8, .int .u8, .int .u8, .int .u8, .int .u8, .int .u8, .int .u8, .int .u8, .int .u8, .int .u8, .int .u8, .int .u8, .int .u8, .int .u8, .int .u8, .int .u8, .int .u8, .int .u8, .int .u8, .int .u8, .int .u8, .int .u8, .int .u8, .int .u8, .int .u8, .int .u8, .int .u8, .int .u8, .int .u8, .int .u8, .int .u8, .int .u8]⟩ := rfl
@[simp] theorem Y_151 : Y 151 = some ⟨.int .u32, 1, 4, [.int .u32 0], []⟩ := rfl
@[simp] theorem Y_153 : Y 153 = some ⟨.func, 1, 8, [.nilFunc], []⟩ := rfl
@[simp] theorem Y_154 : Y 154 = some ⟨.func, 1, 8, [.nilFunc], []⟩ := rfl
@[simp] theorem Y_155 : Y 155 = some ⟨.ptr, 1, 8, [.nilPtr], []⟩ := rfl
@[simp] theorem Y_156 : Y 156 = some ⟨.struct [(0, 9)], 1, 16, [.str []], [.str]⟩ := rfl
@[simp] theorem Y_157 : Y 157 = some ⟨.struct [(0, 9)], 1, 16, [.str []], [.str]⟩ := rfl
@[simp] theorem Y_158 : Y 158 = some ⟨.func, 1, 8, [.nilFunc], []⟩ := rfl
@[simp] theorem Y_159 : Y 159 = some ⟨.array 24 5, 24, 24, [.int .u8 0, .int .u8 0, .int .u8 0, .int .u8 0, .int .u8 0, .int .u8 0, .int .u8 0, .int .u8 0, .int .u8 0, .int .u8 0, .int .u8 0, .int .u8 0, .int .u8 0, .int .u8 0, .int .u8 0, .int .u8 0, .int .u8 0, .int .u8 0, .int .u8 0, .int .u8 0, .int .u8 0, .int .u8 0, .int .u8 0, .int .u8 0], [.int .u8, .int .u8, .int .u8, .int .u8, .int .u8, .int .u8, .int .u8, .int .u8, .int .u8, .int .u8, .int .u8, .int .u8, .int .u8, .int .u8, .int .u8, .int .u8, .int .u8, .int .u8, .int .u8, .int .u8, .int .u8, .int .u8, .int .u8, .int .u8]⟩ := rfl
@[simp] theorem Y_160 : Y 160 = some ⟨.func, 1, 8, [.nilFunc], []⟩ := rfl
@[simp] theorem Y_161 : Y 161 = some ⟨.func, 1, 8, [.nilFunc], []⟩ := rfl
@[simp] theorem Y_163 : Y 163 = some ⟨.func, 1, 8, [.nilFunc], []⟩ := rfl
@[simp] theorem Y_164 : Y 164 = some ⟨.func, 1, 8, [.nilFunc], []⟩ := rfl
@[simp] theorem Y_165 : Y 165 = some ⟨.array 20 140, 20, 160, [.int .u64 0, .int .u64 0, .int .u64 0, .int .u64 0, .int .u64 0, .int .u64 0, .int .u64 0, .int .u64 0, .int .u64 0, .int .u64 0, .int .u64 0, .int .u64 0, .int .u64 0, .int .u64 0, .int .u64 0, .int .u64 0, .int .u64 0, .int .u64 0, .int .u64 0, .int .u64 0], [.int .u64, .int .u64, .int .u64, .int .u64, .int .u64, .int .u64, .int .u64, .int .u64, .int .u64, .int .u64, .int .u64, .int .u64, .int .u64, .int .u64, .int .u64, .int .u64, .int .u64, .int .u64, .int .u64, .int .u64]⟩ := rfl
@[simp] theorem Y_166 : Y 166 = some ⟨.array 65 5, 65, 65, [.int .u8 0, .int .u8 0, .int .u8 0, .int .u8 0, .int .u8 0, .int .u8 0, .int .u8 0, .int .u8 0, .int .u8 0, .int .u8 0, .int .u8 0, .int .u8 0, .int .u8 0, .int .u8 0, .int .u8 0, .int .u8 0, .int .u8 0, .int .u8 0, .int .u8 0, .int .u8 0, .int .u8 0, .int .u8 0, .int .u8 0, .int .u8 0, .int .u8 0, .int .u8 0, .int .u8 0, .int .u8 0, .int .u8 0, .int .u8 0, .int .u8 0, .int .u8 0, .int .u8 0, .int .u8 0, .int .u8 0, .int .u8 0, .int .u8 0, .int .u8 0, .int .u8 0, .int .u8 0, .int .u8 0, .int .u8 0, .int .u8 0, .int .u8 0, .int .u8 0, .int .u8 0, .int .u8 0, .int .u8 0, .int .u8 0, .int .u8 0, .int .u8 0, .int .u8 0, .int .u8 0, .int .u8 0, .int .u8 0, .int .u8 0, .int .u8 0, .int .u8 0, .int .u8 0, .int .u8 0, .int .u8 0, .int .u8 0, .int .u8 0, .int .u8 0, .int .u8 0], [.int .u8, .int .u8, .int .u8, .int .u8, .int .u8, .int .u8, .int .u8, .int .u8, .int .u8, .int .u8, .int .u8, .int .u8, .int .u8, .int .u8, .int .u8, .int .u8, .int .u8, .int .u8, .int .u8, .int .u8, .int .u8, .int .u8, .int .u8, .int .u8, .int .u8, .int .u8, .int .u8, .int .u8, .int .u8, .int .u8, .int .u8, .int .u8, .int .u8, .int .u8, .int .u8, .int .u8, .int .u8, .int .u8, .int .u8, .int .u8, .int .u8, .int .u8, .int .u8, .int .u8, .int .u8, .int .u8, .int .u8, .int .u8, .int .u8, .int .u8, .int .u8, .int .u8, .int .u8, .int .u8, .int .u8, .int .u8, .int .u8, .int .u8, .int .u8, .int .u8, .int .u8, .int .u8, .int .u8, .int .u8, .int .u8]⟩ := rfl
@[simp] theorem Y_167 : Y 167 = some ⟨.func, 1, 8, [.nilFunc], []⟩ := rfl
@[simp] theorem Y_168 : Y 168 = some ⟨.func, 1, 8, [.nilFunc], []⟩ := rfl
@[simp] theorem Y_169 : Y 169 = some ⟨.array 32 5, 32, 32, [.int .u8 0, .int .u8 0, .int .u8 0, .int .u8 0, .int .u8 0, .int .u8 0, .int .u8 0, .int .u8 0, .int .u8 0, .int .u8 0, .int .u8 0, .int .u8 0, .int .u8 0, .int .u8 0, .int .u8 0, .int .u8 0, .int .u8 0, .int .u8 0, .int .u8 0, .int .u8 0, .int .u8 0, .int .u8 0, .int .u8 0, .int .u8 0, .int .u8 0, .int .u8 0, .int .u8 0, .int .u8 0, .int .u8 0, .int .u8 0, .int .u8 0, .int .u8 0], [.int .u8, .int .u8, .int .u8, .int .u8, .int .u8, .int .u8, .int .u8, .int .u8, .int .u8, .int .u8, .int .u8, .int .u8, .int .u8, .int .u8, .int .u8, .int .u8, .int .u8, .int .u8, .int .u8, .int .u8, .int .u8, .int .u8, .int .u8, .int .u8, .int .u8, .int .u8, .int .u8, .int .u8, .int .u8, .int .u8, .int .u8, .int .u8]⟩ := rfl
@[simp] theorem Y_170 : Y 170 = some ⟨.array 64 5, 64, 64, [.int .u8 0, .int .u8 0, .int .u8 0, .int .u8 0, .int .u8 0, .int .u8 0, .int .u8 0, .int .u8 0, .int .u8 0, .int .u8 0, .int .u8 0, .int .u8 0, .int .u8 0, .int .u8 0, .int .u8 0, .int .u8 0, .int .u8 0, .int .u8 0, .int .u8 0, .int .u8 0, .int .u8 0, .int .u8 0, .int .u8 0, .int .u8 0, .int .u8 0, .int .u8 0, .int .u8 0, .int .u8 0, .int .u8 0, .int .u8 0, .int .u8 0, .int .u8 0, .int .u8 0, .int .u8 0, .int .u8 0, .int .u8 0, .int .u8 0, .int .u8 0, .int .u8 0, .int .u8 0, .int .u8 0, .int .u8 0, .int .u8 0, .int .u8 0, .int .u8 0, .int .u8 0, .int .u8 0, .int .u8 0, .int .u8 0, .int .u8 0, .int .u8 0, .int .u8 0, .int .u8 0, .int .u8 0, .int .u8 0, .int .u8 0, .int .u8 0, .int .u8 0, .int .u8 0, .int .u8 0, .int .u8 0, .int .u8 0, .int .u8 0, .int .u8 0], [.int .u8, .int .u8, .int .u8, .int .u8, .int .u8, .int .u8, .int .u8, .int .u8, .int .u8, .int .u8, .int .u8, .int .u8, .int .u8, .int .u8, .int .u8, .int .u8, .int .u8, .int .u8, .int .u8, .int .u8, .int .u8, .int .u8, .int .u8, .int .u8, .int .u8, .int .u8, .int .u8, .int .u8, .int .u8, .int .u8, .int .u8, .int .u8, .int .u8, .int .u8, .int .u8, .int .u8, .int .u8, .int .u8, .int .u8, .int .u8, .int .u8, .int .u8, .int .u8, .int .u8, .int .u8, .int .u8, .int .u8, .int .u8, .int .u8, .int .u8, .int .u8, .int .u8, .int .u8, .int .u8, .int .u8, .int .u8, .int .u8, .int .u8, .int .u8, .int .u8, .int .u8, .int .u8, .int .u8, .int .u8]⟩ := rfl
@[simp] theorem Y_171 : Y 171 = some ⟨.struct [(0, 17), (1, 17), (2, 17), (3, 9)], 4, 40, [.nilPtr, .nilPtr, .nilPtr, .str []], []⟩ := rfl
@[simp] theorem Y_172 : Y 172 = some ⟨.struct [(0, 17), (1, 17), (2, 17), (3, 9)], 4, 40, [.nilPtr, .nilPtr, .nilPtr, .str []], []⟩ := rfl
@[simp] theorem Y_173 : Y 173 = some ⟨.array 0 16, 0, 0, [], []⟩ := rfl
@[simp] theorem Y_174 : Y 174 = some ⟨.struct [(0, 173)], 0, 0, [], []⟩ := rfl
@[simp] theorem Y_175 : Y 175 = some ⟨.struct [(0, 173)], 0, 0, [], []⟩ := rfl
@[simp] theorem Y_176 : Y 176 = some ⟨.int .u8, 1, 1, [.int .u8 0], []⟩ := rfl
@[simp] theorem Y_177 : Y 177 = some ⟨.int .u8, 1, 1, [.int .u8 0], []⟩ := rfl
@[simp] theorem Y_178 : Y 178 = some ⟨.func, 1, 8, [.nilFunc], []⟩ := rfl
@[simp] theorem Y_179 : Y 179 = some ⟨.int .i32, 1, 4, [.int .i32 0], []⟩ := rfl
@[simp] theorem Y_180 : Y 180 = some ⟨.int .i32, 1, 4, [.int .i32 0], []⟩ := rfl
@[simp] theorem Y_181 : Y 181 = some ⟨.struct [(0, 12), (1, 12), (2, 151), (3, 176), (4, 5), (5, 5), (6, 177), (7, 178), (8, 115), (9, 179), (10, 180)], 11, 48, [.int .u64 0, .int .u64 0, .int .u32 0, .int .u8 0, .int .u8 0, .int .u8 0, .int .u8 0, .nilFunc, .nilPtr, .int .i32 0, .int .i32 0], []⟩ := rfl
@[simp] theorem Y_182 : Y 182 = some ⟨.struct [(0, 12), (1, 12), (2, 151), (3, 176), (4, 5), (5, 5), (6, 177), (7, 178), (8, 115), (9, 179), (10, 180)], 11, 48, [.int .u64 0, .int .u64 0, .int .u32 0, .int .u8 0, .int .u8 0, .int .u8 0, .int .u8 0, .nilFunc, .nilPtr, .int .i32 0, .int .i32 0], []⟩ := rfl
end Go.Proofs.YtkbfgmneibabgaaDoor
