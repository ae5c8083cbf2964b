/- The program's types as the interpreter sees them. Printed by a program. -/
import Derived.Test.YtmmpjnjdddaldaaDoorRows
import Derived.Test.YtmmpjnjdddaldaaDoorPmX
set_option linter.unusedVariables false
set_option maxRecDepth 100000
namespace Go.Proofs.YtmmpjnjdddaldaaDoor
open Go.Pm
def tys : Tree Ty :=
  .node 81 ⟨.array 2 80, 2, 16, [.nilFunc, .nilFunc], []⟩
  (.node 40 ⟨.func, 1, 8, [.nilFunc], []⟩
   (.node 20 ⟨.iface, 1, 16, [.nilIface], []⟩
    (.node 9 ⟨.str, 1, 16, [.str []], []⟩
     (.node 5 ⟨.int .u8, 1, 1, [.int .u8 0], []⟩
      (.node 3 ⟨.int .i64, 1, 8, [.int .i64 0], []⟩
       (.node 2 ⟨.int .i64, 1, 8, [.int .i64 0], []⟩
        (.node 1 ⟨.func, 1, 8, [.nilFunc], []⟩
         (.nil)
         (.nil))
        (.nil))
       (.node 4 ⟨.bool, 1, 1, [.bool false], []⟩
        (.nil)
        (.nil)))
      (.node 7 ⟨.struct [(0, 2), (1, 3), (2, 4), (3, 6)], 4, 24, [.int .i64 0, .int .i64 0, .bool false, .int .u8 0], [.int .i64, .int .i64, .bool, .int .u8]⟩
       (.node 6 ⟨.int .u8, 1, 1, [.int .u8 0], []⟩
        (.nil)
        (.nil))
       (.node 8 ⟨.struct [(0, 2), (1, 3), (2, 4), (3, 6)], 4, 24, [.int .i64 0, .int .i64 0, .bool false, .int .u8 0], [.int .i64, .int .i64, .bool, .int .u8]⟩
        (.nil)
        (.nil))))
     (.node 16 ⟨.ptr, 1, 8, [.nilPtr], []⟩
      (.node 12 ⟨.int .u64, 1, 8, [.int .u64 0], []⟩
       (.node 11 ⟨.str, 1, 16, [.str []], []⟩
        (.node 10 ⟨.str, 1, 16, [.str []], []⟩
         (.nil)
         (.nil))
        (.nil))
       (.node 15 ⟨.ptr, 1, 8, [.nilPtr], []⟩
        (.nil)
        (.nil)))
      (.node 18 ⟨.struct [(0, 17)], 1, 8, [.nilPtr], []⟩
       (.node 17 ⟨.ptr, 1, 8, [.nilPtr], []⟩
        (.nil)
        (.nil))
       (.node 19 ⟨.struct [(0, 17)], 1, 8, [.nilPtr], []⟩
        (.nil)
        (.nil)))))
    (.node 30 ⟨.func, 1, 8, [.nilFunc], []⟩
     (.node 25 ⟨.struct [(0, 3), (1, 3)], 2, 16, [.int .i64 0, .int .i64 0], [.int .i64, .int .i64]⟩
      (.node 23 ⟨.struct [(0, 3), (1, 3), (2, 3)], 3, 24, [.int .i64 0, .int .i64 0, .int .i64 0], [.int .i64, .int .i64, .int .i64]⟩
       (.node 22 ⟨.struct [(0, 3), (1, 3), (2, 3)], 3, 24, [.int .i64 0, .int .i64 0, .int .i64 0], [.int .i64, .int .i64, .int .i64]⟩
        (.node 21 ⟨.int .i32, 1, 4, [.int .i32 0], []⟩
         (.nil)
         (.nil))
        (.nil))
       (.node 24 ⟨.struct [(0, 3), (1, 3)], 2, 16, [.int .i64 0, .int .i64 0], [.int .i64, .int .i64]⟩
        (.nil)
        (.nil)))
      (.node 28 ⟨.func, 1, 8, [.nilFunc], []⟩
       (.node 26 ⟨.int .i64, 1, 8, [.int .i64 0], []⟩
        (.nil)
        (.nil))
       (.node 29 ⟨.func, 1, 8, [.nilFunc], []⟩
        (.nil)
        (.nil))))
     (.node 35 ⟨.func, 1, 8, [.nilFunc], []⟩
      (.node 32 ⟨.slice 23, 1, 24, [.nilSlice], []⟩
       (.node 31 ⟨.func, 1, 8, [.nilFunc], []⟩
        (.nil)
        (.nil))
       (.node 34 ⟨.func, 1, 8, [.nilFunc], []⟩
        (.nil)
        (.nil)))
      (.node 38 ⟨.func, 1, 8, [.nilFunc], []⟩
       (.node 36 ⟨.func, 1, 8, [.nilFunc], []⟩
        (.nil)
        (.nil))
       (.node 39 ⟨.func, 1, 8, [.nilFunc], []⟩
        (.nil)
        (.nil))))))
   (.node 63 ⟨.func, 1, 8, [.nilFunc], []⟩
    (.node 50 ⟨.func, 1, 8, [.nilFunc], []⟩
     (.node 45 ⟨.array 2 44, 2, 2, [.int .i8 0, .int .i8 0], [.int .i8, .int .i8]⟩
      (.node 43 ⟨.func, 1, 8, [.nilFunc], []⟩
       (.node 42 ⟨.func, 1, 8, [.nilFunc], []⟩
        (.node 41 ⟨.func, 1, 8, [.nilFunc], []⟩
         (.nil)
         (.nil))
        (.nil))
       (.node 44 ⟨.int .i8, 1, 1, [.int .i8 0], []⟩
        (.nil)
        (.nil)))
      (.node 47 ⟨.func, 1, 8, [.nilFunc], []⟩
       (.node 46 ⟨.array 3 45, 6, 6, [.int .i8 0, .int .i8 0, .int .i8 0, .int .i8 0, .int .i8 0, .int .i8 0], [.int .i8, .int .i8, .int .i8, .int .i8, .int .i8, .int .i8]⟩
        (.nil)
        (.nil))
       (.node 49 ⟨.func, 1, 8, [.nilFunc], []⟩
        (.nil)
        (.nil))))
     (.node 56 ⟨.func, 1, 8, [.nilFunc], []⟩
      (.node 53 ⟨.func, 1, 8, [.nilFunc], []⟩
       (.node 52 ⟨.func, 1, 8, [.nilFunc], []⟩
        (.node 51 ⟨.func, 1, 8, [.nilFunc], []⟩
         (.nil)
         (.nil))
        (.nil))
       (.node 54 ⟨.func, 1, 8, [.nilFunc], []⟩
        (.nil)
        (.nil)))
      (.node 60 ⟨.func, 1, 8, [.nilFunc], []⟩
       (.node 58 ⟨.func, 1, 8, [.nilFunc], []⟩
        (.nil)
        (.nil))
       (.node 62 ⟨.func, 1, 8, [.nilFunc], []⟩
        (.nil)
        (.nil)))))
    (.node 73 ⟨.func, 1, 8, [.nilFunc], []⟩
     (.node 69 ⟨.func, 1, 8, [.nilFunc], []⟩
      (.node 66 ⟨.func, 1, 8, [.nilFunc], []⟩
       (.node 65 ⟨.func, 1, 8, [.nilFunc], []⟩
        (.node 64 ⟨.func, 1, 8, [.nilFunc], []⟩
         (.nil)
         (.nil))
        (.nil))
       (.node 67 ⟨.func, 1, 8, [.nilFunc], []⟩
        (.nil)
        (.nil)))
      (.node 71 ⟨.func, 1, 8, [.nilFunc], []⟩
       (.node 70 ⟨.func, 1, 8, [.nilFunc], []⟩
        (.nil)
        (.nil))
       (.node 72 ⟨.func, 1, 8, [.nilFunc], []⟩
        (.nil)
        (.nil))))
     (.node 77 ⟨.slice 3, 1, 24, [.nilSlice], []⟩
      (.node 75 ⟨.func, 1, 8, [.nilFunc], []⟩
       (.node 74 ⟨.func, 1, 8, [.nilFunc], []⟩
        (.nil)
        (.nil))
       (.node 76 ⟨.func, 1, 8, [.nilFunc], []⟩
        (.nil)
        (.nil)))
      (.node 79 ⟨.slice 25, 1, 24, [.nilSlice], []⟩
       (.node 78 ⟨.func, 1, 8, [.nilFunc], []⟩
        (.nil)
        (.nil))
       (.node 80 ⟨.func, 1, 8, [.nilFunc], []⟩
        (.nil)
        (.nil)))))))
  (.node 120 ⟨.func, 1, 8, [.nilFunc], []⟩
   (.node 101 ⟨.func, 1, 8, [.nilFunc], []⟩
    (.node 90 ⟨.array 5 9, 5, 80, [.str [], .str [], .str [], .str [], .str []], [.str, .str, .str, .str, .str]⟩
     (.node 86 ⟨.func, 1, 8, [.nilFunc], []⟩
      (.node 84 ⟨.array 7 3, 7, 56, [.int .i64 0, .int .i64 0, .int .i64 0, .int .i64 0, .int .i64 0, .int .i64 0, .int .i64 0], [.int .i64, .int .i64, .int .i64, .int .i64, .int .i64, .int .i64, .int .i64]⟩
       (.node 83 ⟨.func, 1, 8, [.nilFunc], []⟩
        (.node 82 ⟨.func, 1, 8, [.nilFunc], []⟩
         (.nil)
         (.nil))
        (.nil))
       (.node 85 ⟨.func, 1, 8, [.nilFunc], []⟩
        (.nil)
        (.nil)))
      (.node 88 ⟨.func, 1, 8, [.nilFunc], []⟩
       (.node 87 ⟨.func, 1, 8, [.nilFunc], []⟩
        (.nil)
        (.nil))
       (.node 89 ⟨.int .u64, 1, 8, [.int .u64 0], []⟩
        (.nil)
        (.nil))))
     (.node 95 ⟨.int .i64, 1, 8, [.int .i64 0], []⟩
      (.node 93 ⟨.func, 1, 8, [.nilFunc], []⟩
       (.node 92 ⟨.func, 1, 8, [.nilFunc], []⟩
        (.node 91 ⟨.func, 1, 8, [.nilFunc], []⟩
         (.nil)
         (.nil))
        (.nil))
       (.node 94 ⟨.func, 1, 8, [.nilFunc], []⟩
        (.nil)
        (.nil)))
      (.node 98 ⟨.func, 1, 8, [.nilFunc], []⟩
       (.node 97 ⟨.func, 1, 8, [.nilFunc], []⟩
        (.nil)
        (.nil))
       (.node 99 ⟨.func, 1, 8, [.nilFunc], []⟩
        (.nil)
        (.nil)))))
    (.node 111 ⟨.struct [(0, 109), (1, 110)], 2, 32, [.nilPtr, .nilSlice], []⟩
     (.node 107 ⟨.func, 1, 8, [.nilFunc], []⟩
      (.node 104 ⟨.func, 1, 8, [.nilFunc], []⟩
       (.node 103 ⟨.int .u32, 1, 4, [.int .u32 0], []⟩
        (.node 102 ⟨.func, 1, 8, [.nilFunc], []⟩
         (.nil)
         (.nil))
        (.nil))
       (.node 105 ⟨.int .u64, 1, 8, [.int .u64 0], []⟩
        (.nil)
        (.nil)))
      (.node 109 ⟨.ptr, 1, 8, [.nilPtr], []⟩
       (.node 108 ⟨.func, 1, 8, [.nilFunc], []⟩
        (.nil)
        (.nil))
       (.node 110 ⟨.slice 5, 1, 24, [.nilSlice], []⟩
        (.nil)
        (.nil))))
     (.node 115 ⟨.iface, 1, 16, [.nilIface], []⟩
      (.node 113 ⟨.func, 1, 8, [.nilFunc], []⟩
       (.node 112 ⟨.struct [(0, 109), (1, 110)], 2, 32, [.nilPtr, .nilSlice], []⟩
        (.nil)
        (.nil))
       (.node 114 ⟨.iface, 1, 16, [.nilIface], []⟩
        (.nil)
        (.nil)))
      (.node 118 ⟨.func, 1, 8, [.nilFunc], []⟩
       (.node 117 ⟨.func, 1, 8, [.nilFunc], []⟩
        (.nil)
        (.nil))
       (.node 119 ⟨.func, 1, 8, [.nilFunc], []⟩
        (.nil)
        (.nil))))))
   (.node 142 ⟨.func, 1, 8, [.nilFunc], []⟩
    (.node 131 ⟨.ptr, 1, 8, [.nilPtr], []⟩
     (.node 125 ⟨.ptr, 1, 8, [.nilPtr], []⟩
      (.node 123 ⟨.func, 1, 8, [.nilFunc], []⟩
       (.node 122 ⟨.func, 1, 8, [.nilFunc], []⟩
        (.node 121 ⟨.int .u64, 1, 8, [.int .u64 0], []⟩
         (.nil)
         (.nil))
        (.nil))
       (.node 124 ⟨.func, 1, 8, [.nilFunc], []⟩
        (.nil)
        (.nil)))
      (.node 128 ⟨.func, 1, 8, [.nilFunc], []⟩
       (.node 126 ⟨.func, 1, 8, [.nilFunc], []⟩
        (.nil)
        (.nil))
       (.node 130 ⟨.func, 1, 8, [.nilFunc], []⟩
        (.nil)
        (.nil))))
     (.node 137 ⟨.func, 1, 8, [.nilFunc], []⟩
      (.node 134 ⟨.func, 1, 8, [.nilFunc], []⟩
       (.node 133 ⟨.ptr, 1, 8, [.nilPtr], []⟩
        (.node 132 ⟨.func, 1, 8, [.nilFunc], []⟩
         (.nil)
         (.nil))
        (.nil))
       (.node 136 ⟨.func, 1, 8, [.nilFunc], []⟩
        (.nil)
        (.nil)))
      (.node 139 ⟨.func, 1, 8, [.nilFunc], []⟩
       (.node 138 ⟨.array 24 5, 24, 24, [.int .u8 0, .int .u8 0, .int .u8 0, .int .u8 0, .int .u8 0, .int .u8 0, .int .u8 0, .int .u8 0, .int .u8 0, .int .u8 0, .int .u8 0, .int .u8 0, .int .u8 0, .int .u8 0, .int .u8 0, .int .u8 0, .int .u8 0, .int .u8 0, .int .u8 0, .int .u8 0, .int .u8 0, .int .u8 0, .int .u8 0, .int .u8 0], [.int .u8, .int .u8, .int .u8, .int .u8, .int .u8, .int .u8, .int .u8, .int .u8, .int .u8, .int .u8, .int .u8, .int .u8, .int .u8, .int .u8, .int .u8, .int .u8, .int .u8, .int .u8, .int .u8, .int .u8, .int .u8, .int .u8, .int .u8, .int .u8]⟩
        (.nil)
        (.nil))
       (.node 141 ⟨.func, 1, 8, [.nilFunc], []⟩
        (.nil)
        (.nil)))))
    (.node 151 ⟨.struct [(0, 149)], 0, 0, [], []⟩
     (.node 147 ⟨.struct [(0, 17), (1, 17), (2, 17), (3, 9)], 4, 40, [.nilPtr, .nilPtr, .nilPtr, .str []], []⟩
      (.node 145 ⟨.array 32 5, 32, 32, [.int .u8 0, .int .u8 0, .int .u8 0, .int .u8 0, .int .u8 0, .int .u8 0, .int .u8 0, .int .u8 0, .int .u8 0, .int .u8 0, .int .u8 0, .int .u8 0, .int .u8 0, .int .u8 0, .int .u8 0, .int .u8 0, .int .u8 0, .int .u8 0, .int .u8 0, .int .u8 0, .int .u8 0, .int .u8 0, .int .u8 0, .int .u8 0, .int .u8 0, .int .u8 0, .int .u8 0, .int .u8 0, .int .u8 0, .int .u8 0, .int .u8 0, .int .u8 0], [.int .u8, .int .u8, .int .u8, .int .u8, .int .u8, .int .u8, .int .u8, .int .u8, .int .u8, .int .u8, .int .u8, .int .u8, .int .u8, .int .u8, .int .u8, .int .u8, .int .u8, .int .u8, .int .u8, .int .u8, .int .u8, .int .u8, .int .u8, .int .u8, .int .u8, .int .u8, .int .u8, .int .u8, .int .u8, .int .u8, .int .u8, .int .u8]⟩
       (.node 144 ⟨.array 65 5, 65, 65, [.int .u8 0, .int .u8 0, .int .u8 0, .int .u8 0, .int .u8 0, .int .u8 0, .int .u8 0, .int .u8 0, .int .u8 0, .int .u8 0, .int .u8 0, .int .u8 0, .int .u8 0, .int .u8 0, .int .u8 0, .int .u8 0, .int .u8 0, .int .u8 0, .int .u8 0, .int .u8 0, .int .u8 0, .int .u8 0, .int .u8 0, .int .u8 0, .int .u8 0, .int .u8 0, .int .u8 0, .int .u8 0, .int .u8 0, .int .u8 0, .int .u8 0, .int .u8 0, .int .u8 0, .int .u8 0, .int .u8 0, .int .u8 0, .int .u8 0, .int .u8 0, .int .u8 0, .int .u8 0, .int .u8 0, .int .u8 0, .int .u8 0, .int .u8 0, .int .u8 0, .int .u8 0, .int .u8 0, .int .u8 0, .int .u8 0, .int .u8 0, .int .u8 0, .int .u8 0, .int .u8 0, .int .u8 0, .int .u8 0, .int .u8 0, .int .u8 0, .int .u8 0, .int .u8 0, .int .u8 0, .int .u8 0, .int .u8 0, .int .u8 0, .int .u8 0, .int .u8 0], [.int .u8, .int .u8, .int .u8, .int .u8, .int .u8, .int .u8, .int .u8, .int .u8, .int .u8, .int .u8, .int .u8, .int .u8, .int .u8, .int .u8, .int .u8, .int .u8, .int .u8, .int .u8, .int .u8, .int .u8, .int .u8, .int .u8, .int .u8, .int .u8, .int .u8, .int .u8, .int .u8, .int .u8, .int .u8, .int .u8, .int .u8, .int .u8, .int .u8, .int .u8, .int .u8, .int .u8, .int .u8, .int .u8, .int .u8, .int .u8, .int .u8, .int .u8, .int .u8, .int .u8, .int .u8, .int .u8, .int .u8, .int .u8, .int .u8, .int .u8, .int .u8, .int .u8, .int .u8, .int .u8, .int .u8, .int .u8, .int .u8, .int .u8, .int .u8, .int .u8, .int .u8, .int .u8, .int .u8, .int .u8, .int .u8]⟩
        (.node 143 ⟨.array 20 105, 20, 160, [.int .u64 0, .int .u64 0, .int .u64 0, .int .u64 0, .int .u64 0, .int .u64 0, .int .u64 0, .int .u64 0, .int .u64 0, .int .u64 0, .int .u64 0, .int .u64 0, .int .u64 0, .int .u64 0, .int .u64 0, .int .u64 0, .int .u64 0, .int .u64 0, .int .u64 0, .int .u64 0], [.int .u64, .int .u64, .int .u64, .int .u64, .int .u64, .int .u64, .int .u64, .int .u64, .int .u64, .int .u64, .int .u64, .int .u64, .int .u64, .int .u64, .int .u64, .int .u64, .int .u64, .int .u64, .int .u64, .int .u64]⟩
         (.nil)
         (.nil))
        (.nil))
       (.node 146 ⟨.array 64 5, 64, 64, [.int .u8 0, .int .u8 0, .int .u8 0, .int .u8 0, .int .u8 0, .int .u8 0, .int .u8 0, .int .u8 0, .int .u8 0, .int .u8 0, .int .u8 0, .int .u8 0, .int .u8 0, .int .u8 0, .int .u8 0, .int .u8 0, .int .u8 0, .int .u8 0, .int .u8 0, .int .u8 0, .int .u8 0, .int .u8 0, .int .u8 0, .int .u8 0, .int .u8 0, .int .u8 0, .int .u8 0, .int .u8 0, .int .u8 0, .int .u8 0, .int .u8 0, .int .u8 0, .int .u8 0, .int .u8 0, .int .u8 0, .int .u8 0, .int .u8 0, .int .u8 0, .int .u8 0, .int .u8 0, .int .u8 0, .int .u8 0, .int .u8 0, .int .u8 0, .int .u8 0, .int .u8 0, .int .u8 0, .int .u8 0, .int .u8 0, .int .u8 0, .int .u8 0, .int .u8 0, .int .u8 0, .int .u8 0, .int .u8 0, .int .u8 0, .int .u8 0, .int .u8 0, .int .u8 0, .int .u8 0, .int .u8 0, .int .u8 0, .int .u8 0, .int .u8 0], [.int .u8, .int .u8, .int .u8, .int .u8, .int .u8, .int .u8, .int .u8, .int .u8, .int .u8, .int .u8, .int .u8, .int .u8, .int .u8, .int .u8, .int .u8, .int .u8, .int .u8, .int .u8, .int .u8, .int .u8, .int .u8, .int .u8, .int .u8, .int .u8, .int .u8, .int .u8, .int .u8, .int .u8, .int .u8, .int .u8, .int .u8, .int .u8, .int .u8, .int .u8, .int .u8, .int .u8, .int .u8, .int .u8, .int .u8, .int .u8, .int .u8, .int .u8, .int .u8, .int .u8, .int .u8, .int .u8, .int .u8, .int .u8, .int .u8, .int .u8, .int .u8, .int .u8, .int .u8, .int .u8, .int .u8, .int .u8, .int .u8, .int .u8, .int .u8, .int .u8, .int .u8, .int .u8, .int .u8, .int .u8]⟩
        (.nil)
        (.nil)))
      (.node 149 ⟨.array 0 16, 0, 0, [], []⟩
       (.node 148 ⟨.struct [(0, 17), (1, 17), (2, 17), (3, 9)], 4, 40, [.nilPtr, .nilPtr, .nilPtr, .str []], []⟩
        (.nil)
        (.nil))
       (.node 150 ⟨.struct [(0, 149)], 0, 0, [], []⟩
        (.nil)
        (.nil))))
     (.node 155 ⟨.int .i32, 1, 4, [.int .i32 0], []⟩
      (.node 153 ⟨.int .u8, 1, 1, [.int .u8 0], []⟩
       (.node 152 ⟨.int .u8, 1, 1, [.int .u8 0], []⟩
        (.nil)
        (.nil))
       (.node 154 ⟨.func, 1, 8, [.nilFunc], []⟩
        (.nil)
        (.nil)))
      (.node 157 ⟨.struct [(0, 12), (1, 12), (2, 103), (3, 152), (4, 5), (5, 5), (6, 153), (7, 154), (8, 131), (9, 155), (10, 156)], 11, 48, [.int .u64 0, .int .u64 0, .int .u32 0, .int .u8 0, .int .u8 0, .int .u8 0, .int .u8 0, .nilFunc, .nilPtr, .int .i32 0, .int .i32 0], []⟩
       (.node 156 ⟨.int .i32, 1, 4, [.int .i32 0], []⟩
        (.nil)
        (.nil))
       (.node 158 ⟨.struct [(0, 12), (1, 12), (2, 103), (3, 152), (4, 5), (5, 5), (6, 153), (7, 154), (8, 131), (9, 155), (10, 156)], 11, 48, [.int .u64 0, .int .u64 0, .int .u32 0, .int .u8 0, .int .u8 0, .int .u8 0, .int .u8 0, .nilFunc, .nilPtr, .int .i32 0, .int .i32 0], []⟩
        (.nil)
        (.nil)))))))

def Y (t : TypeId) : Option Ty := tys.get t
theorem env : Env Tryd.prog Y := ⟨fun t y h => Tree.all_get (p := tyOk Tryd.prog) (by kernel_rfl) h⟩
theorem mixed : Tryd.prog.follows .mixedOrders = true := by kernel_rfl
@[simp] theorem Y_1 : Y 1 = some ⟨.func, 1, 8, [.nilFunc], []⟩ := rfl
@[simp] theorem Y_2 : Y 2 = some ⟨.int .i64, 1, 8, [.int .i64 0], []⟩ := rfl
@[simp] theorem Y_3 : Y 3 = some ⟨.int .i64, 1, 8, [.int .i64 0], []⟩ := rfl
@[simp] theorem Y_4 : Y 4 = some ⟨.bool, 1, 1, [.bool false], []⟩ := rfl
@[simp] theorem Y_5 : Y 5 = some ⟨.int .u8, 1, 1, [.int .u8 0], []⟩ := rfl
@[simp] theorem Y_6 : Y 6 = some ⟨.int .u8, 1, 1, [.int .u8 0], []⟩ := rfl
@[simp] theorem Y_7 : Y 7 = some ⟨.struct [(0, 2), (1, 3), (2, 4), (3, 6)], 4, 24, [.int .i64 0, .int .i64 0, .bool false, .int .u8 0], [.int .i64, .int .i64, .bool, .int .u8]⟩ := rfl
@[simp] theorem Y_8 : Y 8 = some ⟨.struct [(0, 2), (1, 3), (2, 4), (3, 6)], 4, 24, [.int .i64 0, .int .i64 0, .bool false, .int .u8 0], [.int .i64, .int .i64, .bool, .int .u8]⟩ := rfl
@[simp] theorem Y_9 : Y 9 = some ⟨.str, 1, 16, [.str []], []⟩ := rfl
@[simp] theorem Y_10 : Y 10 = some ⟨.str, 1, 16, [.str []], []⟩ := rfl
@[simp] theorem Y_11 : Y 11 = some ⟨.str, 1, 16, [.str []], []⟩ := rfl
@[simp] theorem Y_12 : Y 12 = some ⟨.int .u64, 1, 8, [.int .u64 0], []⟩ := rfl
@[simp] theorem Y_15 : Y 15 = some ⟨.ptr, 1, 8, [.nilPtr], []⟩ := rfl
@[simp] theorem Y_16 : Y 16 = some ⟨.ptr, 1, 8, [.nilPtr], []⟩ := rfl
@[simp] theorem Y_17 : Y 17 = some ⟨.ptr, 1, 8, [.nilPtr], []⟩ := rfl
@[simp] theorem Y_18 : Y 18 = some ⟨.struct [(0, 17)], 1, 8, [.nilPtr], []⟩ := rfl
@[simp] theorem Y_19 : Y 19 = some ⟨.struct [(0, 17)], 1, 8, [.nilPtr], []⟩ := rfl
@[simp] theorem Y_20 : Y 20 = some ⟨.iface, 1, 16, [.nilIface], []⟩ := rfl
@[simp] theorem Y_21 : Y 21 = some ⟨.int .i32, 1, 4, [.int .i32 0], []⟩ := rfl
@[simp] theorem Y_22 : Y 22 = some ⟨.struct [(0, 3), (1, 3), (2, 3)], 3, 24, [.int .i64 0, .int .i64 0, .int .i64 0], [.int .i64, .int .i64, .int .i64]⟩ := rfl
@[simp] theorem Y_23 : Y 23 = some ⟨.struct [(0, 3), (1, 3), (2, 3)], 3, 24, [.int .i64 0, .int .i64 0, .int .i64 0], [.int .i64, .int .i64, .int .i64]⟩ := rfl
@[simp] theorem Y_24 : Y 24 = some ⟨.struct [(0, 3), (1, 3)], 2, 16, [.int .i64 0, .int .i64 0], [.int .i64, .int .i64]⟩ := rfl
@[simp] theorem Y_25 : Y 25 = some ⟨.struct [(0, 3), (1, 3)], 2, 16, [.int .i64 0, .int .i64 0], [.int .i64, .int .i64]⟩ := rfl
@[simp] theorem Y_26 : Y 26 = some ⟨.int .i64, 1, 8, [.int .i64 0], []⟩ := rfl
@[simp] theorem Y_28 : Y 28 = some ⟨.func, 1, 8, [.nilFunc], []⟩ := rfl
@[simp] theorem Y_29 : Y 29 = some ⟨.func, 1, 8, [.nilFunc], []⟩ := rfl
@[simp] theorem Y_30 : Y 30 = some ⟨.func, 1, 8, [.nilFunc], []⟩ := rfl
@[simp] theorem Y_31 : Y 31 = some ⟨.func, 1, 8, [.nilFunc], []⟩ := rfl
@[simp] theorem Y_32 : Y 32 = some ⟨.slice 23, 1, 24, [.nilSlice], []⟩ := rfl
@[simp] theorem Y_34 : Y 34 = some ⟨.func, 1, 8, [.nilFunc], []⟩ := rfl
@[simp] theorem Y_35 : Y 35 = some ⟨.func, 1, 8, [.nilFunc], []⟩ := rfl
@[simp] theorem Y_36 : Y 36 = some ⟨.func, 1, 8, [.nilFunc], []⟩ := rfl
@[simp] theorem Y_38 : Y 38 = some ⟨.func, 1, 8, [.nilFunc], []⟩ := rfl
@[simp] theorem Y_39 : Y 39 = some ⟨.func, 1, 8, [.nilFunc], []⟩ := rfl
@[simp] theorem Y_40 : Y 40 = some ⟨.func, 1, 8, [.nilFunc], []⟩ := rfl
@[simp] theorem Y_41 : Y 41 = some ⟨.func, 1, 8, [.nilFunc], []⟩ := rfl
@[simp] theorem Y_42 : Y 42 = some ⟨.func, 1, 8, [.nilFunc], []⟩ := rfl
@[simp] theorem Y_43 : Y 43 = some ⟨.func, 1, 8, [.nilFunc], []⟩ := rfl
@[simp] theorem Y_44 : Y 44 = some ⟨.int .i8, 1, 1, [.int .i8 0], []⟩ := rfl
@[simp] theorem Y_45 : Y 45 = some ⟨.array 2 44, 2, 2, [.int .i8 0, .int .i8 0], [.int .i8, .int .i8]⟩ := rfl
@[simp] theorem Y_46 : Y 46 = some ⟨.array 3 45, 6, 6, [.int .i8 0, .int .i8 0, .int .i8 0, .int .i8 0, .int .i8 0, .int .i8 0], [.int .i8, .int .i8, .int .i8, .int .i8, .int .i8, .int .i8]⟩ := rfl
@[simp] theorem Y_47 : Y 47 = some ⟨.func, 1, 8, [.nilFunc], []⟩ := rfl
@[simp] theorem Y_49 : Y 49 = some ⟨.func, 1, 8, [.nilFunc], []⟩ := rfl
@[simp] theorem Y_50 : Y 50 = some ⟨.func, 1, 8, [.nilFunc], []⟩ := rfl
@[simp] theorem Y_51 : Y 51 = some ⟨.func, 1, 8, [.nilFunc], []⟩ := rfl
@[simp] theorem Y_52 : Y 52 = some ⟨.func, 1, 8, [.nilFunc], []⟩ := rfl
@[simp] theorem Y_53 : Y 53 = some ⟨.func, 1, 8, [.nilFunc], []⟩ := rfl
@[simp] theorem Y_54 : Y 54 = some ⟨.func, 1, 8, [.nilFunc], []⟩ := rfl
@[simp] theorem Y_56 : Y 56 = some ⟨.func, 1, 8, [.nilFunc], []⟩ := rfl
@[simp] theorem Y_58 : Y 58 = some ⟨.func, 1, 8, [.nilFunc], []⟩ := rfl
@[simp] theorem Y_60 : Y 60 = some ⟨.func, 1, 8, [.nilFunc], []⟩ := rfl
@[simp] theorem Y_62 : Y 62 = some ⟨.func, 1, 8, [.nilFunc], []⟩ := rfl
@[simp] theorem Y_63 : Y 63 = some ⟨.func, 1, 8, [.nilFunc], []⟩ := rfl
@[simp] theorem Y_64 : Y 64 = some ⟨.func, 1, 8, [.nilFunc], []⟩ := rfl
@[simp] theorem Y_65 : Y 65 = some ⟨.func, 1, 8, [.nilFunc], []⟩ := rfl
@[simp] theorem Y_66 : Y 66 = some ⟨.func, 1, 8, [.nilFunc], []⟩ := rfl
@[simp] theorem Y_67 : Y 67 = some ⟨.func, 1, 8, [.nilFunc], []⟩ := rfl
@[simp] theorem Y_69 : Y 69 = some ⟨.func, 1, 8, [.nilFunc], []⟩ := rfl
@[simp] theorem Y_70 : Y 70 = some ⟨.func, 1, 8, [.nilFunc], []⟩ := rfl
@[simp] theorem Y_71 : Y 71 = some ⟨.func, 1, 8, [.nilFunc], []⟩ := rfl
@[simp] theorem Y_72 : Y 72 = some ⟨.func, 1, 8, [.nilFunc], []⟩ := rfl
@[simp] theorem Y_73 : Y 73 = some ⟨.func, 1, 8, [.nilFunc], []⟩ := rfl
@[simp] theorem Y_74 : Y 74 = some ⟨.func, 1, 8, [.nilFunc], []⟩ := rfl
@[simp] theorem Y_75 : Y 75 = some ⟨.func, 1, 8, [.nilFunc], []⟩ := rfl
@[simp] theorem Y_76 : Y 76 = some ⟨.func, 1, 8, [.nilFunc], []⟩ := rfl
@[simp] theorem Y_77 : Y 77 = some ⟨.slice 3, 1, 24, [.nilSlice], []⟩ := rfl
@[simp] theorem Y_78 : Y 78 = some ⟨.func, 1, 8, [.nilFunc], []⟩ := rfl
@[simp] theorem Y_79 : Y 79 = some ⟨.slice 25, 1, 24, [.nilSlice], []⟩ := rfl
@[simp] theorem Y_80 : Y 80 = some ⟨.func, 1, 8, [.nilFunc], []⟩ := rfl
@[simp] theorem Y_81 : Y 81 = some ⟨.array 2 80, 2, 16, [.nilFunc, .nilFunc], []⟩ := rfl
@[simp] theorem Y_82 : Y 82 = some ⟨.func, 1, 8, [.nilFunc], []⟩ := rfl
@[simp] theorem Y_83 : Y 83 = some ⟨.func, 1, 8, [.nilFunc], []⟩ := rfl
@[simp] theorem Y_84 : Y 84 = some ⟨.array 7 3, 7, 56, [.int .i64 0, .int .i64 0, .int .i64 0, .int .i64 0, .int .i64 0, .int .i64 0, .int .i64 0], [.int .i64, .int .i64, .int .i64, .int .i64, .int .i64, .int .i64, .int .i64]⟩ := rfl
@[simp] theorem Y_85 : Y 85 = some ⟨.func, 1, 8, [.nilFunc], []⟩ := rfl
@[simp] theorem Y_86 : Y 86 = some ⟨.func, 1, 8, [.nilFunc], []⟩ := rfl
@[simp] theorem Y_87 : Y 87 = some ⟨.func, 1, 8, [.nilFunc], []⟩ := rfl
@[simp] theorem Y_88 : Y 88 = some ⟨.func, 1, 8, [.nilFunc], []⟩ := rfl
@[simp] theorem Y_89 : Y 89 = some ⟨.int .u64, 1, 8, [.int .u64 0], []⟩ := rfl
@[simp] theorem Y_90 : Y 90 = some ⟨.array 5 9, 5, 80, [.str [], .str [], .str [], .str [], .str []], [.str, .str, .str, .str, .str]⟩ := rfl
@[simp] theorem Y_91 : Y 91 = some ⟨.func, 1, 8, [.nilFunc], []⟩ := rfl
@[simp] theorem Y_92 : Y 92 = some ⟨.func, 1, 8, [.nilFunc], []⟩ := rfl
@[simp] theorem Y_93 : Y 93 = some ⟨.func, 1, 8, [.nilFunc], []⟩ := rfl
@[simp] theorem Y_94 : Y 94 = some ⟨.func, 1, 8, [.nilFunc], []⟩ := rfl
@[simp] theorem Y_95 : Y 95 = some ⟨.int .i64, 1, 8, [.int .i64 0], []⟩ := rfl
@[simp] theorem Y_97 : Y 97 = some ⟨.func, 1, 8, [.nilFunc], []⟩ := rfl
@[simp] theorem Y_98 : Y 98 = some ⟨.func, 1, 8, [.nilFunc], []⟩ := rfl
@[simp] theorem Y_99 : Y 99 = some ⟨.func, 1, 8, [.nilFunc], []⟩ := rfl
@[simp] theorem Y_101 : Y 101 = some ⟨.func, 1, 8, [.nilFunc], []⟩ := rfl
@[simp] theorem Y_102 : Y 102 = some ⟨.func, 1, 8, [.nilFunc], []⟩ := rfl
@[simp] theorem Y_103 : Y 103 = some ⟨.int .u32, 1, 4, [.int .u32 0], []⟩ := rfl
@[simp] theorem Y_104 : Y 104 = some ⟨.func, 1, 8, [.nilFunc], []⟩ := rfl
@[simp] theorem Y_105 : Y 105 = some ⟨.int .u64, 1, 8, [.int .u64 0], []⟩ := rfl
@[simp] theorem Y_107 : Y 107 = some ⟨.func, 1, 8, [.nilFunc], []⟩ := rfl
@[simp] theorem Y_108 : Y 108 = some ⟨.func, 1, 8, [.nilFunc], []⟩ := rfl
@[simp] theorem Y_109 : Y 109 = some ⟨.ptr, 1, 8, [.nilPtr], []⟩ := rfl
@[simp] theorem Y_110 : Y 110 = some ⟨.slice 5, 1, 24, [.nilSlice], []⟩ := rfl
@[simp] theorem Y_111 : Y 111 = some ⟨.struct [(0, 109), (1, 110)], 2, 32, [.nilPtr, .nilSlice], []⟩ := rfl
@[simp] theorem Y_112 : Y 112 = some ⟨.struct [(0, 109), (1, 110)], 2, 32, [.nilPtr, .nilSlice], []⟩ := rfl
@[simp] theorem Y_113 : Y 113 = some ⟨.func, 1, 8, [.nilFunc], []⟩ := rfl
@[simp] theorem Y_114 : Y 114 = some ⟨.iface, 1, 16, [.nilIface], []⟩ := rfl
@[simp] theorem Y_115 : Y 115 = some ⟨.iface, 1, 16, [.nilIface], []⟩ := rfl
@[simp] theorem Y_117 : Y 117 = some ⟨.func, 1, 8, [.nilFunc], []⟩ := rfl
@[simp] theorem Y_118 : Y 118 = some ⟨.func, 1, 8, [.nilFunc], []⟩ := rfl
@[simp] theorem Y_119 : Y 119 = some ⟨.func, 1, 8, [.nilFunc], []⟩ := rfl
@[simp] theorem Y_120 : Y 120 = some ⟨.func, 1, 8, [.nilFunc], []⟩ := rfl
@[simp] theorem Y_121 : Y 121 = some ⟨.int .u64, 1, 8, [.int .u64 0], []⟩ := rfl
@[simp] theorem Y_122 : Y 122 = some ⟨.func, 1, 8, [.nilFunc], []⟩ := rfl
@[simp] theorem Y_123 : Y 123 = some ⟨.func, 1, 8, [.nilFunc], []⟩ := rfl
@[simp] theorem Y_124 : Y 124 = some ⟨.func, 1, 8, [.nilFunc], []⟩ := rfl
@[simp] theorem Y_125 : Y 125 = some ⟨.ptr, 1, 8, [.nilPtr], []⟩ := rfl
@[simp] theorem Y_126 : Y 126 = some ⟨.func, 1, 8, [.nilFunc], []⟩ := rfl
@[simp] theorem Y_128 : Y 128 = some ⟨.func, 1, 8, [.nilFunc], []⟩ := rfl
@[simp] theorem Y_130 : Y 130 = some ⟨.func, 1, 8, [.nilFunc], []⟩ := rfl
@[simp] theorem Y_131 : Y 131 = some ⟨.ptr, 1, 8, [.nilPtr], []⟩ := rfl
@[simp] theorem Y_132 : Y 132 = some ⟨.func, 1, 8, [.nilFunc], []⟩ := rfl
@[simp] theorem Y_133 : Y 133 = some ⟨.ptr, 1, 8, [.nilPtr], []⟩ := rfl
@[simp] theorem Y_134 : Y 134 = some ⟨.func, 1, 8, [.nilFunc], []⟩ := rfl
@[simp] theorem Y_136 : Y 136 = some ⟨.func, 1, 8, [.nilFunc], []⟩ := rfl
@[simp] theorem Y_137 : Y 137 = some ⟨.func, 1, 8, [.nilFunc], []⟩ := rfl
@[simp] theorem Y_138 : Y 138 = some ⟨.array 24 5, 24, 24, [.int .u8 0, .int .u8 0, .int .u8 0, .int .u8 0, .int .u8 0, .int .u8 0, .int .u8 0, .int .u8 0, .int .u8 0, .int .u8 0, .int .u8 0, .int .u8 0, .int .u8 0, .int .u8 0, .int .u8 0, .int .u8 0, .int .u8 0, .int .u8 0, .int .u8 0, .int .u8 0, .int .u8 0, .int .u8 0, .int .u8 0, .int .u8 0], [.int .u8, .int .u8, .int .u8, .int .u8, .int .u8, .int .u8, .int .u8, .int .u8, .int .u8, .int .u8, .int .u8, .int .u8, .int .u8, .int .u8, .int .u8, .int .u8, .int .u8, .int .u8, .int .u8, .int .u8, .int .u8, .int .u8, .int .u8, .int .u8]⟩ := rfl
@[simp] theorem Y_139 : Y 139 = some ⟨.func, 1, 8, [.nilFunc], []⟩ := rfl
@[simp] theorem Y_141 : Y 141 = some ⟨.func, 1, 8, [.nilFunc], []⟩ := rfl
@[simp] theorem Y_142 : Y 142 = some ⟨.func, 1, 8, [.nilFunc], []⟩ := rfl
@[simp] theorem Y_143 : Y 143 = some ⟨.array 20 105, 20, 160, [.int .u64 0, .int .u64 0, .int .u64 0, .int .u64 0, .int .u64 0, .int .u64 0, .int .u64 0, .int .u64 0, .int .u64 0, .int .u64 0, .int .u64 0, .int .u64 0, .int .u64 0, .int .u64 0, .int .u64 0, .int .u64 0, .int .u64 0, .int .u64 0, .int .u64 0, .int .u64 0], [.int .u64, .int .u64, .int .u64, .int .u64, .int .u64, .int .u64, .int .u64, .int .u64, .int .u64, .int .u64, .int .u64, .int .u64, .int .u64, .int .u64, .int .u64, .int .u64, .int .u64, .int .u64, .int .u64, .int .u64]⟩ := rfl
@[simp] theorem Y_144 : Y 144 = some ⟨.array 65 5, 65, 65, [.int .u8 0, .int .u8 0, .int .u8 0, .int .u8 0, .int .u8 0, .int .u8 0, .int .u8 0, .int .u8 0, .int .u8 0, .int .u8 0, .int .u8 0, .int .u8 0, .int .u8 0, .int .u8 0, .int .u8 0, .int .u8 0, .int .u8 0, .int .u8 0, .int .u8 0, .int .u8 0, .int .u8 0, .int .u8 0, .int .u8 0, .int .u8 0, .int .u8 0, .int .u8 0, .int .u8 0, .int .u8 0, .int .u8 0, .int .u8 0, .int .u8 0, .int .u8 0, .int .u8 0, .int .u8 0, .int .u8 0, .int .u8 0, .int .u8 0, .int .u8 0, .int .u8 0, .int .u8 0, .int .u8 0, .int .u8 0, .int .u8 0, .int .u8 0, .int .u8 0, .int .u8 0, .int .u8 0, .int .u8 0, .int .u8 0, .int .u8 0, .int .u8 0, .int .u8 0, .int .u8 0, .int .u8 0, .int .u8 0, .int .u8 0, .int .u8 0, .int .u8 0, .int .u8 0, .int .u8 0, .int .u8 0, .int .u8 0, .int .u8 0, .int .u8 0, .int .u8 0], [.int .u8, .int .u8, .int .u8, .int .u8, .int .u8, .int .u8, .int .u8, .int .u8, .int .u8, .int .u8, .int .u8, .int .u8, .int .u8, .int .u8, .int .u8, .int .u8, .int .u8, .int .u8, .int .u8, .int .u8, .int .u8, .int .u8, .int .u8, .int .u8, .int .u8, .int .u8, .int .u8, .int .u8, .int .u8, .int .u8, .int .u8, .int .u8, .int .u8, .int .u8, .int .u8, .int .u8, .int .u8, .int .u8, .int .u8, .int .u8, .int .u8, .int .u8, .int .u8, .int .u8, .int .u8, .int .u8, .int .u8, .int .u8, .int .u8, .int .u8, .int .u8, .int .u8, .int .u8, .int .u8, .int .u8, .int .u8, .int .u8, .int .u8, .int .u8, .int .u8, .int .u8, .int .u8, .int .u8, .int .u8, .int .u8]⟩ := rfl
@[simp] theorem Y_145 : Y 145 = some ⟨.array 32 5, 32, 32, [.int .u8 0, .int .u8 0, .int .u8 0, .int .u8 0, .int .u8 0, .int .u8 0, .int .u8 0, .int .u8 0, .int .u8 0, .int .u8 0, .int .u8 0, .int .u8 0, .int .u8 0, .int .u8 0, .int .u8 0, .int .u8 0, .int .u8 0, .int .u8 0, .int .u8 0, .int .u8 0, .int .u8 0, .int .u8 0, .int .u8 0, .int .u8 0, .int .u8 0, .int .u8 0, .int .u8 0, .int .u8 0, .int .u8 0, .int .u8 0, .int .u8 0, .int .u8 0], [.int .u8, .int .u8, .int .u8, .int .u8, .int .u8, .int .u8, .int .u8, .int .u8, .int .u8, .int .u8, .int .u8, .int .u8, .int .u8, .int .u8, .int .u8, .int .u8, .int .u8, .int .u8, .int .u8, .int .u8, .int .u8, .int .u8, .int .u8, .int .u8, .int .u8, .int .u8, .int .u8, .int .u8, .int .u8, .int .u8, .int .u8, .int .u8]⟩ := rfl
@[simp] theorem Y_146 : Y 146 = some ⟨.array 64 5, 64, 64, [.int .u8 0, .int .u8 0, .int .u8 0, .int .u8 0, .int .u8 0, .int .u8 0, .int .u8 0, .int .u8 0, .int .u8 0, .int .u8 0, .int .u8 0, .int .u8 0, .int .u8 0, .int .u8 0, .int .u8 0, .int .u8 0, .int .u8 0, .int .u8 0, .int .u8 0, .int .u8 0, .int .u8 0, .int .u8 0, .int .u8 0, .int .u8 0, .int .u8 0, .int .u8 0, .int .u8 0, .int .u8 0, .int .u8 0, .int .u8 0, .int .u8 0, .int .u8 0, .int .u8 0, .int .u8 0, .int .u8 0, .int .u8 0, .int .u8 0, .int .u8 0, .int .u8 0, .int .u8 0, .int .u8 0, .int .u8 0, .int .u8 0, .int .u8 0, .int .u8 0, .int .u8 0, .int .u8 0, .int .u8 0, .int .u8 0, .int .u8 0, .int .u8 0, .int .u8 0, .int .u8 0, .int .u8 0, .int .u8 0, .int .u8 0, .int .u8 0, .int .u8 0, .int .u8 0, .int .u8 0, .int .u8 0, .int .u8 0, .int .u8 0, .int .u8 0], [.int .u8, .int .u8, .int .u8, .int .u8, .int .u8, .int .u8, .int .u8, .int .u8, .int .u8, .int .u8, .int .u8, .int .u8, .int .u8, .int .u8, .int .u8, .int .u8, .int .u8, .int .u8, .int .u8, .int .u8, .int .u8, .int .u8, .int .u8, .int .u8, .int .u8, .int .u8, .int .u8, .int .u8, .int .u8, .int .u8, .int .u8, .int .u8, .int .u8, .int .u8, .int .u8, .int .u8, .int .u8, .int .u8, .int .u8, .int .u8, .int .u8, .int .u8, .int .u8, .int .u8, .int .u8, .int .u8, .int .u8, .int .u8, .int .u8, .int .u8, .int .u8, .int .u8, .int .u8, .int .u8, .int .u8, .int .u8, .int .u8, .int .u8, .int .u8, .int .u8, .int .u8, .int .u8, .int .u8, .int .u8]⟩ := rfl
@[simp] theorem Y_147 : Y 147 = some ⟨.struct [(0, 17), (1, 17), (2, 17), (3, 9)], 4, 40, [.nilPtr, .nilPtr, .nilPtr, .str []], []⟩ := rfl
@[simp] theorem Y_148 : Y 148 = some ⟨.struct [(0, 17), (1, 17), (2, 17), (3, 9)], 4, 40, [.nilPtr, .nilPtr, .nilPtr, .str []], []⟩ := rfl
@[simp] theorem Y_149 : Y 149 = some ⟨.array 0 16, 0, 0, [], []⟩ := rfl
@[simp] theorem Y_150 : Y 150 = some ⟨.struct [(0, 149)], 0, 0, [], []⟩ := rfl
@[simp] theorem Y_151 : Y 151 = some ⟨.struct [(0, 149)], 0, 0, [], []⟩ := rfl
@[simp] theorem Y_152 : Y 152 = some ⟨.int .u8, 1, 1, [.int .u8 0], []⟩ := rfl
@[simp] theorem Y_153 : Y 153 = some ⟨.int .u8, 1, 1, [.int .u8 0], []⟩ := rfl
@[simp] theorem Y_154 : Y 154 = some ⟨.func, 1, 8, [.nilFunc], []⟩ := rfl
@[simp] theorem Y_155 : Y 155 = some ⟨.int .i32, 1, 4, [.int .i32 0], []⟩ := rfl
@[simp] theorem Y_156 : Y 156 = some ⟨.int .i32, 1, 4, [.int .i32 0], []⟩ := rfl
@[simp] theorem Y_157 : Y 157 = some ⟨.struct [(0, 12), (1, 12), (2, 103), (3, 152), (4, 5), (5, 5), (6, 153), (7, 154), (8, 131), (9, 155), (10, 156)], 11, 48, [.int .u64 0, .int .u64 0, .int .u32 0, .int .u8 0, .int .u8 0, .int .u8 0, .int .u8 0, .nilFunc, .nilPtr, .int .i32 0, .int .i32 0], []⟩ := rfl
@[simp] theorem Y_158 : Y 158 = some ⟨.struct [(0, 12), (1, 12), (2, 103), (3, 152), (4, 5), (5, 5), (6, 153), (7, 154), (8, 131), (9, 155), (10, 156)], 11, 48, [.int .u64 0, .int .u64 0, .int .u32 0, .int .u8 0, .int .u8 0, .int .u8 0, .int .u8 0, .nilFunc, .nilPtr, .int .i32 0, .int .i32 0], []⟩ := rfl
end Go.Proofs.YtmmpjnjdddaldaaDoor
