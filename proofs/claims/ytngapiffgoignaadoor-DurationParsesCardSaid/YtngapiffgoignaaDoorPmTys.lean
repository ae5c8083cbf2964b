/- The program's types as the interpreter sees them. Printed by a program. -/
import Derived.Test.YtngapiffgoignaaDoorRows
import Derived.Test.YtngapiffgoignaaDoorPmX
set_option linter.unusedVariables false
set_option maxRecDepth 100000
namespace Go.Proofs.YtngapiffgoignaaDoor
open Go.Pm
def tys : Tree Ty :=
  .node 69 ⟨.func, 1, 8, [.nilFunc], []⟩
  (.node 33 ⟨.func, 1, 8, [.nilFunc], []⟩
   (.node 17 ⟨.ptr, 1, 8, [.nilPtr], []⟩
    (.node 8 ⟨.struct [(0, 2), (1, 3), (2, 4), (3, 6)], 4, 24, [.int .i64 0, .int .i64 0, .bool false, .int .u8 0], [.int .i64, .int .i64, .bool, .int .u8]⟩
     (.node 4 ⟨.bool, 1, 1, [.bool false], []⟩
      (.node 2 ⟨.int .i64, 1, 8, [.int .i64 0], []⟩
       (.node 1 ⟨.func, 1, 8, [.nilFunc], []⟩
        (.nil)
        (.nil))
       (.node 3 ⟨.int .i64, 1, 8, [.int .i64 0], []⟩
        (.nil)
        (.nil)))
      (.node 6 ⟨.int .u8, 1, 1, [.int .u8 0], []⟩
       (.node 5 ⟨.int .u8, 1, 1, [.int .u8 0], []⟩
        (.nil)
        (.nil))
       (.node 7 ⟨.struct [(0, 2), (1, 3), (2, 4), (3, 6)], 4, 24, [.int .i64 0, .int .i64 0, .bool false, .int .u8 0], [.int .i64, .int .i64, .bool, .int .u8]⟩
        (.nil)
        (.nil))))
     (.node 12 ⟨.int .u64, 1, 8, [.int .u64 0], []⟩
      (.node 10 ⟨.str, 1, 16, [.str []], []⟩
       (.node 9 ⟨.str, 1, 16, [.str []], []⟩
        (.nil)
        (.nil))
       (.node 11 ⟨.str, 1, 16, [.str []], []⟩
        (.nil)
        (.nil)))
      (.node 16 ⟨.ptr, 1, 8, [.nilPtr], []⟩
       (.node 15 ⟨.ptr, 1, 8, [.nilPtr], []⟩
        (.nil)
        (.nil))
       (.nil))))
    (.node 25 ⟨.func, 1, 8, [.nilFunc], []⟩
     (.node 21 ⟨.int .i32, 1, 4, [.int .i32 0], []⟩
      (.node 19 ⟨.struct [(0, 17)], 1, 8, [.nilPtr], []⟩
       (.node 18 ⟨.struct [(0, 17)], 1, 8, [.nilPtr], []⟩
        (.nil)
        (.nil))
       (.node 20 ⟨.iface, 1, 16, [.nilIface], []⟩
        (.nil)
        (.nil)))
      (.node 23 ⟨.struct [(0, 3), (1, 3)], 2, 16, [.int .i64 0, .int .i64 0], [.int .i64, .int .i64]⟩
       (.node 22 ⟨.struct [(0, 3), (1, 3)], 2, 16, [.int .i64 0, .int .i64 0], [.int .i64, .int .i64]⟩
        (.nil)
        (.nil))
       (.node 24 ⟨.slice 23, 1, 24, [.nilSlice], []⟩
        (.nil)
        (.nil))))
     (.node 29 ⟨.func, 1, 8, [.nilFunc], []⟩
      (.node 27 ⟨.func, 1, 8, [.nilFunc], []⟩
       (.node 26 ⟨.func, 1, 8, [.nilFunc], []⟩
        (.nil)
        (.nil))
       (.node 28 ⟨.func, 1, 8, [.nilFunc], []⟩
        (.nil)
        (.nil)))
      (.node 32 ⟨.func, 1, 8, [.nilFunc], []⟩
       (.node 30 ⟨.int .i64, 1, 8, [.int .i64 0], []⟩
        (.nil)
        (.nil))
       (.nil)))))
   (.node 53 ⟨.func, 1, 8, [.nilFunc], []⟩
    (.node 45 ⟨.func, 1, 8, [.nilFunc], []⟩
     (.node 40 ⟨.func, 1, 8, [.nilFunc], []⟩
      (.node 36 ⟨.func, 1, 8, [.nilFunc], []⟩
       (.node 35 ⟨.func, 1, 8, [.nilFunc], []⟩
        (.nil)
        (.nil))
       (.node 38 ⟨.func, 1, 8, [.nilFunc], []⟩
        (.nil)
        (.nil)))
      (.node 42 ⟨.func, 1, 8, [.nilFunc], []⟩
       (.node 41 ⟨.func, 1, 8, [.nilFunc], []⟩
        (.nil)
        (.nil))
       (.node 43 ⟨.func, 1, 8, [.nilFunc], []⟩
        (.nil)
        (.nil))))
     (.node 49 ⟨.func, 1, 8, [.nilFunc], []⟩
      (.node 47 ⟨.func, 1, 8, [.nilFunc], []⟩
       (.node 46 ⟨.func, 1, 8, [.nilFunc], []⟩
        (.nil)
        (.nil))
       (.node 48 ⟨.func, 1, 8, [.nilFunc], []⟩
        (.nil)
        (.nil)))
      (.node 52 ⟨.func, 1, 8, [.nilFunc], []⟩
       (.node 51 ⟨.func, 1, 8, [.nilFunc], []⟩
        (.nil)
        (.nil))
       (.nil))))
    (.node 61 ⟨.func, 1, 8, [.nilFunc], []⟩
     (.node 57 ⟨.func, 1, 8, [.nilFunc], []⟩
      (.node 55 ⟨.func, 1, 8, [.nilFunc], []⟩
       (.node 54 ⟨.func, 1, 8, [.nilFunc], []⟩
        (.nil)
        (.nil))
       (.node 56 ⟨.func, 1, 8, [.nilFunc], []⟩
        (.nil)
        (.nil)))
      (.node 59 ⟨.func, 1, 8, [.nilFunc], []⟩
       (.node 58 ⟨.slice 3, 1, 24, [.nilSlice], []⟩
        (.nil)
        (.nil))
       (.node 60 ⟨.func, 1, 8, [.nilFunc], []⟩
        (.nil)
        (.nil))))
     (.node 65 ⟨.func, 1, 8, [.nilFunc], []⟩
      (.node 63 ⟨.array 10 9, 10, 160, [.str [], .str [], .str [], .str [], .str [], .str [], .str [], .str [], .str [], .str []], [.str, .str, .str, .str, .str, .str, .str, .str, .str, .str]⟩
       (.node 62 ⟨.array 4 9, 4, 64, [.str [], .str [], .str [], .str []], [.str, .str, .str, .str]⟩
        (.nil)
        (.nil))
       (.node 64 ⟨.slice 9, 1, 24, [.nilSlice], []⟩
        (.nil)
        (.nil)))
      (.node 67 ⟨.int .u64, 1, 8, [.int .u64 0], []⟩
       (.node 66 ⟨.func, 1, 8, [.nilFunc], []⟩
        (.nil)
        (.nil))
       (.nil))))))
  (.node 104 ⟨.func, 1, 8, [.nilFunc], []⟩
   (.node 85 ⟨.func, 1, 8, [.nilFunc], []⟩
    (.node 77 ⟨.iface, 1, 16, [.nilIface], []⟩
     (.node 73 ⟨.struct [(0, 71), (1, 72)], 2, 32, [.nilPtr, .nilSlice], []⟩
      (.node 71 ⟨.ptr, 1, 8, [.nilPtr], []⟩
       (.node 70 ⟨.func, 1, 8, [.nilFunc], []⟩
        (.nil)
        (.nil))
       (.node 72 ⟨.slice 5, 1, 24, [.nilSlice], []⟩
        (.nil)
        (.nil)))
      (.node 75 ⟨.func, 1, 8, [.nilFunc], []⟩
       (.node 74 ⟨.struct [(0, 71), (1, 72)], 2, 32, [.nilPtr, .nilSlice], []⟩
        (.nil)
        (.nil))
       (.node 76 ⟨.iface, 1, 16, [.nilIface], []⟩
        (.nil)
        (.nil))))
     (.node 82 ⟨.func, 1, 8, [.nilFunc], []⟩
      (.node 80 ⟨.func, 1, 8, [.nilFunc], []⟩
       (.node 79 ⟨.func, 1, 8, [.nilFunc], []⟩
        (.nil)
        (.nil))
       (.node 81 ⟨.func, 1, 8, [.nilFunc], []⟩
        (.nil)
        (.nil)))
      (.node 84 ⟨.func, 1, 8, [.nilFunc], []⟩
       (.node 83 ⟨.func, 1, 8, [.nilFunc], []⟩
        (.nil)
        (.nil))
       (.nil))))
    (.node 96 ⟨.func, 1, 8, [.nilFunc], []⟩
     (.node 91 ⟨.func, 1, 8, [.nilFunc], []⟩
      (.node 88 ⟨.func, 1, 8, [.nilFunc], []⟩
       (.node 86 ⟨.int .u32, 1, 4, [.int .u32 0], []⟩
        (.nil)
        (.nil))
       (.node 89 ⟨.int .u64, 1, 8, [.int .u64 0], []⟩
        (.nil)
        (.nil)))
      (.node 93 ⟨.func, 1, 8, [.nilFunc], []⟩
       (.node 92 ⟨.ptr, 1, 8, [.nilPtr], []⟩
        (.nil)
        (.nil))
       (.node 94 ⟨.int .i64, 1, 8, [.int .i64 0], []⟩
        (.nil)
        (.nil))))
     (.node 101 ⟨.func, 1, 8, [.nilFunc], []⟩
      (.node 98 ⟨.func, 1, 8, [.nilFunc], []⟩
       (.node 97 ⟨.func, 1, 8, [.nilFunc], []⟩
        (.nil)
        (.nil))
       (.node 100 ⟨.func, 1, 8, [.nilFunc], []⟩
        (.nil)
        (.nil)))
      (.node 103 ⟨.array 24 5, 24, 24, [.int .u8 0, .int .u8 0, .int .u8 0, .int .u8 0, .int .u8 0, .int .u8 0, .int .u8 0, .int .u8 0, .int .u8 0, .int .u8 0, .int .u8 0, .int .u8 0, .int .u8 0, .int .u8 0, .int .u8 0, .int .u8 0, .int .u8 0, .int .u8 0, .int .u8 0, .int .u8 0, .int .u8 0, .int .u8 0, .int .u8 0, .int .u8 0], [.int .u8, .int .u8, .int .u8, .int .u8, .int .u8, .int .u8, .int .u8, .int .u8, .int .u8, .int .u8, .int .u8, .int .u8, .int .u8, .int .u8, .int .u8, .int .u8, .int .u8, .int .u8, .int .u8, .int .u8, .int .u8, .int .u8, .int .u8, .int .u8]⟩
       (.node 102 ⟨.func, 1, 8, [.nilFunc], []⟩
        (.nil)
        (.nil))
       (.nil)))))
   (.node 122 ⟨.func, 1, 8, [.nilFunc], []⟩
    (.node 114 ⟨.ptr, 1, 8, [.nilPtr], []⟩
     (.node 110 ⟨.int .u64, 1, 8, [.int .u64 0], []⟩
      (.node 108 ⟨.func, 1, 8, [.nilFunc], []⟩
       (.node 106 ⟨.func, 1, 8, [.nilFunc], []⟩
        (.nil)
        (.nil))
       (.node 109 ⟨.func, 1, 8, [.nilFunc], []⟩
        (.nil)
        (.nil)))
      (.node 112 ⟨.func, 1, 8, [.nilFunc], []⟩
       (.node 111 ⟨.func, 1, 8, [.nilFunc], []⟩
        (.nil)
        (.nil))
       (.node 113 ⟨.func, 1, 8, [.nilFunc], []⟩
        (.nil)
        (.nil))))
     (.node 118 ⟨.array 20 89, 20, 160, [.int .u64 0, .int .u64 0, .int .u64 0, .int .u64 0, .int .u64 0, .int .u64 0, .int .u64 0, .int .u64 0, .int .u64 0, .int .u64 0, .int .u64 0, .int .u64 0, .int .u64 0, .int .u64 0, .int .u64 0, .int .u64 0, .int .u64 0, .int .u64 0, .int .u64 0, .int .u64 0], [.int .u64, .int .u64, .int .u64, .int .u64, .int .u64, .int .u64, .int .u64, .int .u64, .int .u64, .int .u64, .int .u64, .int .u64, .int .u64, .int .u64, .int .u64, .int .u64, .int .u64, .int .u64, .int .u64, .int .u64]⟩
      (.node 116 ⟨.func, 1, 8, [.nilFunc], []⟩
       (.node 115 ⟨.func, 1, 8, [.nilFunc], []⟩
        (.nil)
        (.nil))
       (.node 117 ⟨.func, 1, 8, [.nilFunc], []⟩
        (.nil)
        (.nil)))
      (.node 120 ⟨.ptr, 1, 8, [.nilPtr], []⟩
       (.node 119 ⟨.array 65 5, 65, 65, [.int .u8 0, .int .u8 0, .int .u8 0, .int .u8 0, .int .u8 0, .int .u8 0, .int .u8 0, .int .u8 0, .int .u8 0, .int .u8 0, .int .u8 0, .int .u8 0, .int .u8 0, .int .u8 0, .int .u8 0, .int .u8 0, .int .u8 0, .int .u8 0, .int .u8 0, .int .u8 0, .int .u8 0, .int .u8 0, .int .u8 0, .int .u8 0, .int .u8 0, .int .u8 0, .int .u8 0, .int .u8 0, .int .u8 0, .int .u8 0, .int .u8 0, .int .u8 0, .int .u8 0, .int .u8 0, .int .u8 0, .int .u8 0, .int .u8 0, .int .u8 0, .int .u8 0, .int .u8 0, .int .u8 0, .int .u8 0, .int .u8 0, .int .u8 0, .int .u8 0, .int .u8 0, .int .u8 0, .int .u8 0, .int .u8 0, .int .u8 0, .int .u8 0, .int .u8 0, .int .u8 0, .int .u8 0, .int .u8 0, .int .u8 0, .int .u8 0, .int .u8 0, .int .u8 0, .int .u8 0, .int .u8 0, .int .u8 0, .int .u8 0, .int .u8 0, .int .u8 0], [.int .u8, .int .u8, .int .u8, .int .u8, .int .u8, .int .u8, .int .u8, .int .u8, .int .u8, .int .u8, .int .u8, .int .u8, .int .u8, .int .u8, .int .u8, .int .u8, .int .u8, .int .u8, .int .u8, .int .u8, .int .u8, .int .u8, .int .u8, .int .u8, .int .u8, .int .u8, .int .u8, .int .u8, .int .u8, .int .u8, .int .u8, .int .u8, .int .u8, .int .u8, .int .u8, .int .u8, .int .u8, .int .u8, .int .u8, .int .u8, .int .u8, .int .u8, .int .u8, .int .u8, .int .u8, .int .u8, .int .u8, .int .u8, .int .u8, .int .u8, .int .u8, .int .u8, .int .u8, .int .u8, .int .u8, .int .u8, .int .u8, .int .u8, .int .u8, .int .u8, .int .u8, .int .u8, .int .u8, .int .u8, .int .u8]⟩
        (.nil)
        (.nil))
       (.nil))))
    (.node 130 ⟨.int .u8, 1, 1, [.int .u8 0], []⟩
     (.node 126 ⟨.struct [(0, 17), (1, 17), (2, 17), (3, 9)], 4, 40, [.nilPtr, .nilPtr, .nilPtr, .str []], []⟩
      (.node 124 ⟨.array 64 5, 64, 64, [.int .u8 0, .int .u8 0, .int .u8 0, .int .u8 0, .int .u8 0, .int .u8 0, .int .u8 0, .int .u8 0, .int .u8 0, .int .u8 0, .int .u8 0, .int .u8 0, .int .u8 0, .int .u8 0, .int .u8 0, .int .u8 0, .int .u8 0, .int .u8 0, .int .u8 0, .int .u8 0, .int .u8 0, .int .u8 0, .int .u8 0, .int .u8 0, .int .u8 0, .int .u8 0, .int .u8 0, .int .u8 0, .int .u8 0, .int .u8 0, .int .u8 0, .int .u8 0, .int .u8 0, .int .u8 0, .int .u8 0, .int .u8 0, .int .u8 0, .int .u8 0, .int .u8 0, .int .u8 0, .int .u8 0, .int .u8 0, .int .u8 0, .int .u8 0, .int .u8 0, .int .u8 0, .int .u8 0, .int .u8 0, .int .u8 0, .int .u8 0, .int .u8 0, .int .u8 0, .int .u8 0, .int .u8 0, .int .u8 0, .int .u8 0, .int .u8 0, .int .u8 0, .int .u8 0, .int .u8 0, .int .u8 0, .int .u8 0, .int .u8 0, .int .u8 0], [.int .u8, .int .u8, .int .u8, .int .u8, .int .u8, .int .u8, .int .u8, .int .u8, .int .u8, .int .u8, .int .u8, .int .u8, .int .u8, .int .u8, .int .u8, .int .u8, .int .u8, .int .u8, .int .u8, .int .u8, .int .u8, .int .u8, .int .u8, .int .u8, .int .u8, .int .u8, .int .u8, .int .u8, .int .u8, .int .u8, .int .u8, .int .u8, .int .u8, .int .u8, .int .u8, .int .u8, .int .u8, .int .u8, .int .u8, .int .u8, .int .u8, .int .u8, .int .u8, .int .u8, .int .u8, .int .u8, .int .u8, .int .u8, .int .u8, .int .u8, .int .u8, .int .u8, .int .u8, .int .u8, .int .u8, .int .u8, .int .u8, .int .u8, .int .u8, .int .u8, .int .u8, .int .u8, .int .u8, .int .u8]⟩
       (.node 123 ⟨.array 32 5, 32, 32, [.int .u8 0, .int .u8 0, .int .u8 0, .int .u8 0, .int .u8 0, .int .u8 0, .int .u8 0, .int .u8 0, .int .u8 0, .int .u8 0, .int .u8 0, .int .u8 0, .int .u8 0, .int .u8 0, .int .u8 0, .int .u8 0, .int .u8 0, .int .u8 0, .int .u8 0, .int .u8 0, .int .u8 0, .int .u8 0, .int .u8 0, .int .u8 0, .int .u8 0, .int .u8 0, .int .u8 0, .int .u8 0, .int .u8 0, .int .u8 0, .int .u8 0, .int .u8 0], [.int .u8, .int .u8, .int .u8, .int .u8, .int .u8, .int .u8, .int .u8, .int .u8, .int .u8, .int .u8, .int .u8, .int .u8, .int .u8, .int .u8, .int .u8, .int .u8, .int .u8, .int .u8, .int .u8, .int .u8, .int .u8, .int .u8, .int .u8, .int .u8, .int .u8, .int .u8, .int .u8, .int .u8, .int .u8, .int .u8, .int .u8, .int .u8]⟩
        (.nil)
        (.nil))
       (.node 125 ⟨.struct [(0, 17), (1, 17), (2, 17), (3, 9)], 4, 40, [.nilPtr, .nilPtr, .nilPtr, .str []], []⟩
        (.nil)
        (.nil)))
      (.node 128 ⟨.struct [(0, 127)], 0, 0, [], []⟩
       (.node 127 ⟨.array 0 16, 0, 0, [], []⟩
        (.nil)
        (.nil))
       (.node 129 ⟨.struct [(0, 127)], 0, 0, [], []⟩
        (.nil)
        (.nil))))
     (.node 134 ⟨.int .i32, 1, 4, [.int .i32 0], []⟩
      (.node 132 ⟨.func, 1, 8, [.nilFunc], []⟩
       (.node 131 ⟨.int .u8, 1, 1, [.int .u8 0], []⟩
        (.nil)
        (.nil))
       (.node 133 ⟨.int .i32, 1, 4, [.int .i32 0], []⟩
        (.nil)
        (.nil)))
      (.node 136 ⟨.struct [(0, 12), (1, 12), (2, 86), (3, 130), (4, 5), (5, 5), (6, 131), (7, 132), (8, 92), (9, 133), (10, 134)], 11, 48, [.int .u64 0, .int .u64 0, .int .u32 0, .int .u8 0, .int .u8 0, .int .u8 0, .int .u8 0, .nilFunc, .nilPtr, .int .i32 0, .int .i32 0], []⟩
       (.node 135 ⟨.struct [(0, 12), (1, 12), (2, 86), (3, 130), (4, 5), (5, 5), (6, 131), (7, 132), (8, 92), (9, 133), (10, 134)], 11, 48, [.int .u64 0, .int .u64 0, .int .u32 0, .int .u8 0, .int .u8 0, .int .u8 0, .int .u8 0, .nilFunc, .nilPtr, .int .i32 0, .int .i32 0], []⟩
        (.nil)
        (.nil))
       (.nil))))))

def Y (t : TypeId) : Option Ty := tys.get t
theorem env : Env Tryd.prog Y := ⟨fun t y h => Tree.all_get (p := tyOk Tryd.prog) (by kernel_rfl) h⟩
theorem mixed : Tryd.prog.follows .mixedOrders = true := by kernel_rfl
@[simp] theorem Y_1 : Y 1 = some ⟨.func, 1, 8, [.nilFunc], []⟩ := rfl
@[simp] theorem Y_2 : Y 2 = some ⟨.int .i64, 1, 8, [.int .i64 0], []⟩ := rfl
@[simp] theorem Y_3 : Y 3 = some ⟨.int .i64, 1, 8, [.int .i64 0], []⟩ := rfl
@[simp] theorem Y_4 : Y 4 = some ⟨.bool, 1, 1, [.bool false], []⟩ := rfl
@[simp] theorem Y_5 : Y 5 = some ⟨.int .u8, 1, 1, [.int .u8 0], []⟩ := rfl
@[simp] theorem Y_6 : Y 6 = some ⟨.int .u8, 1, 1, [.int .u8 0], []⟩ := rfl
@[simp] theorem Y_7 : Y 7 = some ⟨.struct [(0, 2), (1, 3), (2, 4), (3, 6)], 4, 24, [.int .i64 0, .int .i64 0, .bool false, .int .u8 0], [.int .i64, .int .i64, .bool, .int .u8]⟩ := rfl
@[simp] theorem Y_8 : Y 8 = some ⟨.struct [(0, 2), (1, 3), (2, 4), (3, 6)], 4, 24, [.int .i64 0, .int .i64 0, .bool false, .int .u8 0], [.int .i64, .int .i64, .bool, .int .u8]⟩ := rfl
@[simp] theorem Y_9 : Y 9 = some ⟨.str, 1, 16, [.str []], []⟩ := rfl
@[simp] theorem Y_10 : Y 10 = some ⟨.str, 1, 16, [.str []], []⟩ := rfl
@[simp] theorem Y_11 : Y 11 = some ⟨.str, 1, 16, [.str []], []⟩ := rfl
@[simp] theorem Y_12 : Y 12 = some ⟨.int .u64, 1, 8, [.int .u64 0], []⟩ := rfl
@[simp] theorem Y_15 : Y 15 = some ⟨.ptr, 1, 8, [.nilPtr], []⟩ := rfl
@[simp] theorem Y_16 : Y 16 = some ⟨.ptr, 1, 8, [.nilPtr], []⟩ := rfl
@[simp] theorem Y_17 : Y 17 = some ⟨.ptr, 1, 8, [.nilPtr], []⟩ := rfl
@[simp] theorem Y_18 : Y 18 = some ⟨.struct [(0, 17)], 1, 8, [.nilPtr], []⟩ := rfl
@[simp] theorem Y_19 : Y 19 = some ⟨.struct [(0, 17)], 1, 8, [.nilPtr], []⟩ := rfl
@[simp] theorem Y_20 : Y 20 = some ⟨.iface, 1, 16, [.nilIface], []⟩ := rfl
@[simp] theorem Y_21 : Y 21 = some ⟨.int .i32, 1, 4, [.int .i32 0], []⟩ := rfl
@[simp] theorem Y_22 : Y 22 = some ⟨.struct [(0, 3), (1, 3)], 2, 16, [.int .i64 0, .int .i64 0], [.int .i64, .int .i64]⟩ := rfl
@[simp] theorem Y_23 : Y 23 = some ⟨.struct [(0, 3), (1, 3)], 2, 16, [.int .i64 0, .int .i64 0], [.int .i64, .int .i64]⟩ := rfl
@[simp] theorem Y_24 : Y 24 = some ⟨.slice 23, 1, 24, [.nilSlice], []⟩ := rfl
@[simp] theorem Y_25 : Y 25 = some ⟨.func, 1, 8, [.nilFunc], []⟩ := rfl
@[simp] theorem Y_26 : Y 26 = some ⟨.func, 1, 8, [.nilFunc], []⟩ := rfl
@[simp] theorem Y_27 : Y 27 = some ⟨.func, 1, 8, [.nilFunc], []⟩ := rfl
@[simp] theorem Y_28 : Y 28 = some ⟨.func, 1, 8, [.nilFunc], []⟩ := rfl
@[simp] theorem Y_29 : Y 29 = some ⟨.func, 1, 8, [.nilFunc], []⟩ := rfl
@[simp] theorem Y_30 : Y 30 = some ⟨.int .i64, 1, 8, [.int .i64 0], []⟩ := rfl
@[simp] theorem Y_32 : Y 32 = some ⟨.func, 1, 8, [.nilFunc], []⟩ := rfl
@[simp] theorem Y_33 : Y 33 = some ⟨.func, 1, 8, [.nilFunc], []⟩ := rfl
@[simp] theorem Y_35 : Y 35 = some ⟨.func, 1, 8, [.nilFunc], []⟩ := rfl
@[simp] theorem Y_36 : Y 36 = some ⟨.func, 1, 8, [.nilFunc], []⟩ := rfl
@[simp] theorem Y_38 : Y 38 = some ⟨.func, 1, 8, [.nilFunc], []⟩ := rfl
@[simp] theorem Y_40 : Y 40 = some ⟨.func, 1, 8, [.nilFunc], []⟩ := rfl
@[simp] theorem Y_41 : Y 41 = some ⟨.func, 1, 8, [.nilFunc], []⟩ := rfl
@[simp] theorem Y_42 : Y 42 = some ⟨.func, 1, 8, [.nilFunc], []⟩ := rfl
@[simp] theorem Y_43 : Y 43 = some ⟨.func, 1, 8, [.nilFunc], []⟩ := rfl
@[simp] theorem Y_45 : Y 45 = some ⟨.func, 1, 8, [.nilFunc], []⟩ := rfl
@[simp] theorem Y_46 : Y 46 = some ⟨.func, 1, 8, [.nilFunc], []⟩ := rfl
@[simp] theorem Y_47 : Y 47 = some ⟨.func, 1, 8, [.nilFunc], []⟩ := rfl
@[simp] theorem Y_48 : Y 48 = some ⟨.func, 1, 8, [.nilFunc], []⟩ := rfl
@[simp] theorem Y_49 : Y 49 = some ⟨.func, 1, 8, [.nilFunc], []⟩ := rfl
@[simp] theorem Y_51 : Y 51 = some ⟨.func, 1, 8, [.nilFunc], []⟩ := rfl
@[simp] theorem Y_52 : Y 52 = some ⟨.func, 1, 8, [.nilFunc], []⟩ := rfl
@[simp] theorem Y_53 : Y 53 = some ⟨.func, 1, 8, [.nilFunc], []⟩ := rfl
@[simp] theorem Y_54 : Y 54 = some ⟨.func, 1, 8, [.nilFunc], []⟩ := rfl
@[simp] theorem Y_55 : Y 55 = some ⟨.func, 1, 8, [.nilFunc], []⟩ := rfl
@[simp] theorem Y_56 : Y 56 = some ⟨.func, 1, 8, [.nilFunc], []⟩ := rfl
@[simp] theorem Y_57 : Y 57 = some ⟨.func, 1, 8, [.nilFunc], []⟩ := rfl
@[simp] theorem Y_58 : Y 58 = some ⟨.slice 3, 1, 24, [.nilSlice], []⟩ := rfl
@[simp] theorem Y_59 : Y 59 = some ⟨.func, 1, 8, [.nilFunc], []⟩ := rfl
@[simp] theorem Y_60 : Y 60 = some ⟨.func, 1, 8, [.nilFunc], []⟩ := rfl
@[simp] theorem Y_61 : Y 61 = some ⟨.func, 1, 8, [.nilFunc], []⟩ := rfl
@[simp] theorem Y_62 : Y 62 = some ⟨.array 4 9, 4, 64, [.str [], .str [], .str [], .str []], [.str, .str, .str, .str]⟩ := rfl
@[simp] theorem Y_63 : Y 63 = some ⟨.array 10 9, 10, 160, [.str [], .str [], .str [], .str [], .str [], .str [], .str [], .str [], .str [], .str []], [.str, .str, .str, .str, .str, .str, .str, .str, .str, .str]⟩ := rfl
@[simp] theorem Y_64 : Y 64 = some ⟨.slice 9, 1, 24, [.nilSlice], []⟩ := rfl
@[simp] theorem Y_65 : Y 65 = some ⟨.func, 1, 8, [.nilFunc], []⟩ := rfl
@[simp] theorem Y_66 : Y 66 = some ⟨.func, 1, 8, [.nilFunc], []⟩ := rfl
@[simp] theorem Y_67 : Y 67 = some ⟨.int .u64, 1, 8, [.int .u64 0], []⟩ := rfl
@[simp] theorem Y_69 : Y 69 = some ⟨.func, 1, 8, [.nilFunc], []⟩ := rfl
@[simp] theorem Y_70 : Y 70 = some ⟨.func, 1, 8, [.nilFunc], []⟩ := rfl
@[simp] theorem Y_71 : Y 71 = some ⟨.ptr, 1, 8, [.nilPtr], []⟩ := rfl
@[simp] theorem Y_72 : Y 72 = some ⟨.slice 5, 1, 24, [.nilSlice], []⟩ := rfl
@[simp] theorem Y_73 : Y 73 = some ⟨.struct [(0, 71), (1, 72)], 2, 32, [.nilPtr, .nilSlice], []⟩ := rfl
@[simp] theorem Y_74 : Y 74 = some ⟨.struct [(0, 71), (1, 72)], 2, 32, [.nilPtr, .nilSlice], []⟩ := rfl
@[simp] theorem Y_75 : Y 75 = some ⟨.func, 1, 8, [.nilFunc], []⟩ := rfl
@[simp] theorem Y_76 : Y 76 = some ⟨.iface, 1, 16, [.nilIface], []⟩ := rfl
@[simp] theorem Y_77 : Y 77 = some ⟨.iface, 1, 16, [.nilIface], []⟩ := rfl
@[simp] theorem Y_79 : Y 79 = some ⟨.func, 1, 8, [.nilFunc], []⟩ := rfl
@[simp] theorem Y_80 : Y 80 = some ⟨.func, 1, 8, [.nilFunc], []⟩ := rfl
@[simp] theorem Y_81 : Y 81 = some ⟨.func, 1, 8, [.nilFunc], []⟩ := rfl
@[simp] theorem Y_82 : Y 82 = some ⟨.func, 1, 8, [.nilFunc], []⟩ := rfl
@[simp] theorem Y_83 : Y 83 = some ⟨.func, 1, 8, [.nilFunc], []⟩ := rfl
@[simp] theorem Y_84 : Y 84 = some ⟨.func, 1, 8, [.nilFunc], []⟩ := rfl
@[simp] theorem Y_85 : Y 85 = some ⟨.func, 1, 8, [.nilFunc], []⟩ := rfl
@[simp] theorem Y_86 : Y 86 = some ⟨.int .u32, 1, 4, [.int .u32 0], []⟩ := rfl
@[simp] theorem Y_88 : Y 88 = some ⟨.func, 1, 8, [.nilFunc], []⟩ := rfl
@[simp] theorem Y_89 : Y 89 = some ⟨.int .u64, 1, 8, [.int .u64 0], []⟩ := rfl
@[simp] theorem Y_91 : Y 91 = some ⟨.func, 1, 8, [.nilFunc], []⟩ := rfl
@[simp] theorem Y_92 : Y 92 = some ⟨.ptr, 1, 8, [.nilPtr], []⟩ := rfl
@[simp] theorem Y_93 : Y 93 = some ⟨.func, 1, 8, [.nilFunc], []⟩ := rfl
@[simp] theorem Y_94 : Y 94 = some ⟨.int .i64, 1, 8, [.int .i64 0], []⟩ := rfl
@[simp] theorem Y_96 : Y 96 = some ⟨.func, 1, 8, [.nilFunc], []⟩ := rfl
@[simp] theorem Y_97 : Y 97 = some ⟨.func, 1, 8, [.nilFunc], []⟩ := rfl
@[simp] theorem Y_98 : Y 98 = some ⟨.func, 1, 8, [.nilFunc], []⟩ := rfl
@[simp] theorem Y_100 : Y 100 = some ⟨.func, 1, 8, [.nilFunc], []⟩ := rfl
@[simp] theorem Y_101 : Y 101 = some ⟨.func, 1, 8, [.nilFunc], []⟩ := rfl
@[simp] theorem Y_102 : Y 102 = some ⟨.func, 1, 8, [.nilFunc], []⟩ := rfl
@[simp] theorem Y_103 : Y 103 = some ⟨.array 24 5, 24, 24, [.int .u8 0, .int .u8 0, .int .u8 0, .int .u8 0, .int .u8 0, .int .u8 0, .int .u8 0, .int .u8 0, .int .u8 0, .int .u8 0, .int .u8 0, .int .u8 0, .int .u8 0, .int .u8 0, .int .u8 0, .int .u8 0, .int .u8 0, .int .u8 0, .int .u8 0, .int .u8 0, .int .u8 0, .int .u8 0, .int .u8 0, .int .u8 0], [.int .u8, .int .u8, .int .u8, .int .u8, .int .u8, .int .u8, .int .u8, .int .u8, .int .u8, .int .u8, .int .u8, .int .u8, .int .u8, .int .u8, .int .u8, .int .u8, .int .u8, .int .u8, .int .u8, .int .u8, .int .u8, .int .u8, .int .u8, .int .u8]⟩ := rfl
@[simp] theorem Y_104 : Y 104 = some ⟨.func, 1, 8, [.nilFunc], []⟩ := rfl
@[simp] theorem Y_106 : Y 106 = some ⟨.func, 1, 8, [.nilFunc], []⟩ := rfl
@[simp] theorem Y_108 : Y 108 = some ⟨.func, 1, 8, [.nilFunc], []⟩ := rfl
@[simp] theorem Y_109 : Y 109 = some ⟨.func, 1, 8, [.nilFunc], []⟩ := rfl
@[simp] theorem Y_110 : Y 110 = some ⟨.int .u64, 1, 8, [.int .u64 0], []⟩ := rfl
@[simp] theorem Y_111 : Y 111 = some ⟨.func, 1, 8, [.nilFunc], []⟩ := rfl
@[simp] theorem Y_112 : Y 112 = some ⟨.func, 1, 8, [.nilFunc], []⟩ := rfl
@[simp] theorem Y_113 : Y 113 = some ⟨.func, 1, 8, [.nilFunc], []⟩ := rfl
@[simp] theorem Y_114 : Y 114 = some ⟨.ptr, 1, 8, [.nilPtr], []⟩ := rfl
@[simp] theorem Y_115 : Y 115 = some ⟨.func, 1, 8, [.nilFunc], []⟩ := rfl
@[simp] theorem Y_116 : Y 116 = some ⟨.func, 1, 8, [.nilFunc], []⟩ := rfl
@[simp] theorem Y_117 : Y 117 = some ⟨.func, 1, 8, [.nilFunc], []⟩ := rfl
@[simp] theorem Y_118 : Y 118 = some ⟨.array 20 89, 20, 160, [.int .u64 0, .int .u64 0, .int .u64 0, .int .u64 0, .int .u64 0, .int .u64 0, .int .u64 0, .int .u64 0, .int .u64 0, .int .u64 0, .int .u64 0, .int .u64 0, .int .u64 0, .int .u64 0, .int .u64 0, .int .u64 0, .int .u64 0, .int .u64 0, .int .u64 0, .int .u64 0], [.int .u64, .int .u64, .int .u64, .int .u64, .int .u64, .int .u64, .int .u64, .int .u64, .int .u64, .int .u64, .int .u64, .int .u64, .int .u64, .int .u64, .int .u64, .int .u64, .int .u64, .int .u64, .int .u64, .int .u64]⟩ := rfl
@[simp] theorem Y_119 : Y 119 = some ⟨.array 65 5, 65, 65, [.int .u8 0, .int .u8 0, .int .u8 0, .int .u8 0, .int .u8 0, .int .u8 0, .int .u8 0, .int .u8 0, .int .u8 0, .int .u8 0, .int .u8 0, .int .u8 0, .int .u8 0, .int .u8 0, .int .u8 0, .int .u8 0, .int .u8 0, .int .u8 0, .int .u8 0, .int .u8 0, .int .u8 0, .int .u8 0, .int .u8 0, .int .u8 0, .int .u8 0, .int .u8 0, .int .u8 0, .int .u8 0, .int .u8 0, .int .u8 0, .int .u8 0, .int .u8 0, .int .u8 0, .int .u8 0, .int .u8 0, .int .u8 0, .int .u8 0, .int .u8 0, .int .u8 0, .int .u8 0, .int .u8 0, .int .u8 0, .int .u8 0, .int .u8 0, .int .u8 0, .int .u8 0, .int .u8 0, .int .u8 0, .int .u8 0, .int .u8 0, .int .u8 0, .int .u8 0, .int .u8 0, .int .u8 0, .int .u8 0, .int .u8 0, .int .u8 0, .int .u8 0, .int .u8 0, .int .u8 0, .int .u8 0, .int .u8 0, .int .u8 0, .int .u8 0, .int .u8 0], [.int .u8, .int .u8, .int .u8, .int .u8, .int .u8, .int .u8, .int .u8, .int .u8, .int .u8, .int .u8, .int .u8, .int .u8, .int .u8, .int .u8, .int .u8, .int .u8, .int .u8, .int .u8, .int .u8, .int .u8, .int .u8, .int .u8, .int .u8, .int .u8, .int .u8, .int .u8, .int .u8, .int .u8, .int .u8, .int .u8, .int .u8, .int .u8, .int .u8, .int .u8, .int .u8, .int .u8, .int .u8, .int .u8, .int .u8, .int .u8, .int .u8, .int .u8, .int .u8, .int .u8, .int .u8, .int .u8, .int .u8, .int .u8, .int .u8, .int .u8, .int .u8, .int .u8, .int .u8, .int .u8, .int .u8, .int .u8, .int .u8, .int .u8, .int .u8, .int .u8, .int .u8, .int .u8, .int .u8, .int .u8, .int .u8]⟩ := rfl
@[simp] theorem Y_120 : Y 120 = some ⟨.ptr, 1, 8, [.nilPtr], []⟩ := rfl
@[simp] theorem Y_122 : Y 122 = some ⟨.func, 1, 8, [.nilFunc], []⟩ := rfl
@[simp] theorem Y_123 : Y 123 = some ⟨.array 32 5, 32, 32, [.int .u8 0, .int .u8 0, .int .u8 0, .int .u8 0, .int .u8 0, .int .u8 0, .int .u8 0, .int .u8 0, .int .u8 0, .int .u8 0, .int .u8 0, .int .u8 0, .int .u8 0, .int .u8 0, .int .u8 0, .int .u8 0, .int .u8 0, .int .u8 0, .int .u8 0, .int .u8 0, .int .u8 0, .int .u8 0, .int .u8 0, .int .u8 0, .int .u8 0, .int .u8 0, .int .u8 0, .int .u8 0, .int .u8 0, .int .u8 0, .int .u8 0, .int .u8 0], [.int .u8, .int .u8, .int .u8, .int .u8, .int .u8, .int .u8, .int .u8, .int .u8, .int .u8, .int .u8, .int .u8, .int .u8, .int .u8, .int .u8, .int .u8, .int .u8, .int .u8, .int .u8, .int .u8, .int .u8, .int .u8, .int .u8, .int .u8, .int .u8, .int .u8, .int .u8, .int .u8, .int .u8, .int .u8, .int .u8, .int .u8, .int .u8]⟩ := rfl
@[simp] theorem Y_124 : Y 124 = some ⟨.array 64 5, 64, 64, [.int .u8 0, .int .u8 0, .int .u8 0, .int .u8 0, .int .u8 0, .int .u8 0, .int .u8 0, .int .u8 0, .int .u8 0, .int .u8 0, .int .u8 0, .int .u8 0, .int .u8 0, .int .u8 0, .int .u8 0, .int .u8 0, .int .u8 0, .int .u8 0, .int .u8 0, .int .u8 0, .int .u8 0, .int .u8 0, .int .u8 0, .int .u8 0, .int .u8 0, .int .u8 0, .int .u8 0, .int .u8 0, .int .u8 0, .int .u8 0, .int .u8 0, .int .u8 0, .int .u8 0, .int .u8 0, .int .u8 0, .int .u8 0, .int .u8 0, .int .u8 0, .int .u8 0, .int .u8 0, .int .u8 0, .int .u8 0, .int .u8 0, .int .u8 0, .int .u8 0, .int .u8 0, .int .u8 0, .int .u8 0, .int .u8 0, .int .u8 0, .int .u8 0, .int .u8 0, .int .u8 0, .int .u8 0, .int .u8 0, .int .u8 0, .int .u8 0, .int .u8 0, .int .u8 0, .int .u8 0, .int .u8 0, .int .u8 0, .int .u8 0, .int .u8 0], [.int .u8, .int .u8, .int .u8, .int .u8, .int .u8, .int .u8, .int .u8, .int .u8, .int .u8, .int .u8, .int .u8, .int .u8, .int .u8, .int .u8, .int .u8, .int .u8, .int .u8, .int .u8, .int .u8, .int .u8, .int .u8, .int .u8, .int .u8, .int .u8, .int .u8, .int .u8, .int .u8, .int .u8, .int .u8, .int .u8, .int .u8, .int .u8, .int .u8, .int .u8, .int .u8, .int .u8, .int .u8, .int .u8, .int .u8, .int .u8, .int .u8, .int .u8, .int .u8, .int .u8, .int .u8, .int .u8, .int .u8, .int .u8, .int .u8, .int .u8, .int .u8, .int .u8, .int .u8, .int .u8, .int .u8, .int .u8, .int .u8, .int .u8, .int .u8, .int .u8, .int .u8, .int .u8, .int .u8, .int .u8]⟩ := rfl
@[simp] theorem Y_125 : Y 125 = some ⟨.struct [(0, 17), (1, 17), (2, 17), (3, 9)], 4, 40, [.nilPtr, .nilPtr, .nilPtr, .str []], []⟩ := rfl
@[simp] theorem Y_126 : Y 126 = some ⟨.struct [(0, 17), (1, 17), (2, 17), (3, 9)], 4, 40, [.nilPtr, .nilPtr, .nilPtr, .str []], []⟩ := rfl
@[simp] theorem Y_127 : Y 127 = some ⟨.array 0 16, 0, 0, [], []⟩ := rfl
@[simp] theorem Y_128 : Y 128 = some ⟨.struct [(0, 127)], 0, 0, [], []⟩ := rfl
@[simp] theorem Y_129 : Y 129 = some ⟨.struct [(0, 127)], 0, 0, [], []⟩ := rfl
@[simp] theorem Y_130 : Y 130 = some ⟨.int .u8, 1, 1, [.int .u8 0], []⟩ := rfl
@[simp] theorem Y_131 : Y 131 = some ⟨.int .u8, 1, 1, [.int .u8 0], []⟩ := rfl
@[simp] theorem Y_132 : Y 132 = some ⟨.func, 1, 8, [.nilFunc], []⟩ := rfl
@[simp] theorem Y_133 : Y 133 = some ⟨.int .i32, 1, 4, [.int .i32 0], []⟩ := rfl
@[simp] theorem Y_134 : Y 134 = some ⟨.int .i32, 1, 4, [.int .i32 0], []⟩ := rfl
@[simp] theorem Y_135 : Y 135 = some ⟨.struct [(0, 12), (1, 12), (2, 86), (3, 130), (4, 5), (5, 5), (6, 131), (7, 132), (8, 92), (9, 133), (10, 134)], 11, 48, [.int .u64 0, .int .u64 0, .int .u32 0, .int .u8 0, .int .u8 0, .int .u8 0, .int .u8 0, .nilFunc, .nilPtr, .int .i32 0, .int .i32 0], []⟩ := rfl
@[simp] theorem Y_136 : Y 136 = some ⟨.struct [(0, 12), (1, 12), (2, 86), (3, 130), (4, 5), (5, 5), (6, 131), (7, 132), (8, 92), (9, 133), (10, 134)], 11, 48, [.int .u64 0, .int .u64 0, .int .u32 0, .int .u8 0, .int .u8 0, .int .u8 0, .int .u8 0, .nilFunc, .nilPtr, .int .i32 0, .int .i32 0], []⟩ := rfl
end Go.Proofs.YtngapiffgoignaaDoor
