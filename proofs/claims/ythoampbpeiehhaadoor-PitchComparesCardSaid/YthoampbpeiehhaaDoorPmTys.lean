/- The program's types as the interpreter sees them. Printed by a program. -/
import Derived.Test.YthoampbpeiehhaaDoorRows
import Derived.Test.YthoampbpeiehhaaDoorPmX
set_option linter.unusedVariables false
set_option maxRecDepth 100000
namespace Go.Proofs.YthoampbpeiehhaaDoor
open Go.Pm
def tys : Tree Ty :=
  .node 68 ⟨.iface, 1, 16, [.nilIface], []⟩
  (.node 33 ⟨.func, 1, 8, [.nilFunc], []⟩
   (.node 17 ⟨.ptr, 1, 8, [.nilPtr], []⟩
    (.node 8 ⟨.struct [(0, 2), (1, 3), (2, 4), (3, 6)], 4, 24, [.int .i64 0, .int .i64 0, .bool false, .int .u8 0], [.int .i64, .int .i64, .bool, .int .u8]⟩
     (.node 4 ⟨.bool, 1, 1, [.bool false], []⟩
      (.node 2 ⟨.int .i64, 1, 8, [.int .i64 0], []⟩
       (.node 1 ⟨.func, 1, 8, [.nilFunc], []⟩
        (.nil)
        (.nil))
       (.node 3 ⟨.int .i64, 1, 8, [.int .i64 0], []⟩
        (.nil)
        (.nil)))
      (.node 6 ⟨.int .u8, 1, 1, [.int .u8 0], []⟩
       (.node 5 ⟨.int .u8, 1, 1, [.int .u8 0], []⟩
        (.nil)
        (.nil))
       (.node 7 ⟨.struct [(0, 2), (1, 3), (2, 4), (3, 6)], 4, 24, [.int .i64 0, .int .i64 0, .bool false, .int .u8 0], [.int .i64, .int .i64, .bool, .int .u8]⟩
        (.nil)
        (.nil))))
     (.node 12 ⟨.int .u64, 1, 8, [.int .u64 0], []⟩
      (.node 10 ⟨.str, 1, 16, [.str []], []⟩
       (.node 9 ⟨.str, 1, 16, [.str []], []⟩
        (.nil)
        (.nil))
       (.node 11 ⟨.str, 1, 16, [.str []], []⟩
        (.nil)
        (.nil)))
      (.node 16 ⟨.ptr, 1, 8, [.nilPtr], []⟩
       (.node 15 ⟨.ptr, 1, 8, [.nilPtr], []⟩
        (.nil)
        (.nil))
       (.nil))))
    (.node 25 ⟨.func, 1, 8, [.nilFunc], []⟩
     (.node 21 ⟨.int .i32, 1, 4, [.int .i32 0], []⟩
      (.node 19 ⟨.struct [(0, 17)], 1, 8, [.nilPtr], []⟩
       (.node 18 ⟨.struct [(0, 17)], 1, 8, [.nilPtr], []⟩
        (.nil)
        (.nil))
       (.node 20 ⟨.iface, 1, 16, [.nilIface], []⟩
        (.nil)
        (.nil)))
      (.node 23 ⟨.int .i64, 1, 8, [.int .i64 0], []⟩
       (.node 22 ⟨.slice 29, 1, 24, [.nilSlice], []⟩
        (.nil)
        (.nil))
       (.nil)))
     (.node 29 ⟨.struct [(0, 3), (1, 3), (2, 3)], 3, 24, [.int .i64 0, .int .i64 0, .int .i64 0], [.int .i64, .int .i64, .int .i64]⟩
      (.node 27 ⟨.func, 1, 8, [.nilFunc], []⟩
       (.node 26 ⟨.func, 1, 8, [.nilFunc], []⟩
        (.nil)
        (.nil))
       (.node 28 ⟨.struct [(0, 3), (1, 3), (2, 3)], 3, 24, [.int .i64 0, .int .i64 0, .int .i64 0], [.int .i64, .int .i64, .int .i64]⟩
        (.nil)
        (.nil)))
      (.node 32 ⟨.func, 1, 8, [.nilFunc], []⟩
       (.node 30 ⟨.func, 1, 8, [.nilFunc], []⟩
        (.nil)
        (.nil))
       (.nil)))))
   (.node 52 ⟨.func, 1, 8, [.nilFunc], []⟩
    (.node 44 ⟨.func, 1, 8, [.nilFunc], []⟩
     (.node 40 ⟨.func, 1, 8, [.nilFunc], []⟩
      (.node 36 ⟨.func, 1, 8, [.nilFunc], []⟩
       (.node 35 ⟨.func, 1, 8, [.nilFunc], []⟩
        (.nil)
        (.nil))
       (.node 38 ⟨.func, 1, 8, [.nilFunc], []⟩
        (.nil)
        (.nil)))
      (.node 43 ⟨.func, 1, 8, [.nilFunc], []⟩
       (.node 41 ⟨.func, 1, 8, [.nilFunc], []⟩
        (.nil)
        (.nil))
       (.nil)))
     (.node 49 ⟨.func, 1, 8, [.nilFunc], []⟩
      (.node 47 ⟨.func, 1, 8, [.nilFunc], []⟩
       (.node 46 ⟨.func, 1, 8, [.nilFunc], []⟩
        (.nil)
        (.nil))
       (.node 48 ⟨.func, 1, 8, [.nilFunc], []⟩
        (.nil)
        (.nil)))
      (.node 51 ⟨.func, 1, 8, [.nilFunc], []⟩
       (.node 50 ⟨.func, 1, 8, [.nilFunc], []⟩
        (.nil)
        (.nil))
       (.nil))))
    (.node 60 ⟨.func, 1, 8, [.nilFunc], []⟩
     (.node 56 ⟨.func, 1, 8, [.nilFunc], []⟩
      (.node 54 ⟨.func, 1, 8, [.nilFunc], []⟩
       (.node 53 ⟨.func, 1, 8, [.nilFunc], []⟩
        (.nil)
        (.nil))
       (.node 55 ⟨.func, 1, 8, [.nilFunc], []⟩
        (.nil)
        (.nil)))
      (.node 59 ⟨.array 7 3, 7, 56, [.int .i64 0, .int .i64 0, .int .i64 0, .int .i64 0, .int .i64 0, .int .i64 0, .int .i64 0], [.int .i64, .int .i64, .int .i64, .int .i64, .int .i64, .int .i64, .int .i64]⟩
       (.node 58 ⟨.func, 1, 8, [.nilFunc], []⟩
        (.nil)
        (.nil))
       (.nil)))
     (.node 64 ⟨.func, 1, 8, [.nilFunc], []⟩
      (.node 62 ⟨.array 5 9, 5, 80, [.str [], .str [], .str [], .str [], .str []], [.str, .str, .str, .str, .str]⟩
       (.node 61 ⟨.func, 1, 8, [.nilFunc], []⟩
        (.nil)
        (.nil))
       (.node 63 ⟨.func, 1, 8, [.nilFunc], []⟩
        (.nil)
        (.nil)))
      (.node 67 ⟨.func, 1, 8, [.nilFunc], []⟩
       (.node 65 ⟨.func, 1, 8, [.nilFunc], []⟩
        (.nil)
        (.nil))
       (.nil))))))
  (.node 101 ⟨.func, 1, 8, [.nilFunc], []⟩
   (.node 85 ⟨.func, 1, 8, [.nilFunc], []⟩
    (.node 77 ⟨.func, 1, 8, [.nilFunc], []⟩
     (.node 73 ⟨.slice 5, 1, 24, [.nilSlice], []⟩
      (.node 71 ⟨.func, 1, 8, [.nilFunc], []⟩
       (.node 69 ⟨.iface, 1, 16, [.nilIface], []⟩
        (.nil)
        (.nil))
       (.node 72 ⟨.slice 9, 1, 24, [.nilSlice], []⟩
        (.nil)
        (.nil)))
      (.node 75 ⟨.slice 3, 1, 24, [.nilSlice], []⟩
       (.node 74 ⟨.func, 1, 8, [.nilFunc], []⟩
        (.nil)
        (.nil))
       (.node 76 ⟨.func, 1, 8, [.nilFunc], []⟩
        (.nil)
        (.nil))))
     (.node 81 ⟨.func, 1, 8, [.nilFunc], []⟩
      (.node 79 ⟨.func, 1, 8, [.nilFunc], []⟩
       (.node 78 ⟨.array 2 3, 2, 16, [.int .i64 0, .int .i64 0], [.int .i64, .int .i64]⟩
        (.nil)
        (.nil))
       (.node 80 ⟨.func, 1, 8, [.nilFunc], []⟩
        (.nil)
        (.nil)))
      (.node 83 ⟨.int .i64, 1, 8, [.int .i64 0], []⟩
       (.node 82 ⟨.func, 1, 8, [.nilFunc], []⟩
        (.nil)
        (.nil))
       (.nil))))
    (.node 92 ⟨.func, 1, 8, [.nilFunc], []⟩
     (.node 89 ⟨.array 24 5, 24, 24, [.int .u8 0, .int .u8 0, .int .u8 0, .int .u8 0, .int .u8 0, .int .u8 0, .int .u8 0, .int .u8 0, .int .u8 0, .int .u8 0, .int .u8 0, .int .u8 0, .int .u8 0, .int .u8 0, .int .u8 0, .int .u8 0, .int .u8 0, .int .u8 0, .int .u8 0, .int .u8 0, .int .u8 0, .int .u8 0, .int .u8 0, .int .u8 0], [.int .u8, .int .u8, .int .u8, .int .u8, .int .u8, .int .u8, .int .u8, .int .u8, .int .u8, .int .u8, .int .u8, .int .u8, .int .u8, .int .u8, .int .u8, .int .u8, .int .u8, .int .u8, .int .u8, .int .u8, .int .u8, .int .u8, .int .u8, .int .u8]⟩
      (.node 87 ⟨.func, 1, 8, [.nilFunc], []⟩
       (.node 86 ⟨.ptr, 1, 8, [.nilPtr], []⟩
        (.nil)
        (.nil))
       (.node 88 ⟨.func, 1, 8, [.nilFunc], []⟩
        (.nil)
        (.nil)))
      (.node 91 ⟨.func, 1, 8, [.nilFunc], []⟩
       (.node 90 ⟨.int .u64, 1, 8, [.int .u64 0], []⟩
        (.nil)
        (.nil))
       (.nil)))
     (.node 98 ⟨.func, 1, 8, [.nilFunc], []⟩
      (.node 96 ⟨.func, 1, 8, [.nilFunc], []⟩
       (.node 94 ⟨.func, 1, 8, [.nilFunc], []⟩
        (.nil)
        (.nil))
       (.node 97 ⟨.int .u64, 1, 8, [.int .u64 0], []⟩
        (.nil)
        (.nil)))
      (.node 100 ⟨.struct [(0, 9), (1, 9), (2, 69)], 3, 48, [.str [], .str [], .nilIface], []⟩
       (.node 99 ⟨.struct [(0, 9), (1, 9), (2, 69)], 3, 48, [.str [], .str [], .nilIface], []⟩
        (.nil)
        (.nil))
       (.nil)))))
   (.node 115 ⟨.func, 1, 8, [.nilFunc], []⟩
    (.node 108 ⟨.ptr, 1, 8, [.nilPtr], []⟩
     (.node 105 ⟨.array 65 5, 65, 65, [.int .u8 0, .int .u8 0, .int .u8 0, .int .u8 0, .int .u8 0, .int .u8 0, .int .u8 0, .int .u8 0, .int .u8 0, .int .u8 0, .int .u8 0, .int .u8 0, .int .u8 0, .int .u8 0, .int .u8 0, .int .u8 0, .int .u8 0, .int .u8 0, .int .u8 0, .int .u8 0, .int .u8 0, .int .u8 0, .int .u8 0, .int .u8 0, .int .u8 0, .int .u8 0, .int .u8 0, .int .u8 0, .int .u8 0, .int .u8 0, .int .u8 0, .int .u8 0, .int .u8 0, .int .u8 0, .int .u8 0, .int .u8 0, .int .u8 0, .int .u8 0, .int .u8 0, .int .u8 0, .int .u8 0, .int .u8 0, .int .u8 0, .int .u8 0, .int .u8 0, .int .u8 0, .int .u8 0, .int .u8 0, .int .u8 0, .int .u8 0, .int .u8 0, .int .u8 0, .int .u8 0, .int .u8 0, .int .u8 0, .int .u8 0, .int .u8 0, .int .u8 0, .int .u8 0, .int .u8 0, .int .u8 0, .int .u8 0, .int .u8 0, .int .u8 0, .int .u8 0], [.int .u8, .int .u8, .int .u8, .int .u8, .int .u8, .int .u8, .int .u8, .int .u8, .int .u8, .int .u8, .int .u8, .int .u8, .int .u8, .int .u8, .int .u8, .int .u8, .int .u8, .int .u8, .int .u8, .int .u8, .int .u8, .int .u8, .int .u8, .int .u8, .int .u8, .int .u8, .int .u8, .int .u8, .int .u8, .int .u8, .int .u8, .int .u8, .int .u8, .int .u8, .int .u8, .int .u8, .int .u8, .int .u8, .int .u8, .int .u8, .int .u8, .int .u8, .int .u8, .int .u8, .int .u8, .int .u8, .int .u8, .int .u8, .int .u8, .int .u8, .int .u8, .int .u8, .int .u8, .int .u8, .int .u8, .int .u8, .int .u8, .int .u8, .int .u8, .int .u8, .int .u8, .int .u8, .int .u8, .int .u8, .int .u8]⟩
      (.node 103 ⟨.array 20 90, 20, 160, [.int .u64 0, .int .u64 0, .int .u64 0, .int .u64 0, .int .u64 0, .int .u64 0, .int .u64 0, .int .u64 0, .int .u64 0, .int .u64 0, .int .u64 0, .int .u64 0, .int .u64 0, .int .u64 0, .int .u64 0, .int .u64 0, .int .u64 0, .int .u64 0, .int .u64 0, .int .u64 0], [.int .u64, .int .u64, .int .u64, .int .u64, .int .u64, .int .u64, .int .u64, .int .u64, .int .u64, .int .u64, .int .u64, .int .u64, .int .u64, .int .u64, .int .u64, .int .u64, .int .u64, .int .u64, .int .u64, .int .u64]⟩
       (.node 102 ⟨.func, 1, 8, [.nilFunc], []⟩
        (.nil)
        (.nil))
       (.node 104 ⟨.int .u32, 1, 4, [.int .u32 0], []⟩
        (.nil)
        (.nil)))
      (.node 107 ⟨.func, 1, 8, [.nilFunc], []⟩
       (.node 106 ⟨.func, 1, 8, [.nilFunc], []⟩
        (.nil)
        (.nil))
       (.nil)))
     (.node 112 ⟨.func, 1, 8, [.nilFunc], []⟩
      (.node 110 ⟨.struct [(0, 9)], 1, 16, [.str []], [.str]⟩
       (.node 109 ⟨.ptr, 1, 8, [.nilPtr], []⟩
        (.nil)
        (.nil))
       (.node 111 ⟨.struct [(0, 9)], 1, 16, [.str []], [.str]⟩
        (.nil)
        (.nil)))
      (.node 114 ⟨.array 64 5, 64, 64, [.int .u8 0, .int .u8 0, .int .u8 0, .int .u8 0, .int .u8 0, .int .u8 0, .int .u8 0, .int .u8 0, .int .u8 0, .int .u8 0, .int .u8 0, .int .u8 0, .int .u8 0, .int .u8 0, .int .u8 0, .int .u8 0, .int .u8 0, .int .u8 0, .int .u8 0, .int .u8 0, .int .u8 0, .int .u8 0, .int .u8 0, .int .u8 0, .int .u8 0, .int .u8 0, .int .u8 0, .int .u8 0, .int .u8 0, .int .u8 0, .int .u8 0, .int .u8 0, .int .u8 0, .int .u8 0, .int .u8 0, .int .u8 0, .int .u8 0, .int .u8 0, .int .u8 0, .int .u8 0, .int .u8 0, .int .u8 0, .int .u8 0, .int .u8 0, .int .u8 0, .int .u8 0, .int .u8 0, .int .u8 0, .int .u8 0, .int .u8 0, .int .u8 0, .int .u8 0, .int .u8 0, .int .u8 0, .int .u8 0, .int .u8 0, .int .u8 0, .int .u8 0, .int .u8 0, .int .u8 0, .int .u8 0, .int .u8 0, .int .u8 0, .int .u8 0], [.int .u8, .int .u8, .int .u8, .int .u8, .int .u8, .int .u8, .int .u8, .int .u8, .int .u8, .int .u8, .int .u8, .int .u8, .int .u8, .int .u8, .int .u8, .int .u8, .int .u8, .int .u8, .int .u8, .int .u8, .int .u8, .int .u8, .int .u8, .int .u8, .int .u8, .int .u8, .int .u8, .int .u8, .int .u8, .int .u8, .int .u8, .int .u8, .int .u8, .int .u8, .int .u8, .int .u8, .int .u8, .int .u8, .int .u8, .int .u8, .int .u8, .int .u8, .int .u8, .int .u8, .int .u8, .int .u8, .int .u8, .int .u8, .int .u8, .int .u8, .int .u8, .int .u8, .int .u8, .int .u8, .int .u8, .int .u8, .int .u8, .int .u8, .int .u8, .int .u8, .int .u8, .int .u8, .int .u8, .int .u8]⟩
       (.node 113 ⟨.array 32 5, 32, 32, [.int .u8 0, .int .u8 0, .int .u8 0, .int .u8 0, .int .u8 0, .int .u8 0, .int .u8 0, .int .u8 0, .int .u8 0, .int .u8 0, .int .u8 0, .int .u8 0, .int .u8 0, .int .u8 0, .int .u8 0, .int .u8 0, .int .u8 0, .int .u8 0, .int .u8 0, .int .u8 0, .int .u8 0, .int .u8 0, .int .u8 0, .int .u8 0, .int .u8 0, .int .u8 0, .int .u8 0, .int .u8 0, .int .u8 0, .int .u8 0, .int .u8 0, .int .u8 0], [.int .u8, .int .u8, .int .u8, .int .u8, .int .u8, .int .u8, .int .u8, .int .u8, .int .u8, .int .u8, .int .u8, .int .u8, .int .u8, .int .u8, .int .u8, .int .u8, .int .u8, .int .u8, .int .u8, .int .u8, .int .u8, .int .u8, .int .u8, .int .u8, .int .u8, .int .u8, .int .u8, .int .u8, .int .u8, .int .u8, .int .u8, .int .u8]⟩
        (.nil)
        (.nil))
       (.nil))))
    (.node 122 ⟨.int .u8, 1, 1, [.int .u8 0], []⟩
     (.node 119 ⟨.struct [(0, 118)], 0, 0, [], []⟩
      (.node 117 ⟨.struct [(0, 17), (1, 17), (2, 17), (3, 9)], 4, 40, [.nilPtr, .nilPtr, .nilPtr, .str []], []⟩
       (.node 116 ⟨.struct [(0, 17), (1, 17), (2, 17), (3, 9)], 4, 40, [.nilPtr, .nilPtr, .nilPtr, .str []], []⟩
        (.nil)
        (.nil))
       (.node 118 ⟨.array 0 16, 0, 0, [], []⟩
        (.nil)
        (.nil)))
      (.node 121 ⟨.func, 1, 8, [.nilFunc], []⟩
       (.node 120 ⟨.struct [(0, 118)], 0, 0, [], []⟩
        (.nil)
        (.nil))
       (.nil)))
     (.node 126 ⟨.int .i32, 1, 4, [.int .i32 0], []⟩
      (.node 124 ⟨.func, 1, 8, [.nilFunc], []⟩
       (.node 123 ⟨.int .u8, 1, 1, [.int .u8 0], []⟩
        (.nil)
        (.nil))
       (.node 125 ⟨.int .i32, 1, 4, [.int .i32 0], []⟩
        (.nil)
        (.nil)))
      (.node 128 ⟨.struct [(0, 12), (1, 12), (2, 104), (3, 122), (4, 5), (5, 5), (6, 123), (7, 124), (8, 108), (9, 125), (10, 126)], 11, 48, [.int .u64 0, .int .u64 0, .int .u32 0, .int .u8 0, .int .u8 0, .int .u8 0, .int .u8 0, .nilFunc, .nilPtr, .int .i32 0, .int .i32 0], []⟩
       (.node 127 ⟨.struct [(0, 12), (1, 12), (2, 104), (3, 122), (4, 5), (5, 5), (6, 123), (7, 124), (8, 108), (9, 125), (10, 126)], 11, 48, [.int .u64 0, .int .u64 0, .int .u32 0, .int .u8 0, .int .u8 0, .int .u8 0, .int .u8 0, .nilFunc, .nilPtr, .int .i32 0, .int .i32 0], []⟩
        (.nil)
        (.nil))
       (.nil))))))

def Y (t : TypeId) : Option Ty := tys.get t
theorem env : Env Tryd.prog Y := ⟨fun t y h => Tree.all_get (p := tyOk Tryd.prog) (by kernel_rfl) h⟩
theorem mixed : Tryd.prog.follows .mixedOrders = true := by kernel_rfl
@[simp] theorem Y_1 : Y 1 = some ⟨.func, 1, 8, [.nilFunc], []⟩ := rfl
@[simp] theorem Y_2 : Y 2 = some ⟨.int .i64, 1, 8, [.int .i64 0], []⟩ := rfl
@[simp] theorem Y_3 : Y 3 = some ⟨.int .i64, 1, 8, [.int .i64 0], []⟩ := rfl
@[simp] theorem Y_4 : Y 4 = some ⟨.bool, 1, 1, [.bool false], []⟩ := rfl
@[simp] theorem Y_5 : Y 5 = some ⟨.int .u8, 1, 1, [.int .u8 0], []⟩ := rfl
@[simp] theorem Y_6 : Y 6 = some ⟨.int .u8, 1, 1, [.int .u8 0], []⟩ := rfl
@[simp] theorem Y_7 : Y 7 = some ⟨.struct [(0, 2), (1, 3), (2, 4), (3, 6)], 4, 24, [.int .i64 0, .int .i64 0, .bool false, .int .u8 0], [.int .i64, .int .i64, .bool, .int .u8]⟩ := rfl
@[simp] theorem Y_8 : Y 8 = some ⟨.struct [(0, 2), (1, 3), (2, 4), (3, 6)], 4, 24, [.int .i64 0, .int .i64 0, .bool false, .int .u8 0], [.int .i64, .int .i64, .bool, .int .u8]⟩ := rfl
@[simp] theorem Y_9 : Y 9 = some ⟨.str, 1, 16, [.str []], []⟩ := rfl
@[simp] theorem Y_10 : Y 10 = some ⟨.str, 1, 16, [.str []], []⟩ := rfl
@[simp] theorem Y_11 : Y 11 = some ⟨.str, 1, 16, [.str []], []⟩ := rfl
@[simp] theorem Y_12 : Y 12 = some ⟨.int .u64, 1, 8, [.int .u64 0], []⟩ := rfl
@[simp] theorem Y_15 : Y 15 = some ⟨.ptr, 1, 8, [.nilPtr], []⟩ := rfl
@[simp] theorem Y_16 : Y 16 = some ⟨.ptr, 1, 8, [.nilPtr], []⟩ := rfl
@[simp] theorem Y_17 : Y 17 = some ⟨.ptr, 1, 8, [.nilPtr], []⟩ := rfl
@[simp] theorem Y_18 : Y 18 = some ⟨.struct [(0, 17)], 1, 8, [.nilPtr], []⟩ := rfl
@[simp] theorem Y_19 : Y 19 = some ⟨.struct [(0, 17)], 1, 8, [.nilPtr], []⟩ := rfl
@[simp] theorem Y_20 : Y 20 = some ⟨.iface, 1, 16, [.nilIface], []⟩ := rfl
@[simp] theorem Y_21 : Y 21 = some ⟨.int .i32, 1, 4, [.int .i32 0], []⟩ := rfl
@[simp] theorem Y_22 : Y 22 = some ⟨.slice 29, 1, 24, [.nilSlice], []⟩ := rfl
@[simp] theorem Y_23 : Y 23 = some ⟨.int .i64, 1, 8, [.int .i64 0], []⟩ := rfl
@[simp] theorem Y_25 : Y 25 = some ⟨.func, 1, 8, [.nilFunc], []⟩ := rfl
@[simp] theorem Y_26 : Y 26 = some ⟨.func, 1, 8, [.nilFunc], []⟩ := rfl
@[simp] theorem Y_27 : Y 27 = some ⟨.func, 1, 8, [.nilFunc], []⟩ := rfl
@[simp] theorem Y_28 : Y 28 = some ⟨.struct [(0, 3), (1, 3), (2, 3)], 3, 24, [.int .i64 0, .int .i64 0, .int .i64 0], [.int .i64, .int .i64, .int .i64]⟩ := rfl
@[simp] theorem Y_29 : Y 29 = some ⟨.struct [(0, 3), (1, 3), (2, 3)], 3, 24, [.int .i64 0, .int .i64 0, .int .i64 0], [.int .i64, .int .i64, .int .i64]⟩ := rfl
@[simp] theorem Y_30 : Y 30 = some ⟨.func, 1, 8, [.nilFunc], []⟩ := rfl
@[simp] theorem Y_32 : Y 32 = some ⟨.func, 1, 8, [.nilFunc], []⟩ := rfl
@[simp] theorem Y_33 : Y 33 = some ⟨.func, 1, 8, [.nilFunc], []⟩ := rfl
@[simp] theorem Y_35 : Y 35 = some ⟨.func, 1, 8, [.nilFunc], []⟩ := rfl
@[simp] theorem Y_36 : Y 36 = some ⟨.func, 1, 8, [.nilFunc], []⟩ := rfl
@[simp] theorem Y_38 : Y 38 = some ⟨.func, 1, 8, [.nilFunc], []⟩ := rfl
@[simp] theorem Y_40 : Y 40 = some ⟨.func, 1, 8, [.nilFunc], []⟩ := rfl
@[simp] theorem Y_41 : Y 41 = some ⟨.func, 1, 8, [.nilFunc], []⟩ := rfl
@[simp] theorem Y_43 : Y 43 = some ⟨.func, 1, 8, [.nilFunc], []⟩ := rfl
@[simp] theorem Y_44 : Y 44 = some ⟨.func, 1, 8, [.nilFunc], []⟩ := rfl
@[simp] theorem Y_46 : Y 46 = some ⟨.func, 1, 8, [.nilFunc], []⟩ := rfl
@[simp] theorem Y_47 : Y 47 = some ⟨.func, 1, 8, [.nilFunc], []⟩ := rfl
@[simp] theorem Y_48 : Y 48 = some ⟨.func, 1, 8, [.nilFunc], []⟩ := rfl
@[simp] theorem Y_49 : Y 49 = some ⟨.func, 1, 8, [.nilFunc], []⟩ := rfl
@[simp] theorem Y_50 : Y 50 = some ⟨.func, 1, 8, [.nilFunc], []⟩ := rfl
@[simp] theorem Y_51 : Y 51 = some ⟨.func, 1, 8, [.nilFunc], []⟩ := rfl
@[simp] theorem Y_52 : Y 52 = some ⟨.func, 1, 8, [.nilFunc], []⟩ := rfl
@[simp] theorem Y_53 : Y 53 = some ⟨.func, 1, 8, [.nilFunc], []⟩ := rfl
@[simp] theorem Y_54 : Y 54 = some ⟨.func, 1, 8, [.nilFunc], []⟩ := rfl
@[simp] theorem Y_55 : Y 55 = some ⟨.func, 1, 8, [.nilFunc], []⟩ := rfl
@[simp] theorem Y_56 : Y 56 = some ⟨.func, 1, 8, [.nilFunc], []⟩ := rfl
@[simp] theorem Y_58 : Y 58 = some ⟨.func, 1, 8, [.nilFunc], []⟩ := rfl
@[simp] theorem Y_59 : Y 59 = some ⟨.array 7 3, 7, 56, [.int .i64 0, .int .i64 0, .int .i64 0, .int .i64 0, .int .i64 0, .int .i64 0, .int .i64 0], [.int .i64, .int .i64, .int .i64, .int .i64, .int .i64, .int .i64, .int .i64]⟩ := rfl
@[simp] theorem Y_60 : Y 60 = some ⟨.func, 1, 8, [.nilFunc], []⟩ := rfl
@[simp] theorem Y_61 : Y 61 = some ⟨.func, 1, 8, [.nilFunc], []⟩ := rfl
@[simp] theorem Y_62 : Y 62 = some ⟨.array 5 9, 5, 80, [.str [], .str [], .str [], .str [], .str []], [.str, .str, .str, .str, .str]⟩ := rfl
@[simp] theorem Y_63 : Y 63 = some ⟨.func, 1, 8, [.nilFunc], []⟩ := rfl
@[simp] theorem Y_64 : Y 64 = some ⟨.func, 1, 8, [.nilFunc], []⟩ := rfl
@[simp] theorem Y_65 : Y 65 = some ⟨.func, 1, 8, [.nilFunc], []⟩ := rfl
@[simp] theorem Y_67 : Y 67 = some ⟨.func, 1, 8, [.nilFunc], []⟩ := rfl
@[simp] theorem Y_68 : Y 68 = some ⟨.iface, 1, 16, [.nilIface], []⟩ := rfl
@[simp] theorem Y_69 : Y 69 = some ⟨.iface, 1, 16, [.nilIface], []⟩ := rfl
@[simp] theorem Y_71 : Y 71 = some ⟨.func, 1, 8, [.nilFunc], []⟩ := rfl
@[simp] theorem Y_72 : Y 72 = some ⟨.slice 9, 1, 24, [.nilSlice], []⟩ := rfl
@[simp] theorem Y_73 : Y 73 = some ⟨.slice 5, 1, 24, [.nilSlice], []⟩ := rfl
@[simp] theorem Y_74 : Y 74 = some ⟨.func, 1, 8, [.nilFunc], []⟩ := rfl
@[simp] theorem Y_75 : Y 75 = some ⟨.slice 3, 1, 24, [.nilSlice], []⟩ := rfl
@[simp] theorem Y_76 : Y 76 = some ⟨.func, 1, 8, [.nilFunc], []⟩ := rfl
@[simp] theorem Y_77 : Y 77 = some ⟨.func, 1, 8, [.nilFunc], []⟩ := rfl
@[simp] theorem Y_78 : Y 78 = some ⟨.array 2 3, 2, 16, [.int .i64 0, .int .i64 0], [.int .i64, .int .i64]⟩ := rfl
@[simp] theorem Y_79 : Y 79 = some ⟨.func, 1, 8, [.nilFunc], []⟩ := rfl
@[simp] theorem Y_80 : Y 80 = some ⟨.func, 1, 8, [.nilFunc], []⟩ := rfl
@[simp] theorem Y_81 : Y 81 = some ⟨.func, 1, 8, [.nilFunc], []⟩ := rfl
@[simp] theorem Y_82 : Y 82 = some ⟨.func, 1, 8, [.nilFunc], []⟩ := rfl
@[simp] theorem Y_83 : Y 83 = some ⟨.int .i64, 1, 8, [.int .i64 0], []⟩ := rfl
@[simp] theorem Y_85 : Y 85 = some ⟨.func, 1, 8, [.nilFunc], []⟩ := rfl
@[simp] theorem Y_86 : Y 86 = some ⟨.ptr, 1, 8, [.nilPtr], []⟩ := rfl
@[simp] theorem Y_87 : Y 87 = some ⟨.func, 1, 8, [.nilFunc], []⟩ := rfl
@[simp] theorem Y_88 : Y 88 = some ⟨.func, 1, 8, [.nilFunc], []⟩ := rfl
@[simp] theorem Y_89 : Y 89 = some ⟨.array 24 5, 24, 24, [.int .u8 0, .int .u8 0, .int .u8 0, .int .u8 0, .int .u8 0, .int .u8 0, .int .u8 0, .int .u8 0, .int .u8 0, .int .u8 0, .int .u8 0, .int .u8 0, .int .u8 0, .int .u8 0, .int .u8 0, .int .u8 0, .int .u8 0, .int .u8 0, .int .u8 0, .int .u8 0, .int .u8 0, .int .u8 0, .int .u8 0, .int .u8 0], [.int .u8, .int .u8, .int .u8, .int .u8, .int .u8, .int .u8, .int .u8, .int .u8, .int .u8, .int .u8, .int .u8, .int .u8, .int .u8, .int .u8, .int .u8, .int .u8, .int .u8, .int .u8, .int .u8, .int .u8, .int .u8, .int .u8, .int .u8, .int .u8]⟩ := rfl
@[simp] theorem Y_90 : Y 90 = some ⟨.int .u64, 1, 8, [.int .u64 0], []⟩ := rfl
@[simp] theorem Y_91 : Y 91 = some ⟨.func, 1, 8, [.nilFunc], []⟩ := rfl
@[simp] theorem Y_92 : Y 92 = some ⟨.func, 1, 8, [.nilFunc], []⟩ := rfl
@[simp] theorem Y_94 : Y 94 = some ⟨.func, 1, 8, [.nilFunc], []⟩ := rfl
@[simp] theorem Y_96 : Y 96 = some ⟨.func, 1, 8, [.nilFunc], []⟩ := rfl
@[simp] theorem Y_97 : Y 97 = some ⟨.int .u64, 1, 8, [.int .u64 0], []⟩ := rfl
@[simp] theorem Y_98 : Y 98 = some ⟨.func, 1, 8, [.nilFunc], []⟩ := rfl
@[simp] theorem Y_99 : Y 99 = some ⟨.struct [(0, 9), (1, 9), (2, 69)], 3, 48, [.str [], .str [], .nilIface], []⟩ := rfl
@[simp] theorem Y_100 : Y 100 = some ⟨.struct [(0, 9), (1, 9), (2, 69)], 3, 48, [.str [], .str [], .nilIface], []⟩ := rfl
@[simp] theorem Y_101 : Y 101 = some ⟨.func, 1, 8, [.nilFunc], []⟩ := rfl
@[simp] theorem Y_102 : Y 102 = some ⟨.func, 1, 8, [.nilFunc], []⟩ := rfl
@[simp] theorem Y_103 : Y 103 = some ⟨.array 20 90, 20, 160, [.int .u64 0, .int .u64 0, .int .u64 0, .int .u64 0, .int .u64 0, .int .u64 0, .int .u64 0, .int .u64 0, .int .u64 0, .int .u64 0, .int .u64 0, .int .u64 0, .int .u64 0, .int .u64 0, .int .u64 0, .int .u64 0, .int .u64 0, .int .u64 0, .int .u64 0, .int .u64 0], [.int .u64, .int .u64, .int .u64, .int .u64, .int .u64, .int .u64, .int .u64, .int .u64, .int .u64, .int .u64, .int .u64, .int .u64, .int .u64, .int .u64, .int .u64, .int .u64, .int .u64, .int .u64, .int .u64, .int .u64]⟩ := rfl
@[simp] theorem Y_104 : Y 104 = some ⟨.int .u32, 1, 4, [.int .u32 0], []⟩ := rfl
@[simp] theorem Y_105 : Y 105 = some ⟨.array 65 5, 65, 65, [.int .u8 0, .int .u8 0, .int .u8 0, .int .u8 0, .int .u8 0, .int .u8 0, .int .u8 0, .int .u8 0, .int .u8 0, .int .u8 0, .int .u8 0, .int .u8 0, .int .u8 0, .int .u8 0, .int .u8 0, .int .u8 0, .int .u8 0, .int .u8 0, .int .u8 0, .int .u8 0, .int .u8 0, .int .u8 0, .int .u8 0, .int .u8 0, .int .u8 0, .int .u8 0, .int .u8 0, .int .u8 0, .int .u8 0, .int .u8 0, .int .u8 0, .int .u8 0, .int .u8 0, .int .u8 0, .int .u8 0, .int .u8 0, .int .u8 0, .int .u8 0, .int .u8 0, .int .u8 0, .int .u8 0, .int .u8 0, .int .u8 0, .int .u8 0, .int .u8 0, .int .u8 0, .int .u8 0, .int .u8 0, .int .u8 0, .int .u8 0, .int .u8 0, .int .u8 0, .int .u8 0, .int .u8 0, .int .u8 0, .int .u8 0, .int .u8 0, .int .u8 0, .int .u8 0, .int .u8 0, .int .u8 0, .int .u8 0, .int .u8 0, .int .u8 0, .int .u8 0], [.int .u8, .int .u8, .int .u8, .int .u8, .int .u8, .int .u8, .int .u8, .int .u8, .int .u8, .int .u8, .int .u8, .int .u8, .int .u8, .int .u8, .int .u8, .int .u8, .int .u8, .int .u8, .int .u8, .int .u8, .int .u8, .int .u8, .int .u8, .int .u8, .int .u8, .int .u8, .int .u8, .int .u8, .int .u8, .int .u8, .int .u8, .int .u8, .int .u8, .int .u8, .int .u8, .int .u8, .int .u8, .int .u8, .int .u8, .int .u8, .int .u8, .int .u8, .int .u8, .int .u8, .int .u8, .int .u8, .int .u8, .int .u8, .int .u8, .int .u8, .int .u8, .int .u8, .int .u8, .int .u8, .int .u8, .int .u8, .int .u8, .int .u8, .int .u8, .int .u8, .int .u8, .int .u8, .int .u8, .int .u8, .int .u8]⟩ := rfl
@[simp] theorem Y_106 : Y 106 = some ⟨.func, 1, 8, [.nilFunc], []⟩ := rfl
@[simp] theorem Y_107 : Y 107 = some ⟨.func, 1, 8, [.nilFunc], []⟩ := rfl
@[simp] theorem Y_108 : Y 108 = some ⟨.ptr, 1, 8, [.nilPtr], []⟩ := rfl
@[simp] theorem Y_109 : Y 109 = some ⟨.ptr, 1, 8, [.nilPtr], []⟩ := rfl
@[simp] theorem Y_110 : Y 110 = some ⟨.struct [(0, 9)], 1, 16, [.str []], [.str]⟩ := rfl
@[simp] theorem Y_111 : Y 111 = some ⟨.struct [(0, 9)], 1, 16, [.str []], [.str]⟩ := rfl
@[simp] theorem Y_112 : Y 112 = some ⟨.func, 1, 8, [.nilFunc], []⟩ := rfl
@[simp] theorem Y_113 : Y 113 = some ⟨.array 32 5, 32, 32, [.int .u8 0, .int .u8 0, .int .u8 0, .int .u8 0, .int .u8 0, .int .u8 0, .int .u8 0, .int .u8 0, .int .u8 0, .int .u8 0, .int .u8 0, .int .u8 0, .int .u8 0, .int .u8 0, .int .u8 0, .int .u8 0, .int .u8 0, .int .u8 0, .int .u8 0, .int .u8 0, .int .u8 0, .int .u8 0, .int .u8 0, .int .u8 0, .int .u8 0, .int .u8 0, .int .u8 0, .int .u8 0, .int .u8 0, .int .u8 0, .int .u8 0, .int .u8 0], [.int .u8, .int .u8, .int .u8, .int .u8, .int .u8, .int .u8, .int .u8, .int .u8, .int .u8, .int .u8, .int .u8, .int .u8, .int .u8, .int .u8, .int .u8, .int .u8, .int .u8, .int .u8, .int .u8, .int .u8, .int .u8, .int .u8, .int .u8, .int .u8, .int .u8, .int .u8, .int .u8, .int .u8, .int .u8, .int .u8, .int .u8, .int .u8]⟩ := rfl
@[simp] theorem Y_114 : Y 114 = some ⟨.array 64 5, 64, 64, [.int .u8 0, .int .u8 0, .int .u8 0, .int .u8 0, .int .u8 0, .int .u8 0, .int .u8 0, .int .u8 0, .int .u8 0, .int .u8 0, .int .u8 0, .int .u8 0, .int .u8 0, .int .u8 0, .int .u8 0, .int .u8 0, .int .u8 0, .int .u8 0, .int .u8 0, .int .u8 0, .int .u8 0, .int .u8 0, .int .u8 0, .int .u8 0, .int .u8 0, .int .u8 0, .int .u8 0, .int .u8 0, .int .u8 0, .int .u8 0, .int .u8 0, .int .u8 0, .int .u8 0, .int .u8 0, .int .u8 0, .int .u8 0, .int .u8 0, .int .u8 0, .int .u8 0, .int .u8 0, .int .u8 0, .int .u8 0, .int .u8 0, .int .u8 0, .int .u8 0, .int .u8 0, .int .u8 0, .int .u8 0, .int .u8 0, .int .u8 0, .int .u8 0, .int .u8 0, .int .u8 0, .int .u8 0, .int .u8 0, .int .u8 0, .int .u8 0, .int .u8 0, .int .u8 0, .int .u8 0, .int .u8 0, .int .u8 0, .int .u8 0, .int .u8 0], [.int .u8, .int .u8, .int .u8, .int .u8, .int .u8, .int .u8, .int .u8, .int .u8, .int .u8, .int .u8, .int .u8, .int .u8, .int .u8, .int .u8, .int .u8, .int .u8, .int .u8, .int .u8, .int .u8, .int .u8, .int .u8, .int .u8, .int .u8, .int .u8, .int .u8, .int .u8, .int .u8, .int .u8, .int .u8, .int .u8, .int .u8, .int .u8, .int .u8, .int .u8, .int .u8, .int .u8, .int .u8, .int .u8, .int .u8, .int .u8, .int .u8, .int .u8, .int .u8, .int .u8, .int .u8, .int .u8, .int .u8, .int .u8, .int .u8, .int .u8, .int .u8, .int .u8, .int .u8, .int .u8, .int .u8, .int .u8, .int .u8, .int .u8, .int .u8, .int .u8, .int .u8, .int .u8, .int .u8, .int .u8]⟩ := rfl
@[simp] theorem Y_115 : Y 115 = some ⟨.func, 1, 8, [.nilFunc], []⟩ := rfl
@[simp] theorem Y_116 : Y 116 = some ⟨.struct [(0, 17), (1, 17), (2, 17), (3, 9)], 4, 40, [.nilPtr, .nilPtr, .nilPtr, .str []], []⟩ := rfl
@[simp] theorem Y_117 : Y 117 = some ⟨.struct [(0, 17), (1, 17), (2, 17), (3, 9)], 4, 40, [.nilPtr, .nilPtr, .nilPtr, .str []], []⟩ := rfl
@[simp] theorem Y_118 : Y 118 = some ⟨.array 0 16, 0, 0, [], []⟩ := rfl
@[simp] theorem Y_119 : Y 119 = some ⟨.struct [(0, 118)], 0, 0, [], []⟩ := rfl
@[simp] theorem Y_120 : Y 120 = some ⟨.struct [(0, 118)], 0, 0, [], []⟩ := rfl
@[simp] theorem Y_121 : Y 121 = some ⟨.func, 1, 8, [.nilFunc], []⟩ := rfl
@[simp] theorem Y_122 : Y 122 = some ⟨.int .u8, 1, 1, [.int .u8 0], []⟩ := rfl
@[simp] theorem Y_123 : Y 123 = some ⟨.int .u8, 1, 1, [.int .u8 0], []⟩ := rfl
@[simp] theorem Y_124 : Y 124 = some ⟨.func, 1, 8, [.nilFunc], []⟩ := rfl
@[simp] theorem Y_125 : Y 125 = some ⟨.int .i32, 1, 4, [.int .i32 0], []⟩ := rfl
@[simp] theorem Y_126 : Y 126 = some ⟨.int .i32, 1, 4, [.int .i32 0], []⟩ := rfl
@[simp] theorem Y_127 : Y 127 = some ⟨.struct [(0, 12), (1, 12), (2, 104), (3, 122), (4, 5), (5, 5), (6, 123), (7, 124), (8, 108), (9, 125), (10, 126)], 11, 48, [.int .u64 0, .int .u64 0, .int .u32 0, .int .u8 0, .int .u8 0, .int .u8 0, .int .u8 0, .nilFunc, .nilPtr, .int .i32 0, .int .i32 0], []⟩ := rfl
@[simp] theorem Y_128 : Y 128 = some ⟨.struct [(0, 12), (1, 12), (2, 104), (3, 122), (4, 5), (5, 5), (6, 123), (7, 124), (8, 108), (9, 125), (10, 126)], 11, 48, [.int .u64 0, .int .u64 0, .int .u32 0, .int .u8 0, .int .u8 0, .int .u8 0, .int .u8 0, .nilFunc, .nilPtr, .int .i32 0, .int .i32 0], []⟩ := rfl
end Go.Proofs.YthoampbpeiehhaaDoor
