/- The program's types as the interpreter sees them. -/
import Derived.Test.YthoampbpeiehhaaDoorRows
import Derived.Test.YthoampbpeiehhaaDoorPmPureCall
set_option linter.unusedVariables false
set_option maxRecDepth 100000
namespace Go.Proofs.YthoampbpeiehhaaDoor
open Go.Pm
def tys : Tree Ty :=
  .node 68 ⟨.iface, 1, 16, [.nilIface], []⟩
  (.node 33 ⟨.func, 1, 8, [.nilFunc], []⟩
   (.node 17 ⟨.ptr, 1, 8, [.nilPtr], []⟩
    (.node 8 ⟨.struct [(0, 2), (1, 3), (2, 4), (3, 6)], 4, 24, [.int .i64 0, .int .i64 0, .bool false, .int .u8 0], [.int .i64, .int .i64, .bool, .int .u8]⟩
     (.node 4 ⟨.bool, 1, 1, [.bool false], []⟩
      (.node 2 ⟨.int .i64, 1, 8, [.int .i64 0], []⟩
       (.node 1 ⟨.func, 1, 8, [.nilFunc], []⟩
        (.nil)
        (.nil))
       (.node 3 ⟨.int .i64, 1, 8, [.int .i64 0], []⟩
        (.nil)
        (.nil)))
      (.node 6 ⟨.int .u8, 1, 1, [.int .u8 0], []⟩
       (.node 5 ⟨.int .u8, 1, 1, [.int .u8 0], []⟩
        (.nil)
        (.nil))
       (.node 7 ⟨.struct [(0, 2), (1, 3), (2, 4), (3, 6)], 4, 24, [.int .i64 0, .int .i64 0, .bool false, .int .u8 0], [.int .i64, .int .i64, .bool, .int .u8]⟩
        (.nil)
        (.nil))))
     (.node 12 ⟨.int .u64, 1, 8, [.int .u64 0], []⟩
      (.node 10 ⟨.str, 1, 16, [.str []], []⟩
       (.node 9 ⟨.str, 1, 16, [.str []], []⟩
        (.nil)
        (.nil))
       (.node 11 ⟨.str, 1, 16, [.str []], []⟩
        (.nil)
        (.nil)))
      (.node 16 ⟨.ptr, 1, 8, [.nilPtr], []⟩
       (.node 15 ⟨.ptr, 1, 8, [.nilPtr], []⟩
        (.nil)
        (.nil))
       (.nil))))
    (.node 25 ⟨.func, 1, 8, [.nilFunc], []⟩
     (.node 21 ⟨.int .i32, 1, 4, [.int .i32 0], []⟩
      (.node 19 ⟨.struct [(0, 17)], 1, 8, [.nilPtr], []⟩
       (.node 18 ⟨.struct [(0, 17)], 1, 8, [.nilPtr], []⟩
        (.nil)
        (.nil))
       (.node 20 ⟨.iface, 1, 16, [.nilIface], []⟩
        (.nil)
        (.nil)))
      (.node 23 ⟨.int .i64, 1, 8, [.int .i64 0], []⟩
       (.node 22 ⟨.slice 29, 1, 24, [.nilSlice], []⟩
        (.nil)
        (.nil))
       (.nil)))
     (.node 29 ⟨.struct [(0, 3), (1, 3), (2, 3)], 3, 24, [.int .i64 0, .int .i64 0, .int .i64 0], [.int .i64, .int .i64, .int .i64]⟩
      (.node 27 ⟨.func, 1, 8, [.nilFunc], []⟩
       (.node 26 ⟨.func, 1, 8, [.nilFunc], []⟩
        (.nil)
        (.nil))
       (.node 28 ⟨.struct [(0, 3), (1, 3), (2, 3)], 3, 24, [.int .i64 0, .int .i64 0, .int .i64 0], [.int .i64, .int .i64, .int .i64]⟩
        (.nil)
        (.nil)))
      (.node 32 ⟨.func, 1, 8, [.nilFunc], []⟩
       (.node 30 ⟨.func, 1, 8, [.nilFunc], []⟩
        (.nil)
        (.nil))
       (.nil)))))
   (.node 52 ⟨.func, 1, 8, [.nilFunc], []⟩
    (.node 44 ⟨.func, 1, 8, [.nilFunc], []⟩
     (.node 40 ⟨.func, 1, 8, [.nilFunc], []⟩
      (.node 36 ⟨.func, 1, 8, [.nilFunc], []⟩
       (.node 35 ⟨.func, 1, 8, [.nilFunc], []⟩
        (.nil)
        (.nil))
       (.node 38 ⟨.func, 1, 8, [.nilFunc], []⟩
        (.nil)
        (.nil)))
      (.node 43 ⟨.func, 1, 8, [.nilFunc], []⟩
       (.node 41 ⟨.func, 1, 8, [.nilFunc], []⟩
        (.nil)
        (.nil))
       (.nil)))
     (.node 49 ⟨.func, 1, 8, [.nilFunc], []⟩
      (.node 47 ⟨.func, 1, 8, [.nilFunc], []⟩
       (.node 46 ⟨.func, 1, 8, [.nilFunc], []⟩
        (.nil)
        (.nil))
       (.node 48 ⟨.func, 1, 8, [.nilFunc], []⟩
        (.nil)
        (.nil)))
      (.node 51 ⟨.func, 1, 8, [.nilFunc], []⟩
       (.node 50 ⟨.func, 1, 8, [.nilFunc], []⟩
        (.nil)
        (.nil))
       (.nil))))
    (.node 60 ⟨.func, 1, 8, [.nilFunc], []⟩
     (.node 56 ⟨.func, 1, 8, [.nilFunc], []⟩
      (.node 54 ⟨.func, 1, 8, [.nilFunc], []⟩
       (.node 53 ⟨.func, 1, 8, [.nilFunc], []⟩
        (.nil)
        (.nil))
       (.node 55 ⟨.func, 1, 8, [.nilFunc], []⟩
        (.nil)
        (.nil)))
      (.node 59 ⟨.array 7 3, 7, 56, [.int .i64 0, .int .i64 0, .int .i64 0, .int .i64 0, .int .i64 0, .int .i64 0, .int .i64 0], [.int .i64, .int .i64, .int .i64, .int .i64, .int .i64, .int .i64, .int .i64]⟩
       (.node 58 ⟨.func, 1, 8, [.nilFunc], []⟩
        (.nil)
        (.nil))
       (.nil)))
     (.node 64 ⟨.func, 1, 8, [.nilFunc], []⟩
      (.node 62 ⟨.array 5 9, 5, 80, [.str [], .str [], .str [], .str [], .str []], [.str, .str, .str, .str, .str]⟩
       (.node 61 ⟨.func, 1, 8, [.nilFunc], []⟩
        (.nil)
        (.nil))
       (.node 63 ⟨.func, 1, 8, [.nilFunc], []⟩
        (.nil)
        (.nil)))
      (.node 67 ⟨.func, 1, 8, [.nilFunc], []⟩
       (.node 65 ⟨.func, 1, 8, [.nilFunc], []⟩
        (.nil)
        (.nil))
       (.nil))))))
  (.node 101 ⟨.func, 1, 8, [.nilFunc], []⟩
   (.node 85 ⟨.func, 1, 8, [.nilFunc], []⟩
    (.node 77 ⟨.func, 1, 8, [.nilFunc], []⟩
     (.node 73 ⟨.slice 5, 1, 24, [.nilSlice], []⟩
      (.node 71 ⟨.func, 1, 8, [.nilFunc], []⟩
       (.node 69 ⟨.iface, 1, 16, [.nilIface], []⟩
        (.nil)
        (.nil))
       (.node 72 ⟨.slice 9, 1, 24, [.nilSlice], []⟩
        (.nil)
        (.nil)))
      (.node 75 ⟨.slice 3, 1, 24, [.nilSlice], []⟩
       (.node 74 ⟨.func, 1, 8, [.nilFunc], []⟩
        (.nil)
        (.nil))
       (.node 76 ⟨.func, 1, 8, [.nilFunc], []⟩
        (.nil)
        (.nil))))
     (.node 81 ⟨.func, 1, 8, [.nilFunc], []⟩
      (.node 79 ⟨.func, 1, 8, [.nilFunc], []⟩
       (.node 78 ⟨.array 2 3, 2, 16, [.int .i64 0, .int .i64 0], [.int .i64, .int .i64]⟩
        (.nil)
        (.nil))
       (.node 80 ⟨.func, 1, 8, [.nilFunc], []⟩
        (.nil)
        (.nil)))
      (.node 83 ⟨.int .i64, 1, 8, [.int .i64 0], []⟩
       (.node 82 ⟨.func, 1, 8, [.nilFunc], []⟩
        (.nil)
        (.nil))
       (.nil))))
    (.node 92 ⟨.func, 1, 8, [.nilFunc], []⟩
     (.node 89 ⟨.array 24 5, 24, 24, [.int .u8 0, .int .u8 0, .int .u8 0, .int .u8 0, .int .u8 0, .int .u8 0, .int .u8 0, .int .u8 0, .int .u8 0, .int .u8 0, .int .u8 0, .int .u8 0, .int .u8 0, .int .u8 0, .int .u8 0, .int .u8 0, .int .u8 0, .int .u8 0, .int .u8 0, .int .u8 0, .int .u8 0, .int .u8 0, .int .u8 0, .int .u8 0], [.int .u8, .int .u8, .int .u8, .int .u8, .int .u8, .int .u8, .int .u8, .int .u8, .int .u8, .int .u8, .int .u8, .int .u8, .int .u8, .int .u8, .int .u8, .int .u8, .int .u8, .int .u8, .int .u8, .int .u8, .int .u8, .int .u8, .int .u8, .int .u8]⟩
      (.node 87 ⟨.func, 1, 8, [.nilFunc], []⟩
       (.node 86 ⟨.ptr, 1, 8, [.nilPtr], []⟩
        (.nil)
        (.nil))
       (.node 88 ⟨.func, 1, 8, [.nilFunc], []⟩
        (.nil)
        (.nil)))
      (.node 91 ⟨.func, 1, 8, [.nilFunc], []⟩
       (.node 90 ⟨.int .u64, 1, 8, [.int .u64 0], []⟩
        (.nil)
        (.nil))
       (.nil)))
     (.node 98 ⟨.func, 1, 8, [.nilFunc], []⟩
      (.node 96 ⟨.func, 1, 8, [.nilFunc], []⟩
       (.node 94 ⟨.func, 1, 8, [.nilFunc], []⟩
        (.nil)
        (.nil))
       (.node 97 ⟨.int .u64, 1, 8, [.int .u64 0], []⟩
        (.nil)
        (.nil)))
      (.node 100 ⟨.struct [(0, 9), (1, 9), (2, 69)], 3, 48, [.str [], .str [], .nilIface], []⟩
       (.node 99 ⟨.struct [(0, 9), (1, 9), (2, 69)], 3, 48, [.str [], .str [], .nilIface], []⟩
        (.nil)
        (.nil))
       (.nil)))))
   (.node 115 ⟨.func, 1, 8, [.nilFunc], []⟩
    (.node 108 ⟨.ptr, 1, 8, [.nilPtr], []⟩
     (.node 105 ⟨.array 65 5, 65, 65, [.int .u8 0, .int .u8 0, .int .u8 0, .int .u8 0, .int .u8 0, .int .u8 0, .int .u8 0, .int .u8 0, .int .u8 0, .int .u8 0, .int .u8 0, .int .u8 0, .int .u8 0, .int .u8 0, .int .u8 0, .int .u8 0, .int .u8 0, .int .u8 0, .int .u8 0, .int .u8 0, .int .u8 0, .int .u8 0, .int .u8 0, .int .u8 0, .int .u8 0, .int .u8 0, .int .u8 0, .int .u8 0, .int .u8 0, .int .u8 0, .int .u8 0, .int .u8 0, .int .u8 0, .int .u8 0, .int .u8 0, .int .u8 0, .int .u8 0, .int .u8 0, .int .u8 0, .int .u8 0, .int .u8 0, .int .u8 0, .int .u8 0, .int .u8 0, .int .u8 0, .int .u8 0, .int .u8 0, .int .u8 0, .int .u8 0, .int .u8 0, .int .u8 0, .int .u8 0, .int .u8 0, .int .u8 0, .int .u8 0, .int .u8 0, .int .u8 0, .int .u8 0, .int .u8 0, .int .u8 0, .int .u8 0, .int .u8 0, .int .u8 0, .int .u8 0, .int .u8 0], [.int .u8, .int .u8, .int .u8, .int .u8, .int .u8, .int .u8, .int .u8, .int .u8, .int .u8, .int .u8, .int .u8, .int .u8, .int .u8, .int .u8, .int .u8, .int .u8, .int .u8, .int .u8, .int .u8, .int .u8, .int .u8, .int .u8, .int .u8, .int .u8, .int .u8, .int .u8, .int .u8, .int .u8, .int .u8, .int .u8, .int .u8, .int .u8, .int .u8, .int .u8, .int .u8, .int .u8, .int .u8, .int .u8, .int .u8, .int .u8, .int .u8, .int .u8, .int .u8, .int .u8, .int .u8, .int .u8, .int .u8, .int .u8, .int .u8, .int .u8, .int .u8, .int .u8, .int .u8, .int .u8, .int .u8, .int .u8, .int .u8, .int .u8, .int .u8, .int .u8, .int .u8, .int .u8, .int .u8, .int .u8, .int .u8]⟩
      (.node 103 ⟨.array 20 90, 20, 160, [.int .u64 0, .int .u64 0, .int .u64 0, .int .u64 0, .int .u64 0, .int .u64 0, .int .u64 0, .int .u64 0, .int .u64 0, .int .u64 0, .int .u64 0, .int .u64 0, .int .u64 0, .int .u64 0, .int .u64 0, .int .u64 0, .int .u64 0, .int .u64 0, .int .u64 0, .int .u64 0], [.int .u64, .int .u64, .int .u64, .int .u64, .int .u64, .int .u64, .int .u64, .int .u64, .int .u64, .int .u64, .int .u64, .int .u64, .int .u64, .int .u64, .int .u64, .int .u64, .int .u64, .int .u64, .int .u64, .int .u64]⟩
       (.node 102 ⟨.func, 1, 8, [.nilFunc], []⟩
        (.nil)
        (.nil))
       (.node 104 ⟨.int .u32, 1, 4, [.int .u32 0], []⟩
        (.nil)
        (.nil)))
      (.node 107 ⟨.func, 1, 8, [.nilFunc], []⟩
       (.node 106 ⟨.func, 1, 8, [.nilFunc], []⟩
        (.nil)
        (.nil))
       (.nil)))
     (.node 112 ⟨.func, 1, 8, [.nilFunc], []⟩
      (.node 110 ⟨.struct [(0, 9)], 1, 16, [.str []], [.str]⟩
       (.node 109 ⟨.ptr, 1, 8, [.nilPtr], []⟩
        (.nil)
        (.nil))
       (.node 111 ⟨.struct [(0, 9)], 1, 16, [.str []], [.str]⟩
        (.nil)
        (.nil)))
      (.node 114 ⟨.array 64 5, 64, 64, [.int .u8 0, .int .u8 0, .int .u8 0, .int .u8 0, .int .u8 0, .int .u8 0, .int .u8 0, .int .u8 0, .int .u8 0, .int .u8 0, .int .u8 0, .int .u8 0, .int .u8 0, .int .u8 0, .int .u8 0, .int .u8 0, .int .u8 0, .int .u8 0, .int .u8 0, .int .u8 0, .int .u8 0, .int .u8 0, .int .u8 0, .int .u8 0, .int .u8 0, .int .u8 0, .int .u8 0, .int .u8 0, .int .u8 0, .int .u8 0, .int .u8 0, .int .u8 0, .int .u8 0, .int .u8 0, .int .u8 0, .int .u8 0, .int .u8 0, .int .u8 0, .int .u8 0, .int .u8 0, .int .u8 0, .int .u8 0, .int .u8 0, .int .u8 0, .int .u8 0, .int .u8 0, .int .u8 0, .int .u8 0, .int .u8 0, .int .u8 0, .int .u8 0, .int .u8 0, .int .u8 0, .int .u8 0, .int .u8 0, .int .u8 0, .int .u8 0, .int .u8 0, .int .u8 0, .int .u8 0, .int .u8 0, .int .u8 0, .int .u8 0, .int .u8 0], [.int .u8, .int .u8, .int .u8, .int .u8, .int .u8, .int .u8, .int .u8, .int .u8, .int .u8, .int .u8, .int .u8, .int .u8, .int .u8, .int .u8, .int .u8, .int .u8, .int .u8, .int .u8, .int .u8, .int .u8, .int .u8, .int .u8, .int .u8, .int .u8, .int .u8, .int .u8, .int .u8, .int .u8, .int .u8, .int .u8, .int .u8, .int .u8, .int .u8, .int .u8, .int .u8, .int .u8, .int .u8, .int .u8, .int .u8, .int .u8, .int .u8, .int .u8, .int .u8, .int .u8, .int .u8, .int .u8, .int .u8, .int .u8, .int .u8, .int .u8, .int .u8, .int .u8, .int .u8, .int .u8, .int .u8, .int .u8, .int .u8, .int .u8, .int .u8, .int .u8, .int .u8, .int .u8, .int .u8, .int .u8]⟩
       (.node 113 ⟨.array 32 5, 32, 32, [.int .u8 0, .int .u8 0, .int .u8 0, .int .u8 0, .int .u8 0, .int .u8 0, .int .u8 0, .int .u8 0, .int .u8 0, .int .u8 0, .int .u8 0, .int .u8 0, .int .u8 0, .int .u8 0, .int .u8 0, .int .u8 0, .int .u8 0, .int .u8 0, .int .u8 0, .int .u8 0, .int .u8 0, .int .u8 0, .int .u8 0, .int .u8 0, .int .u8 0, .int .u8 0, .int .u8 0, .int .u8 0, .int .u8 0, .int .u8 0, .int .u8 0, .int .u8 0], [.int .u8, .int .u8, .int .u8, .int .u8, .int .u8, .int .u8, .int .u8, .int .u8, .int .u8, .int .u8, .int .u8, .int .u8, .int .u8, .int .u8, .int .u8, .int .u8, .int .u8, .int .u8, .int .u8, .int .u8, .int .u8, .int .u8, .int .u8, .int .u8, .int .u8, .int .u8, .int .u8, .int .u8, .int .u8, .int .u8, .int .u8, .int .u8]⟩
        (.nil)
        (.nil))
       (.nil))))
    (.node 122 ⟨.int .u8, 1, 1, [.int .u8 0], []⟩
     (.node 119 ⟨.struct [(0, 118)], 0, 0, [], []⟩
      (.node 117 ⟨.struct [(0, 17), (1, 17), (2, 17), (3, 9)], 4, 40, [.nilPtr, .nilPtr, .nilPtr, .str []], []⟩
       (.node 116 ⟨.struct [(0, 17), (1, 17), (2, 17), (3, 9)], 4, 40, [.nilPtr, .nilPtr, .nilPtr, .str []], []⟩
        (.nil)
        (.nil))
       (.node 118 ⟨.array 0 16, 0, 0, [], []⟩
        (.nil)
        (.nil)))
      (.node 121 ⟨.func, 1, 8, [.nilFunc], []⟩
       (.node 120 ⟨.struct [(0, 118)], 0, 0, [], []⟩
        (.nil)
        (.nil))
       (.nil)))
     (.node 126 ⟨.int .i32, 1, 4, [.int .i32 0], []⟩
      (.node 124 ⟨.func, 1, 8, [.nilFunc], []⟩
       (.node 123 ⟨.int .u8, 1, 1, [.int .u8 0], []⟩
        (.nil)
        (.nil))
       (.node 125 ⟨.int .i32, 1, 4, [.int .i32 0], []⟩
        (.nil)
        (.nil)))
      (.node 128 ⟨.struct [(0, 12), (1, 12), (2, 104), (3, 122), (4, 5), (5, 5), (6, 123), (7, 124), (8, 108), (9, 125), (10, 126)], 11, 48, [.int .u64 0, .int .u64 0, .int .u32 0, .int .u8 0, .int .u8 0, .int .u8 0, .int .u8 0, .nilFunc, .nilPtr, .int .i32 0, .int .i32 0], []⟩
       (.node 127 ⟨.struct [(0, 12), (1, 12), (2, 104), (3, 122), (4, 5), (5, 5), (6, 123), (7, 124), (8, 108), (9, 125), (10, 126)], 11, 48, [.int .u64 0, .int .u64 0, .int .u32 0, .int .u8 0, .int .u8 0, .int .u8 0, .int .u8 0, .nilFunc, .nilPtr, .int .i32 0, .int .i32 0], []⟩
        (.nil)
        (.nil))
       (.nil))))))

def Y (t : TypeId) : Option Ty := tys.get t
theorem env : Env Tryd.prog Y := ⟨fun t y h => Tree.all_get (p := tyOk Tryd.prog) (by kernel_rfl) h⟩
theorem mixed : Tryd.prog.follows .mixedOrders = true := by kernel_rfl
end Go.Proofs.YthoampbpeiehhaaDoor
