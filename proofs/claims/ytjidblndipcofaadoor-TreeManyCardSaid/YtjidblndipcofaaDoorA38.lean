/- Lemmas on the way to the statement of this claim; no conditions. -/
import Derived.Test.YtjidblndipcofaaDoorProg
import Derived.KernelRfl
import Derived.Test.YtjidblndipcofaaDoorA23
import Derived.Test.YtjidblndipcofaaDoorA24
open Go Go.V
namespace Go.Proofs
theorem Tryd.mixed : Tryd.prog.follows .mixedOrders = true := by kernel_rfl
-- 0: ()
-- 1: func()
-- 2: int64
-- 3: int
theorem Tryd.sz3 : szOf Tryd.prog 3 = some 1 := by kernel_rfl
theorem Tryd.ag3 : V.isAgg Tryd.prog 3 = some false := by kernel_rfl
theorem Tryd.zv3 : zeroV Tryd.prog 3 = some [.int .i64 0] := by kernel_rfl
-- 4: bool
theorem Tryd.sz4 : szOf Tryd.prog 4 = some 1 := by kernel_rfl
theorem Tryd.ag4 : V.isAgg Tryd.prog 4 = some false := by kernel_rfl
theorem Tryd.zv4 : zeroV Tryd.prog 4 = some [.bool false] := by kernel_rfl
-- 5: uint8
theorem Tryd.sz5 : szOf Tryd.prog 5 = some 1 := by kernel_rfl
theorem Tryd.zv5 : zeroV Tryd.prog 5 = some [.int .u8 0] := by kernel_rfl
-- 6: abi.BoundsErrorCode
-- 7: struct { x int64; y int; signed bool; code abi.BoundsErrorCode }
-- 8: runtime.boundsError
-- 9: string
theorem Tryd.sz9 : szOf Tryd.prog 9 = some 1 := by kernel_rfl
theorem Tryd.ag9 : V.isAgg Tryd.prog 9 = some false := by kernel_rfl
-- 10: runtime.errorString
-- 11: runtime.plainError
-- 12: uintptr
-- 13: struct { msg string; addr uintptr }
-- 14: runtime.errorAddressString
-- 15: *runtime.TypeAssertionError
-- 16: *runtime.PanicNilError
-- 17: *abi.Type
-- 18: struct { typ *abi.Type }
-- 19: maps.unhashableTypeError
-- 20: interface {}
-- 21: int32
-- 22: func() bool
-- 23: *tree.Tree
theorem Tryd.sz23 : szOf Tryd.prog 23 = some 1 := by kernel_rfl
theorem Tryd.ag23 : V.isAgg Tryd.prog 23 = some false := by kernel_rfl
theorem Tryd.zv23 : zeroV Tryd.prog 23 = some [.pointer none] := by kernel_rfl
-- 24: func() *tree.Tree
-- 25: api.Errno
-- 26: func(string, string) api.Errno
-- 27: []uint8
theorem Tryd.sz27 : szOf Tryd.prog 27 = some 1 := by kernel_rfl
theorem Tryd.ag27 : V.isAgg Tryd.prog 27 = some false := by kernel_rfl
theorem Tryd.zv27 : zeroV Tryd.prog 27 = some [.slice none 0 0] := by kernel_rfl
theorem Tryd.un27 : Tryd.prog.underlying 27 = some (.slice 5) := by kernel_rfl
theorem Tryd.sl27 : slInfo Tryd.prog 27 = some (5, 1, 1, [.int .u8 0]) := by kernel_rfl
-- 28: func(string) api.Errno
-- 29: []api.Work
theorem Tryd.sz29 : szOf Tryd.prog 29 = some 1 := by kernel_rfl
theorem Tryd.ag29 : V.isAgg Tryd.prog 29 = some false := by kernel_rfl
theorem Tryd.un29 : Tryd.prog.underlying 29 = some (.slice 32) := by kernel_rfl
theorem Tryd.sl29 : slInfo Tryd.prog 29 = some (32, 2, 32, [.string ⟨#[]⟩, .string ⟨#[]⟩]) := by kernel_rfl
-- 30: func() []api.Work
-- 31: struct { Path string; Text string }
-- 32: api.Work
theorem Tryd.sz32 : szOf Tryd.prog 32 = some 2 := by kernel_rfl
theorem Tryd.ag32 : V.isAgg Tryd.prog 32 = some true := by kernel_rfl
theorem Tryd.zv32 : zeroV Tryd.prog 32 = some [.string ⟨#[]⟩, .string ⟨#[]⟩] := by kernel_rfl
theorem Tryd.fd32_0 : fieldOf Tryd.prog 32 0 = some (0, 9) := by kernel_rfl
theorem Tryd.fd32_1 : fieldOf Tryd.prog 32 1 = some (1, 9) := by kernel_rfl
theorem Tryd.st32 : stInfo Tryd.prog 32 = some ([(0, 1), (1, 1)], [.string ⟨#[]⟩, .string ⟨#[]⟩]) := by kernel_rfl
-- 33: func(uint8) bool
-- 34: (string, bool)
-- 35: func(string) (string, bool)
-- 36: uint32
-- 37: struct { Patch uint32; N int }
-- 38: api.LineID
theorem Tryd.st38 : stInfo Tryd.prog 38 = some ([(0, 1), (1, 1)], [.int .u32 0, .int .i64 0]) := by kernel_rfl
-- 39: struct { ID api.LineID; Text string; Dead bool }
-- 40: api.Line
theorem Tryd.sz40 : szOf Tryd.prog 40 = some 4 := by kernel_rfl
theorem Tryd.ag40 : V.isAgg Tryd.prog 40 = some true := by kernel_rfl
theorem Tryd.zv40 : zeroV Tryd.prog 40 = some [.int .u32 0, .int .i64 0, .string ⟨#[]⟩, .bool false] := by kernel_rfl
theorem Tryd.fd40_1 : fieldOf Tryd.prog 40 1 = some (2, 9) := by kernel_rfl
theorem Tryd.fd40_2 : fieldOf Tryd.prog 40 2 = some (3, 4) := by kernel_rfl
theorem Tryd.st40 : stInfo Tryd.prog 40 = some ([(0, 2), (2, 1), (3, 1)], [.int .u32 0, .int .i64 0, .string ⟨#[]⟩, .bool false]) := by kernel_rfl
-- 41: []api.Line
theorem Tryd.sz41 : szOf Tryd.prog 41 = some 1 := by kernel_rfl
theorem Tryd.ag41 : V.isAgg Tryd.prog 41 = some false := by kernel_rfl
theorem Tryd.un41 : Tryd.prog.underlying 41 = some (.slice 40) := by kernel_rfl
theorem Tryd.sl41 : slInfo Tryd.prog 41 = some (40, 4, 40, [.int .u32 0, .int .i64 0, .string ⟨#[]⟩, .bool false]) := by kernel_rfl
-- 42: []api.Pair
theorem Tryd.sz42 : szOf Tryd.prog 42 = some 1 := by kernel_rfl
theorem Tryd.ag42 : V.isAgg Tryd.prog 42 = some false := by kernel_rfl
theorem Tryd.un42 : Tryd.prog.underlying 42 = some (.slice 100) := by kernel_rfl
theorem Tryd.sl42 : slInfo Tryd.prog 42 = some (100, 2, 16, [.int .i64 0, .int .i64 0]) := by kernel_rfl
-- 43: struct { Path string; Lines []api.Line; Pairs []api.Pair }
-- 44: api.File
theorem Tryd.sz44 : szOf Tryd.prog 44 = some 3 := by kernel_rfl
theorem Tryd.ag44 : V.isAgg Tryd.prog 44 = some true := by kernel_rfl
theorem Tryd.zv44 : zeroV Tryd.prog 44 = some [.string ⟨#[]⟩, .slice none 0 0, .slice none 0 0] := by kernel_rfl
theorem Tryd.fd44_0 : fieldOf Tryd.prog 44 0 = some (0, 9) := by kernel_rfl
theorem Tryd.fd44_1 : fieldOf Tryd.prog 44 1 = some (1, 41) := by kernel_rfl
theorem Tryd.fd44_2 : fieldOf Tryd.prog 44 2 = some (2, 42) := by kernel_rfl
theorem Tryd.st44 : stInfo Tryd.prog 44 = some ([(0, 1), (1, 1), (2, 1)], [.string ⟨#[]⟩, .slice none 0 0, .slice none 0 0]) := by kernel_rfl
-- 45: func([]api.File) *tree.Tree
-- 46: []api.File
theorem Tryd.un46 : Tryd.prog.underlying 46 = some (.slice 44) := by kernel_rfl
theorem Tryd.sl46 : slInfo Tryd.prog 46 = some (44, 3, 64, [.string ⟨#[]⟩, .slice none 0 0, .slice none 0 0]) := by kernel_rfl
-- 47: func(*tree.Tree, []api.File) bool
-- 48: func(*tree.Tree, api.File) bool
-- 49: map[string]string
-- 50: struct { l map[string]string }
-- 51: tree.Tree
theorem Tryd.fd51_0 : fieldOf Tryd.prog 51 0 = some (0, 49) := by kernel_rfl
theorem Tryd.st51 : stInfo Tryd.prog 51 = some ([(0, 1)], [.map none]) := by kernel_rfl
-- 52: func(string) bool
-- 53: func(iter.Seq[cento/api.Work]) []api.Work
-- 54: func(func(api.Work) bool)
-- 55: iter.Seq[cento/api.Work]
-- 56: func() iter.Seq[cento/api.Work]
-- 57: func(api.File) string
-- 58: func([]api.File, func(api.File) bool) bool
-- 59: func(api.File) bool
-- 60: func(api.File) (string, bool)
-- 61: func(func(string) bool)
-- 62: iter.Seq[string]
-- 63: func(string) iter.Seq[string]
-- 64: func([]api.Work, iter.Seq[cento/api.Work]) []api.Work
-- 65: func(api.Work) bool
-- 66: []string
theorem Tryd.un66 : Tryd.prog.underlying 66 = some (.slice 9) := by kernel_rfl
theorem Tryd.sl66 : slInfo Tryd.prog 66 = some (9, 1, 16, [.string ⟨#[]⟩]) := by kernel_rfl
-- 67: func(iter.Seq[string]) []string
-- 68: func(map[string]string) iter.Seq[string]
-- 69: func([]api.File, func(api.File) bool) int
-- 70: *strings.Builder
-- 71: struct { addr *strings.Builder; buf []uint8 }
-- 72: strings.Builder
theorem Tryd.sz72 : szOf Tryd.prog 72 = some 2 := by kernel_rfl
theorem Tryd.ag72 : V.isAgg Tryd.prog 72 = some true := by kernel_rfl
theorem Tryd.zv72 : zeroV Tryd.prog 72 = some [.pointer none, .slice none 0 0] := by kernel_rfl
theorem Tryd.fd72_1 : fieldOf Tryd.prog 72 1 = some (1, 27) := by kernel_rfl
theorem Tryd.st72 : stInfo Tryd.prog 72 = some ([(0, 1), (1, 1)], [.pointer none, .slice none 0 0]) := by kernel_rfl
-- 73: func(func(int, uint8) bool)
-- 74: iter.Seq2[int,uint8]
-- 75: func(api.File) iter.Seq2[int,uint8]
-- 76: interface { Error() string }
-- 77: error
-- 78: (int, error)
-- 79: func(string) (int, error)
-- 80: func() string
-- 81: func(string, uint8) int
-- 82: func([]string)
-- 83: func(uint8) error
-- 84: func(string, string) string
-- 85: []int
theorem Tryd.sz85 : szOf Tryd.prog 85 = some 1 := by kernel_rfl
theorem Tryd.ag85 : V.isAgg Tryd.prog 85 = some false := by kernel_rfl
theorem Tryd.zv85 : zeroV Tryd.prog 85 = some [.slice none 0 0] := by kernel_rfl
theorem Tryd.un85 : Tryd.prog.underlying 85 = some (.slice 3) := by kernel_rfl
theorem Tryd.sl85 : slInfo Tryd.prog 85 = some (3, 1, 8, [.int .i64 0]) := by kernel_rfl
-- 86: *rel.Rel
theorem Tryd.sz86 : szOf Tryd.prog 86 = some 1 := by kernel_rfl
theorem Tryd.ag86 : V.isAgg Tryd.prog 86 = some false := by kernel_rfl
-- 87: ([]int, *rel.Rel)
-- 88: func(api.File) ([]int, *rel.Rel)
-- 89: func(*rel.Rel) bool
-- 90: func(int, uint8) bool
-- 91: func(*rel.Rel) []int
-- 92: func(*rel.Rel, int) uint8
-- 93: *uint8
-- 94: func([]string, iter.Seq[string]) []string
-- 95: func([]string, int, int, int)
-- 96: func(uint) int
-- 97: uint
-- 98: func(int) *rel.Rel
-- 99: struct { A int; B int }
-- 100: api.Pair
theorem Tryd.sz100 : szOf Tryd.prog 100 = some 2 := by kernel_rfl
theorem Tryd.ag100 : V.isAgg Tryd.prog 100 = some true := by kernel_rfl
theorem Tryd.zv100 : zeroV Tryd.prog 100 = some [.int .i64 0, .int .i64 0] := by kernel_rfl
theorem Tryd.fd100_0 : fieldOf Tryd.prog 100 0 = some (0, 3) := by kernel_rfl
theorem Tryd.fd100_1 : fieldOf Tryd.prog 100 1 = some (1, 3) := by kernel_rfl
-- 101: func(int, int) bool
-- 102: func() *rel.Rel
-- 103: func(api.File) []int
-- 104: func(*rel.Rel) *rel.Rel
-- 105: func() int
-- 106: [][]int
theorem Tryd.un106 : Tryd.prog.underlying 106 = some (.slice 85) := by kernel_rfl
theorem Tryd.sl106 : slInfo Tryd.prog 106 = some (85, 1, 24, [.slice none 0 0]) := by kernel_rfl
-- 107: func(*rel.Rel) [][]int
-- 108: func(*rel.Rel, [][]int, int) bool
-- 109: func([][]int, int, int) [][]int
-- 110: unsafe.Pointer
-- 111: func(unsafe.Pointer) unsafe.Pointer
-- 112: func([]string, int, int)
-- 113: slices.sortedHint
-- 114: (int, slices.sortedHint)
-- 115: func([]string, int, int) (int, slices.sortedHint)
-- 116: func([]string, int, int) bool
-- 117: func(string, string) bool
-- 118: func([]string, int, int, int) int
-- 119: (int, bool)
-- 120: func([]string, int, int, int) (int, bool)
-- 121: func(uint32) int
-- 122: func(uint64) int
-- 123: uint64
theorem Tryd.sz123 : szOf Tryd.prog 123 = some 1 := by kernel_rfl
theorem Tryd.ag123 : V.isAgg Tryd.prog 123 = some false := by kernel_rfl
-- 124: []*bits.Row
theorem Tryd.sz124 : szOf Tryd.prog 124 = some 1 := by kernel_rfl
theorem Tryd.ag124 : V.isAgg Tryd.prog 124 = some false := by kernel_rfl
theorem Tryd.un124 : Tryd.prog.underlying 124 = some (.slice 127) := by kernel_rfl
theorem Tryd.sl124 : slInfo Tryd.prog 124 = some (127, 1, 8, [.pointer none]) := by kernel_rfl
-- 125: struct { rows []*bits.Row }
-- 126: rel.Rel
theorem Tryd.fd126_0 : fieldOf Tryd.prog 126 0 = some (0, 124) := by kernel_rfl
theorem Tryd.st126 : stInfo Tryd.prog 126 = some ([(0, 1)], [.slice none 0 0]) := by kernel_rfl
-- 127: *bits.Row
theorem Tryd.sz127 : szOf Tryd.prog 127 = some 1 := by kernel_rfl
theorem Tryd.ag127 : V.isAgg Tryd.prog 127 = some false := by kernel_rfl
-- 128: func(int) *bits.Row
-- 129: func(int) bool
-- 130: func(int, bool)
-- 131: func(*bits.Row) bool
-- 132: []bool
theorem Tryd.sz132 : szOf Tryd.prog 132 = some 1 := by kernel_rfl
theorem Tryd.ag132 : V.isAgg Tryd.prog 132 = some false := by kernel_rfl
theorem Tryd.zv132 : zeroV Tryd.prog 132 = some [.slice none 0 0] := by kernel_rfl
theorem Tryd.un132 : Tryd.prog.underlying 132 = some (.slice 4) := by kernel_rfl
theorem Tryd.sl132 : slInfo Tryd.prog 132 = some (4, 1, 1, [.bool false]) := by kernel_rfl
-- 133: func(func(int) bool)
-- 134: iter.Seq[int]
-- 135: func(int) iter.Seq[int]
-- 136: slices.xorshift
-- 137: func(int) uint
-- 138: func() uint64
-- 139: func([]string, int, *int) int
-- 140: *int
-- 141: func([]string, int, int, int, *int) int
-- 142: []uint64
theorem Tryd.sz142 : szOf Tryd.prog 142 = some 1 := by kernel_rfl
theorem Tryd.ag142 : V.isAgg Tryd.prog 142 = some false := by kernel_rfl
theorem Tryd.un142 : Tryd.prog.underlying 142 = some (.slice 123) := by kernel_rfl
theorem Tryd.sl142 : slInfo Tryd.prog 142 = some (123, 1, 8, [.int .u64 0]) := by kernel_rfl
-- 143: struct { n int; w []uint64 }
-- 144: bits.Row
theorem Tryd.fd144_0 : fieldOf Tryd.prog 144 0 = some (0, 3) := by kernel_rfl
theorem Tryd.fd144_1 : fieldOf Tryd.prog 144 1 = some (1, 142) := by kernel_rfl
theorem Tryd.st144 : stInfo Tryd.prog 144 = some ([(0, 1), (1, 1)], [.int .i64 0, .slice none 0 0]) := by kernel_rfl
-- 145: func() iter.Seq[int]
-- 146: *slices.xorshift
-- 147: (int, int)
-- 148: func([]string, int, int, *int) (int, int)
-- 149: [64]uint8
-- 150: struct { _interface *abi.Type; concrete *abi.Type; asserted *abi.Type; missingMethod string }
-- 151: runtime.TypeAssertionError
-- 152: [0]*runtime.PanicNilError
-- 153: struct { _ [0]*runtime.PanicNilError }
-- 154: runtime.PanicNilError
-- 155: abi.TFlag
-- 156: abi.Kind
-- 157: func(unsafe.Pointer, unsafe.Pointer) bool
-- 158: abi.NameOff
-- 159: abi.TypeOff
-- 160: struct { Size_ uintptr; PtrBytes uintptr; Hash uint32; TFlag abi.TFlag; Align_ uint8; FieldAlign_ uint8; Kind_ abi.Kind; Equal func(unsafe.Pointer, unsafe.Pointer) bool; GCData *uint8; Str abi.NameOff; PtrToThis abi.TypeOff }
-- 161: abi.Type
-- 162: func(string, string)
end Go.Proofs

open Go Go.V
namespace Go.Proofs
abbrev tInts (l : List Int) : T := .sl 1 (l.map TI)
abbrev pcells (p : Int × Int) : List T := [TI p.1, TI p.2]
abbrev tPairs (l : List (Int × Int)) : T := .sl 2 (l.flatMap pcells)
theorem len_tInts (l : List Int) : vlen (.t (tInts l)) = some l.length := by simp [vlen]
theorem flat_length (l : List (Int × Int)) : (l.flatMap pcells).length = l.length * 2 := by
  induction l with
  | nil => rfl
  | cons a l ih => simp only [List.flatMap_cons, List.length_append, ih, List.length_cons, List.length_nil]; omega
theorem len_tPairs (l : List (Int × Int)) : vlen (.t (tPairs l)) = some l.length := by
  simp only [vlen, flat_length]; congr 1; omega
end Go.Proofs
