/- Lemmas on the way to the statement of this claim; no conditions. -/
import Derived.Test.YtkdkajlgbhggdaaDoorProg
import Derived.KernelRfl
import Derived.Test.YtkdkajlgbhggdaaDoorO22
import Derived.Test.YtkdkajlgbhggdaaDoorO23
import Derived.Test.YtkdkajlgbhggdaaDoorO25
import Derived.Test.YtkdkajlgbhggdaaDoorO28
import Derived.Test.YtkdkajlgbhggdaaDoorO41
open Go Go.V
namespace Go.Proofs
theorem Tryd.mixed : Tryd.prog.follows .mixedOrders = true := by kernel_rfl
-- 0: ()
-- 1: func()
-- 2: int64
-- 3: int
theorem Tryd.sz3 : szOf Tryd.prog 3 = some 1 := by kernel_rfl
theorem Tryd.ag3 : V.isAgg Tryd.prog 3 = some false := by kernel_rfl
theorem Tryd.zv3 : zeroV Tryd.prog 3 = some [.int .i64 0] := by kernel_rfl
-- 4: bool
theorem Tryd.sz4 : szOf Tryd.prog 4 = some 1 := by kernel_rfl
theorem Tryd.ag4 : V.isAgg Tryd.prog 4 = some false := by kernel_rfl
theorem Tryd.zv4 : zeroV Tryd.prog 4 = some [.bool false] := by kernel_rfl
-- 5: uint8
-- 6: abi.BoundsErrorCode
-- 7: struct { x int64; y int; signed bool; code abi.BoundsErrorCode }
-- 8: runtime.boundsError
-- 9: string
theorem Tryd.sz9 : szOf Tryd.prog 9 = some 1 := by kernel_rfl
theorem Tryd.ag9 : V.isAgg Tryd.prog 9 = some false := by kernel_rfl
-- 10: runtime.errorString
-- 11: runtime.plainError
-- 12: uintptr
-- 13: struct { msg string; addr uintptr }
-- 14: runtime.errorAddressString
-- 15: *runtime.TypeAssertionError
-- 16: *runtime.PanicNilError
-- 17: *abi.Type
-- 18: struct { typ *abi.Type }
-- 19: maps.unhashableTypeError
-- 20: interface {}
-- 21: int32
-- 22: []string
theorem Tryd.sz22 : szOf Tryd.prog 22 = some 1 := by kernel_rfl
theorem Tryd.ag22 : V.isAgg Tryd.prog 22 = some false := by kernel_rfl
theorem Tryd.un22 : Tryd.prog.underlying 22 = some (.slice 9) := by kernel_rfl
theorem Tryd.sl22 : m4q Tryd.prog 22 = some (9, 1, 16, [.string ⟨#[]⟩]) := by kernel_rfl
-- 23: []api.Pair
theorem Tryd.sz23 : szOf Tryd.prog 23 = some 1 := by kernel_rfl
theorem Tryd.ag23 : V.isAgg Tryd.prog 23 = some false := by kernel_rfl
theorem Tryd.zv23 : zeroV Tryd.prog 23 = some [.slice none 0 0] := by kernel_rfl
theorem Tryd.un23 : Tryd.prog.underlying 23 = some (.slice 84) := by kernel_rfl
theorem Tryd.sl23 : m4q Tryd.prog 23 = some (84, 2, 16, [.int .i64 0, .int .i64 0]) := by kernel_rfl
-- 24: struct { Labels []string; Pairs []api.Pair }
-- 25: api.Obj
theorem Tryd.sz25 : szOf Tryd.prog 25 = some 2 := by kernel_rfl
theorem Tryd.ag25 : V.isAgg Tryd.prog 25 = some true := by kernel_rfl
theorem Tryd.zv25 : zeroV Tryd.prog 25 = some [.slice none 0 0, .slice none 0 0] := by kernel_rfl
theorem Tryd.fd25_0 : g5q Tryd.prog 25 0 = some (0, 22) := by kernel_rfl
theorem Tryd.fd25_1 : g5q Tryd.prog 25 1 = some (1, 23) := by kernel_rfl
theorem Tryd.st25 : v5q Tryd.prog 25 = some ([(0, 1), (1, 1)], [.slice none 0 0, .slice none 0 0]) := by kernel_rfl
-- 26: []int
theorem Tryd.sz26 : szOf Tryd.prog 26 = some 1 := by kernel_rfl
theorem Tryd.ag26 : V.isAgg Tryd.prog 26 = some false := by kernel_rfl
theorem Tryd.zv26 : zeroV Tryd.prog 26 = some [.slice none 0 0] := by kernel_rfl
theorem Tryd.un26 : Tryd.prog.underlying 26 = some (.slice 3) := by kernel_rfl
theorem Tryd.sl26 : m4q Tryd.prog 26 = some (3, 1, 8, [.int .i64 0]) := by kernel_rfl
-- 27: func() bool
-- 28: func(api.Obj) bool
-- 29: api.Errno
-- 30: (api.Obj, []int, []int, api.Errno)
-- 31: func(api.Obj, api.Obj, api.Obj, []int, []int) (api.Obj, []int, []int, api.Errno)
-- 32: (api.Obj, []int, []int, int)
-- 33: func(api.Obj, api.Obj, api.Obj, []int, []int) (api.Obj, []int, []int, int)
-- 34: func(api.Obj, api.Obj) bool
-- 35: func([]int, []int) bool
-- 36: func(api.Obj, api.Obj, api.Obj, []int, []int) bool
-- 37: func(api.Obj, api.Obj) (api.Obj, []int, []int, api.Errno)
-- 38: func(api.Obj, api.Obj) (api.Obj, []int, []int, int)
-- 39: (api.Obj, []int, api.Errno)
-- 40: func(api.Obj, api.Obj, []int, []int) (api.Obj, []int, api.Errno)
-- 41: (api.Obj, []int, int)
-- 42: func(api.Obj, api.Obj, []int, []int) (api.Obj, []int, int)
-- 43: func(api.Obj, api.Obj, []int, []int) bool
-- 44: func([]string) api.Obj
-- 45: func(uint8, uint8) bool
-- 46: ([]int, bool)
-- 47: func([]int, []int) ([]int, bool)
-- 48: func(api.Obj, api.Obj, []int) bool
-- 49: []bool
theorem Tryd.sz49 : szOf Tryd.prog 49 = some 1 := by kernel_rfl
theorem Tryd.ag49 : V.isAgg Tryd.prog 49 = some false := by kernel_rfl
theorem Tryd.un49 : Tryd.prog.underlying 49 = some (.slice 4) := by kernel_rfl
theorem Tryd.sl49 : m4q Tryd.prog 49 = some (4, 1, 1, [.bool false]) := by kernel_rfl
-- 50: func(int) []int
-- 51: func([]int) []int
-- 52: func([]int, []int) []int
-- 53: ([]int, api.Errno)
-- 54: func(api.Obj, api.Obj, api.Obj, []int, []int, api.Obj, []int, []int) ([]int, api.Errno)
-- 55: ([]int, int)
-- 56: func(api.Obj, api.Obj, api.Obj, []int, []int, api.Obj, []int, []int) ([]int, int)
-- 57: func(api.Obj, api.Obj, api.Obj, []int, []int, api.Obj, []int, []int) bool
-- 58: func(api.Obj, api.Obj, api.Obj, []int, []int, api.Obj, []int, []int, []int) bool
-- 59: []api.Obj
theorem Tryd.sz59 : szOf Tryd.prog 59 = some 1 := by kernel_rfl
theorem Tryd.ag59 : V.isAgg Tryd.prog 59 = some false := by kernel_rfl
theorem Tryd.un59 : Tryd.prog.underlying 59 = some (.slice 25) := by kernel_rfl
theorem Tryd.sl59 : m4q Tryd.prog 59 = some (25, 2, 48, [.slice none 0 0, .slice none 0 0]) := by kernel_rfl
-- 60: []api.Arrow
theorem Tryd.sz60 : szOf Tryd.prog 60 = some 1 := by kernel_rfl
theorem Tryd.ag60 : V.isAgg Tryd.prog 60 = some false := by kernel_rfl
theorem Tryd.un60 : Tryd.prog.underlying 60 = some (.slice 72) := by kernel_rfl
theorem Tryd.sl60 : m4q Tryd.prog 60 = some (72, 3, 40, [.int .i64 0, .int .i64 0, .slice none 0 0]) := by kernel_rfl
-- 61: struct { Nodes []api.Obj; Arrows []api.Arrow }
-- 62: api.Diagram
theorem Tryd.sz62 : szOf Tryd.prog 62 = some 2 := by kernel_rfl
theorem Tryd.ag62 : V.isAgg Tryd.prog 62 = some true := by kernel_rfl
theorem Tryd.zv62 : zeroV Tryd.prog 62 = some [.slice none 0 0, .slice none 0 0] := by kernel_rfl
theorem Tryd.fd62_0 : g5q Tryd.prog 62 0 = some (0, 59) := by kernel_rfl
theorem Tryd.fd62_1 : g5q Tryd.prog 62 1 = some (1, 60) := by kernel_rfl
theorem Tryd.st62 : v5q Tryd.prog 62 = some ([(0, 1), (1, 1)], [.slice none 0 0, .slice none 0 0]) := by kernel_rfl
-- 63: [][]int
theorem Tryd.sz63 : szOf Tryd.prog 63 = some 1 := by kernel_rfl
theorem Tryd.ag63 : V.isAgg Tryd.prog 63 = some false := by kernel_rfl
theorem Tryd.zv63 : zeroV Tryd.prog 63 = some [.slice none 0 0] := by kernel_rfl
theorem Tryd.un63 : Tryd.prog.underlying 63 = some (.slice 26) := by kernel_rfl
theorem Tryd.sl63 : m4q Tryd.prog 63 = some (26, 1, 24, [.slice none 0 0]) := by kernel_rfl
-- 64: func(api.Diagram) bool
-- 65: func([][]int) bool
-- 66: func(api.Diagram, api.Obj, [][]int) ([]int, api.Errno)
-- 67: (api.Obj, [][]int, api.Errno)
-- 68: func(api.Diagram) (api.Obj, [][]int, api.Errno)
-- 69: func(api.Diagram, api.Obj, [][]int) bool
-- 70: func(api.Diagram, api.Obj, [][]int, []int) bool
-- 71: struct { From int; To int; Map []int }
-- 72: api.Arrow
theorem Tryd.sz72 : szOf Tryd.prog 72 = some 3 := by kernel_rfl
theorem Tryd.ag72 : V.isAgg Tryd.prog 72 = some true := by kernel_rfl
theorem Tryd.zv72 : zeroV Tryd.prog 72 = some [.int .i64 0, .int .i64 0, .slice none 0 0] := by kernel_rfl
theorem Tryd.fd72_0 : g5q Tryd.prog 72 0 = some (0, 3) := by kernel_rfl
theorem Tryd.fd72_1 : g5q Tryd.prog 72 1 = some (1, 3) := by kernel_rfl
theorem Tryd.fd72_2 : g5q Tryd.prog 72 2 = some (2, 26) := by kernel_rfl
theorem Tryd.st72 : v5q Tryd.prog 72 = some ([(0, 1), (1, 1), (2, 1)], [.int .i64 0, .int .i64 0, .slice none 0 0]) := by kernel_rfl
-- 73: (api.Obj, []int, []int, bool)
-- 74: func(api.Obj, api.Obj, int) (api.Obj, []int, []int, bool)
-- 75: func(api.Diagram, api.Obj, api.Obj, []int, []int, []int, []int) api.Diagram
-- 76: func(api.Obj, api.Obj, api.Obj, uint8, uint8) bool
-- 77: ([]int, []int, api.Errno)
-- 78: func(api.Obj, api.Obj, api.Obj, []int, []int) ([]int, []int, api.Errno)
-- 79: func(api.Obj, uint8) bool
-- 80: func([]int) bool
-- 81: func(api.Obj, api.Obj, []int, []int, int) bool
-- 82: []uint8
-- 83: struct { A int; B int }
-- 84: api.Pair
theorem Tryd.sz84 : szOf Tryd.prog 84 = some 2 := by kernel_rfl
theorem Tryd.ag84 : V.isAgg Tryd.prog 84 = some true := by kernel_rfl
theorem Tryd.zv84 : zeroV Tryd.prog 84 = some [.int .i64 0, .int .i64 0] := by kernel_rfl
theorem Tryd.fd84_0 : g5q Tryd.prog 84 0 = some (0, 3) := by kernel_rfl
theorem Tryd.fd84_1 : g5q Tryd.prog 84 1 = some (1, 3) := by kernel_rfl
theorem Tryd.st84 : v5q Tryd.prog 84 = some ([(0, 1), (1, 1)], [.int .i64 0, .int .i64 0]) := by kernel_rfl
-- 85: func(...api.Obj) bool
-- 86: (api.Obj, [][]int)
-- 87: func(...api.Obj) (api.Obj, [][]int)
-- 88: *centoref7.Union
-- 89: func(int) *centoref7.Union
-- 90: func(int, int) bool
theorem Tryd.sz90 : szOf Tryd.prog 90 = some 1 := by kernel_rfl
theorem Tryd.ag90 : V.isAgg Tryd.prog 90 = some false := by kernel_rfl
-- 91: (api.Obj, []int)
-- 92: func(api.Obj, *centoref7.Union) (api.Obj, []int)
-- 93: func(api.Obj, api.Obj) api.Obj
-- 94: func([]int, int) []int
-- 95: *union.Union
theorem Tryd.sz95 : szOf Tryd.prog 95 = some 1 := by kernel_rfl
theorem Tryd.ag95 : V.isAgg Tryd.prog 95 = some false := by kernel_rfl
-- 96: func(int) *union.Union
-- 97: func(api.Obj, *union.Union) (api.Obj, []int)
-- 98: func(api.Obj) int
-- 99: *rel.Rel
theorem Tryd.sz99 : szOf Tryd.prog 99 = some 1 := by kernel_rfl
theorem Tryd.ag99 : V.isAgg Tryd.prog 99 = some false := by kernel_rfl
theorem Tryd.zv99 : zeroV Tryd.prog 99 = some [.pointer none] := by kernel_rfl
-- 100: func(api.Obj) *rel.Rel
-- 101: func([]api.Pair, func(api.Pair) bool) bool
-- 102: func(api.Pair) bool
-- 103: func(int, [][]int, [][]int) []int
-- 104: *centoref2.Rel
-- 105: func(api.Obj) *centoref2.Rel
-- 106: func([]int)
-- 107: func(func(api.Obj) bool)
-- 108: iter.Seq[cento/api.Obj]
-- 109: func([]api.Obj) iter.Seq[cento/api.Obj]
-- 110: func(func(api.Pair) bool)
-- 111: iter.Seq[cento/api.Pair]
-- 112: func([]api.Pair) iter.Seq[cento/api.Pair]
-- 113: struct { L []int }
-- 114: centoref7.Union
theorem Tryd.fd114_0 : g5q Tryd.prog 114 0 = some (0, 26) := by kernel_rfl
theorem Tryd.st114 : v5q Tryd.prog 114 = some ([(0, 1)], [.slice none 0 0]) := by kernel_rfl
-- 115: func() []int
-- 116: func(int) *centoref2.Rel
-- 117: [][]bool
theorem Tryd.sz117 : szOf Tryd.prog 117 = some 1 := by kernel_rfl
theorem Tryd.ag117 : V.isAgg Tryd.prog 117 = some false := by kernel_rfl
theorem Tryd.un117 : Tryd.prog.underlying 117 = some (.slice 49) := by kernel_rfl
theorem Tryd.sl117 : m4q Tryd.prog 117 = some (49, 1, 24, [.slice none 0 0]) := by kernel_rfl
-- 118: struct { N int; M [][]bool }
-- 119: centoref2.Rel
theorem Tryd.fd119_0 : g5q Tryd.prog 119 0 = some (0, 3) := by kernel_rfl
theorem Tryd.fd119_1 : g5q Tryd.prog 119 1 = some (1, 117) := by kernel_rfl
theorem Tryd.st119 : v5q Tryd.prog 119 = some ([(0, 1), (1, 1)], [.int .i64 0, .slice none 0 0]) := by kernel_rfl
-- 120: func([]string, *centoref2.Rel) api.Obj
-- 121: func(api.Obj) api.Errno
-- 122: struct { to []int }
-- 123: union.Union
theorem Tryd.fd123_0 : g5q Tryd.prog 123 0 = some (0, 26) := by kernel_rfl
theorem Tryd.st123 : v5q Tryd.prog 123 = some ([(0, 1)], [.slice none 0 0]) := by kernel_rfl
-- 124: func(int) int
-- 125: func() [][]int
-- 126: func(int) *rel.Rel
-- 127: func() *rel.Rel
-- 128: func() []api.Pair
-- 129: func(func([]int) bool)
-- 130: iter.Seq[[]int]
-- 131: func([][]int) iter.Seq[[]int]
-- 132: (*centoref2.Rel, int)
-- 133: func(int, []api.Pair) (*centoref2.Rel, int)
-- 134: func([]api.Pair) bool
-- 135: func([]api.Pair, func(api.Pair) bool) int
-- 136: func(int) bool
-- 137: *bits.Row
theorem Tryd.sz137 : szOf Tryd.prog 137 = some 1 := by kernel_rfl
theorem Tryd.ag137 : V.isAgg Tryd.prog 137 = some false := by kernel_rfl
-- 138: []*bits.Row
theorem Tryd.sz138 : szOf Tryd.prog 138 = some 1 := by kernel_rfl
theorem Tryd.ag138 : V.isAgg Tryd.prog 138 = some false := by kernel_rfl
theorem Tryd.un138 : Tryd.prog.underlying 138 = some (.slice 137) := by kernel_rfl
theorem Tryd.sl138 : m4q Tryd.prog 138 = some (137, 1, 8, [.pointer none]) := by kernel_rfl
-- 139: struct { rows []*bits.Row }
-- 140: rel.Rel
theorem Tryd.fd140_0 : g5q Tryd.prog 140 0 = some (0, 138) := by kernel_rfl
theorem Tryd.st140 : v5q Tryd.prog 140 = some ([(0, 1)], [.slice none 0 0]) := by kernel_rfl
-- 141: func(api.Diagram, int) bool
-- 142: func(int, []api.Pair) *centoref2.Rel
-- 143: func([]int, int, int, int)
-- 144: func(uint) int
-- 145: uint
-- 146: func() *centoref2.Rel
-- 147: func([]string) api.Errno
-- 148: func(api.Pair, api.Pair) int
-- 149: (*rel.Rel, api.Errno)
-- 150: func(int, []api.Pair) (*rel.Rel, api.Errno)
-- 151: func(func(int) bool)
-- 152: iter.Seq[int]
-- 153: func(int) iter.Seq[int]
-- 154: func(int) *bits.Row
-- 155: func(int, bool)
-- 156: func(*bits.Row) bool
-- 157: func(func(int, int) bool)
-- 158: iter.Seq2[int,int]
-- 159: func() iter.Seq2[int,int]
-- 160: func(*centoref2.Rel) bool
-- 161: func() int
-- 162: uint64
theorem Tryd.sz162 : szOf Tryd.prog 162 = some 1 := by kernel_rfl
theorem Tryd.ag162 : V.isAgg Tryd.prog 162 = some false := by kernel_rfl
-- 163: []uint64
theorem Tryd.sz163 : szOf Tryd.prog 163 = some 1 := by kernel_rfl
theorem Tryd.ag163 : V.isAgg Tryd.prog 163 = some false := by kernel_rfl
theorem Tryd.un163 : Tryd.prog.underlying 163 = some (.slice 162) := by kernel_rfl
theorem Tryd.sl163 : m4q Tryd.prog 163 = some (162, 1, 8, [.int .u64 0]) := by kernel_rfl
-- 164: struct { n int; w []uint64 }
-- 165: bits.Row
theorem Tryd.fd165_0 : g5q Tryd.prog 165 0 = some (0, 3) := by kernel_rfl
theorem Tryd.fd165_1 : g5q Tryd.prog 165 1 = some (1, 163) := by kernel_rfl
theorem Tryd.st165 : v5q Tryd.prog 165 = some ([(0, 1), (1, 1)], [.int .i64 0, .slice none 0 0]) := by kernel_rfl
-- 166: func([]int, int, int)
-- 167: slices.sortedHint
-- 168: (int, slices.sortedHint)
-- 169: func([]int, int, int) (int, slices.sortedHint)
-- 170: func([]int, int, int) bool
-- 171: func([]int, int, int, int) int
-- 172: (int, bool)
-- 173: func([]int, int, int, int) (int, bool)
-- 174: func(uint32) int
-- 175: uint32
-- 176: func(uint64) int
-- 177: func([]string, func(string) bool) bool
-- 178: func(string) bool
-- 179: func(...int) int
-- 180: func(int, int) int
-- 181: func(*rel.Rel) bool
-- 182: func() iter.Seq[int]
-- 183: slices.xorshift
-- 184: func(int) uint
-- 185: func() uint64
-- 186: func([]int, int, *int) int
-- 187: *int
-- 188: func([]int, int, int, int, *int) int
-- 189: func([]string, func(string) bool) int
-- 190: *slices.xorshift
-- 191: (int, int)
-- 192: func([]int, int, int, *int) (int, int)
-- 193: [64]uint8
-- 194: func() string
-- 195: struct { _interface *abi.Type; concrete *abi.Type; asserted *abi.Type; missingMethod string }
-- 196: runtime.TypeAssertionError
-- 197: [0]*runtime.PanicNilError
-- 198: struct { _ [0]*runtime.PanicNilError }
-- 199: runtime.PanicNilError
-- 200: abi.TFlag
-- 201: abi.Kind
-- 202: func(unsafe.Pointer, unsafe.Pointer) bool
-- 203: *uint8
-- 204: abi.NameOff
-- 205: abi.TypeOff
-- 206: struct { Size_ uintptr; PtrBytes uintptr; Hash uint32; TFlag abi.TFlag; Align_ uint8; FieldAlign_ uint8; Kind_ abi.Kind; Equal func(unsafe.Pointer, unsafe.Pointer) bool; GCData *uint8; Str abi.NameOff; PtrToThis abi.TypeOff }
-- 207: abi.Type
-- 208: unsafe.Pointer
end Go.Proofs

open Go Go.V
namespace Go.Proofs
structure Ob where
 labels : List ByteArray
 pairs : List (Int × Int)
abbrev b0q (l : List Int) : T := .sl 1 (l.map TI)
abbrev b7q (l : List ByteArray) : T := .sl 1 (l.map TS)
abbrev j8q (p : Int × Int) : List T := [TI p.1, TI p.2]
abbrev a9q (l : List (Int × Int)) : T := .sl 2 (l.flatMap j8q)
abbrev vObj (o : Ob) : V := .agg [.t (b7q o.labels), .t (a9q o.pairs)]
theorem f1q (l : List Int) : vlen (.t (b0q l)) = some l.length := by simp [vlen]
theorem c7q (l : List ByteArray) : vlen (.t (b7q l)) = some l.length := by simp [vlen]
theorem e0q (l : List (Int × Int)) : (l.flatMap j8q).length = l.length * 2 := by
 induction l with
 | nil => rfl
 | cons a l ih => simp only [List.flatMap_cons, List.length_append, ih, List.length_cons, List.length_nil]; omega
theorem g8q (l : List (Int × Int)) : vlen (.t (a9q l)) = some l.length := by
 simp only [vlen, e0q]; congr 1; omega
theorem l8q (s : Sg) (c : Blk) {n : Nat} {b : Blk} (hn : n < s.next) (h : s.m n = some b) : (s.add c).m n = some b := by
 have : n ≠ s.next := by omega
 simp [Sg.add, this, h]
theorem t9q (s : Sg) (b : Blk) : (s.add b).m s.next = some b := by simp [Sg.add]
def fewS (o : Ob) : Bool := o.labels.all (fun b => decide (b.size ≤ 100)) && decide (o.labels.length ≤ 50) && decide (o.pairs.length ≤ 200)
end Go.Proofs

open Go Go.V
namespace Go.Proofs
def idN (n : Int) : Nat := (min (max n 0) 40).toNat
def idS (n : Int) : List Int := (List.range (idN n)).map fun (j : Nat) => (j : Int)
end Go.Proofs

open Go Go.V
namespace Go.Proofs
def thenS (f g : List Int) : List Int × Bool := if f.all (fun y => decide (0 ≤ y) && decide (y < g.length)) = true then (f.map fun y => g.getD y.toNat 0, true) else ([], false)
def thC (f g : List Int) (i : Nat) : List T := ((f.take i).map (fun y => g.getD y.toNat 0) ++ f.drop i).map TI
theorem e6z (f g : List Int) (i : Nat) : (thC f g i).length = f.length := by simp [thC]; omega
theorem e2j (f g : List Int) : thC f g 0 = f.map TI := by simp [thC]
theorem thC_get (f g : List Int) {i : Nat} (h : i < f.length) : (thC f g i)[i]? = some (TI f[i]) := by
 simp only [thC, List.getElem?_map]
 rw [List.getElem?_append_right (by rw [List.length_map, List.length_take]; omega), List.getElem?_drop]
 have : i + (i - ((f.take i).map fun y => g.getD y.toNat 0).length) = i := by rw [List.length_map, List.length_take]; omega
 rw [this, List.getElem?_eq_getElem h]; rfl
theorem thC_set (f g : List Int) {i : Nat} (h : i < f.length) : setAll (thC f g i) i [TI (g.getD f[i].toNat 0)] = thC f g (i + 1) := by
 have hl := e6z f g i
 rw [h7q _ _ _ (by rw [e6z]; exact h)]
 apply List.ext_getElem?
 intro j
 rw [List.getElem?_set, hl]
 simp only [thC, List.getElem?_map]
 rcases Nat.lt_trichotomy i j with hj | hj | hj
 ·rw [if_neg (by omega), List.getElem?_append_right (by simp; omega), List.getElem?_append_right (by simp; omega), List.getElem?_drop, List.getElem?_drop]
  congr 2; simp; omega
 ·subst hj
  rw [if_pos rfl, if_pos h, List.getElem?_append_left (by simp; omega), List.getElem?_map, List.getElem?_take, if_pos (by omega), List.getElem?_eq_getElem h]
  rfl
 ·rw [if_neg (by omega), List.getElem?_append_left (by simp; omega), List.getElem?_append_left (by simp; omega), List.getElem?_map, List.getElem?_map, List.getElem?_take, List.getElem?_take, if_pos hj, if_pos (by omega)]
theorem th_copy (f : List Int) : setAll (repl [TI 0] f.length) 0 ((f.map TI).take (min (f.map TI).length f.length)) = f.map TI := by
 simp only [setAll, n4q, List.length_map, Nat.min_self, List.take_zero, List.nil_append, Nat.zero_add, List.length_take]
 rw [List.take_of_length_le (by simp), List.drop_of_length_le (by simp), List.append_nil]
set_option maxRecDepth 20000 in
theorem then_ (f g : List Int) (hf : f.length < 100000000) (_hg : g.length < 1000000000) : g3q Tryd.prog 32 [.t (b0q f), .t (b0q g)] (.tup [.t (b0q (thenS f g).1), Bo (thenS f g).2]) := by
 refine b9q Tryd.func32 rfl fun s Q hQ => ?_
 obtain ⟨e, he, hl, h0, h1⟩ : ∃ e : Env, ([.t (b0q f), .t (b0q g)] ++ List.replicate (Tryd.f32.ntmps - ([.t (b0q f), .t (b0q g)] : List V).length) .junk) = e ∧ e.length = 39 ∧ ev e (.tmp 0) = .t (b0q f) ∧ ev e (.tmp 1) = .t (b0q g) := ⟨_, rfl, rfl, rfl, rfl⟩
 rw [he]
 clear he
 refine vsk fun K1 hK1 => ?_
 refine t6q false ?_
 simp only [wops, gow, wop, vopx, vop, i1q, a1q, flat, if_true]
 refine hK1 _ _ ?_
 refine vsk fun K2 hK2 => ?_
 refine t6q false ?_
 simp only [wops, gow, wop, vopx, vop, f7q, lpv, a1q, if_true, if_false, Nat.reduceEqDiff, Nat.reduceLT, List.map_cons, List.map_nil, Nat.mul_one, true_and, Nat.succ_ne_zero, Int.toNat_natCast, Int.natCast_nonneg, Bool.false_eq_true, hl, h0, Tryd.sl26, Tryd.un26, f1q]
 refine ⟨by omega, by omega, by omega, ?_⟩
 refine hK2 _ _ ?_
 refine vsk fun K3 hK3 => ?_
 refine t6q false ?_
 simp only [wops, gow, wop, vopx, vop, f7q, lpv, a1q, if_true, if_false, Nat.reduceEqDiff, Nat.reduceLT, Nat.zero_add, true_and, Nat.succ_ne_zero, List.length_map, hl, h0, srcT, t9q, Tryd.sl26]
 refine ⟨by rw [l4q]; simp, ?_⟩
 rw [j3z]
 have hc0 := th_copy f
 simp only [List.length_map] at hc0
 rw [hc0, ← e2j f g]
 refine hK3 _ _ ?_
 refine vsk fun K4 hK4 => ?_
 refine vsk fun K5 hK5 => ?_
 refine t6q false ?_
 simp only [wops, gow, wop, vopx, vop, f7q, i1q, lpv, a1q, flat, if_true, if_false, Nat.reduceEqDiff, Nat.reduceLT, hl]
 refine hK5 _ _ ?_
 refine a5q ?_
 refine d0q (fun n e' s' => ∃ i : Nat, n = f.length - i ∧ i ≤ f.length ∧ e'.length = 39 ∧ ev e' (.tmp 1) = .t (b0q g) ∧ ev e' (.tmp 6) = .loc s.next 0 f.length ∧ ev e' (.tmp 15) = .loc s.next 0 f.length ∧ ev e' (.tmp 16) = I f.length ∧ ev e' (.tmp 17) = I i ∧ s' = s.add (.arr 1 3 (thC f g i)) ∧ (f.take i).all (fun y => decide (0 ≤ y) && decide (y < g.length)) = true) (⟨0, rfl, Nat.zero_le _, ?_⟩) ?_
 ·simp only [f7q, lpv, hl, h1, if_true, if_false, Nat.reduceEqDiff, Nat.reduceLT]
  exact ⟨trivial, trivial, trivial, trivial, trivial, rfl, trivial, rfl⟩
 clear hl h0 h1 e
 rintro n e _ ⟨i, rfl, hi, hl, h1, h6, h15, h16, h17, rfl, hall⟩
 have hm := t9q s (.arr 1 3 (thC f g i))
 refine vsk fun K6 hK6 => ?_
 refine t6q false ?_
 simp only [wops, gow, wop, vopx, a1q, opII, h16, h17]
 refine hK6 _ _ ?_
 refine vsk fun K7 hK7 => ?_
 refine vck fun A B hA hB => ?_
 simp only [b5q, f7q, if_true, Nat.reduceLT, decide_eq_true_eq, decide_eq_false_iff_not, hl]
 refine ⟨fun hc18 => hA ?_, fun hc18 => hB ?_⟩
 ·clear hA hB A B
  refine b1q ?_
  refine hK7 _ _ ?_
  refine vsk fun K8 hK8 => ?_
  refine a5q ?_
  refine vsk fun K9 hK9 => ?_
  have hlt : i < f.length := by omega
  have hgi := thC_get f g hlt
  refine t6q false ?_
  simp only [wops, gow, wop, vopx, vop, f7q, lpv, a1q, if_true, if_false, Nat.reduceEqDiff, Nat.reduceLT, a7q, a8q, Nat.zero_add, Nat.mul_one, true_and, Int.toNat_natCast, List.getElem?_map, Option.map_some, Int.natCast_nonneg, hl, h15, h17, Tryd.ag3, Tryd.sz3, Tryd.un26, hm, hgi]
  refine ⟨⟨_, rfl⟩, by omega, ?_⟩
  refine hK9 _ _ ?_
  refine vsk fun K10 hK10 => ?_
  refine vsk fun K11 hK11 => ?_
  rcases Int.lt_or_le f[i] 0 with hneg | hneg
  ·refine t6q false ?_
   simp only [wops, gow, wop, vopx, vop, f7q, i1q, lpv, a1q, flat, if_true, if_false, Nat.reduceEqDiff, Nat.reduceLT, opII, gtmp, List.getElem?_toArray, List.getElem?_cons_zero, List.getElem?_cons_succ, ne_eq, not_false_eq_true, true_and, decide_true, true_implies, false_implies, reduceCtorEq, hl, h1, f1q, hneg]
   refine hK11 _ _ ?_
   refine vck fun A B hA hB => ?_
   simp only [b5q, f7q, lpv, if_true, if_false, Nat.reduceEqDiff, Nat.reduceLT, true_implies, reduceCtorEq, false_implies, and_true, hl]
   refine hA ?_
   clear hA hB A B
   refine vsk fun K12 hK12 => ?_
   refine t6q false ?_
   simp only [wops, gow, wop, vopx, vop, i1q, a1q, flat, if_true]
   refine hK12 _ _ ?_
   refine b3q ?_
   have hbad : f.all (fun y => decide (0 ≤ y) && decide (y < g.length)) = false := by
    rw [List.all_eq_false]
    exact ⟨f[i], List.getElem_mem hlt, by simp; omega⟩
   have hres : thenS f g = ([], false) := by simp [thenS, hbad]
   rw [hres] at hQ
   refine hQ _ _ _ (.inr rfl) (j0q (by omega) ?_ ?_ fun m b hl h => l8q s _ hl h)
   ·simp only [f7q, lpv, hl, if_true, if_false, Nat.reduceEqDiff, Nat.reduceLT]
   ·simp only [f7q, lpv, hl, if_true, if_false, Nat.reduceEqDiff, Nat.reduceLT]
  ·refine t6q false ?_
   simp only [wops, gow, wop, vopx, vop, f7q, i1q, lpv, a1q, flat, if_true, if_false, Nat.reduceEqDiff, Nat.reduceLT, opII, gtmp, List.getElem?_toArray, List.getElem?_cons_zero, List.getElem?_cons_succ, ne_eq, and_true, decide_false, true_implies, false_implies, not_true_eq_false, Bool.false_eq_true, hl, h1, f1q, Int.not_lt.2 hneg]
   refine hK11 _ _ ?_
   refine vck fun A B hA hB => ?_
   simp only [b5q, f7q, lpv, if_true, if_false, Nat.reduceEqDiff, Nat.reduceLT, decide_eq_true_eq, decide_eq_false_iff_not, hl]
   refine ⟨fun hc29 => hA ?_, fun hc29 => hB ?_⟩
   ·clear hA hB A B
    refine vsk fun K13 hK13 => ?_
    refine t6q false ?_
    simp only [wops, gow, wop, vopx, vop, i1q, a1q, flat, if_true]
    refine hK13 _ _ ?_
    refine b3q ?_
    have hbad : f.all (fun y => decide (0 ≤ y) && decide (y < g.length)) = false := by
     rw [List.all_eq_false]
     exact ⟨f[i], List.getElem_mem hlt, by simp; omega⟩
    have hres : thenS f g = ([], false) := by simp [thenS, hbad]
    rw [hres] at hQ
    refine hQ _ _ _ (.inr rfl) (j0q (by omega) ?_ ?_ fun m b hl h => l8q s _ hl h)
    ·simp only [f7q, lpv, hl, if_true, if_false, Nat.reduceEqDiff, Nat.reduceLT]
    ·simp only [f7q, lpv, hl, if_true, if_false, Nat.reduceEqDiff, Nat.reduceLT]
   ·clear hA hB A B
    refine b1q ?_
    refine hK10 _ _ ?_
    have hlt2 : f[i].toNat < g.length := by omega
    have hgv : g[f[i].toNat]? = some (g.getD f[i].toNat 0) := by rw [List.getD_eq_getElem?_getD, List.getElem?_eq_getElem hlt2]; rfl
    refine t6q false ?_
    simp only [z3z, wops, gow, wop, vopx, vop, f7q, lpv, a1q, c0q, if_true, if_false, Nat.reduceEqDiff, Nat.reduceLT, V.cells, a7q, a8q, Sg.frzL, Sg.frz1, List.length_cons, List.length_nil, Nat.zero_add, Nat.mul_one, true_and, Int.toNat_natCast, List.getElem?_map, Option.map_some, List.length_map, Int.natCast_nonneg, hl, h1, h6, Tryd.ag3, Tryd.sz3, Tryd.un26, hm, hgv]
    refine ⟨hneg, hlt2, ⟨_, rfl⟩, by omega, by rw [e6z]; omega, ?_⟩
    rw [thC_set f g hlt, j3z]
    refine hK8 _ _ ?_
    refine t6q false ?_
    simp only [wops, gow, wop, vopx, vop, f7q, i1q, lpv, a1q, flat, if_true, if_false, Nat.reduceEqDiff, Nat.reduceLT, opII, true_and, hl, h1, h6, h15, h16, h17]
    refine ⟨⟨by omega, by omega⟩, f.length - (i + 1), by omega, i + 1, rfl, by omega, ?_⟩
    refine ⟨by push_cast; rfl, rfl, ?_⟩
    rw [List.take_add_one, List.getElem?_eq_getElem hlt, List.all_append, hall]
    simp only [Option.toList_some, List.all_cons, List.all_nil, Bool.and_true, Bool.true_and, Bool.and_eq_true, decide_eq_true_eq]
    omega
 ·clear hA hB A B
  refine c8q ?_
  simp only [a1q, c0q, if_true]
  refine hK4 _ _ ?_
  refine vsk fun K14 hK14 => ?_
  refine t6q false ?_
  simp only [wops, gow, wop, vopx, vop, f7q, i1q, lpv, a1q, flat, if_true, if_false, Nat.reduceEqDiff, Nat.reduceLT, hl, h6]
  refine hK14 _ _ ?_
  refine b3q ?_
  have hil : i = f.length := by omega
  rw [hil, List.take_length] at hall
  have hres : thenS f g = (f.map fun y => g.getD y.toNat 0, true) := by simp only [thenS, hall, if_true]
  have hcs : thC f g i = (f.map fun y => g.getD y.toNat 0).map TI := by rw [hil]; simp [thC]
  rw [hres] at hQ
  rw [hcs] at hm ⊢
  refine hQ _ _ _ (.inr rfl) (a4z (n := s.next) (len := f.length) ?_ ?_ hm (by simp) (Nat.le_refl _) fun m b hl h => l8q s _ hl h)
  ·simp only [f7q, lpv, hl, if_true, if_false, Nat.reduceEqDiff, Nat.reduceLT]
  ·simp only [f7q, lpv, hl, if_true, if_false, Nat.reduceEqDiff, Nat.reduceLT]
end Go.Proofs

open Go Go.V
namespace Go.Proofs
set_option maxRecDepth 8000 in
theorem r5q (o : Ob) (h1 : o.labels.length ≤ 9223372036854775807) (h2 : o.pairs.length ≤ 9223372036854775807) : g3q Tryd.prog 47 [vObj o] (Bo (fewS o)) := by
 refine b9q Tryd.func47 rfl fun s Q hQ => ?_
 obtain ⟨e, he, hl, h0⟩ : ∃ e : Env, ([vObj o] ++ List.replicate (Tryd.f47.ntmps - [vObj o].length) .junk) = e ∧ e.length = 28 ∧ ev e (.tmp 0) = vObj o := ⟨_, rfl, rfl, rfl⟩
 rw [he]
 clear he
 refine vsk fun K1 hK1 => t6q false ?_
 simp only [wops, gow, wop, vopx, vop, i1q, h0, a1q, flat, if_true, V.cells]
 refine hK1 _ _ ?_
 refine vsk fun K1 hK1 => ?_
 refine vsk fun K2 hK2 => t6q false ?_
 simp only [wops, gow, wop, vopx, vop, i1q, a1q, flat, if_true]
 refine hK2 _ _ ?_
 refine a5q ?_
 have hm := t9q s (.box 25 [.t (b7q o.labels), .t (a9q o.pairs)])
 generalize hs1 : s.add (.box 25 [.t (b7q o.labels), .t (a9q o.pairs)]) = s1 at hm ⊢
 refine d0q (fun n e' s' => ∃ i : Nat, n = o.labels.length - i ∧ i ≤ o.labels.length ∧ e'.length = 28 ∧ ev e' (.tmp 1) = .ptr s.next 0 ∧ ev e' (.tmp 3) = I i ∧ s' = s1 ∧ (o.labels.take i).all (fun b => decide (b.size ≤ 100)) = true)
  ⟨0, rfl, Nat.zero_le _, ?_⟩ ?_
 ·simp only [f7q, lpv, hl, if_true, if_false, Nat.reduceEqDiff, Nat.reduceLT]
  exact ⟨trivial, trivial, rfl, trivial, rfl⟩
 clear hl h0 e
 rintro n e _ ⟨i, rfl, hi, hl, h1', h3, rfl, htk⟩
 refine vsk fun K2 hK2 => ?_
 refine vsk fun K3 hK3 => t6q false ?_
 simp only [wops, gow, wop, vopx, vop, f7q, lpv, hl, h1', h3, a1q, if_true, if_false, Nat.reduceEqDiff, Nat.reduceLT, Tryd.fd25_0, Tryd.sz22, Tryd.ag22, a7q, a8q, hm, Tryd.un22, c7q, opII, List.getElem?_cons_zero, Nat.add_zero, ne_eq, not_false_eq_true, true_and, Nat.succ_ne_zero]
 refine hK3 _ _ ?_
 refine vck fun A B hA hB => ?_
 simp only [b5q, f7q, lpv, hl, if_true, if_false, Nat.reduceEqDiff, Nat.reduceLT, decide_eq_true_eq, decide_eq_false_iff_not]
 refine ⟨fun hlt => hA ?_, fun hlt => hB ?_⟩
 rotate_left
 ·refine c8q ?_
  simp only [a1q, c0q, if_true]
  refine hK1 _ _ ?_
  refine vsk fun K4 hK4 => t6q false ?_
  have hil : i = o.labels.length := by omega
  have h50 : (((o.labels.length : Nat) : Int) ≤ 50) = (o.labels.length ≤ 50) := by rw [← Int.ofNat_le]; rfl
  have h200 : (((o.pairs.length : Nat) : Int) ≤ 200) = (o.pairs.length ≤ 200) := by rw [← Int.ofNat_le]; rfl
  rcases Nat.lt_or_ge 50 o.labels.length with h51 | h51
  ·have h52 : ¬ (o.labels.length ≤ 50) := Nat.not_le_of_lt h51
   simp only [wops, gow, wop, vopx, vop, f7q, i1q, lpv, hl, h1', a1q, flat, if_true, if_false, Nat.reduceEqDiff, Nat.reduceLT, Tryd.fd25_0, Tryd.fd25_1, Tryd.sz23, Tryd.ag23, Tryd.sz22, Tryd.ag22, a7q, a8q, hm, Tryd.un22, Tryd.un23, c7q, g8q, opII, List.getElem?_cons_zero, List.getElem?_cons_succ, Nat.add_zero, Nat.zero_add, ne_eq, not_false_eq_true, true_and, Nat.succ_ne_zero, gtmp, List.getElem?_toArray, h50, h200, h52, decide_false, true_implies, false_implies, Bool.false_eq_true]
   refine hK4 _ _ ?_
   refine b3q ?_
   refine hQ _ _ _ (.inr rfl) (b2q ?_ fun n b hn h => ?_)
   ·simp only [f7q, lpv, hl, if_true, if_false, Nat.reduceEqDiff, Nat.reduceLT]
    rw [hil, List.take_length] at htk
    simp only [fewS, htk, Bool.true_and, h52, decide_false, Bool.false_and]
   ·rw [← hs1]; exact l8q s _ hn h
  ·have h52 : (o.labels.length ≤ 50) := h51
   simp only [wops, gow, wop, vopx, vop, f7q, i1q, lpv, hl, h1', a1q, flat, if_true, if_false, Nat.reduceEqDiff, Nat.reduceLT, Tryd.fd25_0, Tryd.fd25_1, Tryd.sz23, Tryd.ag23, Tryd.sz22, Tryd.ag22, a7q, a8q, hm, Tryd.un22, Tryd.un23, c7q, g8q, opII, List.getElem?_cons_zero, List.getElem?_cons_succ, Nat.add_zero, Nat.zero_add, ne_eq, not_false_eq_true, true_and, Nat.succ_ne_zero, gtmp, List.getElem?_toArray, h50, h200, h52, decide_true, true_implies, false_implies, not_true_eq_false, and_true]
   refine hK4 _ _ ?_
   refine b3q ?_
   refine hQ _ _ _ (.inr rfl) (b2q ?_ fun n b hn h => ?_)
   ·simp only [f7q, lpv, hl, if_true, if_false, Nat.reduceEqDiff, Nat.reduceLT]
    rw [hil, List.take_length] at htk
    simp only [fewS, htk, Bool.true_and, h52, decide_true, Bool.true_and]
   ·rw [← hs1]; exact l8q s _ hn h
 refine b1q ?_
 refine hK2 _ _ ?_
 refine vsk fun K2 hK2 => a5q ?_
 refine vsk fun K3 hK3 => ?_
 have hlt' : i < o.labels.length := by omega
 have hgi : o.labels[i]? = some o.labels[i] := List.getElem?_eq_getElem hlt'
 refine t6q false ?_
 simp only [wops, gow, wop, vopx, vop, f7q, i1q, lpv, hl, h1', h3, a1q, flat, if_true, if_false, Nat.reduceEqDiff, Nat.reduceLT, Tryd.fd25_0, Tryd.sz22, Tryd.ag22, Tryd.sz9, Tryd.ag9, a7q, a8q, hm, Tryd.un22, opII, List.getElem?_cons_zero, Nat.add_zero, ne_eq, not_false_eq_true, true_and, Nat.succ_ne_zero, Int.toNat_natCast, List.getElem?_map, Nat.mul_one, hgi, Option.map_some, List.length_map, Int.natCast_nonneg, hlt', Tryd.underlying9]
 refine hK3 _ _ ?_
 refine vck fun A B hA hB => ?_
 simp only [b5q, f7q, lpv, hl, if_true, if_false, Nat.reduceEqDiff, Nat.reduceLT, decide_eq_true_eq, decide_eq_false_iff_not]
 refine ⟨fun hbig => hA ?_, fun hbig => hB ?_⟩
 ·refine vsk fun K5 hK5 => t6q false ?_
  simp only [wops, gow, wop, vopx, vop, i1q, a1q, flat, if_true]
  refine hK5 _ _ ?_
  refine b3q ?_
  refine hQ _ _ _ (.inr rfl) (b2q ?_ fun n b hn h => ?_)
  ·simp only [f7q, lpv, hl, if_true, if_false, Nat.reduceEqDiff, Nat.reduceLT]
   have hall : o.labels.all (fun b => decide (b.size ≤ 100)) = false := by
    rw [List.all_eq_false]
    exact ⟨o.labels[i], List.getElem_mem hlt', by simp; omega⟩
   simp only [fewS, hall, Bool.false_and]
  ·rw [← hs1]; exact l8q s _ hn h
 refine b1q ?_
 refine hK2 _ _ ?_
 refine t6q false ?_
 simp only [wops, gow, wop, vopx, vop, f7q, i1q, lpv, hl, h1', h3, a1q, flat, if_true, if_false, Nat.reduceEqDiff, Nat.reduceLT, opII]
 refine ⟨⟨by omega, by omega⟩, o.labels.length - (i + 1), by omega, i + 1, rfl, by omega, ?_⟩
 refine ⟨trivial, trivial, by push_cast; rfl, trivial, ?_⟩
 rw [List.take_add_one, hgi]
 simp only [List.all_append, htk, Option.toList_some, List.all_cons, List.all_nil, Bool.and_true, Bool.true_and, decide_eq_true_eq]
 omega
end Go.Proofs

open Go Go.V
namespace Go.Proofs
theorem v6x {α : Type} {l m : List α} {i : Nat} {x : α} (h : l.take i = m.take i) (h1 : l[i]? = some x) (h2 : m[i]? = some x) : l.take (i + 1) = m.take (i + 1) := by
 rw [List.take_add_one, List.take_add_one, h, h1, h2]
theorem e1j {α : Type} {l m : List α} (h : l.take l.length = m.take l.length) (hl : l.length = m.length) : l = m := by
 rw [List.take_length, hl, List.take_length] at h; exact h
set_option maxRecDepth 20000 in
theorem eqInts_ (f g : List Int) (hf : f.length < 1000000000) (hg : g.length < 1000000000) : g3q Tryd.prog 76 [.t (b0q f), .t (b0q g)] (Bo (f == g)) := by
 refine b9q Tryd.func76 rfl fun s Q hQ => ?_
 obtain ⟨e, he, hl, h0, h1⟩ : ∃ e : Env, ([.t (b0q f), .t (b0q g)] ++ List.replicate (Tryd.f76.ntmps - ([.t (b0q f), .t (b0q g)] : List V).length) .junk) = e ∧ e.length = 26 ∧ ev e (.tmp 0) = .t (b0q f) ∧ ev e (.tmp 1) = .t (b0q g) := ⟨_, rfl, rfl, rfl, rfl⟩
 rw [he]
 clear he
 refine vsk fun K1 hK1 => ?_
 refine a3q 0 [] ?_
 simp only [bs, ↓vopx, ↓vop, a1q, flat, wocs, ↓goc, ↓woc, ↓a2q]
 refine hK1 _ _ ?_
 refine vsk fun K2 hK2 => ?_
 refine vsk fun K3 hK3 => ?_
 refine a3q 0 [] ?_
 simp only [bs, ↓vopx, ↓vop, Nat.reduceBEq, a1q, Nat.reduceLT, opII, hl, h0, h1, wocs, ↓goc, ↓woc, ↓a2q, f1q, Tryd.underlying26]
 refine hK3 _ _ ?_
 refine vck fun A B hA hB => ?_
 simp only [b5q, a0q, lpv, Nat.reduceLT, bne_iff_ne, bne_eq_false_iff_eq, ne_eq, hl]
 refine ⟨fun hc10 => hA ?_, fun hc10 => hB ?_⟩
 ·clear hA hB A B
  refine vsk fun K4 hK4 => ?_
  refine a3q 0 [] ?_
  simp only [bs, ↓vopx, ↓vop, a1q, flat, wocs, ↓goc, ↓woc, ↓a2q]
  refine hK4 _ _ ?_
  refine b3q ?_
  refine hQ _ _ _ (.inr rfl) (b2q ?_ fun n b hn h => h)
  try simp only [a0q, lpv, hl, Nat.reduceLT]
  have hne : ¬ f = g := fun e => by subst e; omega
  simp [hne]
 ·clear hA hB A B
  refine b1q ?_
  refine hK2 _ _ ?_
  refine vsk fun K5 hK5 => ?_
  refine vsk fun K6 hK6 => ?_
  refine a3q 0 [] ?_
  simp only [bs, ↓vopx, ↓vop, Nat.reduceBEq, a1q, flat, Nat.reduceLT, hl, h0, wocs, ↓goc, ↓woc, ↓a2q, f1q, Tryd.underlying26]
  refine hK6 _ _ ?_
  refine a5q ?_
  refine d0q (fun mm e' s' => ∃ i : Nat, mm = f.length - i ∧ i ≤ f.length ∧ e'.length = 26 ∧ ev e' (.tmp 0) = .t (b0q f) ∧ ev e' (.tmp 1) = .t (b0q g) ∧ ev e' (.tmp 12) = I f.length ∧ ev e' (.tmp 13) = I i ∧ s = s' ∧ f.take i = g.take i) (⟨0, rfl, Nat.zero_le _, ?_⟩) ?_
  ·try simp only [a0q, a4q, Nat.reduceBEq, lpv, hl, h0, h1, Nat.reduceLT, true_and]
   repeat ((with_reducible refine And.intro ?_ ?_); · trivial)
   first | trivial | simp
  rintro mm e _ ⟨i, rfl, hle_i, hl, h0, h1, h12, h_i, rfl, htk⟩
  refine vsk fun K7 hK7 => ?_
  refine a3q 0 [] ?_
  simp only [a1q, opII, h12, h_i, wocs, ↓goc, ↓woc]
  refine hK7 _ _ ?_
  refine vsk fun K8 hK8 => ?_
  refine vck fun A B hA hB => ?_
  simp only [b5q, a0q, Nat.reduceLT, decide_eq_true_eq, decide_eq_false_iff_not, hl]
  refine ⟨fun hc14 => hA ?_, fun hc14 => hB ?_⟩
  ·clear hA hB A B
   refine b1q ?_
   refine hK8 _ _ ?_
   refine vsk fun K9 hK9 => ?_
   refine a5q ?_
   refine vsk fun K10 hK10 => ?_
   refine a3q 0 [] ?_
   simp only [bs, ↓vopx, ↓vop, Nat.reduceBEq, a1q, Nat.reduceLT, hl, h_i, wocs, ↓goc, ↓woc, ↓a2q]
   refine hK10 _ _ ?_
   refine vsk fun K11 hK11 => ?_
   have hlt : i < f.length := by omega
   obtain ⟨x, hx⟩ : ∃ x, f[i]? = some x := ⟨_, List.getElem?_eq_getElem hlt⟩
   obtain ⟨y, hy⟩ : ∃ y, g[i]? = some y := ⟨_, List.getElem?_eq_getElem (by omega)⟩
   refine d2q Tryd.mixed 8 [0, 0, 1, 1, 0, 0, 1, 1] [] [] 0 (by decide +kernel) (by simp [lpv, hl]) rfl ?_
   simp only [bs, ↓vopx, ↓vop, Nat.reduceBEq, a1q, Nat.reduceLT, a7q, a8q, opII, opSS, hl, h0, h1, wocs, ↓goc, ↓woc, ↓e7q, ↓farC, chn, ↓goq, ↓woq, List.zip_cons_cons, List.zip_nil_right, Tryd.ag3, Tryd.sz3, Tryd.un26, hx, hy]
   repeat ((with_reducible refine And.intro ?_ ?_); · first | (with_reducible assumption) | omega)
   refine hK11 _ _ ?_
   refine vck fun A B hA hB => ?_
   simp only [b5q, a0q, lpv, Nat.reduceLT, bne_iff_ne, bne_eq_false_iff_eq, ne_eq, hl]
   refine ⟨fun hcd => hA ?_, fun hcd => hB ?_⟩
   ·clear hA hB A B
    refine vsk fun K12 hK12 => ?_
    refine a3q 0 [] ?_
    simp only [bs, ↓vopx, ↓vop, a1q, flat, wocs, ↓goc, ↓woc, ↓a2q]
    refine hK12 _ _ ?_
    refine b3q ?_
    refine hQ _ _ _ (.inr rfl) (b2q ?_ fun n b hn h => h)
    try simp only [a0q, lpv, hl, Nat.reduceLT]
    have hne : ¬ f = g := fun e => by subst e; rw [hx] at hy; cases hy; omega
    simp [hne]
   ·clear hA hB A B
    refine b1q ?_
    refine hK9 _ _ ?_
    refine a3q 0 [] ?_
    simp only [bs, ↓vopx, ↓vop, Nat.reduceBEq, a1q, flat, Nat.reduceLT, opII, hl, h0, h1, h12, h_i, wocs, ↓goc, ↓woc, ↓a2q]
    repeat ((with_reducible refine And.intro ?_ ?_); · exact ⟨by omega, by omega⟩)
    refine ⟨f.length - (i + 1), by omega, i + 1, rfl, by omega, ?_⟩
    try simp only [a0q, a4q, Nat.reduceBEq, lpv, hl, h0, h1, h12, h_i, if_true, if_false, Nat.reduceEqDiff, Nat.reduceLT, true_and, and_true]
    repeat ((with_reducible refine And.intro ?_ ?_); · trivial)
    exact v6x htk hx (by rw [hy]; congr 1; omega)
  ·clear hA hB A B
   have han : i = f.length := by omega
   subst han
   refine c8q ?_
   simp only [a1q, c0q, if_true]
   refine hK5 _ _ ?_
   refine vsk fun K13 hK13 => ?_
   refine a3q 0 [] ?_
   simp only [bs, ↓vopx, ↓vop, a1q, flat, wocs, ↓goc, ↓woc, ↓a2q]
   refine hK13 _ _ ?_
   refine b3q ?_
   refine hQ _ _ _ (.inr rfl) (b2q ?_ fun n b hn h => h)
   try simp only [a0q, lpv, hl, Nat.reduceLT]
   rw [e1j htk (by omega)]; simp
set_option maxRecDepth 20000 in
theorem h7x (f g : List Int) (hf : f.length < 1000000000) (hg : g.length < 1000000000) : g3q Tryd.prog 33 [.t (b0q f), .t (b0q g)] (Bo (f == g)) := by
 refine b9q Tryd.func33 rfl fun s Q hQ => ?_
 obtain ⟨e, he, hl, h0, h1⟩ : ∃ e : Env, ([.t (b0q f), .t (b0q g)] ++ List.replicate (Tryd.f33.ntmps - ([.t (b0q f), .t (b0q g)] : List V).length) .junk) = e ∧ e.length = 8 ∧ ev e (.tmp 0) = .t (b0q f) ∧ ev e (.tmp 1) = .t (b0q g) := ⟨_, rfl, rfl, rfl, rfl⟩
 rw [he]
 clear he
 refine vsk fun K1 hK1 => ?_
 refine a3q 0 [] ?_
 simp only [bs, ↓vopx, ↓vop, a1q, flat, wocs, ↓goc, ↓woc, ↓a2q]
 refine hK1 _ _ ?_
 refine vsk fun K2 hK2 => ?_
 refine a3q 0 [.pur (Bo (f == g))] ?_
 simp only [bs, ↓vopx, ↓vop, Nat.reduceBEq, a1q, Nat.reduceLT, hl, h0, h1, wocs, ↓goc, ↓woc, ↓a2q, ↓c4q, a6q]
 repeat ((with_reducible refine And.intro ?_ ?_); · exact ⟨Tryd.is76, eqInts_ f g hf hg⟩)
 refine hK2 _ _ ?_
 refine b3q ?_
 refine hQ _ _ _ (.inr rfl) (b2q ?_ fun n b hn h => ?_)
 ·simp only [a0q, lpv, hl, Nat.reduceLT]
 ·exact h
end Go.Proofs
