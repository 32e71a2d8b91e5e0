/- Lemmas on the way to the statement of this claim; no conditions. -/
import Derived.Test.YtkdkajlgbhggdaaGreatDoorProg
import Derived.KernelRfl
import Derived.Test.YtkdkajlgbhggdaaGreatDoorA22
import Derived.Test.YtkdkajlgbhggdaaGreatDoorA23
import Derived.Test.YtkdkajlgbhggdaaGreatDoorA26
import Derived.Test.YtkdkajlgbhggdaaGreatDoorA33
open Go Go.V
namespace Go.Proofs
theorem Tryz.mixed : Tryz.prog.follows .mixedOrders = true := by kernel_rfl
-- 0: ()
-- 1: func()
-- 2: int64
-- 3: int
theorem Tryz.sz3 : szOf Tryz.prog 3 = some 1 := by kernel_rfl
theorem Tryz.ag3 : V.isAgg Tryz.prog 3 = some false := by kernel_rfl
theorem Tryz.zv3 : zeroV Tryz.prog 3 = some [.int .i64 0] := by kernel_rfl
-- 4: bool
theorem Tryz.sz4 : szOf Tryz.prog 4 = some 1 := by kernel_rfl
theorem Tryz.ag4 : V.isAgg Tryz.prog 4 = some false := by kernel_rfl
theorem Tryz.zv4 : zeroV Tryz.prog 4 = some [.bool false] := by kernel_rfl
-- 5: uint8
-- 6: abi.BoundsErrorCode
-- 7: struct { x int64; y int; signed bool; code abi.BoundsErrorCode }
-- 8: runtime.boundsError
-- 9: string
theorem Tryz.sz9 : szOf Tryz.prog 9 = some 1 := by kernel_rfl
theorem Tryz.ag9 : V.isAgg Tryz.prog 9 = some false := by kernel_rfl
-- 10: runtime.errorString
-- 11: runtime.plainError
-- 12: uintptr
-- 13: struct { msg string; addr uintptr }
-- 14: runtime.errorAddressString
-- 15: *runtime.TypeAssertionError
-- 16: *runtime.PanicNilError
-- 17: *abi.Type
-- 18: struct { typ *abi.Type }
-- 19: maps.unhashableTypeError
-- 20: interface {}
-- 21: int32
-- 22: []api.Obj
theorem Tryz.sz22 : szOf Tryz.prog 22 = some 1 := by kernel_rfl
theorem Tryz.ag22 : V.isAgg Tryz.prog 22 = some false := by kernel_rfl
theorem Tryz.un22 : Tryz.prog.underlying 22 = some (.slice 29) := by kernel_rfl
theorem Tryz.sl22 : m0q Tryz.prog 22 = some (29, 2, 48, [.slice none 0 0, .slice none 0 0]) := by kernel_rfl
-- 23: []api.Arrow
theorem Tryz.sz23 : szOf Tryz.prog 23 = some 1 := by kernel_rfl
theorem Tryz.ag23 : V.isAgg Tryz.prog 23 = some false := by kernel_rfl
theorem Tryz.un23 : Tryz.prog.underlying 23 = some (.slice 49) := by kernel_rfl
theorem Tryz.sl23 : m0q Tryz.prog 23 = some (49, 3, 40, [.int .i64 0, .int .i64 0, .slice none 0 0]) := by kernel_rfl
-- 24: struct { Nodes []api.Obj; Arrows []api.Arrow }
-- 25: api.Diagram
theorem Tryz.sz25 : szOf Tryz.prog 25 = some 2 := by kernel_rfl
theorem Tryz.ag25 : V.isAgg Tryz.prog 25 = some true := by kernel_rfl
theorem Tryz.zv25 : zeroV Tryz.prog 25 = some [.slice none 0 0, .slice none 0 0] := by kernel_rfl
theorem Tryz.fd25_0 : g1q Tryz.prog 25 0 = some (0, 22) := by kernel_rfl
theorem Tryz.fd25_1 : g1q Tryz.prog 25 1 = some (1, 23) := by kernel_rfl
theorem Tryz.st25 : u1q Tryz.prog 25 = some ([(0, 1), (1, 1)], [.slice none 0 0, .slice none 0 0]) := by kernel_rfl
-- 26: []string
theorem Tryz.sz26 : szOf Tryz.prog 26 = some 1 := by kernel_rfl
theorem Tryz.ag26 : V.isAgg Tryz.prog 26 = some false := by kernel_rfl
theorem Tryz.un26 : Tryz.prog.underlying 26 = some (.slice 9) := by kernel_rfl
theorem Tryz.sl26 : m0q Tryz.prog 26 = some (9, 1, 16, [.string ⟨#[]⟩]) := by kernel_rfl
-- 27: []api.Pair
theorem Tryz.sz27 : szOf Tryz.prog 27 = some 1 := by kernel_rfl
theorem Tryz.ag27 : V.isAgg Tryz.prog 27 = some false := by kernel_rfl
theorem Tryz.zv27 : zeroV Tryz.prog 27 = some [.slice none 0 0] := by kernel_rfl
theorem Tryz.un27 : Tryz.prog.underlying 27 = some (.slice 65) := by kernel_rfl
theorem Tryz.sl27 : m0q Tryz.prog 27 = some (65, 2, 16, [.int .i64 0, .int .i64 0]) := by kernel_rfl
-- 28: struct { Labels []string; Pairs []api.Pair }
-- 29: api.Obj
theorem Tryz.sz29 : szOf Tryz.prog 29 = some 2 := by kernel_rfl
theorem Tryz.ag29 : V.isAgg Tryz.prog 29 = some true := by kernel_rfl
theorem Tryz.zv29 : zeroV Tryz.prog 29 = some [.slice none 0 0, .slice none 0 0] := by kernel_rfl
theorem Tryz.fd29_0 : g1q Tryz.prog 29 0 = some (0, 26) := by kernel_rfl
theorem Tryz.fd29_1 : g1q Tryz.prog 29 1 = some (1, 27) := by kernel_rfl
theorem Tryz.st29 : u1q Tryz.prog 29 = some ([(0, 1), (1, 1)], [.slice none 0 0, .slice none 0 0]) := by kernel_rfl
-- 30: [][]int
theorem Tryz.sz30 : szOf Tryz.prog 30 = some 1 := by kernel_rfl
theorem Tryz.ag30 : V.isAgg Tryz.prog 30 = some false := by kernel_rfl
theorem Tryz.zv30 : zeroV Tryz.prog 30 = some [.slice none 0 0] := by kernel_rfl
theorem Tryz.un30 : Tryz.prog.underlying 30 = some (.slice 40) := by kernel_rfl
theorem Tryz.sl30 : m0q Tryz.prog 30 = some (40, 1, 24, [.slice none 0 0]) := by kernel_rfl
-- 31: func() bool
-- 32: func(api.Diagram) bool
-- 33: func(api.Obj) bool
-- 34: func([][]int) bool
-- 35: api.Errno
-- 36: (api.Obj, [][]int, api.Errno)
-- 37: func(api.Diagram) (api.Obj, [][]int, api.Errno)
-- 38: (api.Obj, [][]int, int)
-- 39: func(api.Diagram) (api.Obj, [][]int, int)
-- 40: []int
theorem Tryz.sz40 : szOf Tryz.prog 40 = some 1 := by kernel_rfl
theorem Tryz.ag40 : V.isAgg Tryz.prog 40 = some false := by kernel_rfl
theorem Tryz.zv40 : zeroV Tryz.prog 40 = some [.slice none 0 0] := by kernel_rfl
theorem Tryz.un40 : Tryz.prog.underlying 40 = some (.slice 3) := by kernel_rfl
theorem Tryz.sl40 : m0q Tryz.prog 40 = some (3, 1, 8, [.int .i64 0]) := by kernel_rfl
-- 41: ([]int, api.Errno)
-- 42: func(api.Diagram, api.Obj, [][]int) ([]int, api.Errno)
-- 43: ([]int, int)
-- 44: func(api.Diagram, api.Obj, [][]int) ([]int, int)
-- 45: func(api.Obj, api.Obj) bool
-- 46: func([]int, []int) bool
-- 47: func(api.Diagram, api.Obj, [][]int) bool
-- 48: struct { From int; To int; Map []int }
-- 49: api.Arrow
theorem Tryz.sz49 : szOf Tryz.prog 49 = some 3 := by kernel_rfl
theorem Tryz.ag49 : V.isAgg Tryz.prog 49 = some true := by kernel_rfl
theorem Tryz.zv49 : zeroV Tryz.prog 49 = some [.int .i64 0, .int .i64 0, .slice none 0 0] := by kernel_rfl
theorem Tryz.fd49_0 : g1q Tryz.prog 49 0 = some (0, 3) := by kernel_rfl
theorem Tryz.fd49_1 : g1q Tryz.prog 49 1 = some (1, 3) := by kernel_rfl
theorem Tryz.fd49_2 : g1q Tryz.prog 49 2 = some (2, 40) := by kernel_rfl
theorem Tryz.st49 : u1q Tryz.prog 49 = some ([(0, 1), (1, 1), (2, 1)], [.int .i64 0, .int .i64 0, .slice none 0 0]) := by kernel_rfl
-- 50: (api.Obj, [][]int)
-- 51: func(...api.Obj) (api.Obj, [][]int)
-- 52: *union.Union
theorem Tryz.sz52 : szOf Tryz.prog 52 = some 1 := by kernel_rfl
theorem Tryz.ag52 : V.isAgg Tryz.prog 52 = some false := by kernel_rfl
-- 53: func(int) *union.Union
-- 54: func(int, int) bool
theorem Tryz.sz54 : szOf Tryz.prog 54 = some 1 := by kernel_rfl
theorem Tryz.ag54 : V.isAgg Tryz.prog 54 = some false := by kernel_rfl
-- 55: (api.Obj, []int)
-- 56: func(api.Obj, *union.Union) (api.Obj, []int)
-- 57: ([]int, bool)
-- 58: func([]int, []int) ([]int, bool)
-- 59: func(api.Obj, api.Obj) api.Obj
-- 60: *centoref7.Union
-- 61: func(int) *centoref7.Union
-- 62: func(api.Obj, *centoref7.Union) (api.Obj, []int)
-- 63: func(int, [][]int, [][]int) []int
-- 64: struct { A int; B int }
-- 65: api.Pair
theorem Tryz.sz65 : szOf Tryz.prog 65 = some 2 := by kernel_rfl
theorem Tryz.ag65 : V.isAgg Tryz.prog 65 = some true := by kernel_rfl
theorem Tryz.zv65 : zeroV Tryz.prog 65 = some [.int .i64 0, .int .i64 0] := by kernel_rfl
theorem Tryz.fd65_0 : g1q Tryz.prog 65 0 = some (0, 3) := by kernel_rfl
theorem Tryz.fd65_1 : g1q Tryz.prog 65 1 = some (1, 3) := by kernel_rfl
theorem Tryz.st65 : u1q Tryz.prog 65 = some ([(0, 1), (1, 1)], [.int .i64 0, .int .i64 0]) := by kernel_rfl
-- 66: func(api.Diagram, int) bool
-- 67: func(api.Obj, api.Obj, []int) bool
-- 68: func(func(api.Obj) bool)
-- 69: iter.Seq[cento/api.Obj]
-- 70: func([]api.Obj) iter.Seq[cento/api.Obj]
-- 71: func(func(api.Pair) bool)
-- 72: iter.Seq[cento/api.Pair]
-- 73: func([]api.Pair) iter.Seq[cento/api.Pair]
-- 74: struct { to []int }
-- 75: union.Union
theorem Tryz.fd75_0 : g1q Tryz.prog 75 0 = some (0, 40) := by kernel_rfl
theorem Tryz.st75 : u1q Tryz.prog 75 = some ([(0, 1)], [.slice none 0 0]) := by kernel_rfl
-- 76: func(int) int
-- 77: func() []int
-- 78: func() [][]int
-- 79: *rel.Rel
theorem Tryz.sz79 : szOf Tryz.prog 79 = some 1 := by kernel_rfl
theorem Tryz.ag79 : V.isAgg Tryz.prog 79 = some false := by kernel_rfl
theorem Tryz.zv79 : zeroV Tryz.prog 79 = some [.pointer none] := by kernel_rfl
-- 80: func(int) *rel.Rel
-- 81: func() *rel.Rel
-- 82: func() []api.Pair
-- 83: func(func([]int) bool)
-- 84: iter.Seq[[]int]
-- 85: func([][]int) iter.Seq[[]int]
-- 86: struct { L []int }
-- 87: centoref7.Union
theorem Tryz.fd87_0 : g1q Tryz.prog 87 0 = some (0, 40) := by kernel_rfl
theorem Tryz.st87 : u1q Tryz.prog 87 = some ([(0, 1)], [.slice none 0 0]) := by kernel_rfl
-- 88: *centoref2.Rel
-- 89: func(int) *centoref2.Rel
-- 90: []bool
theorem Tryz.sz90 : szOf Tryz.prog 90 = some 1 := by kernel_rfl
theorem Tryz.ag90 : V.isAgg Tryz.prog 90 = some false := by kernel_rfl
theorem Tryz.un90 : Tryz.prog.underlying 90 = some (.slice 4) := by kernel_rfl
theorem Tryz.sl90 : m0q Tryz.prog 90 = some (4, 1, 1, [.bool false]) := by kernel_rfl
-- 91: [][]bool
theorem Tryz.sz91 : szOf Tryz.prog 91 = some 1 := by kernel_rfl
theorem Tryz.ag91 : V.isAgg Tryz.prog 91 = some false := by kernel_rfl
theorem Tryz.un91 : Tryz.prog.underlying 91 = some (.slice 90) := by kernel_rfl
theorem Tryz.sl91 : m0q Tryz.prog 91 = some (90, 1, 24, [.slice none 0 0]) := by kernel_rfl
-- 92: struct { N int; M [][]bool }
-- 93: centoref2.Rel
theorem Tryz.fd93_0 : g1q Tryz.prog 93 0 = some (0, 3) := by kernel_rfl
theorem Tryz.fd93_1 : g1q Tryz.prog 93 1 = some (1, 91) := by kernel_rfl
theorem Tryz.st93 : u1q Tryz.prog 93 = some ([(0, 1), (1, 1)], [.int .i64 0, .slice none 0 0]) := by kernel_rfl
-- 94: func([]string, *centoref2.Rel) api.Obj
-- 95: func(api.Obj) api.Errno
-- 96: func(api.Obj) *rel.Rel
-- 97: func([]api.Pair, func(api.Pair) bool) bool
-- 98: func(api.Pair) bool
-- 99: func(api.Obj) int
-- 100: func(api.Obj) *centoref2.Rel
-- 101: func(func(int) bool)
-- 102: iter.Seq[int]
-- 103: func(int) iter.Seq[int]
-- 104: []*bits.Row
theorem Tryz.sz104 : szOf Tryz.prog 104 = some 1 := by kernel_rfl
theorem Tryz.ag104 : V.isAgg Tryz.prog 104 = some false := by kernel_rfl
theorem Tryz.un104 : Tryz.prog.underlying 104 = some (.slice 107) := by kernel_rfl
theorem Tryz.sl104 : m0q Tryz.prog 104 = some (107, 1, 8, [.pointer none]) := by kernel_rfl
-- 105: struct { rows []*bits.Row }
-- 106: rel.Rel
theorem Tryz.fd106_0 : g1q Tryz.prog 106 0 = some (0, 104) := by kernel_rfl
theorem Tryz.st106 : u1q Tryz.prog 106 = some ([(0, 1)], [.slice none 0 0]) := by kernel_rfl
-- 107: *bits.Row
theorem Tryz.sz107 : szOf Tryz.prog 107 = some 1 := by kernel_rfl
theorem Tryz.ag107 : V.isAgg Tryz.prog 107 = some false := by kernel_rfl
-- 108: func(int) *bits.Row
-- 109: func(int) bool
-- 110: func(int, bool)
-- 111: func(*bits.Row) bool
-- 112: func(func(int, int) bool)
-- 113: iter.Seq2[int,int]
-- 114: func() iter.Seq2[int,int]
-- 115: func([]int) bool
-- 116: func() *centoref2.Rel
-- 117: func([]string) api.Errno
-- 118: func(api.Pair, api.Pair) int
-- 119: (*rel.Rel, api.Errno)
-- 120: func(int, []api.Pair) (*rel.Rel, api.Errno)
-- 121: func([]api.Pair, func(api.Pair) bool) int
-- 122: (*centoref2.Rel, int)
-- 123: func(int, []api.Pair) (*centoref2.Rel, int)
-- 124: func([]api.Pair) bool
-- 125: func(int, []api.Pair) *centoref2.Rel
-- 126: []uint64
theorem Tryz.sz126 : szOf Tryz.prog 126 = some 1 := by kernel_rfl
theorem Tryz.ag126 : V.isAgg Tryz.prog 126 = some false := by kernel_rfl
theorem Tryz.un126 : Tryz.prog.underlying 126 = some (.slice 130) := by kernel_rfl
theorem Tryz.sl126 : m0q Tryz.prog 126 = some (130, 1, 8, [.int .u64 0]) := by kernel_rfl
-- 127: struct { n int; w []uint64 }
-- 128: bits.Row
theorem Tryz.fd128_0 : g1q Tryz.prog 128 0 = some (0, 3) := by kernel_rfl
theorem Tryz.fd128_1 : g1q Tryz.prog 128 1 = some (1, 126) := by kernel_rfl
theorem Tryz.st128 : u1q Tryz.prog 128 = some ([(0, 1), (1, 1)], [.int .i64 0, .slice none 0 0]) := by kernel_rfl
-- 129: func() int
-- 130: uint64
theorem Tryz.sz130 : szOf Tryz.prog 130 = some 1 := by kernel_rfl
theorem Tryz.ag130 : V.isAgg Tryz.prog 130 = some false := by kernel_rfl
-- 131: func() iter.Seq[int]
-- 132: func([]string, func(string) bool) bool
-- 133: func(string) bool
-- 134: func(...int) int
-- 135: func(int, int) int
-- 136: func(*rel.Rel) bool
-- 137: func(*centoref2.Rel) bool
-- 138: func(uint64) int
-- 139: func([]string, func(string) bool) int
-- 140: [64]uint8
-- 141: uint
-- 142: func() string
-- 143: struct { _interface *abi.Type; concrete *abi.Type; asserted *abi.Type; missingMethod string }
-- 144: runtime.TypeAssertionError
-- 145: [0]*runtime.PanicNilError
-- 146: struct { _ [0]*runtime.PanicNilError }
-- 147: runtime.PanicNilError
-- 148: uint32
-- 149: abi.TFlag
-- 150: abi.Kind
-- 151: func(unsafe.Pointer, unsafe.Pointer) bool
-- 152: *uint8
-- 153: abi.NameOff
-- 154: abi.TypeOff
-- 155: struct { Size_ uintptr; PtrBytes uintptr; Hash uint32; TFlag abi.TFlag; Align_ uint8; FieldAlign_ uint8; Kind_ abi.Kind; Equal func(unsafe.Pointer, unsafe.Pointer) bool; GCData *uint8; Str abi.NameOff; PtrToThis abi.TypeOff }
-- 156: abi.Type
-- 157: unsafe.Pointer
end Go.Proofs

open Go Go.V
namespace Go.Proofs
structure Ob where
 labels : List ByteArray
 pairs : List (Int × Int)
abbrev c0q (l : List Int) : T := .sl 1 (l.map TI)
abbrev d1q (l : List ByteArray) : T := .sl 1 (l.map TS)
abbrev l2q (p : Int × Int) : List T := [TI p.1, TI p.2]
abbrev b3q (l : List (Int × Int)) : T := .sl 2 (l.flatMap l2q)
abbrev vObj (o : Ob) : V := .agg [.t (d1q o.labels), .t (b3q o.pairs)]
theorem e2q (l : List Int) : vlen (.t (c0q l)) = some l.length := by simp [vlen]
theorem c9q (l : List ByteArray) : vlen (.t (d1q l)) = some l.length := by simp [vlen]
theorem d7q (l : List (Int × Int)) : (l.flatMap l2q).length = l.length * 2 := by
 induction l with
 | nil => rfl
 | cons a l ih => simp only [List.flatMap_cons, List.length_append, ih, List.length_cons, List.length_nil]; omega
theorem g2q (l : List (Int × Int)) : vlen (.t (b3q l)) = some l.length := by
 simp only [vlen, d7q]; congr 1; omega
theorem l6q (s : Sg) (c : Blk) {n : Nat} {b : Blk} (hn : n < s.next) (h : s.m n = some b) : (s.add c).m n = some b := by
 have : n ≠ s.next := by omega
 simp [Sg.add, this, h]
theorem p5q (s : Sg) (b : Blk) : (s.add b).m s.next = some b := by simp [Sg.add]
def fewS (o : Ob) : Bool := o.labels.all (fun b => decide (b.size ≤ 100)) && decide (o.labels.length ≤ 50) && decide (o.pairs.length ≤ 200)
end Go.Proofs

open Go Go.V
namespace Go.Proofs
def idN (n : Int) : Nat := (min (max n 0) 40).toNat
def idS (n : Int) : List Int := (List.range (idN n)).map fun (j : Nat) => (j : Int)
end Go.Proofs

open Go Go.V
namespace Go.Proofs
def thenS (f g : List Int) : List Int × Bool := if f.all (fun y => decide (0 ≤ y) && decide (y < g.length)) = true then (f.map fun y => g.getD y.toNat 0, true) else ([], false)
def thC (f g : List Int) (i : Nat) : List T := ((f.take i).map (fun y => g.getD y.toNat 0) ++ f.drop i).map TI
theorem c6z (f g : List Int) (i : Nat) : (thC f g i).length = f.length := by simp [thC]; omega
theorem b8j (f g : List Int) : thC f g 0 = f.map TI := by simp [thC]
theorem thC_get (f g : List Int) {i : Nat} (h : i < f.length) : (thC f g i)[i]? = some (TI f[i]) := by
 simp only [thC, List.getElem?_map]
 rw [List.getElem?_append_right (by rw [List.length_map, List.length_take]; omega), List.getElem?_drop]
 have : i + (i - ((f.take i).map fun y => g.getD y.toNat 0).length) = i := by rw [List.length_map, List.length_take]; omega
 rw [this, List.getElem?_eq_getElem h]; rfl
theorem thC_set (f g : List Int) {i : Nat} (h : i < f.length) : setAll (thC f g i) i [TI (g.getD f[i].toNat 0)] = thC f g (i + 1) := by
 have hl := c6z f g i
 rw [h4q _ _ _ (by rw [c6z]; exact h)]
 apply List.ext_getElem?
 intro j
 rw [List.getElem?_set, hl]
 simp only [thC, List.getElem?_map]
 rcases Nat.lt_trichotomy i j with hj | hj | hj
 ·rw [if_neg (by omega), List.getElem?_append_right (by simp; omega), List.getElem?_append_right (by simp; omega), List.getElem?_drop, List.getElem?_drop]
  congr 2; simp; omega
 ·subst hj
  rw [if_pos rfl, if_pos h, List.getElem?_append_left (by simp; omega), List.getElem?_map, List.getElem?_take, if_pos (by omega), List.getElem?_eq_getElem h]
  rfl
 ·rw [if_neg (by omega), List.getElem?_append_left (by simp; omega), List.getElem?_append_left (by simp; omega), List.getElem?_map, List.getElem?_map, List.getElem?_take, List.getElem?_take, if_pos hj, if_pos (by omega)]
theorem th_copy (f : List Int) : setAll (repl [TI 0] f.length) 0 ((f.map TI).take (min (f.map TI).length f.length)) = f.map TI := by
 simp only [setAll, l9q, List.length_map, Nat.min_self, List.take_zero, List.nil_append, Nat.zero_add, List.length_take]
 rw [List.take_of_length_le (by simp), List.drop_of_length_le (by simp), List.append_nil]
set_option maxRecDepth 20000 in
theorem then_ (f g : List Int) (hf : f.length < 100000000) (_hg : g.length < 1000000000) : f7q Tryz.prog 23 [.t (c0q f), .t (c0q g)] (.tup [.t (c0q (thenS f g).1), Bo (thenS f g).2]) := by
 refine b4q Tryz.func23 rfl fun s Q hQ => ?_
 obtain ⟨e, he, hl, h0, h1⟩ : ∃ e : Env, ([.t (c0q f), .t (c0q g)] ++ List.replicate (Tryz.f23.ntmps - ([.t (c0q f), .t (c0q g)] : List V).length) .junk) = e ∧ e.length = 39 ∧ ev e (.tmp 0) = .t (c0q f) ∧ ev e (.tmp 1) = .t (c0q g) := ⟨_, rfl, rfl, rfl, rfl⟩
 rw [he]
 clear he
 refine vsk fun K1 hK1 => ?_
 refine j9q false ?_
 simp only [wops, gow, wop, vopx, vop, e7q, a1q, flat, if_true]
 refine hK1 _ _ ?_
 refine vsk fun K2 hK2 => ?_
 refine j9q false ?_
 simp only [wops, gow, wop, vopx, vop, d3q, lpv, a1q, if_true, if_false, Nat.reduceEqDiff, Nat.reduceLT, List.map_cons, List.map_nil, Nat.mul_one, true_and, Nat.succ_ne_zero, Int.toNat_natCast, Int.natCast_nonneg, Bool.false_eq_true, hl, h0, Tryz.sl40, Tryz.un40, e2q]
 refine ⟨by omega, by omega, by omega, ?_⟩
 refine hK2 _ _ ?_
 refine vsk fun K3 hK3 => ?_
 refine j9q false ?_
 simp only [wops, gow, wop, vopx, vop, d3q, lpv, a1q, if_true, if_false, Nat.reduceEqDiff, Nat.reduceLT, Nat.zero_add, true_and, Nat.succ_ne_zero, List.length_map, hl, h0, srcT, p5q, Tryz.sl40]
 refine ⟨by rw [k9q]; simp, ?_⟩
 rw [h0z]
 have hc0 := th_copy f
 simp only [List.length_map] at hc0
 rw [hc0, ← b8j f g]
 refine hK3 _ _ ?_
 refine vsk fun K4 hK4 => ?_
 refine vsk fun K5 hK5 => ?_
 refine j9q false ?_
 simp only [wops, gow, wop, vopx, vop, d3q, e7q, lpv, a1q, flat, if_true, if_false, Nat.reduceEqDiff, Nat.reduceLT, hl]
 refine hK5 _ _ ?_
 refine a5q ?_
 refine c2q (fun n e' s' => ∃ i : Nat, n = f.length - i ∧ i ≤ f.length ∧ e'.length = 39 ∧ ev e' (.tmp 1) = .t (c0q g) ∧ ev e' (.tmp 6) = .loc s.next 0 f.length ∧ ev e' (.tmp 15) = .loc s.next 0 f.length ∧ ev e' (.tmp 16) = I f.length ∧ ev e' (.tmp 17) = I i ∧ s' = s.add (.arr 1 3 (thC f g i)) ∧ (f.take i).all (fun y => decide (0 ≤ y) && decide (y < g.length)) = true) (⟨0, rfl, Nat.zero_le _, ?_⟩) ?_
 ·simp only [d3q, lpv, hl, h1, if_true, if_false, Nat.reduceEqDiff, Nat.reduceLT]
  exact ⟨trivial, trivial, trivial, trivial, trivial, rfl, trivial, rfl⟩
 clear hl h0 h1 e
 rintro n e _ ⟨i, rfl, hi, hl, h1, h6, h15, h16, h17, rfl, hall⟩
 have hm := p5q s (.arr 1 3 (thC f g i))
 refine vsk fun K6 hK6 => ?_
 refine j9q false ?_
 simp only [wops, gow, wop, vopx, a1q, opII, h16, h17]
 refine hK6 _ _ ?_
 refine vsk fun K7 hK7 => ?_
 refine vck fun A B hA hB => ?_
 simp only [b2q, d3q, if_true, Nat.reduceLT, decide_eq_true_eq, decide_eq_false_iff_not, hl]
 refine ⟨fun hc18 => hA ?_, fun hc18 => hB ?_⟩
 ·clear hA hB A B
  refine a9q ?_
  refine hK7 _ _ ?_
  refine vsk fun K8 hK8 => ?_
  refine a5q ?_
  refine vsk fun K9 hK9 => ?_
  have hlt : i < f.length := by omega
  have hgi := thC_get f g hlt
  refine j9q false ?_
  simp only [wops, gow, wop, vopx, vop, d3q, lpv, a1q, if_true, if_false, Nat.reduceEqDiff, Nat.reduceLT, a8q, b0q, Nat.zero_add, Nat.mul_one, true_and, Int.toNat_natCast, List.getElem?_map, Option.map_some, Int.natCast_nonneg, hl, h15, h17, Tryz.ag3, Tryz.sz3, Tryz.un40, hm, hgi]
  refine ⟨⟨_, rfl⟩, by omega, ?_⟩
  refine hK9 _ _ ?_
  refine vsk fun K10 hK10 => ?_
  refine vsk fun K11 hK11 => ?_
  rcases Int.lt_or_le f[i] 0 with hneg | hneg
  ·refine j9q false ?_
   simp only [wops, gow, wop, vopx, vop, d3q, e7q, lpv, a1q, flat, if_true, if_false, Nat.reduceEqDiff, Nat.reduceLT, opII, gtmp, List.getElem?_toArray, List.getElem?_cons_zero, List.getElem?_cons_succ, ne_eq, not_false_eq_true, true_and, decide_true, true_implies, false_implies, reduceCtorEq, hl, h1, e2q, hneg]
   refine hK11 _ _ ?_
   refine vck fun A B hA hB => ?_
   simp only [b2q, d3q, lpv, if_true, if_false, Nat.reduceEqDiff, Nat.reduceLT, true_implies, reduceCtorEq, false_implies, and_true, hl]
   refine hA ?_
   clear hA hB A B
   refine vsk fun K12 hK12 => ?_
   refine j9q false ?_
   simp only [wops, gow, wop, vopx, vop, e7q, a1q, flat, if_true]
   refine hK12 _ _ ?_
   refine b1q ?_
   have hbad : f.all (fun y => decide (0 ≤ y) && decide (y < g.length)) = false := by
    rw [List.all_eq_false]
    exact ⟨f[i], List.getElem_mem hlt, by simp; omega⟩
   have hres : thenS f g = ([], false) := by simp [thenS, hbad]
   rw [hres] at hQ
   refine hQ _ _ _ (.inr rfl) (g3q (by omega) ?_ ?_ fun m b hl h => l6q s _ hl h)
   ·simp only [d3q, lpv, hl, if_true, if_false, Nat.reduceEqDiff, Nat.reduceLT]
   ·simp only [d3q, lpv, hl, if_true, if_false, Nat.reduceEqDiff, Nat.reduceLT]
  ·refine j9q false ?_
   simp only [wops, gow, wop, vopx, vop, d3q, e7q, lpv, a1q, flat, if_true, if_false, Nat.reduceEqDiff, Nat.reduceLT, opII, gtmp, List.getElem?_toArray, List.getElem?_cons_zero, List.getElem?_cons_succ, ne_eq, and_true, decide_false, true_implies, false_implies, not_true_eq_false, Bool.false_eq_true, hl, h1, e2q, Int.not_lt.2 hneg]
   refine hK11 _ _ ?_
   refine vck fun A B hA hB => ?_
   simp only [b2q, d3q, lpv, if_true, if_false, Nat.reduceEqDiff, Nat.reduceLT, decide_eq_true_eq, decide_eq_false_iff_not, hl]
   refine ⟨fun hc29 => hA ?_, fun hc29 => hB ?_⟩
   ·clear hA hB A B
    refine vsk fun K13 hK13 => ?_
    refine j9q false ?_
    simp only [wops, gow, wop, vopx, vop, e7q, a1q, flat, if_true]
    refine hK13 _ _ ?_
    refine b1q ?_
    have hbad : f.all (fun y => decide (0 ≤ y) && decide (y < g.length)) = false := by
     rw [List.all_eq_false]
     exact ⟨f[i], List.getElem_mem hlt, by simp; omega⟩
    have hres : thenS f g = ([], false) := by simp [thenS, hbad]
    rw [hres] at hQ
    refine hQ _ _ _ (.inr rfl) (g3q (by omega) ?_ ?_ fun m b hl h => l6q s _ hl h)
    ·simp only [d3q, lpv, hl, if_true, if_false, Nat.reduceEqDiff, Nat.reduceLT]
    ·simp only [d3q, lpv, hl, if_true, if_false, Nat.reduceEqDiff, Nat.reduceLT]
   ·clear hA hB A B
    refine a9q ?_
    refine hK10 _ _ ?_
    have hlt2 : f[i].toNat < g.length := by omega
    have hgv : g[f[i].toNat]? = some (g.getD f[i].toNat 0) := by rw [List.getD_eq_getElem?_getD, List.getElem?_eq_getElem hlt2]; rfl
    refine j9q false ?_
    simp only [x0z, wops, gow, wop, vopx, vop, d3q, lpv, a1q, b5q, if_true, if_false, Nat.reduceEqDiff, Nat.reduceLT, V.cells, a8q, b0q, Sg.frzL, Sg.frz1, List.length_cons, List.length_nil, Nat.zero_add, Nat.mul_one, true_and, Int.toNat_natCast, List.getElem?_map, Option.map_some, List.length_map, Int.natCast_nonneg, hl, h1, h6, Tryz.ag3, Tryz.sz3, Tryz.un40, hm, hgv]
    refine ⟨hneg, hlt2, ⟨_, rfl⟩, by omega, by rw [c6z]; omega, ?_⟩
    rw [thC_set f g hlt, h0z]
    refine hK8 _ _ ?_
    refine j9q false ?_
    simp only [wops, gow, wop, vopx, vop, d3q, e7q, lpv, a1q, flat, if_true, if_false, Nat.reduceEqDiff, Nat.reduceLT, opII, true_and, hl, h1, h6, h15, h16, h17]
    refine ⟨⟨by omega, by omega⟩, f.length - (i + 1), by omega, i + 1, rfl, by omega, ?_⟩
    refine ⟨by push_cast; rfl, rfl, ?_⟩
    rw [List.take_add_one, List.getElem?_eq_getElem hlt, List.all_append, hall]
    simp only [Option.toList_some, List.all_cons, List.all_nil, Bool.and_true, Bool.true_and, Bool.and_eq_true, decide_eq_true_eq]
    omega
 ·clear hA hB A B
  refine c1q ?_
  simp only [a1q, b5q, if_true]
  refine hK4 _ _ ?_
  refine vsk fun K14 hK14 => ?_
  refine j9q false ?_
  simp only [wops, gow, wop, vopx, vop, d3q, e7q, lpv, a1q, flat, if_true, if_false, Nat.reduceEqDiff, Nat.reduceLT, hl, h6]
  refine hK14 _ _ ?_
  refine b1q ?_
  have hil : i = f.length := by omega
  rw [hil, List.take_length] at hall
  have hres : thenS f g = (f.map fun y => g.getD y.toNat 0, true) := by simp only [thenS, hall, if_true]
  have hcs : thC f g i = (f.map fun y => g.getD y.toNat 0).map TI := by rw [hil]; simp [thC]
  rw [hres] at hQ
  rw [hcs] at hm ⊢
  refine hQ _ _ _ (.inr rfl) (s8q (n := s.next) (len := f.length) ?_ ?_ hm (by simp) (Nat.le_refl _) fun m b hl h => l6q s _ hl h)
  ·simp only [d3q, lpv, hl, if_true, if_false, Nat.reduceEqDiff, Nat.reduceLT]
  ·simp only [d3q, lpv, hl, if_true, if_false, Nat.reduceEqDiff, Nat.reduceLT]
end Go.Proofs

open Go Go.V
namespace Go.Proofs
set_option maxRecDepth 8000 in
theorem x2x (o : Ob) (h1 : o.labels.length ≤ 9223372036854775807) (h2 : o.pairs.length ≤ 9223372036854775807) : f7q Tryz.prog 6 [vObj o] (Bo (fewS o)) := by
 refine b4q Tryz.func6 rfl fun s Q hQ => ?_
 obtain ⟨e, he, hl, h0⟩ : ∃ e : Env, ([vObj o] ++ List.replicate (Tryz.f6.ntmps - [vObj o].length) .junk) = e ∧ e.length = 28 ∧ ev e (.tmp 0) = vObj o := ⟨_, rfl, rfl, rfl⟩
 rw [he]
 clear he
 refine vsk fun K1 hK1 => j9q false ?_
 simp only [wops, gow, wop, vopx, vop, e7q, h0, a1q, flat, if_true, V.cells]
 refine hK1 _ _ ?_
 refine vsk fun K1 hK1 => ?_
 refine vsk fun K2 hK2 => j9q false ?_
 simp only [wops, gow, wop, vopx, vop, e7q, a1q, flat, if_true]
 refine hK2 _ _ ?_
 refine a5q ?_
 have hm := p5q s (.box 29 [.t (d1q o.labels), .t (b3q o.pairs)])
 generalize hs1 : s.add (.box 29 [.t (d1q o.labels), .t (b3q o.pairs)]) = s1 at hm ⊢
 refine c2q (fun n e' s' => ∃ i : Nat, n = o.labels.length - i ∧ i ≤ o.labels.length ∧ e'.length = 28 ∧ ev e' (.tmp 1) = .ptr s.next 0 ∧ ev e' (.tmp 3) = I i ∧ s' = s1 ∧ (o.labels.take i).all (fun b => decide (b.size ≤ 100)) = true)
  ⟨0, rfl, Nat.zero_le _, ?_⟩ ?_
 ·simp only [d3q, lpv, hl, if_true, if_false, Nat.reduceEqDiff, Nat.reduceLT]
  exact ⟨trivial, trivial, rfl, trivial, rfl⟩
 clear hl h0 e
 rintro n e _ ⟨i, rfl, hi, hl, h1', h3, rfl, htk⟩
 refine vsk fun K2 hK2 => ?_
 refine vsk fun K3 hK3 => j9q false ?_
 simp only [wops, gow, wop, vopx, vop, d3q, lpv, hl, h1', h3, a1q, if_true, if_false, Nat.reduceEqDiff, Nat.reduceLT, Tryz.fd29_0, Tryz.sz26, Tryz.ag26, a8q, b0q, hm, Tryz.un26, c9q, opII, List.getElem?_cons_zero, Nat.add_zero, ne_eq, not_false_eq_true, true_and, Nat.succ_ne_zero]
 refine hK3 _ _ ?_
 refine vck fun A B hA hB => ?_
 simp only [b2q, d3q, lpv, hl, if_true, if_false, Nat.reduceEqDiff, Nat.reduceLT, decide_eq_true_eq, decide_eq_false_iff_not]
 refine ⟨fun hlt => hA ?_, fun hlt => hB ?_⟩
 rotate_left
 ·refine c1q ?_
  simp only [a1q, b5q, if_true]
  refine hK1 _ _ ?_
  refine vsk fun K4 hK4 => j9q false ?_
  have hil : i = o.labels.length := by omega
  have h50 : (((o.labels.length : Nat) : Int) ≤ 50) = (o.labels.length ≤ 50) := by rw [← Int.ofNat_le]; rfl
  have h200 : (((o.pairs.length : Nat) : Int) ≤ 200) = (o.pairs.length ≤ 200) := by rw [← Int.ofNat_le]; rfl
  rcases Nat.lt_or_ge 50 o.labels.length with h51 | h51
  ·have h52 : ¬ (o.labels.length ≤ 50) := Nat.not_le_of_lt h51
   simp only [wops, gow, wop, vopx, vop, d3q, e7q, lpv, hl, h1', a1q, flat, if_true, if_false, Nat.reduceEqDiff, Nat.reduceLT, Tryz.fd29_0, Tryz.fd29_1, Tryz.sz27, Tryz.ag27, Tryz.sz26, Tryz.ag26, a8q, b0q, hm, Tryz.un26, Tryz.un27, c9q, g2q, opII, List.getElem?_cons_zero, List.getElem?_cons_succ, Nat.add_zero, Nat.zero_add, ne_eq, not_false_eq_true, true_and, Nat.succ_ne_zero, gtmp, List.getElem?_toArray, h50, h200, h52, decide_false, true_implies, false_implies, Bool.false_eq_true]
   refine hK4 _ _ ?_
   refine b1q ?_
   refine hQ _ _ _ (.inr rfl) (a7q ?_ fun n b hn h => ?_)
   ·simp only [d3q, lpv, hl, if_true, if_false, Nat.reduceEqDiff, Nat.reduceLT]
    rw [hil, List.take_length] at htk
    simp only [fewS, htk, Bool.true_and, h52, decide_false, Bool.false_and]
   ·rw [← hs1]; exact l6q s _ hn h
  ·have h52 : (o.labels.length ≤ 50) := h51
   simp only [wops, gow, wop, vopx, vop, d3q, e7q, lpv, hl, h1', a1q, flat, if_true, if_false, Nat.reduceEqDiff, Nat.reduceLT, Tryz.fd29_0, Tryz.fd29_1, Tryz.sz27, Tryz.ag27, Tryz.sz26, Tryz.ag26, a8q, b0q, hm, Tryz.un26, Tryz.un27, c9q, g2q, opII, List.getElem?_cons_zero, List.getElem?_cons_succ, Nat.add_zero, Nat.zero_add, ne_eq, not_false_eq_true, true_and, Nat.succ_ne_zero, gtmp, List.getElem?_toArray, h50, h200, h52, decide_true, true_implies, false_implies, not_true_eq_false, and_true]
   refine hK4 _ _ ?_
   refine b1q ?_
   refine hQ _ _ _ (.inr rfl) (a7q ?_ fun n b hn h => ?_)
   ·simp only [d3q, lpv, hl, if_true, if_false, Nat.reduceEqDiff, Nat.reduceLT]
    rw [hil, List.take_length] at htk
    simp only [fewS, htk, Bool.true_and, h52, decide_true, Bool.true_and]
   ·rw [← hs1]; exact l6q s _ hn h
 refine a9q ?_
 refine hK2 _ _ ?_
 refine vsk fun K2 hK2 => a5q ?_
 refine vsk fun K3 hK3 => ?_
 have hlt' : i < o.labels.length := by omega
 have hgi : o.labels[i]? = some o.labels[i] := List.getElem?_eq_getElem hlt'
 refine j9q false ?_
 simp only [wops, gow, wop, vopx, vop, d3q, e7q, lpv, hl, h1', h3, a1q, flat, if_true, if_false, Nat.reduceEqDiff, Nat.reduceLT, Tryz.fd29_0, Tryz.sz26, Tryz.ag26, Tryz.sz9, Tryz.ag9, a8q, b0q, hm, Tryz.un26, opII, List.getElem?_cons_zero, Nat.add_zero, ne_eq, not_false_eq_true, true_and, Nat.succ_ne_zero, Int.toNat_natCast, List.getElem?_map, Nat.mul_one, hgi, Option.map_some, List.length_map, Int.natCast_nonneg, hlt', Tryz.underlying9]
 refine hK3 _ _ ?_
 refine vck fun A B hA hB => ?_
 simp only [b2q, d3q, lpv, hl, if_true, if_false, Nat.reduceEqDiff, Nat.reduceLT, decide_eq_true_eq, decide_eq_false_iff_not]
 refine ⟨fun hbig => hA ?_, fun hbig => hB ?_⟩
 ·refine vsk fun K5 hK5 => j9q false ?_
  simp only [wops, gow, wop, vopx, vop, e7q, a1q, flat, if_true]
  refine hK5 _ _ ?_
  refine b1q ?_
  refine hQ _ _ _ (.inr rfl) (a7q ?_ fun n b hn h => ?_)
  ·simp only [d3q, lpv, hl, if_true, if_false, Nat.reduceEqDiff, Nat.reduceLT]
   have hall : o.labels.all (fun b => decide (b.size ≤ 100)) = false := by
    rw [List.all_eq_false]
    exact ⟨o.labels[i], List.getElem_mem hlt', by simp; omega⟩
   simp only [fewS, hall, Bool.false_and]
  ·rw [← hs1]; exact l6q s _ hn h
 refine a9q ?_
 refine hK2 _ _ ?_
 refine j9q false ?_
 simp only [wops, gow, wop, vopx, vop, d3q, e7q, lpv, hl, h1', h3, a1q, flat, if_true, if_false, Nat.reduceEqDiff, Nat.reduceLT, opII]
 refine ⟨⟨by omega, by omega⟩, o.labels.length - (i + 1), by omega, i + 1, rfl, by omega, ?_⟩
 refine ⟨trivial, trivial, by push_cast; rfl, trivial, ?_⟩
 rw [List.take_add_one, hgi]
 simp only [List.all_append, htk, Option.toList_some, List.all_cons, List.all_nil, Bool.and_true, Bool.true_and, decide_eq_true_eq]
 omega
end Go.Proofs

open Go Go.V
namespace Go.Proofs
theorem x7z {α : Type} {l m : List α} {i : Nat} {x : α} (h : l.take i = m.take i) (h1 : l[i]? = some x) (h2 : m[i]? = some x) : l.take (i + 1) = m.take (i + 1) := by
 rw [List.take_add_one, List.take_add_one, h, h1, h2]
theorem f1x {α : Type} {l m : List α} (h : l.take l.length = m.take l.length) (hl : l.length = m.length) : l = m := by
 rw [List.take_length, hl, List.take_length] at h; exact h
set_option maxRecDepth 20000 in
theorem x1z (f g : List Int) (hf : f.length < 1000000000) (hg : g.length < 1000000000) : f7q Tryz.prog 13 [.t (c0q f), .t (c0q g)] (Bo (f == g)) := by
 refine b4q Tryz.func13 rfl fun s Q hQ => ?_
 obtain ⟨e, he, hl, h0, h1⟩ : ∃ e : Env, ([.t (c0q f), .t (c0q g)] ++ List.replicate (Tryz.f13.ntmps - ([.t (c0q f), .t (c0q g)] : List V).length) .junk) = e ∧ e.length = 26 ∧ ev e (.tmp 0) = .t (c0q f) ∧ ev e (.tmp 1) = .t (c0q g) := ⟨_, rfl, rfl, rfl, rfl⟩
 rw [he]
 clear he
 refine vsk fun K1 hK1 => ?_
 refine a3q 0 [] ?_
 simp only [bs, ↓vopx, ↓vop, a1q, flat, wocs, ↓goc, ↓woc, ↓a2q]
 refine hK1 _ _ ?_
 refine vsk fun K2 hK2 => ?_
 refine vsk fun K3 hK3 => ?_
 refine a3q 0 [] ?_
 simp only [bs, ↓vopx, ↓vop, Nat.reduceBEq, a1q, Nat.reduceLT, opII, hl, h0, h1, wocs, ↓goc, ↓woc, ↓a2q, e2q, Tryz.underlying40]
 refine hK3 _ _ ?_
 refine vck fun A B hA hB => ?_
 simp only [b2q, a0q, lpv, Nat.reduceLT, bne_iff_ne, bne_eq_false_iff_eq, ne_eq, hl]
 refine ⟨fun hc10 => hA ?_, fun hc10 => hB ?_⟩
 ·clear hA hB A B
  refine vsk fun K4 hK4 => ?_
  refine a3q 0 [] ?_
  simp only [bs, ↓vopx, ↓vop, a1q, flat, wocs, ↓goc, ↓woc, ↓a2q]
  refine hK4 _ _ ?_
  refine b1q ?_
  refine hQ _ _ _ (.inr rfl) (a7q ?_ fun n b hn h => h)
  try simp only [a0q, lpv, hl, Nat.reduceLT]
  have hne : ¬ f = g := fun e => by subst e; omega
  simp [hne]
 ·clear hA hB A B
  refine a9q ?_
  refine hK2 _ _ ?_
  refine vsk fun K5 hK5 => ?_
  refine vsk fun K6 hK6 => ?_
  refine a3q 0 [] ?_
  simp only [bs, ↓vopx, ↓vop, a1q, flat, wocs, ↓goc, ↓woc, ↓a2q]
  refine hK6 _ _ ?_
  refine a5q ?_
  refine c2q (fun mm e' s' => ∃ i : Nat, mm = f.length - i ∧ i ≤ f.length ∧ e'.length = 26 ∧ ev e' (.tmp 0) = .t (c0q f) ∧ ev e' (.tmp 1) = .t (c0q g) ∧ ev e' (.tmp 5) = I i ∧ s = s' ∧ f.take i = g.take i) (⟨0, rfl, Nat.zero_le _, ?_⟩) ?_
  ·try simp only [a0q, a4q, Nat.reduceBEq, lpv, hl, h0, h1, Nat.reduceLT, true_and]
   repeat ((with_reducible refine And.intro ?_ ?_); · trivial)
   first | trivial | simp
  rintro mm e _ ⟨i, rfl, hle_i, hl, h0, h1, h_i, rfl, htk⟩
  refine vsk fun K7 hK7 => ?_
  refine vsk fun K8 hK8 => ?_
  refine a3q 0 [] ?_
  simp only [bs, ↓vopx, ↓vop, Nat.reduceBEq, a1q, Nat.reduceLT, opII, hl, h0, h_i, wocs, ↓goc, ↓woc, ↓a2q, e2q, Tryz.underlying40]
  refine hK8 _ _ ?_
  refine vck fun A B hA hB => ?_
  simp only [b2q, a0q, lpv, Nat.reduceLT, decide_eq_true_eq, decide_eq_false_iff_not, hl]
  refine ⟨fun hc14 => hA ?_, fun hc14 => hB ?_⟩
  ·clear hA hB A B
   refine a9q ?_
   refine hK7 _ _ ?_
   refine vsk fun K9 hK9 => ?_
   refine a5q ?_
   refine vsk fun K10 hK10 => ?_
   have hlt : i < f.length := by omega
   obtain ⟨x, hx⟩ : ∃ x, f[i]? = some x := ⟨_, List.getElem?_eq_getElem hlt⟩
   obtain ⟨y, hy⟩ : ∃ y, g[i]? = some y := ⟨_, List.getElem?_eq_getElem (by omega)⟩
   refine c5q Tryz.mixed 8 [0, 0, 1, 1, 0, 0, 1, 1] [] [] 0 (by decide +kernel) (by simp [lpv, hl]) rfl ?_
   simp only [bs, ↓vopx, ↓vop, Nat.reduceBEq, a1q, Nat.reduceLT, a8q, b0q, opII, opSS, hl, h0, h1, h_i, wocs, ↓goc, ↓woc, ↓e3q, ↓farC, chn, ↓goq, ↓woq, List.zip_cons_cons, List.zip_nil_right, Tryz.ag3, Tryz.sz3, Tryz.un40, hx, hy]
   repeat ((with_reducible refine And.intro ?_ ?_); · first | (with_reducible assumption) | omega)
   refine hK10 _ _ ?_
   refine vck fun A B hA hB => ?_
   simp only [b2q, a0q, lpv, Nat.reduceLT, bne_iff_ne, bne_eq_false_iff_eq, ne_eq, hl]
   refine ⟨fun hcd => hA ?_, fun hcd => hB ?_⟩
   ·clear hA hB A B
    refine vsk fun K11 hK11 => ?_
    refine a3q 0 [] ?_
    simp only [bs, ↓vopx, ↓vop, a1q, flat, wocs, ↓goc, ↓woc, ↓a2q]
    refine hK11 _ _ ?_
    refine b1q ?_
    refine hQ _ _ _ (.inr rfl) (a7q ?_ fun n b hn h => h)
    try simp only [a0q, lpv, hl, Nat.reduceLT]
    have hne : ¬ f = g := fun e => by subst e; rw [hx] at hy; cases hy; omega
    simp [hne]
   ·clear hA hB A B
    refine a9q ?_
    refine hK9 _ _ ?_
    refine a3q 0 [] ?_
    simp only [bs, ↓vopx, ↓vop, Nat.reduceBEq, a1q, flat, Nat.reduceLT, opII, hl, h0, h1, h_i, wocs, ↓goc, ↓woc, ↓a2q]
    repeat ((with_reducible refine And.intro ?_ ?_); · exact ⟨by omega, by omega⟩)
    refine ⟨f.length - (i + 1), by omega, i + 1, rfl, by omega, ?_⟩
    try simp only [a0q, a4q, Nat.reduceBEq, lpv, hl, h0, h1, h_i, if_true, if_false, Nat.reduceEqDiff, Nat.reduceLT, true_and, and_true]
    repeat ((with_reducible refine And.intro ?_ ?_); · trivial)
    exact x7z htk hx (by rw [hy]; congr 1; omega)
  ·clear hA hB A B
   have han : i = f.length := by omega
   subst han
   refine c1q ?_
   simp only [a1q, b5q, if_true]
   refine hK5 _ _ ?_
   refine vsk fun K12 hK12 => ?_
   refine a3q 0 [] ?_
   simp only [bs, ↓vopx, ↓vop, a1q, flat, wocs, ↓goc, ↓woc, ↓a2q]
   refine hK12 _ _ ?_
   refine b1q ?_
   refine hQ _ _ _ (.inr rfl) (a7q ?_ fun n b hn h => h)
   try simp only [a0q, lpv, hl, Nat.reduceLT]
   rw [f1x htk (by omega)]; simp
set_option maxRecDepth 20000 in
theorem eqInts_ (f g : List Int) (hf : f.length < 1000000000) (hg : g.length < 1000000000) : f7q Tryz.prog 58 [.t (c0q f), .t (c0q g)] (Bo (f == g)) := by
 refine b4q Tryz.func58 rfl fun s Q hQ => ?_
 obtain ⟨e, he, hl, h0, h1⟩ : ∃ e : Env, ([.t (c0q f), .t (c0q g)] ++ List.replicate (Tryz.f58.ntmps - ([.t (c0q f), .t (c0q g)] : List V).length) .junk) = e ∧ e.length = 26 ∧ ev e (.tmp 0) = .t (c0q f) ∧ ev e (.tmp 1) = .t (c0q g) := ⟨_, rfl, rfl, rfl, rfl⟩
 rw [he]
 clear he
 refine vsk fun K1 hK1 => ?_
 refine a3q 0 [] ?_
 simp only [bs, ↓vopx, ↓vop, a1q, flat, wocs, ↓goc, ↓woc, ↓a2q]
 refine hK1 _ _ ?_
 refine vsk fun K2 hK2 => ?_
 refine vsk fun K3 hK3 => ?_
 refine a3q 0 [] ?_
 simp only [bs, ↓vopx, ↓vop, Nat.reduceBEq, a1q, Nat.reduceLT, opII, hl, h0, h1, wocs, ↓goc, ↓woc, ↓a2q, e2q, Tryz.underlying40]
 refine hK3 _ _ ?_
 refine vck fun A B hA hB => ?_
 simp only [b2q, a0q, lpv, Nat.reduceLT, bne_iff_ne, bne_eq_false_iff_eq, ne_eq, hl]
 refine ⟨fun hc10 => hA ?_, fun hc10 => hB ?_⟩
 ·clear hA hB A B
  refine vsk fun K4 hK4 => ?_
  refine a3q 0 [] ?_
  simp only [bs, ↓vopx, ↓vop, a1q, flat, wocs, ↓goc, ↓woc, ↓a2q]
  refine hK4 _ _ ?_
  refine b1q ?_
  refine hQ _ _ _ (.inr rfl) (a7q ?_ fun n b hn h => h)
  try simp only [a0q, lpv, hl, Nat.reduceLT]
  have hne : ¬ f = g := fun e => by subst e; omega
  simp [hne]
 ·clear hA hB A B
  refine a9q ?_
  refine hK2 _ _ ?_
  refine vsk fun K5 hK5 => ?_
  refine vsk fun K6 hK6 => ?_
  refine a3q 0 [] ?_
  simp only [bs, ↓vopx, ↓vop, Nat.reduceBEq, a1q, flat, Nat.reduceLT, hl, h0, wocs, ↓goc, ↓woc, ↓a2q, e2q, Tryz.underlying40]
  refine hK6 _ _ ?_
  refine a5q ?_
  refine c2q (fun mm e' s' => ∃ i : Nat, mm = f.length - i ∧ i ≤ f.length ∧ e'.length = 26 ∧ ev e' (.tmp 0) = .t (c0q f) ∧ ev e' (.tmp 1) = .t (c0q g) ∧ ev e' (.tmp 12) = I f.length ∧ ev e' (.tmp 13) = I i ∧ s = s' ∧ f.take i = g.take i) (⟨0, rfl, Nat.zero_le _, ?_⟩) ?_
  ·try simp only [a0q, a4q, Nat.reduceBEq, lpv, hl, h0, h1, Nat.reduceLT, true_and]
   repeat ((with_reducible refine And.intro ?_ ?_); · trivial)
   first | trivial | simp
  rintro mm e _ ⟨i, rfl, hle_i, hl, h0, h1, h12, h_i, rfl, htk⟩
  refine vsk fun K7 hK7 => ?_
  refine a3q 0 [] ?_
  simp only [a1q, opII, h12, h_i, wocs, ↓goc, ↓woc]
  refine hK7 _ _ ?_
  refine vsk fun K8 hK8 => ?_
  refine vck fun A B hA hB => ?_
  simp only [b2q, a0q, Nat.reduceLT, decide_eq_true_eq, decide_eq_false_iff_not, hl]
  refine ⟨fun hc14 => hA ?_, fun hc14 => hB ?_⟩
  ·clear hA hB A B
   refine a9q ?_
   refine hK8 _ _ ?_
   refine vsk fun K9 hK9 => ?_
   refine a5q ?_
   refine vsk fun K10 hK10 => ?_
   refine a3q 0 [] ?_
   simp only [bs, ↓vopx, ↓vop, Nat.reduceBEq, a1q, Nat.reduceLT, hl, h_i, wocs, ↓goc, ↓woc, ↓a2q]
   refine hK10 _ _ ?_
   refine vsk fun K11 hK11 => ?_
   have hlt : i < f.length := by omega
   obtain ⟨x, hx⟩ : ∃ x, f[i]? = some x := ⟨_, List.getElem?_eq_getElem hlt⟩
   obtain ⟨y, hy⟩ : ∃ y, g[i]? = some y := ⟨_, List.getElem?_eq_getElem (by omega)⟩
   refine c5q Tryz.mixed 8 [0, 0, 1, 1, 0, 0, 1, 1] [] [] 0 (by decide +kernel) (by simp [lpv, hl]) rfl ?_
   simp only [bs, ↓vopx, ↓vop, Nat.reduceBEq, a1q, Nat.reduceLT, a8q, b0q, opII, opSS, hl, h0, h1, wocs, ↓goc, ↓woc, ↓e3q, ↓farC, chn, ↓goq, ↓woq, List.zip_cons_cons, List.zip_nil_right, Tryz.ag3, Tryz.sz3, Tryz.un40, hx, hy]
   repeat ((with_reducible refine And.intro ?_ ?_); · first | (with_reducible assumption) | omega)
   refine hK11 _ _ ?_
   refine vck fun A B hA hB => ?_
   simp only [b2q, a0q, lpv, Nat.reduceLT, bne_iff_ne, bne_eq_false_iff_eq, ne_eq, hl]
   refine ⟨fun hcd => hA ?_, fun hcd => hB ?_⟩
   ·clear hA hB A B
    refine vsk fun K12 hK12 => ?_
    refine a3q 0 [] ?_
    simp only [bs, ↓vopx, ↓vop, a1q, flat, wocs, ↓goc, ↓woc, ↓a2q]
    refine hK12 _ _ ?_
    refine b1q ?_
    refine hQ _ _ _ (.inr rfl) (a7q ?_ fun n b hn h => h)
    try simp only [a0q, lpv, hl, Nat.reduceLT]
    have hne : ¬ f = g := fun e => by subst e; rw [hx] at hy; cases hy; omega
    simp [hne]
   ·clear hA hB A B
    refine a9q ?_
    refine hK9 _ _ ?_
    refine a3q 0 [] ?_
    simp only [bs, ↓vopx, ↓vop, Nat.reduceBEq, a1q, flat, Nat.reduceLT, opII, hl, h0, h1, h12, h_i, wocs, ↓goc, ↓woc, ↓a2q]
    repeat ((with_reducible refine And.intro ?_ ?_); · exact ⟨by omega, by omega⟩)
    refine ⟨f.length - (i + 1), by omega, i + 1, rfl, by omega, ?_⟩
    try simp only [a0q, a4q, Nat.reduceBEq, lpv, hl, h0, h1, h12, h_i, if_true, if_false, Nat.reduceEqDiff, Nat.reduceLT, true_and, and_true]
    repeat ((with_reducible refine And.intro ?_ ?_); · trivial)
    exact x7z htk hx (by rw [hy]; congr 1; omega)
  ·clear hA hB A B
   have han : i = f.length := by omega
   subst han
   refine c1q ?_
   simp only [a1q, b5q, if_true]
   refine hK5 _ _ ?_
   refine vsk fun K13 hK13 => ?_
   refine a3q 0 [] ?_
   simp only [bs, ↓vopx, ↓vop, a1q, flat, wocs, ↓goc, ↓woc, ↓a2q]
   refine hK13 _ _ ?_
   refine b1q ?_
   refine hQ _ _ _ (.inr rfl) (a7q ?_ fun n b hn h => h)
   try simp only [a0q, lpv, hl, Nat.reduceLT]
   rw [f1x htk (by omega)]; simp
set_option maxRecDepth 20000 in
theorem g5x (f g : List Int) (hf : f.length < 1000000000) (hg : g.length < 1000000000) : f7q Tryz.prog 35 [.t (c0q f), .t (c0q g)] (Bo (f == g)) := by
 refine b4q Tryz.func35 rfl fun s Q hQ => ?_
 obtain ⟨e, he, hl, h0, h1⟩ : ∃ e : Env, ([.t (c0q f), .t (c0q g)] ++ List.replicate (Tryz.f35.ntmps - ([.t (c0q f), .t (c0q g)] : List V).length) .junk) = e ∧ e.length = 8 ∧ ev e (.tmp 0) = .t (c0q f) ∧ ev e (.tmp 1) = .t (c0q g) := ⟨_, rfl, rfl, rfl, rfl⟩
 rw [he]
 clear he
 refine vsk fun K1 hK1 => ?_
 refine a3q 0 [] ?_
 simp only [bs, ↓vopx, ↓vop, a1q, flat, wocs, ↓goc, ↓woc, ↓a2q]
 refine hK1 _ _ ?_
 refine vsk fun K2 hK2 => ?_
 refine a3q 0 [.pur (Bo (f == g))] ?_
 simp only [bs, ↓vopx, ↓vop, Nat.reduceBEq, a1q, Nat.reduceLT, hl, h0, h1, wocs, ↓goc, ↓woc, ↓a2q, ↓b8q, a6q]
 repeat ((with_reducible refine And.intro ?_ ?_); · exact ⟨Tryz.is58, eqInts_ f g hf hg⟩)
 refine hK2 _ _ ?_
 refine b1q ?_
 refine hQ _ _ _ (.inr rfl) (a7q ?_ fun n b hn h => ?_)
 ·simp only [a0q, lpv, hl, Nat.reduceLT]
 ·exact h
end Go.Proofs
