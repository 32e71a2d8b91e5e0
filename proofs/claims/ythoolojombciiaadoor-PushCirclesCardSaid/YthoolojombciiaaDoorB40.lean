/- Lemmas on the way to the statement of this claim; no conditions. -/
import Derived.Test.YthoolojombciiaaDoorProg
import Derived.KernelRfl
import Derived.Test.YthoolojombciiaaDoorB22
import Derived.Test.YthoolojombciiaaDoorB23
open Go Go.V
namespace Go.Proofs
theorem Tryd.mixed : Tryd.prog.follows .mixedOrders = true := by kernel_rfl
-- 0: ()
-- 1: func()
-- 2: int64
-- 3: int
theorem Tryd.sz3 : szOf Tryd.prog 3 = some 1 := by kernel_rfl
theorem Tryd.ag3 : V.isAgg Tryd.prog 3 = some false := by kernel_rfl
theorem Tryd.zv3 : zeroV Tryd.prog 3 = some [.int .i64 0] := by kernel_rfl
-- 4: bool
theorem Tryd.sz4 : szOf Tryd.prog 4 = some 1 := by kernel_rfl
theorem Tryd.ag4 : V.isAgg Tryd.prog 4 = some false := by kernel_rfl
theorem Tryd.zv4 : zeroV Tryd.prog 4 = some [.bool false] := by kernel_rfl
-- 5: uint8
-- 6: abi.BoundsErrorCode
-- 7: struct { x int64; y int; signed bool; code abi.BoundsErrorCode }
-- 8: runtime.boundsError
-- 9: string
theorem Tryd.sz9 : szOf Tryd.prog 9 = some 1 := by kernel_rfl
theorem Tryd.ag9 : V.isAgg Tryd.prog 9 = some false := by kernel_rfl
-- 10: runtime.errorString
-- 11: runtime.plainError
-- 12: uintptr
-- 13: struct { msg string; addr uintptr }
-- 14: runtime.errorAddressString
-- 15: *runtime.TypeAssertionError
-- 16: *runtime.PanicNilError
-- 17: *abi.Type
-- 18: struct { typ *abi.Type }
-- 19: maps.unhashableTypeError
-- 20: interface {}
-- 21: int32
-- 22: func() bool
-- 23: []string
theorem Tryd.sz23 : szOf Tryd.prog 23 = some 1 := by kernel_rfl
theorem Tryd.ag23 : V.isAgg Tryd.prog 23 = some false := by kernel_rfl
theorem Tryd.un23 : Tryd.prog.underlying 23 = some (.slice 9) := by kernel_rfl
theorem Tryd.sl23 : slInfo Tryd.prog 23 = some (9, 1, 16, [.string ⟨#[]⟩]) := by kernel_rfl
-- 24: []api.Pair
theorem Tryd.sz24 : szOf Tryd.prog 24 = some 1 := by kernel_rfl
theorem Tryd.ag24 : V.isAgg Tryd.prog 24 = some false := by kernel_rfl
theorem Tryd.zv24 : zeroV Tryd.prog 24 = some [.slice none 0 0] := by kernel_rfl
theorem Tryd.un24 : Tryd.prog.underlying 24 = some (.slice 30) := by kernel_rfl
theorem Tryd.sl24 : slInfo Tryd.prog 24 = some (30, 2, 16, [.int .i64 0, .int .i64 0]) := by kernel_rfl
-- 25: struct { Labels []string; Pairs []api.Pair }
-- 26: api.Obj
theorem Tryd.sz26 : szOf Tryd.prog 26 = some 2 := by kernel_rfl
theorem Tryd.ag26 : V.isAgg Tryd.prog 26 = some true := by kernel_rfl
theorem Tryd.zv26 : zeroV Tryd.prog 26 = some [.slice none 0 0, .slice none 0 0] := by kernel_rfl
theorem Tryd.fd26_0 : fieldOf Tryd.prog 26 0 = some (0, 23) := by kernel_rfl
theorem Tryd.fd26_1 : fieldOf Tryd.prog 26 1 = some (1, 24) := by kernel_rfl
theorem Tryd.st26 : stInfo Tryd.prog 26 = some ([(0, 1), (1, 1)], [.slice none 0 0, .slice none 0 0]) := by kernel_rfl
-- 27: []int
theorem Tryd.sz27 : szOf Tryd.prog 27 = some 1 := by kernel_rfl
theorem Tryd.ag27 : V.isAgg Tryd.prog 27 = some false := by kernel_rfl
theorem Tryd.zv27 : zeroV Tryd.prog 27 = some [.slice none 0 0] := by kernel_rfl
theorem Tryd.un27 : Tryd.prog.underlying 27 = some (.slice 3) := by kernel_rfl
theorem Tryd.sl27 : slInfo Tryd.prog 27 = some (3, 1, 8, [.int .i64 0]) := by kernel_rfl
-- 28: []uint8
-- 29: struct { A int; B int }
-- 30: api.Pair
theorem Tryd.sz30 : szOf Tryd.prog 30 = some 2 := by kernel_rfl
theorem Tryd.ag30 : V.isAgg Tryd.prog 30 = some true := by kernel_rfl
theorem Tryd.zv30 : zeroV Tryd.prog 30 = some [.int .i64 0, .int .i64 0] := by kernel_rfl
theorem Tryd.fd30_0 : fieldOf Tryd.prog 30 0 = some (0, 3) := by kernel_rfl
theorem Tryd.fd30_1 : fieldOf Tryd.prog 30 1 = some (1, 3) := by kernel_rfl
theorem Tryd.st30 : stInfo Tryd.prog 30 = some ([(0, 1), (1, 1)], [.int .i64 0, .int .i64 0]) := by kernel_rfl
-- 31: func(api.Obj, api.Obj, []int, []int) bool
-- 32: func([]int) bool
-- 33: func(api.Obj, api.Obj, []int) bool
-- 34: func(int) []int
-- 35: func(uint8, uint8) bool
-- 36: api.Errno
-- 37: (api.Obj, []int, []int, api.Errno)
-- 38: func(api.Obj, api.Obj, api.Obj, []int, []int) (api.Obj, []int, []int, api.Errno)
-- 39: func([]string) api.Obj
-- 40: func(uint8) bool
-- 41: ([]int, bool)
-- 42: func([]int, []int) ([]int, bool)
-- 43: func([]int, []int) bool
-- 44: func([]int)
-- 45: func([]int) []int
-- 46: func(api.Obj) bool
-- 47: *rel.Rel
theorem Tryd.sz47 : szOf Tryd.prog 47 = some 1 := by kernel_rfl
theorem Tryd.ag47 : V.isAgg Tryd.prog 47 = some false := by kernel_rfl
theorem Tryd.zv47 : zeroV Tryd.prog 47 = some [.pointer none] := by kernel_rfl
-- 48: func(api.Obj) *rel.Rel
-- 49: func([]api.Pair, func(api.Pair) bool) bool
-- 50: func(int, int) bool
theorem Tryd.sz50 : szOf Tryd.prog 50 = some 1 := by kernel_rfl
theorem Tryd.ag50 : V.isAgg Tryd.prog 50 = some false := by kernel_rfl
-- 51: func(api.Pair) bool
-- 52: func(api.Obj, api.Obj) (api.Obj, []int, []int, api.Errno)
-- 53: (api.Obj, []int, api.Errno)
-- 54: func(api.Obj, api.Obj, []int, []int) (api.Obj, []int, api.Errno)
-- 55: func(...api.Obj) bool
-- 56: [][]int
theorem Tryd.sz56 : szOf Tryd.prog 56 = some 1 := by kernel_rfl
theorem Tryd.ag56 : V.isAgg Tryd.prog 56 = some false := by kernel_rfl
theorem Tryd.zv56 : zeroV Tryd.prog 56 = some [.slice none 0 0] := by kernel_rfl
theorem Tryd.un56 : Tryd.prog.underlying 56 = some (.slice 27) := by kernel_rfl
theorem Tryd.sl56 : slInfo Tryd.prog 56 = some (27, 1, 24, [.slice none 0 0]) := by kernel_rfl
-- 57: (api.Obj, [][]int)
-- 58: func(...api.Obj) (api.Obj, [][]int)
-- 59: func([]int, int, int, int)
-- 60: func(uint) int
-- 61: uint
-- 62: func(api.Obj) api.Errno
-- 63: func(int) *rel.Rel
-- 64: func(func(api.Pair) bool)
-- 65: iter.Seq[cento/api.Pair]
-- 66: func([]api.Pair) iter.Seq[cento/api.Pair]
-- 67: func([]api.Pair, func(api.Pair) bool) int
-- 68: func(int) bool
-- 69: *bits.Row
theorem Tryd.sz69 : szOf Tryd.prog 69 = some 1 := by kernel_rfl
theorem Tryd.ag69 : V.isAgg Tryd.prog 69 = some false := by kernel_rfl
-- 70: []*bits.Row
theorem Tryd.sz70 : szOf Tryd.prog 70 = some 1 := by kernel_rfl
theorem Tryd.ag70 : V.isAgg Tryd.prog 70 = some false := by kernel_rfl
theorem Tryd.un70 : Tryd.prog.underlying 70 = some (.slice 69) := by kernel_rfl
theorem Tryd.sl70 : slInfo Tryd.prog 70 = some (69, 1, 8, [.pointer none]) := by kernel_rfl
-- 71: struct { rows []*bits.Row }
-- 72: rel.Rel
theorem Tryd.fd72_0 : fieldOf Tryd.prog 72 0 = some (0, 70) := by kernel_rfl
theorem Tryd.st72 : stInfo Tryd.prog 72 = some ([(0, 1)], [.slice none 0 0]) := by kernel_rfl
-- 73: *union.Union
theorem Tryd.sz73 : szOf Tryd.prog 73 = some 1 := by kernel_rfl
theorem Tryd.ag73 : V.isAgg Tryd.prog 73 = some false := by kernel_rfl
-- 74: func(int) *union.Union
-- 75: (api.Obj, []int)
-- 76: func(api.Obj, *union.Union) (api.Obj, []int)
-- 77: []api.Obj
theorem Tryd.sz77 : szOf Tryd.prog 77 = some 1 := by kernel_rfl
theorem Tryd.ag77 : V.isAgg Tryd.prog 77 = some false := by kernel_rfl
theorem Tryd.un77 : Tryd.prog.underlying 77 = some (.slice 26) := by kernel_rfl
theorem Tryd.sl77 : slInfo Tryd.prog 77 = some (26, 2, 48, [.slice none 0 0, .slice none 0 0]) := by kernel_rfl
-- 78: func(func(api.Obj) bool)
-- 79: iter.Seq[cento/api.Obj]
-- 80: func([]api.Obj) iter.Seq[cento/api.Obj]
-- 81: func([]int, int, int)
-- 82: slices.sortedHint
-- 83: (int, slices.sortedHint)
-- 84: func([]int, int, int) (int, slices.sortedHint)
-- 85: func([]int, int, int) bool
-- 86: func([]int, int, int, int) int
-- 87: (int, bool)
-- 88: func([]int, int, int, int) (int, bool)
-- 89: func(uint32) int
-- 90: uint32
-- 91: func(uint64) int
-- 92: uint64
theorem Tryd.sz92 : szOf Tryd.prog 92 = some 1 := by kernel_rfl
theorem Tryd.ag92 : V.isAgg Tryd.prog 92 = some false := by kernel_rfl
-- 93: func([]string) api.Errno
-- 94: func(api.Pair, api.Pair) int
-- 95: (*rel.Rel, api.Errno)
-- 96: func(int, []api.Pair) (*rel.Rel, api.Errno)
-- 97: func(int) *bits.Row
-- 98: func(int, bool)
-- 99: func() int
-- 100: []uint64
theorem Tryd.sz100 : szOf Tryd.prog 100 = some 1 := by kernel_rfl
theorem Tryd.ag100 : V.isAgg Tryd.prog 100 = some false := by kernel_rfl
theorem Tryd.un100 : Tryd.prog.underlying 100 = some (.slice 92) := by kernel_rfl
theorem Tryd.sl100 : slInfo Tryd.prog 100 = some (92, 1, 8, [.int .u64 0]) := by kernel_rfl
-- 101: struct { n int; w []uint64 }
-- 102: bits.Row
theorem Tryd.fd102_0 : fieldOf Tryd.prog 102 0 = some (0, 3) := by kernel_rfl
theorem Tryd.fd102_1 : fieldOf Tryd.prog 102 1 = some (1, 100) := by kernel_rfl
theorem Tryd.st102 : stInfo Tryd.prog 102 = some ([(0, 1), (1, 1)], [.int .i64 0, .slice none 0 0]) := by kernel_rfl
-- 103: struct { to []int }
-- 104: union.Union
theorem Tryd.fd104_0 : fieldOf Tryd.prog 104 0 = some (0, 27) := by kernel_rfl
theorem Tryd.st104 : stInfo Tryd.prog 104 = some ([(0, 1)], [.slice none 0 0]) := by kernel_rfl
-- 105: func(int) int
-- 106: func() []int
-- 107: func() [][]int
-- 108: func() *rel.Rel
-- 109: func() []api.Pair
-- 110: func(func([]int) bool)
-- 111: iter.Seq[[]int]
-- 112: func([][]int) iter.Seq[[]int]
-- 113: slices.xorshift
-- 114: func(int) uint
-- 115: func() uint64
-- 116: func([]int, int, *int) int
-- 117: *int
-- 118: func([]int, int, int, int, *int) int
-- 119: func([]string, func(string) bool) bool
-- 120: func(string) bool
-- 121: func(...int) int
-- 122: func(int, int) int
-- 123: func(*rel.Rel) bool
-- 124: func(func(int) bool)
-- 125: iter.Seq[int]
-- 126: func(int) iter.Seq[int]
-- 127: func(*bits.Row) bool
-- 128: func(func(int, int) bool)
-- 129: iter.Seq2[int,int]
-- 130: func() iter.Seq2[int,int]
-- 131: *slices.xorshift
-- 132: (int, int)
-- 133: func([]int, int, int, *int) (int, int)
-- 134: func([]string, func(string) bool) int
-- 135: func() iter.Seq[int]
-- 136: [64]uint8
-- 137: func() string
-- 138: struct { _interface *abi.Type; concrete *abi.Type; asserted *abi.Type; missingMethod string }
-- 139: runtime.TypeAssertionError
-- 140: [0]*runtime.PanicNilError
-- 141: struct { _ [0]*runtime.PanicNilError }
-- 142: runtime.PanicNilError
-- 143: abi.TFlag
-- 144: abi.Kind
-- 145: func(unsafe.Pointer, unsafe.Pointer) bool
-- 146: *uint8
-- 147: abi.NameOff
-- 148: abi.TypeOff
-- 149: struct { Size_ uintptr; PtrBytes uintptr; Hash uint32; TFlag abi.TFlag; Align_ uint8; FieldAlign_ uint8; Kind_ abi.Kind; Equal func(unsafe.Pointer, unsafe.Pointer) bool; GCData *uint8; Str abi.NameOff; PtrToThis abi.TypeOff }
-- 150: abi.Type
-- 151: unsafe.Pointer
end Go.Proofs

open Go Go.V
namespace Go.Proofs
structure Ob where
  labels : List ByteArray
  pairs : List (Int × Int)
abbrev tInts (l : List Int) : T := .sl 1 (l.map TI)
abbrev tStrs (l : List ByteArray) : T := .sl 1 (l.map TS)
abbrev pcells (p : Int × Int) : List T := [TI p.1, TI p.2]
abbrev tPairs (l : List (Int × Int)) : T := .sl 2 (l.flatMap pcells)
abbrev vObj (o : Ob) : V := .agg [.t (tStrs o.labels), .t (tPairs o.pairs)]
theorem len_tInts (l : List Int) : vlen (.t (tInts l)) = some l.length := by simp [vlen]
theorem len_tStrs (l : List ByteArray) : vlen (.t (tStrs l)) = some l.length := by simp [vlen]
theorem flat_length (l : List (Int × Int)) : (l.flatMap pcells).length = l.length * 2 := by
  induction l with
  | nil => rfl
  | cons a l ih => simp only [List.flatMap_cons, List.length_append, ih, List.length_cons, List.length_nil]; omega
theorem len_tPairs (l : List (Int × Int)) : vlen (.t (tPairs l)) = some l.length := by
  simp only [vlen, flat_length]; congr 1; omega
theorem add_old (s : Sg) (c : Blk) {n : Nat} {b : Blk} (hn : n < s.next) (h : s.m n = some b) : (s.add c).m n = some b := by
  have : n ≠ s.next := by omega
  simp [Sg.add, this, h]
theorem add_self (s : Sg) (b : Blk) : (s.add b).m s.next = some b := by simp [Sg.add]
end Go.Proofs

open Go Go.V
namespace Go.Proofs
def thenS (f g : List Int) : List Int × Bool := if f.all (fun y => decide (0 ≤ y) && decide (y < g.length)) = true then (f.map fun y => g.getD y.toNat 0, true) else ([], false)
def thC (f g : List Int) (i : Nat) : List T := ((f.take i).map (fun y => g.getD y.toNat 0) ++ f.drop i).map TI
theorem thC_length (f g : List Int) (i : Nat) : (thC f g i).length = f.length := by simp [thC]; omega
theorem thC_zero (f g : List Int) : thC f g 0 = f.map TI := by simp [thC]
theorem thC_get (f g : List Int) {i : Nat} (h : i < f.length) : (thC f g i)[i]? = some (TI f[i]) := by
  simp only [thC, List.getElem?_map]
  rw [List.getElem?_append_right (by rw [List.length_map, List.length_take]; omega), List.getElem?_drop]
  have : i + (i - ((f.take i).map fun y => g.getD y.toNat 0).length) = i := by rw [List.length_map, List.length_take]; omega
  rw [this, List.getElem?_eq_getElem h]; rfl
theorem thC_set (f g : List Int) {i : Nat} (h : i < f.length) : setAll (thC f g i) i [TI (g.getD f[i].toNat 0)] = thC f g (i + 1) := by
  have hl := thC_length f g i
  rw [setAll_one _ _ _ (by rw [thC_length]; exact h)]
  apply List.ext_getElem?
  intro j
  rw [List.getElem?_set, hl]
  simp only [thC, List.getElem?_map]
  rcases Nat.lt_trichotomy i j with hj | hj | hj
  · rw [if_neg (by omega), List.getElem?_append_right (by simp; omega), List.getElem?_append_right (by simp; omega), List.getElem?_drop, List.getElem?_drop]
    congr 2; simp; omega
  · subst hj
    rw [if_pos rfl, if_pos h, List.getElem?_append_left (by simp; omega), List.getElem?_map, List.getElem?_take, if_pos (by omega), List.getElem?_eq_getElem h]
    rfl
  · rw [if_neg (by omega), List.getElem?_append_left (by simp; omega), List.getElem?_append_left (by simp; omega), List.getElem?_map, List.getElem?_map, List.getElem?_take, List.getElem?_take, if_pos hj, if_pos (by omega)]
theorem th_copy (f : List Int) : setAll (repl [TI 0] f.length) 0 ((f.map TI).take (min (f.map TI).length f.length)) = f.map TI := by
  simp only [setAll, repl_one, List.length_map, Nat.min_self, List.take_zero, List.nil_append, Nat.zero_add, List.length_take]
  rw [List.take_of_length_le (by simp), List.drop_of_length_le (by simp), List.append_nil]
set_option maxRecDepth 20000 in
theorem then_ (f g : List Int) (hf : f.length < 100000000) (_hg : g.length < 1000000000) : PCall Tryd.prog 13 [.t (tInts f), .t (tInts g)] (.tup [.t (tInts (thenS f g).1), Bo (thenS f g).2]) := by
  refine pcall_of_body Tryd.func13 rfl fun s Q hQ => ?_
  obtain ⟨e, he, hl, h0, h1⟩ : ∃ e : Env, ([.t (tInts f), .t (tInts g)] ++ List.replicate (Tryd.f13.ntmps - ([.t (tInts f), .t (tInts g)] : List V).length) .junk) = e ∧ e.length = 39 ∧ ev e (.tmp 0) = .t (tInts f) ∧ ev e (.tmp 1) = .t (tInts g) := ⟨_, rfl, rfl, rfl, rfl⟩
  rw [he]
  clear he
  refine vsk fun K1 hK1 => ?_
  refine vw_go false ?_
  simp only [wops, gow, wop, vopx, vop, ev_const, thenV, flat, if_true]
  refine hK1 _ _ ?_
  refine vsk fun K2 hK2 => ?_
  refine vw_go false ?_
  simp only [wops, gow, wop, vopx, vop, ev_putv, lpv, thenV, if_true, if_false, Nat.reduceEqDiff, Nat.reduceLT, List.map_cons, List.map_nil, Nat.mul_one, true_and, Nat.succ_ne_zero, Int.toNat_natCast, Int.natCast_nonneg, Bool.false_eq_true, hl, h0, Tryd.sl27, Tryd.un27, len_tInts]
  refine ⟨by omega, by omega, by omega, ?_⟩
  refine hK2 _ _ ?_
  refine vsk fun K3 hK3 => ?_
  refine vw_go false ?_
  simp only [wops, gow, wop, vopx, vop, ev_putv, lpv, thenV, if_true, if_false, Nat.reduceEqDiff, Nat.reduceLT, Nat.zero_add, true_and, Nat.succ_ne_zero, List.length_map, hl, h0, srcT, add_self, Tryd.sl27]
  refine ⟨by rw [repl_length]; simp, ?_⟩
  rw [add_set]
  have hc0 := th_copy f
  simp only [List.length_map] at hc0
  rw [hc0, ← thC_zero f g]
  refine hK3 _ _ ?_
  refine vsk fun K4 hK4 => ?_
  refine vsk fun K5 hK5 => ?_
  refine vw_go false ?_
  simp only [wops, gow, wop, vopx, vop, ev_putv, ev_const, lpv, thenV, flat, if_true, if_false, Nat.reduceEqDiff, Nat.reduceLT, hl]
  refine hK5 _ _ ?_
  refine vw_block ?_
  refine vw_loop (fun n e' s' => ∃ i : Nat, n = f.length - i ∧ i ≤ f.length ∧ e'.length = 39 ∧ ev e' (.tmp 1) = .t (tInts g) ∧ ev e' (.tmp 6) = .loc s.next 0 f.length ∧ ev e' (.tmp 15) = .loc s.next 0 f.length ∧ ev e' (.tmp 16) = I f.length ∧ ev e' (.tmp 17) = I i ∧ s' = s.add (.arr 1 3 (thC f g i)) ∧ (f.take i).all (fun y => decide (0 ≤ y) && decide (y < g.length)) = true) (⟨0, rfl, Nat.zero_le _, ?_⟩) ?_
  · simp only [ev_putv, lpv, hl, h1, if_true, if_false, Nat.reduceEqDiff, Nat.reduceLT]
    exact ⟨trivial, trivial, trivial, trivial, trivial, rfl, trivial, rfl⟩
  clear hl h0 h1 e
  rintro n e _ ⟨i, rfl, hi, hl, h1, h6, h15, h16, h17, rfl, hall⟩
  have hm := add_self s (.arr 1 3 (thC f g i))
  refine vsk fun K6 hK6 => ?_
  refine vw_go false ?_
  simp only [wops, gow, wop, vopx, thenV, opII, h16, h17]
  refine hK6 _ _ ?_
  refine vsk fun K7 hK7 => ?_
  refine vck fun A B hA hB => ?_
  simp only [condV, ev_putv, if_true, Nat.reduceLT, decide_eq_true_eq, decide_eq_false_iff_not, hl]
  refine ⟨fun hc18 => hA ?_, fun hc18 => hB ?_⟩
  · clear hA hB A B
    refine vw_skip ?_
    refine hK7 _ _ ?_
    refine vsk fun K8 hK8 => ?_
    refine vw_block ?_
    refine vsk fun K9 hK9 => ?_
    have hlt : i < f.length := by omega
    have hgi := thC_get f g hlt
    refine vw_go false ?_
    simp only [wops, gow, wop, vopx, vop, ev_putv, lpv, thenV, if_true, if_false, Nat.reduceEqDiff, Nat.reduceLT, dLoad, vpart, Nat.zero_add, Nat.mul_one, true_and, Int.toNat_natCast, List.getElem?_map, Option.map_some, Int.natCast_nonneg, hl, h15, h17, Tryd.ag3, Tryd.sz3, Tryd.un27, hm, hgi]
    refine ⟨⟨_, rfl⟩, by omega, ?_⟩
    refine hK9 _ _ ?_
    refine vsk fun K10 hK10 => ?_
    refine vsk fun K11 hK11 => ?_
    rcases Int.lt_or_le f[i] 0 with hneg | hneg
    · refine vw_go false ?_
      simp only [wops, gow, wop, vopx, vop, ev_putv, ev_const, lpv, thenV, flat, if_true, if_false, Nat.reduceEqDiff, Nat.reduceLT, opII, gtmp, List.getElem?_toArray, List.getElem?_cons_zero, List.getElem?_cons_succ, ne_eq, not_false_eq_true, true_and, decide_true, true_implies, false_implies, reduceCtorEq, hl, h1, len_tInts, hneg]
      refine hK11 _ _ ?_
      refine vck fun A B hA hB => ?_
      simp only [condV, ev_putv, lpv, if_true, if_false, Nat.reduceEqDiff, Nat.reduceLT, true_implies, reduceCtorEq, false_implies, and_true, hl]
      refine hA ?_
      clear hA hB A B
      refine vsk fun K12 hK12 => ?_
      refine vw_go false ?_
      simp only [wops, gow, wop, vopx, vop, ev_const, thenV, flat, if_true]
      refine hK12 _ _ ?_
      refine vw_ret ?_
      have hbad : f.all (fun y => decide (0 ≤ y) && decide (y < g.length)) = false := by
        rw [List.all_eq_false]
        exact ⟨f[i], List.getElem_mem hlt, by simp; omega⟩
      have hres : thenS f g = ([], false) := by simp [thenS, hbad]
      rw [hres] at hQ
      refine hQ _ _ _ (.inr rfl) (done_nil_pair (by omega) ?_ ?_ fun m b hl h => add_old s _ hl h)
      · simp only [ev_putv, lpv, hl, if_true, if_false, Nat.reduceEqDiff, Nat.reduceLT]
      · simp only [ev_putv, lpv, hl, if_true, if_false, Nat.reduceEqDiff, Nat.reduceLT]
    · refine vw_go false ?_
      simp only [wops, gow, wop, vopx, vop, ev_putv, ev_const, lpv, thenV, flat, if_true, if_false, Nat.reduceEqDiff, Nat.reduceLT, opII, gtmp, List.getElem?_toArray, List.getElem?_cons_zero, List.getElem?_cons_succ, ne_eq, and_true, decide_false, true_implies, false_implies, not_true_eq_false, Bool.false_eq_true, hl, h1, len_tInts, Int.not_lt.2 hneg]
      refine hK11 _ _ ?_
      refine vck fun A B hA hB => ?_
      simp only [condV, ev_putv, lpv, if_true, if_false, Nat.reduceEqDiff, Nat.reduceLT, decide_eq_true_eq, decide_eq_false_iff_not, hl]
      refine ⟨fun hc29 => hA ?_, fun hc29 => hB ?_⟩
      · clear hA hB A B
        refine vsk fun K13 hK13 => ?_
        refine vw_go false ?_
        simp only [wops, gow, wop, vopx, vop, ev_const, thenV, flat, if_true]
        refine hK13 _ _ ?_
        refine vw_ret ?_
        have hbad : f.all (fun y => decide (0 ≤ y) && decide (y < g.length)) = false := by
          rw [List.all_eq_false]
          exact ⟨f[i], List.getElem_mem hlt, by simp; omega⟩
        have hres : thenS f g = ([], false) := by simp [thenS, hbad]
        rw [hres] at hQ
        refine hQ _ _ _ (.inr rfl) (done_nil_pair (by omega) ?_ ?_ fun m b hl h => add_old s _ hl h)
        · simp only [ev_putv, lpv, hl, if_true, if_false, Nat.reduceEqDiff, Nat.reduceLT]
        · simp only [ev_putv, lpv, hl, if_true, if_false, Nat.reduceEqDiff, Nat.reduceLT]
      · clear hA hB A B
        refine vw_skip ?_
        refine hK10 _ _ ?_
        have hlt2 : f[i].toNat < g.length := by omega
        have hgv : g[f[i].toNat]? = some (g.getD f[i].toNat 0) := by rw [List.getD_eq_getElem?_getD, List.getElem?_eq_getElem hlt2]; rfl
        refine vw_go false ?_
        simp only [putv_none, wops, gow, wop, vopx, vop, ev_putv, lpv, thenV, blockV, if_true, if_false, Nat.reduceEqDiff, Nat.reduceLT, V.cells, dLoad, vpart, Sg.frzL, Sg.frz1, List.length_cons, List.length_nil, Nat.zero_add, Nat.mul_one, true_and, Int.toNat_natCast, List.getElem?_map, Option.map_some, List.length_map, Int.natCast_nonneg, hl, h1, h6, Tryd.ag3, Tryd.sz3, Tryd.un27, hm, hgv]
        refine ⟨hneg, hlt2, ⟨_, rfl⟩, by omega, by rw [thC_length]; omega, ?_⟩
        rw [thC_set f g hlt, add_set]
        refine hK8 _ _ ?_
        refine vw_go false ?_
        simp only [wops, gow, wop, vopx, vop, ev_putv, ev_const, lpv, thenV, flat, if_true, if_false, Nat.reduceEqDiff, Nat.reduceLT, opII, true_and, hl, h1, h6, h15, h16, h17]
        refine ⟨⟨by omega, by omega⟩, f.length - (i + 1), by omega, i + 1, rfl, by omega, ?_⟩
        refine ⟨by push_cast; rfl, rfl, ?_⟩
        rw [List.take_add_one, List.getElem?_eq_getElem hlt, List.all_append, hall]
        simp only [Option.toList_some, List.all_cons, List.all_nil, Bool.and_true, Bool.true_and, Bool.and_eq_true, decide_eq_true_eq]
        omega
  · clear hA hB A B
    refine vw_exit ?_
    simp only [thenV, blockV, if_true]
    refine hK4 _ _ ?_
    refine vsk fun K14 hK14 => ?_
    refine vw_go false ?_
    simp only [wops, gow, wop, vopx, vop, ev_putv, ev_const, lpv, thenV, flat, if_true, if_false, Nat.reduceEqDiff, Nat.reduceLT, hl, h6]
    refine hK14 _ _ ?_
    refine vw_ret ?_
    have hil : i = f.length := by omega
    rw [hil, List.take_length] at hall
    have hres : thenS f g = (f.map fun y => g.getD y.toNat 0, true) := by simp only [thenS, hall, if_true]
    have hcs : thC f g i = (f.map fun y => g.getD y.toNat 0).map TI := by rw [hil]; simp [thC]
    rw [hres] at hQ
    rw [hcs] at hm ⊢
    refine hQ _ _ _ (.inr rfl) (done_loc_pair (n := s.next) (len := f.length) ?_ ?_ hm (by simp) (Nat.le_refl _) fun m b hl h => add_old s _ hl h)
    · simp only [ev_putv, lpv, hl, if_true, if_false, Nat.reduceEqDiff, Nat.reduceLT]
    · simp only [ev_putv, lpv, hl, if_true, if_false, Nat.reduceEqDiff, Nat.reduceLT]
end Go.Proofs
