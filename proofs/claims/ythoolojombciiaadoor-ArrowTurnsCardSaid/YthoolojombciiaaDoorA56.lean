/- Lemmas on the way to the statement of this claim; no conditions. -/
import Derived.Test.YthoolojombciiaaDoorA28
import Derived.Test.YthoolojombciiaaDoorA36
import Derived.Test.YthoolojombciiaaDoorA37
import Derived.Test.YthoolojombciiaaDoorA38
import Derived.Test.YthoolojombciiaaDoorA42
import Derived.Test.YthoolojombciiaaDoorA50
import Derived.Test.YthoolojombciiaaDoorA53
open Go Go.V
namespace Go.Proofs
def tuL (n q : Nat) : List Int := (List.range n).map fun (i : Nat) => (((i + q) % n : Nat) : Int)
def upL (n : Nat) : List Int := (List.range n).map fun (i : Nat) => (i : Int)
def tuK (n q i : Nat) : List Int := putL (List.replicate n 0) (upL n) (tuL n q) i
def baK (n q i : Nat) : List Int := putL (List.replicate n 0) (tuL n q) (upL n) i
def labA (i : Nat) : List ByteArray := (List.range i).map fun (j : Nat) => bStr (97 + (j : Int))
def putS (o : List ByteArray) (l : List Int) (w : List ByteArray) : Nat → List ByteArray
  | 0 => o
  | x + 1 => (putS o l w x).set (l.getD x 0).toNat (w.getD x ByteArray.empty)
theorem putS_len (o : List ByteArray) (l : List Int) (w : List ByteArray) : ∀ x, (putS o l w x).length = o.length
  | 0 => rfl
  | x + 1 => by simp [putS, putS_len o l w x]
theorem putS_succ {o : List ByteArray} {l : List Int} {w : List ByteArray} {x : Nat} {y : Int} {z : ByteArray} (hy : l[x]? = some y) (hz : w[x]? = some z) : putS o l w (x + 1) = (putS o l w x).set y.toNat z := by
  show (putS o l w x).set (l.getD x 0).toNat (w.getD x ByteArray.empty) = _
  rw [List.getD_eq_getElem?_getD, List.getD_eq_getElem?_getD, hy, hz]; rfl
theorem setAll_TS2 (l : List ByteArray) {i : Nat} (h : i < l.length) (x : ByteArray) : setAll (l.map TS) i [TS x] = (l.set i x).map TS := by
  rw [setAll_one _ _ _ (by simpa using h), List.map_set]
def laK (n q k : Nat) : List ByteArray := putS (List.replicate n ByteArray.empty) (tuL n q) (labA n) k
theorem tuL_len (n q : Nat) : (tuL n q).length = n := by simp [tuL]
theorem labA_len (n : Nat) : (labA n).length = n := by simp [labA]
theorem tuK_len (n q i : Nat) : (tuK n q i).length = n := by rw [tuK, putL_len, List.length_replicate]
theorem baK_len (n q i : Nat) : (baK n q i).length = n := by rw [baK, putL_len, List.length_replicate]
theorem laK_len (n q i : Nat) : (laK n q i).length = n := by rw [laK, putS_len, List.length_replicate]
theorem labA_succ (i : Nat) : labA (i + 1) = labA i ++ [bStr (97 + (i : Int))] := by simp [labA, List.range_succ]
theorem tuL_at {n q i : Nat} (h : i < n) : (tuL n q)[i]? = some (((i + q) % n : Nat) : Int) := by simp [tuL, h]
theorem upL_at {n i : Nat} (h : i < n) : (upL n)[i]? = some (i : Int) := by simp [upL, h]
theorem labA_at {n i : Nat} (h : i < n) : (labA n)[i]? = some (bStr (97 + (i : Int))) := by simp [labA, h]
theorem tuK_succ {n q i : Nat} (h : i < n) : tuK n q (i + 1) = (tuK n q i).set i (((i + q) % n : Nat) : Int) := by
  have := putL_succ (o := List.replicate n 0) (upL_at h) (tuL_at (q := q) h)
  rw [Int.toNat_natCast] at this; exact this
theorem baK_succ {n q i : Nat} (h : i < n) : baK n q (i + 1) = (baK n q i).set ((i + q) % n) (i : Int) := by
  have := putL_succ (o := List.replicate n 0) (tuL_at (q := q) h) (upL_at h)
  rw [Int.toNat_natCast] at this; exact this
theorem laK_succ {n q i : Nat} (h : i < n) : laK n q (i + 1) = (laK n q i).set ((i + q) % n) (bStr (97 + (i : Int))) := by
  have := putS_succ (o := List.replicate n ByteArray.empty) (tuL_at (q := q) h) (labA_at h)
  rw [Int.toNat_natCast] at this; exact this
theorem tuK_at {n q i j : Nat} (h : j < i) (hi : i ≤ n) : (tuK n q i)[j]? = some (((j + q) % n : Nat) : Int) := by
  induction i with
  | zero => omega
  | succ i ih =>
    rw [tuK_succ (by omega)]
    by_cases hj : j = i
    · subst hj; rw [List.getElem?_set_self (by rw [tuK_len]; omega)]
    · rw [List.getElem?_set_ne (by omega)]; exact ih (by omega) (by omega)
theorem tuK_full (n q : Nat) : tuK n q n = tuL n q := by
  apply List.ext_getElem?
  intro j
  by_cases h : j < n
  · rw [tuK_at h (Nat.le_refl n), tuL_at h]
  · rw [List.getElem?_eq_none (by rw [tuK_len]; omega), List.getElem?_eq_none (by rw [tuL_len]; omega)]
theorem tuL_mod (n q : Nat) : tuL n q = tuL n (q % n) := by
  unfold tuL
  apply List.map_congr_left
  intro i _
  rw [Nat.add_mod_mod]
def obA (n : Nat) : Ob := ⟨labA n, [(0, 1)]⟩
def obB (n q : Nat) : Ob := ⟨laK n q n, [(((0 + q) % n : Nat), ((1 + q) % n : Nat))]⟩
def obL (n q : Nat) : Ob := ⟨laK n q n, []⟩
abbrev sOther : ByteArray := ⟨#[111, 116, 104, 101, 114]⟩
def obO (n q : Nat) : Ob := ⟨(laK n q n).set ((1 + q) % n) sOther, [(((0 + q) % n : Nat), ((1 + q) % n : Nat))]⟩
def turnB (n q : Nat) : Bool :=
  let A := obA n; let B := obB n q; let t := tuL n q; let b := baK n q n
  invS A B t b && (decide t.Nodup && (!(arrS A (obL n q) t) && (arrS (obL n q) B (idS n) && (!(arrS A (obO n q) t) && (!(invS A (obL n q) t b) && !(arrS A B (t.drop 1)))))))
set_option maxRecDepth 100000 in
theorem turn_all : ((List.range 10).all fun m => (List.range (m + 2)).all fun r => turnB (m + 2) r) = true := by decide +kernel
theorem turn_mod (n q : Nat) : turnB n q = turnB n (q % n) := by
  have h1 : ∀ k, laK n q k = laK n (q % n) k := fun k => by unfold laK; rw [tuL_mod]
  have h2 : ∀ k, baK n q k = baK n (q % n) k := fun k => by unfold baK; rw [tuL_mod]
  have h3 : ∀ i, (i + q % n) % n = (i + q) % n := fun i => Nat.add_mod_mod i q n
  unfold turnB obB obL obO
  simp only [h1, h2, h3, ← tuL_mod]
theorem turn_of {m q : Nat} (hm : m < 10) : invS (obA (m + 2)) (obB (m + 2) q) (tuL (m + 2) q) (baK (m + 2) q (m + 2)) = true ∧ injS (tuL (m + 2) q) = true ∧ arrS (obA (m + 2)) (obL (m + 2) q) (tuL (m + 2) q) = false ∧ arrS (obL (m + 2) q) (obB (m + 2) q) (idS ((m + 2 : Nat) : Int)) = true ∧
    arrS (obA (m + 2)) (obO (m + 2) q) (tuL (m + 2) q) = false ∧ invS (obA (m + 2)) (obL (m + 2) q) (tuL (m + 2) q) (baK (m + 2) q (m + 2)) = false ∧ arrS (obA (m + 2)) (obB (m + 2) q) ((tuL (m + 2) q).drop 1) = false := by
  have h1 := List.all_eq_true.1 turn_all m (List.mem_range.2 hm)
  have h2 := List.all_eq_true.1 h1 (q % (m + 2)) (List.mem_range.2 (Nat.mod_lt _ (by omega)))
  rw [← turn_mod] at h2
  simp only [turnB, Bool.and_eq_true, Bool.not_eq_true'] at h2
  obtain ⟨a1, a2, a3, a4, a5, a6, a7⟩ := h2
  exact ⟨a1, by rw [injS_iff]; exact a2, a3, a4, a5, a6, a7⟩
end Go.Proofs

open Go Go.V
namespace Go.Proofs
theorem conv_ui {z : Int} (h0 : 0 ≤ z) (h1 : z < 256) : flatly (calm Tryd.prog (convert 5 3 (.int .u8 z))) = some (.int .i64 z) := by
  have h : flatly (calm Tryd.prog (convert 5 3 (.int .u8 z))) = some (.int .i64 (IntKind.i64.wrap z)) := by kernel_rfl
  rw [h, wrap_i64 (by unfold inI; omega)]
theorem conv_iu {z : Int} (h0 : 0 ≤ z) (h1 : z < 256) : flatly (calm Tryd.prog (convert 3 5 (.int .i64 z))) = some (.int .u8 z) := by
  have h : flatly (calm Tryd.prog (convert 3 5 (.int .i64 z))) = some (.int .u8 (IntKind.u8.wrap z)) := by kernel_rfl
  rw [h, wraps_u8 _ h0 h1]
abbrev nilV : V := .t (.v (.slice none 0 0))
structure TuI (s : Sg) (n q i6 i7 i8 i9 m6 m7 m8 m9 : Nat) (s' : Sg) : Prop where
  b6 : s'.m s.next = some (.box 26 [.loc m6 0 i6, nilV])
  b7 : s'.m (s.next + 1) = some (.box 26 [.loc m7 0 i7, nilV])
  a6 : s'.m m6 = some (.arr 1 9 ((labA i6).map TS))
  a7 : s'.m m7 = some (.arr 1 9 (List.replicate i7 (TS ByteArray.empty)))
  a8 : s'.m m8 = some (.arr 1 3 ((tuK n q i8).map TI))
  a9 : s'.m m9 = some (.arr 1 3 ((baK n q i9).map TI))
  same : ∀ j, j < s.next → s'.m j = s.m j
  l6 : s.next + 1 < m6 ∧ m6 < s'.next
  l7 : s.next + 1 < m7 ∧ m7 < s'.next
  l8 : s.next + 1 < m8 ∧ m8 < s'.next
  l9 : s.next + 1 < m9 ∧ m9 < s'.next
  d : m7 ≠ m8 ∧ m7 ≠ m9 ∧ m8 ≠ m9
  d6 : m6 ≠ m7 ∧ m6 ≠ m8 ∧ m6 ≠ m9
structure TuA (s : Sg) (n q m8 m9 : Nat) (s' : Sg) : Prop where
  b6 : s'.m s.next = some (.box 26 [nilV, nilV])
  b7 : s'.m (s.next + 1) = some (.box 26 [nilV, nilV])
  a8 : s'.m m8 = some (.arr 1 3 ((tuK n q 0).map TI))
  a9 : s'.m m9 = some (.arr 1 3 ((baK n q 0).map TI))
  same : ∀ j, j < s.next → s'.m j = s.m j
  l8 : s.next + 1 < m8 ∧ m8 < s'.next
  l9 : s.next + 1 < m9 ∧ m9 < s'.next
  d : m8 ≠ m9
theorem TuI.set8 {s : Sg} {n q i6 i7 i i9 m6 m7 m8 m9 : Nat} {s1 : Sg} (h : TuI s n q i6 i7 i i9 m6 m7 m8 m9 s1) : TuI s n q i6 i7 (i + 1) i9 m6 m7 m8 m9 (s1.set m8 (.arr 1 3 ((tuK n q (i + 1)).map TI))) := by
  obtain ⟨b6, b7, a6, a7, a8, a9, hs, ⟨l6, l6'⟩, ⟨l7, l7'⟩, ⟨l8, l8'⟩, ⟨l9, l9'⟩, ⟨d1, d2, d3⟩, ⟨d4, d5, d6⟩⟩ := h
  refine ⟨?_, ?_, ?_, ?_, ?_, ?_, fun j hj => ?_, ⟨?_, ?_⟩, ⟨?_, ?_⟩, ⟨?_, ?_⟩, ⟨?_, ?_⟩, ⟨by omega, by omega, by omega⟩, ⟨by omega, by omega, by omega⟩⟩
  · rw [m_set, if_neg (by omega)]; exact b6
  · rw [m_set, if_neg (by omega)]; exact b7
  · rw [m_set, if_neg (by omega)]; exact a6
  · rw [m_set, if_neg (by omega)]; exact a7
  · rw [m_set, if_pos rfl]
  · rw [m_set, if_neg (by omega)]; exact a9
  · rw [m_set, if_neg (by omega)]; exact hs j hj
  all_goals first | omega | (simp only [n_set]; omega)
theorem TuI.set9 {s : Sg} {n q i6 i7 i8 i m6 m7 m8 m9 : Nat} {s1 : Sg} (h : TuI s n q i6 i7 i8 i m6 m7 m8 m9 s1) : TuI s n q i6 i7 i8 (i + 1) m6 m7 m8 m9 (s1.set m9 (.arr 1 3 ((baK n q (i + 1)).map TI))) := by
  obtain ⟨b6, b7, a6, a7, a8, a9, hs, ⟨l6, l6'⟩, ⟨l7, l7'⟩, ⟨l8, l8'⟩, ⟨l9, l9'⟩, ⟨d1, d2, d3⟩, ⟨d4, d5, d6⟩⟩ := h
  refine ⟨?_, ?_, ?_, ?_, ?_, ?_, fun j hj => ?_, ⟨?_, ?_⟩, ⟨?_, ?_⟩, ⟨?_, ?_⟩, ⟨?_, ?_⟩, ⟨by omega, by omega, by omega⟩, ⟨by omega, by omega, by omega⟩⟩
  · rw [m_set, if_neg (by omega)]; exact b6
  · rw [m_set, if_neg (by omega)]; exact b7
  · rw [m_set, if_neg (by omega)]; exact a6
  · rw [m_set, if_neg (by omega)]; exact a7
  · rw [m_set, if_neg (by omega)]; exact a8
  · rw [m_set, if_pos rfl]
  · rw [m_set, if_neg (by omega)]; exact hs j hj
  all_goals first | omega | (simp only [n_set]; omega)
theorem TuI.push6 {s : Sg} {n q i i7 i8 i9 m6 m7 m8 m9 : Nat} {s1 : Sg} (h : TuI s n q i i7 i8 i9 m6 m7 m8 m9 s1) (B : Blk) : TuI s n q (i + 1) i7 i8 i9 (s1.next + 1) m7 m8 m9 (((((s1.add B).del m6).add (.arr 1 9 ((labA i).map TS ++ [TS (bStr (97 + (i : Int)))]))).set s.next (.box 26 [.loc (s1.next + 1) 0 (i + 1), nilV]))) := by
  obtain ⟨b6, b7, a6, a7, a8, a9, hs, ⟨l6, l6'⟩, ⟨l7, l7'⟩, ⟨l8, l8'⟩, ⟨l9, l9'⟩, ⟨d1, d2, d3⟩, ⟨d4, d5, d6⟩⟩ := h
  have hfr : ∀ x, x < s1.next → x ≠ m6 → x ≠ s.next → (((((s1.add B).del m6).add (.arr 1 9 ((labA i).map TS ++ [TS (bStr (97 + (i : Int)))]))).set s.next (.box 26 [.loc (s1.next + 1) 0 (i + 1), nilV]))).m x = s1.m x := fun x g1 g2 g3 => by
    rw [m_set, if_neg g3, m_add, if_neg (by simp only [n_del, n_add]; omega), m_del, if_neg g2, m_add, if_neg (by omega)]
  refine ⟨?_, ?_, ?_, ?_, ?_, ?_, fun j hj => ?_, ⟨?_, ?_⟩, ⟨?_, ?_⟩, ⟨?_, ?_⟩, ⟨?_, ?_⟩, ⟨by omega, by omega, by omega⟩, ⟨by omega, by omega, by omega⟩⟩
  · rw [m_set, if_pos rfl]
  · rw [hfr _ (by omega) (by omega) (by omega)]; exact b7
  · rw [m_set, if_neg (by omega), m_add, if_pos (by simp only [n_del, n_add]), labA_succ, List.map_append]; rfl
  · rw [hfr _ (by omega) (by omega) (by omega)]; exact a7
  · rw [hfr _ (by omega) (by omega) (by omega)]; exact a8
  · rw [hfr _ (by omega) (by omega) (by omega)]; exact a9
  · rw [hfr _ (by omega) (by omega) (by omega)]; exact hs j hj
  all_goals first | omega | (simp only [n_set, n_add, n_del]; omega)
theorem TuI.push7 {s : Sg} {n q i6 i i8 i9 m6 m7 m8 m9 : Nat} {s1 : Sg} (h : TuI s n q i6 i i8 i9 m6 m7 m8 m9 s1) (B : Blk) : TuI s n q i6 (i + 1) i8 i9 m6 (s1.next + 1) m8 m9 (((((s1.add B).del m7).add (.arr 1 9 (List.replicate i (TS ByteArray.empty) ++ [TS ByteArray.empty]))).set (s.next + 1) (.box 26 [.loc (s1.next + 1) 0 (i + 1), nilV]))) := by
  obtain ⟨b6, b7, a6, a7, a8, a9, hs, ⟨l6, l6'⟩, ⟨l7, l7'⟩, ⟨l8, l8'⟩, ⟨l9, l9'⟩, ⟨d1, d2, d3⟩, ⟨d4, d5, d6⟩⟩ := h
  have hfr : ∀ x, x < s1.next → x ≠ m7 → x ≠ (s.next + 1) → (((((s1.add B).del m7).add (.arr 1 9 (List.replicate i (TS ByteArray.empty) ++ [TS ByteArray.empty]))).set (s.next + 1) (.box 26 [.loc (s1.next + 1) 0 (i + 1), nilV]))).m x = s1.m x := fun x g1 g2 g3 => by
    rw [m_set, if_neg g3, m_add, if_neg (by simp only [n_del, n_add]; omega), m_del, if_neg g2, m_add, if_neg (by omega)]
  refine ⟨?_, ?_, ?_, ?_, ?_, ?_, fun j hj => ?_, ⟨?_, ?_⟩, ⟨?_, ?_⟩, ⟨?_, ?_⟩, ⟨?_, ?_⟩, ⟨by omega, by omega, by omega⟩, ⟨by omega, by omega, by omega⟩⟩
  · rw [hfr _ (by omega) (by omega) (by omega)]; exact b6
  · rw [m_set, if_pos rfl]
  · rw [hfr _ (by omega) (by omega) (by omega)]; exact a6
  · rw [m_set, if_neg (by omega), m_add, if_pos (by simp only [n_del, n_add]), List.replicate_succ']
  · rw [hfr _ (by omega) (by omega) (by omega)]; exact a8
  · rw [hfr _ (by omega) (by omega) (by omega)]; exact a9
  · rw [hfr _ (by omega) (by omega) (by omega)]; exact hs j hj
  all_goals first | omega | (simp only [n_set, n_add, n_del]; omega)
theorem TuA.tuI {s : Sg} {n q m8 m9 : Nat} {s2 : Sg} (h : TuA s n q m8 m9 s2) : TuI s n q 0 0 0 0 (s2.next + 1) s2.next m8 m9 (((((s2.add (.arr 1 9 [])).set (s.next + 1) (.box 26 [.loc s2.next 0 0, nilV])).add (.arr 1 9 [])).set s.next (.box 26 [.loc (s2.next + 1) 0 0, nilV]))) := by
  obtain ⟨b6, b7, a8, a9, hs, ⟨l8, l8'⟩, ⟨l9, l9'⟩, d⟩ := h
  refine ⟨?_, ?_, ?_, ?_, ?_, ?_, fun j hj => ?_, ⟨?_, ?_⟩, ⟨?_, ?_⟩, ⟨?_, ?_⟩, ⟨?_, ?_⟩, ⟨by omega, by omega, by omega⟩, ⟨by omega, by omega, by omega⟩⟩
  · rw [m_set, if_pos rfl]
  · rw [m_set, if_neg (by omega), m_add, if_neg (by simp only [n_set, n_add]; omega), m_set, if_pos rfl]
  · rw [m_set, if_neg (by omega), m_add, if_pos (by simp only [n_set, n_add])]; rfl
  · rw [m_set, if_neg (by omega), m_add, if_neg (by simp only [n_set, n_add]; omega), m_set, if_neg (by omega), m_add, if_pos rfl]; rfl
  · rw [m_set, if_neg (by omega), m_add, if_neg (by simp only [n_set, n_add]; omega), m_set, if_neg (by omega), m_add, if_neg (by omega)]; exact a8
  · rw [m_set, if_neg (by omega), m_add, if_neg (by simp only [n_set, n_add]; omega), m_set, if_neg (by omega), m_add, if_neg (by omega)]; exact a9
  · rw [m_set, if_neg (by omega), m_add, if_neg (by simp only [n_set, n_add]; omega), m_set, if_neg (by omega), m_add, if_neg (by omega)]; exact hs j hj
  all_goals first | omega | (simp only [n_set, n_add]; omega)
structure TuJ (s : Sg) (n q j m7 : Nat) (s' : Sg) : Prop where
  b6 : s'.m s.next = some (.box 26 [.t (tStrs (labA n)), nilV])
  b7 : s'.m (s.next + 1) = some (.box 26 [.loc m7 0 n, nilV])
  a7 : s'.m m7 = some (.arr 1 9 ((laK n q j).map TS))
  same : ∀ j, j < s.next → s'.m j = s.m j
  l7 : s.next + 1 < m7 ∧ m7 < s'.next
theorem TuJ.put {s : Sg} {n q j m7 : Nat} {s1 : Sg} (h : TuJ s n q j m7 s1) (hj : j < n) : TuJ s n q (j + 1) m7 (s1.set m7 (.arr 1 9 (((laK n q j).set ((j + q) % n) (bStr (97 + (j : Int)))).map TS))) := by
  obtain ⟨b6, b7, a7, hs, l7, l7'⟩ := h
  refine ⟨?_, ?_, ?_, fun j hj => ?_, l7, l7'⟩
  · rw [m_set, if_neg (by omega)]; exact b6
  · rw [m_set, if_neg (by omega)]; exact b7
  · rw [m_set, if_pos rfl, laK_succ hj]
  · rw [m_set, if_neg (by omega)]; exact hs j hj
theorem TuI.tuJ {s : Sg} {n q m6 m7 m8 m9 : Nat} {s1 s2 : Sg} (h : TuI s n q n n n n m6 m7 m8 m9 s1) (h2 : s2.next = s1.next) (h3 : ∀ x, x < s1.next → x ≠ m6 → x ≠ m8 → x ≠ m9 → x ≠ s.next → s2.m x = s1.m x) (h4 : s2.m s.next = some (.box 26 [.t (tStrs (labA n)), nilV])) : TuJ s n q 0 m7 s2 := by
  obtain ⟨b6, b7, a6, a7, a8, a9, hs, ⟨l6, l6'⟩, ⟨l7, l7'⟩, ⟨l8, l8'⟩, ⟨l9, l9'⟩, ⟨d1, d2, d3⟩, ⟨d4, d5, d6⟩⟩ := h
  refine ⟨h4, ?_, ?_, fun j hj => ?_, l7, by omega⟩
  · rw [h3 _ (by omega) (by omega) (by omega) (by omega) (by omega)]; exact b7
  · rw [h3 _ (by omega) (by omega) (by omega) (by omega) (by omega), a7]; simp [laK, putS]
  · rw [h3 _ (by omega) (by omega) (by omega) (by omega) (by omega)]; exact hs j hj
theorem argW_some_nil {P : Program} {x : V} {k : Nat} (hk : 0 < k) : ArgW P (.agg [x, .t (.v (.slice none 0 0))]) (.agg [x, .t (.sl k [])]) := fun w s ρ y h => by
  obtain ⟨m, rfl, hm⟩ := h
  match m, hm with
  | [a, b], ⟨h1, h2, _⟩ =>
    have h2' : RepT w (Fr s ρ) (.v (.slice none 0 0)) b := h2
    rw [RepT] at h2'
    obtain ⟨rfl, _⟩ := h2'
    exact ⟨_, rfl, h1, repT_nil hk, trivial⟩
theorem kt {x n q : Nat} (hx : x < 10) (hn : n = x + 2) : PCall Tryd.prog 6 [vObj (obA n), vObj (obB n q), .t (tInts (tuL n q)), .t (tInts (baK n q n))] (Bo true) ∧ PCall Tryd.prog 7 [.t (tInts (tuL n q))] (Bo true) ∧
    PCall Tryd.prog 8 [vObj (obA n), .agg [.t (tStrs (laK n q n)), nilV], .t (tInts (tuL n q))] (Bo false) ∧ PCall Tryd.prog 8 [.agg [.t (tStrs (laK n q n)), nilV], vObj (obB n q), .t (tInts (idS (n : Int)))] (Bo true) ∧
    PCall Tryd.prog 8 [vObj (obA n), vObj (obO n q), .t (tInts (tuL n q))] (Bo false) ∧ PCall Tryd.prog 6 [vObj (obA n), .agg [.t (tStrs (laK n q n)), nilV], .t (tInts (tuL n q)), .t (tInts (baK n q n))] (Bo false) ∧
    PCall Tryd.prog 8 [vObj (obA n), vObj (obB n q), .t (tInts ((tuL n q).drop 1))] (Bo false) := by
  subst hn
  obtain ⟨a1, a2, a3, a4, a5, a6, a7⟩ := turn_of (q := q) hx
  have e1 := tuL_len (x + 2) q
  have e2 := baK_len (x + 2) q (x + 2)
  have eA : (obA (x + 2)).labels.length = x + 2 := labA_len _
  have eB : (obB (x + 2) q).labels.length = x + 2 := laK_len _ _ _
  have eL : (obL (x + 2) q).labels.length = x + 2 := laK_len _ _ _
  have eO : (obO (x + 2) q).labels.length = x + 2 := by simp [obO, laK_len]
  have pA : (obA (x + 2)).pairs.length = 1 := rfl
  have pB : (obB (x + 2) q).pairs.length = 1 := rfl
  have pL : (obL (x + 2) q).pairs.length = 0 := rfl
  have pO : (obO (x + 2) q).pairs.length = 1 := rfl
  have ei : (idS ((x + 2 : Nat) : Int)).length = x + 2 := by simp [idS, idN]; omega
  have hW : ArgW Tryd.prog (.agg [.t (tStrs (laK (x + 2) q (x + 2))), nilV]) (vObj (obL (x + 2) q)) := argW_some_nil (by decide)
  refine ⟨?_, ?_, ?_, ?_, ?_, ?_, ?_⟩
  · have := inverse_ (obA (x + 2)) (obB (x + 2) q) (tuL (x + 2) q) (baK (x + 2) q (x + 2)) (by omega) (by omega) (by omega) (by omega) (by omega) (by omega); rw [a1] at this; exact this
  · have := injective_ (tuL (x + 2) q) (by omega); rw [a2] at this; exact this
  · have := arrow_ (obA (x + 2)) (obL (x + 2) q) (tuL (x + 2) q) (by omega) (by omega) (by omega) (by omega) (by omega); rw [a3] at this; refine PCall.args ?_ this; exact ⟨ArgW.refl _, hW, ArgW.refl _, trivial⟩
  · have := arrow_ (obL (x + 2) q) (obB (x + 2) q) (idS ((x + 2 : Nat) : Int)) (by omega) (by omega) (by omega) (by omega) (by omega); rw [a4] at this; refine PCall.args ?_ this; exact ⟨hW, ArgW.refl _, ArgW.refl _, trivial⟩
  · have := arrow_ (obA (x + 2)) (obO (x + 2) q) (tuL (x + 2) q) (by omega) (by omega) (by omega) (by omega) (by omega); rw [a5] at this; exact this
  · have := inverse_ (obA (x + 2)) (obL (x + 2) q) (tuL (x + 2) q) (baK (x + 2) q (x + 2)) (by omega) (by omega) (by omega) (by omega) (by omega) (by omega); rw [a6] at this; refine PCall.args ?_ this; exact ⟨ArgW.refl _, hW, ArgW.refl _, ArgW.refl _, trivial⟩
  · have := arrow_ (obA (x + 2)) (obB (x + 2) q) ((tuL (x + 2) q).drop 1) (by omega) (by omega) (by omega) (by omega) (by rw [List.length_drop]; omega); rw [a7] at this; exact this
set_option maxRecDepth 20000 in
set_option maxHeartbeats 8000000 in
theorem lawTurns_ (z0 z1 : Int) (b0 : 0 ≤ z0 ∧ z0 < 256) (b1 : 0 ≤ z1 ∧ z1 < 256) : PCall Tryd.prog 3 [.t (.v (.int .u8 z0)), .t (.v (.int .u8 z1))] (Bo true) := by
  refine pcall_of_body Tryd.func3 rfl fun s Q hQ => ?_
  obtain ⟨e, he, hl, h0, h1⟩ : ∃ e : Env, ([.t (.v (.int .u8 z0)), .t (.v (.int .u8 z1))] ++ List.replicate (Tryd.f3.ntmps - ([.t (.v (.int .u8 z0)), .t (.v (.int .u8 z1))] : List V).length) .junk) = e ∧ e.length = 148 ∧ ev e (.tmp 0) = .t (.v (.int .u8 z0)) ∧ ev e (.tmp 1) = .t (.v (.int .u8 z1)) := ⟨_, rfl, rfl, rfl, rfl⟩
  rw [he]
  clear he
  obtain ⟨x, hx, hx10⟩ : ∃ x : Nat, z0 % 10 = (x : Int) ∧ x < 10 := ⟨(z0 % 10).toNat, by omega, by omega⟩
  obtain ⟨q, rfl, hq⟩ : ∃ q : Nat, z1 = (q : Int) ∧ q < 256 := ⟨z1.toNat, by omega, by omega⟩
  obtain ⟨n, hn⟩ : ∃ n : Nat, n = x + 2 := ⟨_, rfl⟩
  have hxn : (x : Int) + 2 = (n : Int) := by omega
  refine vsk fun K1 hK1 => ?_
  refine vw_sc 0 [] ?_
  simp only [bs, ↓vopx, ↓vop, thenV, flat, wocs, ↓goc, ↓woc, ↓vopm0]
  refine hK1 _ _ ?_
  refine vsk fun K2 hK2 => ?_
  refine vsk fun K3 hK3 => ?_
  refine vw_sc 0 [.pur (Bo true)] ?_
  simp only [bs, ↓vopx, ↓vop, thenV, Nat.reduceLT, hl, wocs, ↓goc, ↓woc, ↓vopm0, ↓callC, calleeV]
  repeat ((with_reducible refine And.intro ?_ ?_); · exact ⟨Tryd.is5, known5_⟩)
  refine hK3 _ _ ?_
  refine vck fun A B hA hB => ?_
  simp only [condV, ev_hit, lpv, Nat.reduceLT, true_implies, reduceCtorEq, false_implies, true_and, hl]
  refine hB ?_
  clear hA hB A B
  refine vw_skip ?_
  refine hK2 _ _ ?_
  refine vsk fun K4 hK4 => ?_
  refine vw_cut 5 rfl ?_
  refine vl_chunk 0 0 2 3 [] [.far (.int .u8 (x : Int))] (by decide +kernel) (by decide) fun ops' KC hgs hKC => ?_
  simp only [bs, ↓vopx, ↓vop, Nat.reduceBEq, flat, Nat.reduceLT, hl, h0, wocs, ↓goc, ↓woc, ↓vopm0, ↓farC]
  refine ⟨.inl ⟨_, _, rfl, rfl, by rw [rem_u8 _ _ _ _ _ b0.1 (by decide), hx]⟩, ?_⟩
  refine hKC _ _ ?_
  clear hgs hKC KC ops'
  refine vl_conv (i := 2) (m := 2) rfl rfl rfl (a := .int .u8 (x : Int)) (v := .int .i64 (x : Int)) (by simp only [ev_hit, lpv, hl, Nat.reduceLT]; rfl) (conv_ui (by omega) (by omega)) ?_
  change VL _ _ _ (List.range' 3 2) (putv _ (some 18) (I (x : Int))) _
  refine vl_chunk 0 3 2 0 [] [] (by decide +kernel) (by decide) fun ops' KC hgs hKC => ?_
  simp only [bs, ↓vopx, ↓vop, flat, Nat.reduceLT, opII, hl, hxn, wocs, ↓goc, ↓woc, ↓vopm0]
  refine ⟨⟨by omega, by omega⟩, ?_⟩
  refine hKC _ _ ?_
  clear hgs hKC KC ops'
  refine vl_nil ?_
  try simp only [thenV]
  refine hK4 _ _ ?_
  refine vsk fun K5 hK5 => ?_
  refine vw_sc 0 [] ?_
  simp only [bs, ↓vopx, ↓vop, thenV, wocs, ↓goc, ↓woc, ↓vopm0, Tryd.zv26]
  refine hK5 _ _ ?_
  refine vsk fun K6 hK6 => ?_
  suffices key : ∀ (e2 : Env) (s2 : Sg) (m8 m9 : Nat), e2.length = 148 → ev e2 (.tmp 1) = .t (.v (.int .u8 (q : Int))) → ev e2 (.tmp 5) = I n → ev e2 (.tmp 6) = .ptr s.next 0 → ev e2 (.tmp 7) = .ptr (s.next + 1) 0 → ev e2 (.tmp 8) = .loc m8 0 n → ev e2 (.tmp 9) = .loc m9 0 n → TuA s n q m8 m9 s2 → K6 e2 s2 by
    refine vw_tree_all Tryd.mixed 5 [1, 3] (.quiet 0 0 (.quiet 2 0 (.alt 1 0 (.quiet 4 0 (.alt 3 0 (.leaf) (.none))) (.alt 3 0 (.alt 1 0 (.quiet 4 0 (.leaf)) (.none)) (.none))))) [] [] 0 (by decide +kernel) (by simp [lpv, hl]) rfl ?_
    simp only [bs, ↓vopx, ↓vop, Nat.reduceBEq, thenV, Nat.reduceLT, hl, trn, wocs, ↓goc, ↓woc, ↓vopm0, ↓goq, ↓woq, Tryd.sl27]
    (repeat' (with_reducible refine And.intro ?_ ?_))
    all_goals first | omega | ((repeat' first | exact Keep.refl _ | refine Keep.add ?_ ?_ _ | exact Nat.le_refl _ | (simp only [n_add]; omega)); done) | skip
    · refine key _ _ (s.next + 1 + 1) (s.next + 1 + 1 + 1) ?_ ?_ ?_ ?_ ?_ ?_ ?_ ⟨?_, ?_, ?_, ?_, fun j hj => ?_, ⟨by omega, ?_⟩, ⟨by omega, ?_⟩, by omega⟩
      · simp only [lpv, hl]
      · simp only [ev_miss, Nat.reduceBEq, h1]
      · simp only [ev_hit, ev_miss, Nat.reduceBEq, lpv, hl, Nat.reduceLT]
      · simp only [ev_hit, ev_miss, Nat.reduceBEq, lpv, hl, Nat.reduceLT]
      · simp only [ev_hit, ev_miss, Nat.reduceBEq, lpv, hl, Nat.reduceLT]
      · simp only [ev_hit, ev_miss, Nat.reduceBEq, lpv, hl, Nat.reduceLT]
      · simp only [ev_hit, lpv, hl, Nat.reduceLT]
      · simp only [m_add, n_add, nns, if_true, if_false]; try rfl
      · simp only [m_add, n_add, nns, if_true, if_false]; try rfl
      · simp only [m_add, n_add, nns, if_true, if_false]; simp [tuK, putL, repl_one]
      · simp only [m_add, n_add, nns, if_true, if_false]; simp [baK, putL, repl_one]
      · have z0 : ¬ j = s.next := (by omega); have z1 : ¬ j = s.next + 1 := (by omega); have z2 : ¬ j = s.next + 1 + 1 := (by omega); have z3 : ¬ j = s.next + 1 + 1 + 1 := (by omega)
        simp only [m_add, n_add, z0, z1, z2, z3, if_false]
      · simp only [n_add]; omega
      · simp only [n_add]; omega
    · refine key _ _ (s.next + 1 + 1 + 1) (s.next + 1 + 1) ?_ ?_ ?_ ?_ ?_ ?_ ?_ ⟨?_, ?_, ?_, ?_, fun j hj => ?_, ⟨by omega, ?_⟩, ⟨by omega, ?_⟩, by omega⟩
      · simp only [lpv, hl]
      · simp only [ev_miss, Nat.reduceBEq, h1]
      · simp only [ev_hit, ev_miss, Nat.reduceBEq, lpv, hl, Nat.reduceLT]
      · simp only [ev_hit, ev_miss, Nat.reduceBEq, lpv, hl, Nat.reduceLT]
      · simp only [ev_hit, ev_miss, Nat.reduceBEq, lpv, hl, Nat.reduceLT]
      · simp only [ev_hit, ev_miss, Nat.reduceBEq, lpv, hl, Nat.reduceLT]
      · simp only [ev_hit, lpv, hl, Nat.reduceLT]
      · simp only [m_add, n_add, nns, if_true, if_false]; try rfl
      · simp only [m_add, n_add, nns, if_true, if_false]; try rfl
      · simp only [m_add, n_add, nns, if_true, if_false]; simp [tuK, putL, repl_one]
      · simp only [m_add, n_add, nns, if_true, if_false]; simp [baK, putL, repl_one]
      · have z0 : ¬ j = s.next := (by omega); have z1 : ¬ j = s.next + 1 := (by omega); have z2 : ¬ j = s.next + 1 + 1 := (by omega); have z3 : ¬ j = s.next + 1 + 1 + 1 := (by omega)
        simp only [m_add, n_add, z0, z1, z2, z3, if_false]
      · simp only [n_add]; omega
      · simp only [n_add]; omega
  intro e2 s2 m8 m9 hl v1 v5 v6 v7 v8 v9 hA
  refine hK6 _ _ ?_
  refine vsk fun K7 hK7 => ?_
  refine vsk fun K8 hK8 => ?_
  have hA6 := hA.b6
  have hA7 := hA.b7
  refine VW.nameBox (s.next + 1) 0 1 9 (by decide) hA7 rfl ?_
  refine VW.nameBox s.next 0 1 9 (by decide) (by rw [m_set, if_neg (by omega), m_add, if_neg (by have := hA.l8; omega)]; exact hA6) rfl ?_
  refine vw_st2 fun s6 hS6 => ?_
  have hI : TuI s n q 0 0 0 0 (s2.next + 1) s2.next m8 m9 s6 := by rw [hS6]; exact hA.tuI
  clear hS6
  refine vw_sc 0 [] ?_
  simp only [bs, ↓vopx, ↓vop, thenV, flat, wocs, ↓goc, ↓woc, ↓vopm0]
  refine hK8 _ _ ?_
  refine vw_block ?_
  refine vw_loop (fun mm e' s' => ∃ i : Nat, mm = n - i ∧ i ≤ n ∧ e'.length = 148 ∧ ev e' (.tmp 1) = .t (.v (.int .u8 (q : Int))) ∧ ev e' (.tmp 5) = I n ∧ ev e' (.tmp 6) = .ptr s.next 0 ∧ ev e' (.tmp 7) = .ptr (s.next + 1) 0 ∧ ev e' (.tmp 10) = I i ∧ True ∧ ∃ m6 m7 m8 m9, ev e' (.tmp 8) = .loc m8 0 n ∧ ev e' (.tmp 9) = .loc m9 0 n ∧ TuI s n q i i i i m6 m7 m8 m9 s') (⟨0, rfl, Nat.zero_le _, ?_⟩) ?_
  · try simp only [ev_hit, ev_miss, Nat.reduceBEq, lpv, hl, v1, v5, v6, v7, v8, v9, Nat.reduceLT, true_and]
    repeat ((with_reducible refine And.intro ?_ ?_); · trivial)
    exact ⟨_, _, _, _, rfl, rfl, hI⟩
  rintro mm e s1 ⟨i, rfl, hle_i, hl, k1, k5, k6, k7, h_i, hst, ⟨m6, m7, m8, m9, k8, k9, hI⟩⟩
  refine vsk fun K9 hK9 => ?_
  refine vsk fun K10 hK10 => ?_
  refine vw_sc 0 [] ?_
  simp only [bs, ↓vopx, ↓vop, Nat.reduceBEq, thenV, Nat.reduceLT, opII, hl, k5, h_i, wocs, ↓goc, ↓woc, ↓vopm0]
  refine hK10 _ _ ?_
  refine vck fun A B hA hB => ?_
  simp only [condV, ev_hit, lpv, Nat.reduceLT, decide_eq_true_eq, decide_eq_false_iff_not, hl]
  refine ⟨fun hc26 => hA ?_, fun hc26 => hB ?_⟩
  · clear hA hB A B
    refine vw_skip ?_
    refine hK9 _ _ ?_
    refine vsk fun K11 hK11 => ?_
    refine vw_block ?_
    refine vsk fun K12 hK12 => ?_
    have b6 := hI.b6
    have b7 := hI.b7
    have a6 := hI.a6
    have l6 := hI.l6
    have a7 := hI.a7
    have a8 := hI.a8
    have a9 := hI.a9
    have l7 := hI.l7
    have l8 := hI.l8
    have l9 := hI.l9
    have hin : i < n := by omega
    have h8l := tuK_len n q i
    obtain ⟨w, hw, hwn⟩ : ∃ w : Nat, w = (i + q) % n ∧ w < n := ⟨_, rfl, Nat.mod_lt _ (by omega)⟩
    have hv : ((i : Int) + (q : Int)) % (n : Int) = (w : Int) := by rw [hw]; push_cast; rfl
    refine vw_cut 10 rfl ?_
    refine vl_chunk 0 0 4 6 [] [] (by decide +kernel) (by decide) fun ops' KC hgs hKC => ?_
    simp only [bs, ↓vopx, ↓vop, Nat.reduceBEq, k1, k8, h_i, wocs, ↓goc, ↓woc, ↓vopm0]
    refine hKC _ _ ?_
    clear hgs hKC KC ops'
    refine vl_conv (i := 4) (m := 5) rfl rfl rfl (a := .int .u8 (q : Int)) (v := .int .i64 (q : Int)) (by simp only [ev_hit, lpv, hl, Nat.reduceLT]; rfl) (conv_ui (by omega) (by omega)) ?_
    change VL _ _ _ (List.range' 5 5) (putv _ (some 33) (I (q : Int))) _
    refine vl_chunk 0 5 5 0 [] [] (by decide +kernel) (by decide) fun ops' KC hgs hKC => ?_
    simp only [bs, ↓vopx, ↓vop, Nat.reduceBEq, Nat.reduceLT, V.cells, opII, hl, k5, a8, hv, h8l, wocs, ↓goc, ↓woc, ↓vopm0, Sg.frzL, Sg.frz1, Tryd.sz3, Tryd.un27]
    refine ⟨⟨by omega, by omega⟩, by omega, by omega, by omega, by omega, ?_⟩
    refine hKC _ _ ?_
    clear hgs hKC KC ops'
    refine vl_nil ?_
    try simp only [thenV]
    refine hK12 _ _ ?_
    refine vsk fun K13 hK13 => ?_
    refine vw_st2 fun s9 hS9 => ?_
    have hI9 : TuI s n q i i (i + 1) i m6 m7 m8 m9 s9 := by have := hI.set8; rw [tuK_succ hin, ← hw] at this; rw [hS9, setAll_TI2 _ (by omega)]; exact this
    clear hS9
    have c8 := hI9.a8
    have c9 := hI9.a9
    have h10 := tuK_at (n := n) (q := q) (Nat.lt_succ_self i) (by omega)
    rw [← hw] at h10
    have h10l := tuK_len n q (i + 1)
    have h9l := baK_len n q i
    refine vw_sc 0 [] ?_
    simp only [bs, ↓vopx, ↓vop, Nat.reduceBEq, thenV, Nat.reduceLT, V.cells, dLoad, vpart, Sg.frzL, Sg.frz1, hl, h_i, k8, k9, wocs, ↓goc, ↓woc, ↓vopm0, Tryd.ag3, Tryd.sz3, Tryd.un27, c8, c9, h10, h9l]
    repeat ((with_reducible refine And.intro ?_ ?_); · first | (with_reducible assumption) | omega)
    refine hK13 _ _ ?_
    refine vsk fun K14 hK14 => ?_
    refine vw_st2 fun s10 hS10 => ?_
    have hI10 : TuI s n q i i (i + 1) (i + 1) m6 m7 m8 m9 s10 := by have := hI9.set9; rw [baK_succ hin, ← hw] at this; rw [hS10, setAll_TI2 _ (by omega)]; exact this
    clear hS10
    have f6 := hI10.b6
    have g6 := hI10.a6
    have k6l := hI10.l6
    have y1 : ¬ m6 = s10.next := by omega
    have y2 : ¬ s10.next = m6 := by omega
    have y3 : ¬ s.next = m6 := by omega
    have y4 : ¬ s.next = s10.next := by omega
    have y5 : ¬ s.next = s10.next + 1 := by omega
    have hfl := labA_len i
    refine vw_cut 11 rfl ?_
    refine vl_chunk 1 0 3 8 [] [] (by decide +kernel) (by decide) fun ops' KC hgs hKC => ?_
    simp only [bs, ↓vopx, ↓vop, Nat.reduceBEq, Nat.reduceLT, dLoad, vpart, hl, k6, h_i, f6, wocs, ↓goc, ↓woc, ↓vopm1, nns, Tryd.ag23, Tryd.sz23, Tryd.fd26_0]
    refine hKC _ _ ?_
    clear hgs hKC KC ops'
    refine vl_conv (i := 3) (m := 7) rfl rfl rfl (a := .int .i64 (i : Int)) (v := .int .u8 (i : Int)) (by simp only [ev_hit, lpv, hl, Nat.reduceLT]; rfl) (conv_iu (by omega) (by omega)) ?_
    change VL _ _ _ (List.range' 4 7) (putv _ (some 48) (.t (.v (.int .u8 (i : Int))))) _
    refine vl_chunk 1 4 2 5 [] [.far (.int .u8 (97 + (i : Int)))] (by decide +kernel) (by decide) fun ops' KC hgs hKC => ?_
    simp only [bs, Nat.reduceLeDiff, vparts, gfill, repl, ↓vopx, flat, Nat.reduceLT, V.cells, hl, wocs, ↓goc, ↓woc, ↓vopm1, ↓farC, Sg.frzL, Sg.frz1, Sg.frzP, Tryd.sl28]
    refine ⟨.inl ⟨_, _, rfl, rfl, add_u8 _ _ _ _ _ (by omega) (by omega)⟩, ?_⟩
    refine hKC _ _ ?_
    clear hgs hKC KC ops'
    refine vl_cstr (i := 6) (m := 4) rfl rfl rfl Tryd.underlying28 Tryd.underlying5 Tryd.underlying9 (n := 97 + (i : Int)) (by simp only [ev_hit, lpv, hl, Nat.reduceLT]; try rfl) ?_
    change VL _ _ _ (List.range' 7 4) (putv _ (some 51) (.t (TS (bStr (97 + (i : Int)))))) _
    refine vl_chunk 0 7 4 0 [] [] (by decide +kernel) (by decide) fun ops' KC hgs hKC => ?_
    simp only [bs, dstT, srcT, Nat.reduceLeDiff, Nat.reduceAdd, vparts, gfill, repl, ↓vopx, ↓vop, Nat.reduceBEq, Nat.reduceLT, V.cells, hl, k6, f6, g6, y1, y3, y4, y5, hfl, Nat.div_one, wocs, ↓goc, ↓woc, ↓vopm0, nns, Sg.frzL, Sg.frz1, Sg.frzP, Tryd.sz23, Tryd.sl23, Tryd.fd26_0]
    repeat ((with_reducible refine And.intro ?_ ?_); · omega)
    refine hKC _ _ ?_
    clear hgs hKC KC ops'
    refine vl_nil ?_
    try simp only [thenV]
    refine hK14 _ _ ?_
    refine vw_st2 fun s11 hS11 => ?_
    have hI11 : TuI s n q (i + 1) i (i + 1) (i + 1) (s10.next + 1) m7 m8 m9 s11 := by rw [hS11]; exact hI10.push6 _
    clear hS11
    have c7 := hI11.b7
    have c77 := hI11.a7
    have l77 := hI11.l7
    have z1 : ¬ m7 = s11.next := by omega
    have z2 : ¬ s11.next = m7 := by omega
    have z3 : ¬ s.next + 1 = m7 := by omega
    have z4 : ¬ s.next + 1 = s11.next := by omega
    have z5 : ¬ s.next + 1 = s11.next + 1 := by omega
    refine vw_sc 0 [] ?_
    simp only [bs, dstT, srcT, Nat.reduceLeDiff, Nat.reduceAdd, vparts, gfill, repl, Sg.frzP, ↓vopx, ↓vop, Nat.reduceBEq, thenV, blockV, flat, Nat.reduceLT, V.cells, dLoad, vpart, Sg.frzL, Sg.frz1, hl, k7, wocs, ↓goc, ↓woc, ↓vopm0, Tryd.ag23, Tryd.fd26_0, Tryd.sl23, Tryd.sz23, nns, c7, c77, z1, z3, z4, z5, List.length_replicate, Nat.div_one]
    repeat ((with_reducible refine And.intro ?_ ?_); · omega)
    refine hK11 _ _ ?_
    refine vw_sc 0 [] ?_
    simp only [bs, ↓vopx, ↓vop, Nat.reduceBEq, thenV, flat, Nat.reduceLT, opII, hl, k1, k5, k6, k7, h_i, k8, k9, wocs, ↓goc, ↓woc, ↓vopm0]
    repeat ((with_reducible refine And.intro ?_ ?_); · exact ⟨by omega, by omega⟩)
    refine ⟨n - (i + 1), by omega, i + 1, rfl, by omega, ?_⟩
    try simp only [ev_hit, ev_miss, Nat.reduceBEq, lpv, hl, k1, k5, k6, k7, h_i, k8, k9, if_true, if_false, Nat.reduceEqDiff, Nat.reduceLT, true_and, and_true]
    repeat ((with_reducible refine And.intro ?_ ?_); · trivial)
    exact ⟨_, _, _, _, rfl, rfl, hI11.push7 _⟩
  · clear hA hB A B
    refine vw_exit ?_
    simp only [thenV, blockV, if_true]
    refine hK7 _ _ ?_
    refine vsk fun K15 hK15 => ?_
    refine vsk fun K16 hK16 => ?_
    refine vw_sc 0 [] ?_
    simp only [bs, ↓vopx, ↓vop, thenV, flat, wocs, ↓goc, ↓woc, ↓vopm0]
    refine hK16 _ _ ?_
    refine vw_block ?_
    obtain rfl : n = i := by omega
    have b6 := hI.b6
    have a6 := hI.a6
    have a8 := hI.a8
    have a9 := hI.a9
    have l6 := hI.l6
    have l8 := hI.l8
    have l9 := hI.l9
    have dd := hI.d
    have d6 := hI.d6
    refine VW.freeze 8 (n := m8) (len := n) (k := 1) (el := 3) (cs := (tuK n q n).map TI) ?_ a8 (by rw [List.length_map, tuK_len, Nat.mul_one]) ?_
    · simp only [ev_miss, Nat.reduceBEq, k8]
    refine VW.freeze 9 (n := m9) (len := n) (k := 1) (el := 3) (cs := (baK n q n).map TI) ?_ (by rw [m_del, if_neg (by omega)]; exact a9) (by rw [List.length_map, baK_len, Nat.mul_one]) ?_
    · simp only [ev_miss, Nat.reduceBEq, k9]
    refine VW.freezeBox s.next 0 (n := m6) (ty := 26) (vs := [.loc m6 0 n, nilV]) (by rw [m_del, if_neg (by omega), m_del, if_neg (by omega)]; exact b6) rfl (by rw [m_del, if_neg (by omega), m_del, if_neg (by omega)]; exact a6) (by rw [List.length_map, labA_len, Nat.mul_one]) ?_
    refine vw_st2 fun sj hS => ?_
    have hJ : TuJ s n q 0 m7 sj := by
      refine hI.tuJ (by rw [hS]; simp only [n_set, n_del]) (fun x g1 g2 g3 g4 g5 => by rw [hS]; simp only [m_set, m_del, g2, g3, g4, g5, if_false]) ?_
      rw [hS]; simp only [m_set, m_del, if_true, if_false, show ¬ s.next = m6 from by omega]; rfl
    clear hS
    refine vw_en fun ea hE => ?_
    have hl0_ := hl
    have hl : ea.length = 148 := by rw [hE]; simp only [lpv, hl]
    have q11 : ev ea (.tmp 11) = I 0 := by rw [hE]; simp only [ev_hit, ev_miss, Nat.reduceBEq, lpv, hl0_, Nat.reduceLT]; try rfl
    have q5 : ev ea (.tmp 5) = I n := by rw [hE]; simp only [ev_miss, Nat.reduceBEq, k5]; try rfl
    have q6 : ev ea (.tmp 6) = .ptr s.next 0 := by rw [hE]; simp only [ev_miss, Nat.reduceBEq, k6]; try rfl
    have q7 : ev ea (.tmp 7) = .ptr (s.next + 1) 0 := by rw [hE]; simp only [ev_miss, Nat.reduceBEq, k7]; try rfl
    have q8 : ev ea (.tmp 8) = .t (tInts (tuK n q n)) := by rw [hE]; simp only [ev_hit, ev_miss, Nat.reduceBEq, lpv, hl0_, Nat.reduceLT]; try rfl
    have q9 : ev ea (.tmp 9) = .t (tInts (baK n q n)) := by rw [hE]; simp only [ev_hit, lpv, hl0_, Nat.reduceLT]; try rfl
    rw [tuK_full] at q8
    clear hE hl0_ k5 k6 k7 k8 k9 hI a6 a8 a9 b6
    refine vw_loop (fun mm e' s' => ∃ j : Nat, mm = n - j ∧ j ≤ n ∧ e'.length = 148 ∧ ev e' (.tmp 5) = I n ∧ ev e' (.tmp 6) = .ptr s.next 0 ∧ ev e' (.tmp 7) = .ptr (s.next + 1) 0 ∧ ev e' (.tmp 8) = .t (tInts (tuL n q)) ∧ ev e' (.tmp 9) = .t (tInts (baK n q n)) ∧ ev e' (.tmp 11) = I j ∧ True ∧ ∃ m7, TuJ s n q j m7 s') (⟨0, rfl, Nat.zero_le _, ?_⟩) ?_
    · try simp only [hl, q5, q6, q7, q8, q9, q11, true_and]
      repeat ((with_reducible refine And.intro ?_ ?_); · trivial)
      exact ⟨_, hJ⟩
    rintro mm e s1 ⟨j, rfl, hle_j, hl, q5, q6, q7, q8, q9, h_j, hst, ⟨m7, hJ⟩⟩
    refine vsk fun K17 hK17 => ?_
    refine vsk fun K18 hK18 => ?_
    refine vw_sc 0 [] ?_
    simp only [bs, ↓vopx, ↓vop, Nat.reduceBEq, thenV, Nat.reduceLT, opII, hl, q5, h_j, wocs, ↓goc, ↓woc, ↓vopm0]
    refine hK18 _ _ ?_
    refine vck fun A B hA hB => ?_
    simp only [condV, ev_hit, lpv, Nat.reduceLT, decide_eq_true_eq, decide_eq_false_iff_not, hl]
    refine ⟨fun hc62 => hA ?_, fun hc62 => hB ?_⟩
    · clear hA hB A B
      refine vw_skip ?_
      refine hK17 _ _ ?_
      refine vsk fun K19 hK19 => ?_
      refine vw_block ?_
      have b6 := hJ.b6
      have b7 := hJ.b7
      have a7 := hJ.a7
      have l7 := hJ.l7
      have hjn : j < n := by omega
      obtain ⟨w, hw, hwn⟩ : ∃ w : Nat, w = (j + q) % n ∧ w < n := ⟨_, rfl, Nat.mod_lt _ (by omega)⟩
      have h16 : (tuL n q)[j]? = some (w : Int) := by rw [hw]; exact tuL_at hjn
      have h17 := labA_at hjn
      have e1 := tuL_len n q
      have e2_ := labA_len n
      have e3 := laK_len n q j
      refine vw_chain Tryd.mixed 11 [0, 1, 0, 0, 1, 1, 0, 1, 0, 1, 1] [] [] 0 (by decide +kernel) (by simp [lpv, hl]) rfl ?_
      simp only [bs, ↓vopx, ↓vop, Nat.reduceBEq, thenV, blockV, Nat.reduceLT, V.cells, dLoad, vpart, Sg.frzL, Sg.frz1, hl, q6, q7, q8, h_j, wocs, ↓goc, ↓woc, ↓vopm0, ↓vopm1, chn, ↓goq, ↓woq, List.zip_cons_cons, List.zip_nil_right, Tryd.ag23, Tryd.ag3, Tryd.ag9, Tryd.fd26_0, Tryd.sz23, Tryd.sz3, Tryd.sz9, Tryd.un23, Tryd.un27, nns, b6, b7, a7, h16, h17, e1, e2_, e3, hjn]
      repeat ((with_reducible refine And.intro ?_ ?_); · omega)
      refine hK19 _ _ ?_
      refine vw_st2 fun s16 hS16 => ?_
      have hJ16 : TuJ s n q (j + 1) m7 s16 := by rw [hS16, setAll_TS2 _ (by omega), hw]; exact hJ.put hjn
      clear hS16
      refine vw_sc 0 [] ?_
      simp only [bs, ↓vopx, ↓vop, Nat.reduceBEq, thenV, flat, Nat.reduceLT, opII, hl, q5, q6, q7, q8, q9, h_j, wocs, ↓goc, ↓woc, ↓vopm0]
      repeat ((with_reducible refine And.intro ?_ ?_); · exact ⟨by omega, by omega⟩)
      refine ⟨n - (j + 1), by omega, j + 1, rfl, by omega, ?_⟩
      try simp only [ev_hit, ev_miss, Nat.reduceBEq, lpv, hl, q5, q6, q7, q8, q9, h_j, if_true, if_false, Nat.reduceEqDiff, Nat.reduceLT, true_and, and_true]
      repeat ((with_reducible refine And.intro ?_ ?_); · trivial)
      exact ⟨_, hJ16⟩
    · clear hA hB A B
      refine vw_exit ?_
      simp only [thenV, blockV, if_true]
      refine hK15 _ _ ?_
      refine vsk fun K20 hK20 => ?_
      obtain rfl : n = j := by omega
      have b6 := hJ.b6
      have b7 := hJ.b7
      have a7 := hJ.a7
      have l7 := hJ.l7
      have hsm := hJ.same
      refine VW.freezeBox (s.next + 1) 0 (n := m7) b7 rfl a7 (by rw [List.length_map, laK_len, Nat.mul_one]) ?_
      refine vw_st2 fun sa hS => ?_
      have y1 : ¬ s.next = m7 := by omega
      have y2 : ¬ s.next + 1 = m7 := by omega
      have p6 : sa.m s.next = some (.box 26 [.t (tStrs (labA n)), nilV]) := by rw [hS]; simp only [m_set, m_del, nns, y1, if_false]; exact b6
      have p7 : sa.m (s.next + 1) = some (.box 26 [.t (tStrs (laK n q n)), nilV]) := by rw [hS]; simp only [m_set, m_del, y2, if_true, if_false]; rfl
      have pk : ∀ x, x < s.next → sa.m x = s.m x := fun x hx => by rw [hS, m_set, if_neg (by omega), m_del, if_neg (by omega)]; exact hsm x hx
      have pn : s.next + 1 < sa.next := by rw [hS]; simp only [n_set, n_del]; omega
      clear hS hJ b6 b7 a7 hsm
      have z1 : ¬ s.next = sa.next := by omega
      have z2 : ¬ s.next + 1 = sa.next := by omega
      have z3 : ¬ sa.next = s.next := by omega
      have z4 : ¬ sa.next = s.next + 1 := by omega
      have z5 : ¬ s.next = sa.next + 1 := by omega
      have z6 : ¬ s.next + 1 = sa.next + 1 := by omega
      have z7 : ¬ s.next = sa.next + 1 + 1 := by omega
      have z8 : ¬ s.next + 1 = sa.next + 1 + 1 := by omega
      have z9 : ¬ sa.next + 1 = s.next := by omega
      have za : ¬ sa.next + 1 = s.next + 1 := by omega
      have zb : ¬ sa.next + 1 + 1 = s.next := by omega
      have zc : ¬ sa.next + 1 + 1 = s.next + 1 := by omega
      have e1 := tuL_len n q
      have g0 : (tuL n q)[0]? = some (((0 + q) % n : Nat) : Int) := tuL_at (by omega)
      have g1 : (tuL n q)[1]? = some (((1 + q) % n : Nat) : Int) := tuL_at (by omega)
      have n1 : 1 < n := by omega
      have n0 : 0 < n := by omega
      refine vw_sc 1 [] ?_
      simp only [bs, Nat.reduceLeDiff, Nat.reduceAdd, vparts, gfill, repl, Sg.frzP, ↓vopx, ↓vop, Nat.reduceBEq, thenV, flat, Nat.reduceLT, V.cells, Sg.frzL, Sg.frz1, hl, q6, wocs, ↓goc, ↓woc, ↓vopm1, Tryd.fd26_1, Tryd.sl24, Tryd.st30, Tryd.sz24, nns, p6, z1]
      repeat ((with_reducible refine And.intro ?_ ?_); · omega)
      refine hK20 _ _ ?_
      refine vsk fun K21 hK21 => ?_
      refine vw_chain Tryd.mixed 6 [0, 1, 1, 0, 1, 1] [] [] 1 (by decide +kernel) (by simp [lpv, hl]) rfl ?_
      simp only [bs, Nat.reduceLeDiff, Nat.reduceAdd, vparts, gfill, repl, Sg.frzP, ↓vopx, ↓vop, Nat.reduceBEq, thenV, flat, Nat.reduceLT, V.cells, dLoad, vpart, Sg.frzL, Sg.frz1, hl, q7, q8, wocs, ↓goc, ↓woc, ↓vopm1, chn, ↓goq, ↓woq, List.zip_cons_cons, List.zip_nil_right, Tryd.ag3, Tryd.fd26_1, Tryd.sl24, Tryd.st30, Tryd.sz24, Tryd.sz3, Tryd.un27, nns, p7, e1, g0, g1, n0, n1, Int.toNat_zero, Int.toNat_one]
      repeat ((with_reducible refine And.intro ?_ ?_); · omega)
      refine hK21 _ _ ?_
      refine vsk fun K22 hK22 => ?_
      refine vw_sc 0 [] ?_
      simp only [bs, Nat.reduceAdd, ↓vopx, ↓vop, Nat.reduceBEq, thenV, Nat.reduceLT, V.cells, dLoad, vpart, hl, q7, wocs, ↓goc, ↓woc, ↓vopm0, Tryd.ag26, Tryd.sz26, Tryd.zv26, nns, p7, z3, z4]
      refine hK22 _ _ ?_
      refine vsk fun K23 hK23 => ?_
      refine vw_sc 0 [] ?_
      simp only [bs, Nat.reduceAdd, ↓vopx, ↓vop, thenV, flat, Nat.reduceLT, V.cells, hl, wocs, ↓goc, ↓woc, ↓vopm0, Tryd.fd26_1, Tryd.sz24, nns, z3, z4]
      refine hK23 _ _ ?_
      refine vsk fun K24 hK24 => ?_
      refine vw_sc 0 [] ?_
      simp only [bs, Nat.reduceAdd, ↓vopx, ↓vop, Nat.reduceBEq, thenV, Nat.reduceLT, V.cells, dLoad, vpart, hl, q7, wocs, ↓goc, ↓woc, ↓vopm0, Tryd.ag26, Tryd.sz26, Tryd.zv26, nns, p7, z2, z9, za]
      refine hK24 _ _ ?_
      refine vsk fun K25 hK25 => ?_
      refine vw_sc 0 [] ?_
      simp only [bs, dstT, srcT, Nat.reduceLeDiff, Nat.reduceAdd, ↓vopx, ↓vop, Nat.reduceBEq, thenV, flat, Nat.reduceLT, V.cells, dLoad, vpart, hl, q7, wocs, ↓goc, ↓woc, ↓vopm0, Tryd.ag23, Tryd.fd26_0, Tryd.sl23, Tryd.sz23, nns, p7, z2, z6, z9, za, laK_len, Nat.div_one]
      repeat ((with_reducible refine And.intro ?_ ?_); · omega)
      refine hK25 _ _ ?_
      refine vsk fun K26 hK26 => ?_
      refine vw_st2 fun sc hS => ?_
      have r6 : sc.m s.next = some (.box 26 [.t (tStrs (obA n).labels), .t (tPairs (obA n).pairs)]) := by rw [hS]; simp only [m_set, m_add, n_set, n_add, nns, z1, z5, z7, if_true, if_false]; rfl
      have r7 : sc.m (s.next + 1) = some (.box 26 [.t (tStrs (obB n q).labels), .t (tPairs (obB n q).pairs)]) := by rw [hS]; simp only [m_set, m_add, n_set, n_add, nns, z2, z6, z8, if_true, if_false]; simp only [obB, Nat.zero_add]; rfl
      have r12 : sc.m sa.next = some (.box 26 [.t (tStrs (laK n q n)), nilV]) := by rw [hS]; simp only [m_set, m_add, n_set, n_add, nns, z3, z4, if_true, if_false]
      have r13 : sc.m (sa.next + 1) = some (.box 26 [.loc (sa.next + 1 + 1) 0 n, .t (tPairs (obB n q).pairs)]) := by rw [hS]; simp only [m_set, m_add, n_set, n_add, nns, z9, za, if_true, if_false]; simp only [obB, Nat.zero_add]; rfl
      have rM : sc.m (sa.next + 1 + 1) = some (.arr 1 9 ((laK n q n).map TS)) := by rw [hS]; simp only [m_set, m_add, n_set, n_add, nns, zb, zc, if_true, if_false]
      have rk : ∀ x, x < s.next → sc.m x = s.m x := fun x hx => by have g1 : ¬ x = s.next := (by omega); have g2 : ¬ x = s.next + 1 := (by omega); have g3 : ¬ x = sa.next := (by omega); have g4 : ¬ x = sa.next + 1 := (by omega); have g5 : ¬ x = sa.next + 1 + 1 := (by omega); rw [← pk x hx, hS]; simp only [m_set, m_add, n_set, n_add, g1, g2, g3, g4, g5, if_false]
      clear hS p6 p7
      have e3 := laK_len n q n
      have hw1 : (1 + q) % n < n := Nat.mod_lt _ (by omega)
      refine vw_chain Tryd.mixed 5 [0, 1, 0, 1, 1] [] [] 0 (by decide +kernel) (by simp [lpv, hl]) rfl ?_
      simp only [bs, ↓vopx, ↓vop, Nat.reduceBEq, thenV, flat, Nat.reduceLT, V.cells, dLoad, vpart, Sg.frzL, Sg.frz1, hl, q8, wocs, ↓goc, ↓woc, ↓vopm0, ↓vopm1, chn, ↓goq, ↓woq, List.zip_cons_cons, List.zip_nil_right, Tryd.ag23, Tryd.ag3, Tryd.fd26_0, Tryd.sz23, Tryd.sz3, Tryd.sz9, Tryd.un23, Tryd.un27, nns, r13, rM, e1, e3, g1, n1, Int.toNat_one]
      repeat ((with_reducible refine And.intro ?_ ?_); · omega)
      refine hK26 _ _ ?_
      refine vsk fun K27 hK27 => ?_
      rw [setAll_TS2 _ (by omega)]
      have hoo : (laK n q n).set ((1 + q) % n) sOther = (obO n q).labels := rfl
      refine VW.freezeBox (sa.next + 1) 0 (n := sa.next + 1 + 1) (ty := 26) (vs := [.loc (sa.next + 1 + 1) 0 n, .t (tPairs (obB n q).pairs)]) (cs := ((laK n q n).set ((1 + q) % n) sOther).map TS) (k := 1) (el := 9) (by rw [m_set, if_neg (by omega)]; exact r13) rfl (by rw [m_set, if_pos rfl]) (by rw [List.length_map, List.length_set, e3, Nat.mul_one]) ?_
      refine vw_st2 fun sd hS => ?_
      have t6_ : sd.m (s.next) = some (.box 26 [.t (tStrs (obA n).labels), .t (tPairs (obA n).pairs)]) := by rw [hS]; simp only [m_set, m_del, z5, z7, if_false]; first | exact r6 | rfl
      have t7_ : sd.m (s.next + 1) = some (.box 26 [.t (tStrs (obB n q).labels), .t (tPairs (obB n q).pairs)]) := by rw [hS]; simp only [m_set, m_del, z6, z8, if_false]; first | exact r7 | rfl
      have t12_ : sd.m (sa.next) = some (.box 26 [.t (tStrs (laK n q n)), nilV]) := by rw [hS]; simp only [m_set, m_del, nns, if_false]; first | exact r12 | rfl
      have t13_ : sd.m (sa.next + 1) = some (.box 26 [.t (tStrs (obO n q).labels), .t (tPairs (obO n q).pairs)]) := by rw [hS]; simp only [m_set, m_del, nns, if_true, if_false]; first | exact r13 | rfl
      have tk : ∀ x, x < s.next → sd.m x = s.m x := fun x hx => by rw [← rk x hx, hS, m_set, if_neg (by omega), m_del, if_neg (by omega), m_set, if_neg (by omega)]
      clear hS r6 r7 r12 r13 rM rk
      obtain ⟨kt1, kt2, kt3, kt4, kt5, kt6, kt7⟩ := kt (q := q) hx10 hn
      refine vw_en fun eb hE => ?_
      have hl0_ := hl
      have hl : eb.length = 148 := by rw [hE]; simp only [lpv, hl]
      have q5 : ev eb (.tmp 5) = I n := by rw [hE]; simp only [ev_miss, Nat.reduceBEq, q5]
      have q6 : ev eb (.tmp 6) = .ptr s.next 0 := by rw [hE]; simp only [ev_miss, Nat.reduceBEq, q6]
      have q7 : ev eb (.tmp 7) = .ptr (s.next + 1) 0 := by rw [hE]; simp only [ev_miss, Nat.reduceBEq, q7]
      have q8 : ev eb (.tmp 8) = .t (tInts (tuL n q)) := by rw [hE]; simp only [ev_miss, Nat.reduceBEq, q8]
      have q9 : ev eb (.tmp 9) = .t (tInts (baK n q n)) := by rw [hE]; simp only [ev_miss, Nat.reduceBEq, q9]
      have q12 : ev eb (.tmp 12) = .ptr sa.next 0 := by rw [hE]; simp only [ev_hit, ev_miss, Nat.reduceBEq, lpv, hl0_, Nat.reduceLT]
      have q13 : ev eb (.tmp 13) = .ptr (sa.next + 1) 0 := by rw [hE]; simp only [ev_hit, ev_miss, Nat.reduceBEq, lpv, hl0_, Nat.reduceLT]
      clear hE
      refine vw_phase Tryd.mixed ?_
      refine phase_chain 0 4 10 [1, 1, 0, 0] [] [.pur (Bo true), .pur (Bo true)] 0 (by decide +kernel) (by simp [hl]) rfl ?_
      simp only [bs, Nat.reduceAdd, ↓vopx, ↓vop, Nat.reduceBEq, flat, Nat.reduceLT, dLoad, vpart, gtmp, hl, q6, q7, q8, q9, Nat.reduceSub, wocs, ↓goc, ↓woc, ↓vopm0, ↓vopm1, ↓callC, ↓pick_tt, calleeV, ↓yieldC, chn, ↓goq, ↓woq, List.zip_cons_cons, List.zip_nil_right, Tryd.ag26, Tryd.sz26, t6_, t7_]
      repeat ((with_reducible refine And.intro ?_ ?_); · first | exact ⟨Tryd.is6, kt1⟩ | exact ⟨Tryd.is7, kt2⟩)
      refine phase_env fun e24_0 hE => ?_
      have hl24_0 : e24_0.length = 148 := by rw [hE]; simp only [lpv, hl]
      have r1_5 : ev e24_0 (.tmp 5) = I n := by rw [hE]; simp only [ev_miss, Nat.reduceBEq, q5]
      have r1_6 : ev e24_0 (.tmp 6) = .ptr s.next 0 := by rw [hE]; simp only [ev_miss, Nat.reduceBEq, q6]
      have r1_7 : ev e24_0 (.tmp 7) = .ptr (s.next + 1) 0 := by rw [hE]; simp only [ev_miss, Nat.reduceBEq, q7]
      have r1_8 : ev e24_0 (.tmp 8) = .t (tInts (tuL n q)) := by rw [hE]; simp only [ev_miss, Nat.reduceBEq, q8]
      have r1_9 : ev e24_0 (.tmp 9) = .t (tInts (baK n q n)) := by rw [hE]; simp only [ev_miss, Nat.reduceBEq, q9]
      have r1_12 : ev e24_0 (.tmp 12) = .ptr sa.next 0 := by rw [hE]; simp only [ev_miss, Nat.reduceBEq, q12]
      have r1_13 : ev e24_0 (.tmp 13) = .ptr (sa.next + 1) 0 := by rw [hE]; simp only [ev_miss, Nat.reduceBEq, q13]
      have r1_111 : ev e24_0 (.tmp 111) = Bo true := by rw [hE]; simp only [ev_hit, lpv, hl, Nat.reduceLT]
      clear hE
      refine phase_chain 10 13 17 [1, 1, 0] [] [.pur (Bo false)] 0 (by decide +kernel) (by simp [hl24_0]) rfl ?_
      simp only [bs, Nat.reduceAdd, ↓vopx, ↓vop, Nat.reduceBEq, flat, Nat.reduceLT, dLoad, vpart, gtmp, hl24_0, r1_6, r1_8, r1_12, r1_111, Nat.reduceSub, wocs, ↓goc, ↓woc, ↓vopm0, ↓vopm1, ↓callC, ↓pick_tt, calleeV, chn, ↓goq, ↓woq, List.zip_cons_cons, List.zip_nil_right, Tryd.ag26, Tryd.sz26, t6_, t12_]
      repeat ((with_reducible refine And.intro ?_ ?_); · exact ⟨Tryd.is8, kt3⟩)
      refine phase_env fun e24_10 hE => ?_
      have hl24_10 : e24_10.length = 148 := by rw [hE]; simp only [lpv, hl24_0]
      have r2_5 : ev e24_10 (.tmp 5) = I n := by rw [hE]; simp only [ev_miss, Nat.reduceBEq, r1_5]
      have r2_6 : ev e24_10 (.tmp 6) = .ptr s.next 0 := by rw [hE]; simp only [ev_miss, Nat.reduceBEq, r1_6]
      have r2_7 : ev e24_10 (.tmp 7) = .ptr (s.next + 1) 0 := by rw [hE]; simp only [ev_miss, Nat.reduceBEq, r1_7]
      have r2_8 : ev e24_10 (.tmp 8) = .t (tInts (tuL n q)) := by rw [hE]; simp only [ev_miss, Nat.reduceBEq, r1_8]
      have r2_9 : ev e24_10 (.tmp 9) = .t (tInts (baK n q n)) := by rw [hE]; simp only [ev_miss, Nat.reduceBEq, r1_9]
      have r2_12 : ev e24_10 (.tmp 12) = .ptr sa.next 0 := by rw [hE]; simp only [ev_miss, Nat.reduceBEq, r1_12]
      have r2_13 : ev e24_10 (.tmp 13) = .ptr (sa.next + 1) 0 := by rw [hE]; simp only [ev_miss, Nat.reduceBEq, r1_13]
      have r2_118 : ev e24_10 (.tmp 118) = Bo true := by rw [hE]; simp only [ev_hit, lpv, hl24_0, Nat.reduceLT]
      clear hE
      refine phase_chain 17 21 24 [1, 1, 0, 0] [.pur (.t (tInts (idS (n : Int))))] [.pur (Bo true)] 0 (by decide +kernel) (by simp [hl24_10]) rfl ?_
      simp only [bs, Nat.reduceAdd, ↓vopx, ↓vop, Nat.reduceBEq, flat, Nat.reduceLT, dLoad, vpart, gtmp, hl24_10, r2_5, r2_7, r2_12, r2_118, Nat.reduceSub, wocs, ↓goc, ↓woc, ↓vopm0, ↓vopm1, ↓callC, ↓pick_tt, calleeV, chn, ↓goq, ↓woq, ↓callQ, List.zip_cons_cons, List.zip_nil_right, Tryd.ag26, Tryd.sz26, t7_, t12_]
      repeat ((with_reducible refine And.intro ?_ ?_); · first | exact ⟨Tryd.is9, identity_ _⟩ | exact ⟨Tryd.is8, kt4⟩)
      refine phase_env fun e24_17 hE => ?_
      have hl24_17 : e24_17.length = 148 := by rw [hE]; simp only [lpv, hl24_10]
      have r3_5 : ev e24_17 (.tmp 5) = I n := by rw [hE]; simp only [ev_miss, Nat.reduceBEq, r2_5]
      have r3_6 : ev e24_17 (.tmp 6) = .ptr s.next 0 := by rw [hE]; simp only [ev_miss, Nat.reduceBEq, r2_6]
      have r3_7 : ev e24_17 (.tmp 7) = .ptr (s.next + 1) 0 := by rw [hE]; simp only [ev_miss, Nat.reduceBEq, r2_7]
      have r3_8 : ev e24_17 (.tmp 8) = .t (tInts (tuL n q)) := by rw [hE]; simp only [ev_miss, Nat.reduceBEq, r2_8]
      have r3_9 : ev e24_17 (.tmp 9) = .t (tInts (baK n q n)) := by rw [hE]; simp only [ev_miss, Nat.reduceBEq, r2_9]
      have r3_12 : ev e24_17 (.tmp 12) = .ptr sa.next 0 := by rw [hE]; simp only [ev_miss, Nat.reduceBEq, r2_12]
      have r3_13 : ev e24_17 (.tmp 13) = .ptr (sa.next + 1) 0 := by rw [hE]; simp only [ev_miss, Nat.reduceBEq, r2_13]
      have r3_125 : ev e24_17 (.tmp 125) = Bo true := by rw [hE]; simp only [ev_hit, lpv, hl24_10, Nat.reduceLT]
      clear hE
      refine phase_chain 24 27 31 [1, 1, 0] [] [.pur (Bo false)] 0 (by decide +kernel) (by simp [hl24_17]) rfl ?_
      simp only [bs, Nat.reduceAdd, ↓vopx, ↓vop, Nat.reduceBEq, flat, Nat.reduceLT, dLoad, vpart, gtmp, hl24_17, r3_6, r3_8, r3_13, r3_125, Nat.reduceSub, wocs, ↓goc, ↓woc, ↓vopm0, ↓vopm1, ↓callC, ↓pick_tt, calleeV, chn, ↓goq, ↓woq, List.zip_cons_cons, List.zip_nil_right, Tryd.ag26, Tryd.sz26, t6_, t13_]
      repeat ((with_reducible refine And.intro ?_ ?_); · exact ⟨Tryd.is8, kt5⟩)
      refine phase_env fun e24_24 hE => ?_
      have hl24_24 : e24_24.length = 148 := by rw [hE]; simp only [lpv, hl24_17]
      have r4_5 : ev e24_24 (.tmp 5) = I n := by rw [hE]; simp only [ev_miss, Nat.reduceBEq, r3_5]
      have r4_6 : ev e24_24 (.tmp 6) = .ptr s.next 0 := by rw [hE]; simp only [ev_miss, Nat.reduceBEq, r3_6]
      have r4_7 : ev e24_24 (.tmp 7) = .ptr (s.next + 1) 0 := by rw [hE]; simp only [ev_miss, Nat.reduceBEq, r3_7]
      have r4_8 : ev e24_24 (.tmp 8) = .t (tInts (tuL n q)) := by rw [hE]; simp only [ev_miss, Nat.reduceBEq, r3_8]
      have r4_9 : ev e24_24 (.tmp 9) = .t (tInts (baK n q n)) := by rw [hE]; simp only [ev_miss, Nat.reduceBEq, r3_9]
      have r4_12 : ev e24_24 (.tmp 12) = .ptr sa.next 0 := by rw [hE]; simp only [ev_miss, Nat.reduceBEq, r3_12]
      have r4_13 : ev e24_24 (.tmp 13) = .ptr (sa.next + 1) 0 := by rw [hE]; simp only [ev_miss, Nat.reduceBEq, r3_13]
      have r4_132 : ev e24_24 (.tmp 132) = Bo true := by rw [hE]; simp only [ev_hit, lpv, hl24_17, Nat.reduceLT]
      clear hE
      refine phase_chain 31 35 39 [1, 1, 0, 0] [] [.pur (Bo false)] 0 (by decide +kernel) (by simp [hl24_24]) rfl ?_
      simp only [bs, Nat.reduceAdd, ↓vopx, ↓vop, Nat.reduceBEq, flat, Nat.reduceLT, dLoad, vpart, gtmp, hl24_24, r4_6, r4_8, r4_9, r4_12, r4_132, Nat.reduceSub, wocs, ↓goc, ↓woc, ↓vopm0, ↓vopm1, ↓callC, ↓pick_tt, calleeV, chn, ↓goq, ↓woq, List.zip_cons_cons, List.zip_nil_right, Tryd.ag26, Tryd.sz26, t6_, t12_]
      repeat ((with_reducible refine And.intro ?_ ?_); · exact ⟨Tryd.is6, kt6⟩)
      refine phase_env fun e24_31 hE => ?_
      have hl24_31 : e24_31.length = 148 := by rw [hE]; simp only [lpv, hl24_24]
      have r5_5 : ev e24_31 (.tmp 5) = I n := by rw [hE]; simp only [ev_miss, Nat.reduceBEq, r4_5]
      have r5_6 : ev e24_31 (.tmp 6) = .ptr s.next 0 := by rw [hE]; simp only [ev_miss, Nat.reduceBEq, r4_6]
      have r5_7 : ev e24_31 (.tmp 7) = .ptr (s.next + 1) 0 := by rw [hE]; simp only [ev_miss, Nat.reduceBEq, r4_7]
      have r5_8 : ev e24_31 (.tmp 8) = .t (tInts (tuL n q)) := by rw [hE]; simp only [ev_miss, Nat.reduceBEq, r4_8]
      have r5_9 : ev e24_31 (.tmp 9) = .t (tInts (baK n q n)) := by rw [hE]; simp only [ev_miss, Nat.reduceBEq, r4_9]
      have r5_12 : ev e24_31 (.tmp 12) = .ptr sa.next 0 := by rw [hE]; simp only [ev_miss, Nat.reduceBEq, r4_12]
      have r5_13 : ev e24_31 (.tmp 13) = .ptr (sa.next + 1) 0 := by rw [hE]; simp only [ev_miss, Nat.reduceBEq, r4_13]
      have r5_140 : ev e24_31 (.tmp 140) = Bo true := by rw [hE]; simp only [ev_hit, lpv, hl24_24, Nat.reduceLT]
      clear hE
      refine phase_chain 39 43 47 [1, 1, 0, 1] [] [.pur (Bo false)] 0 (by decide +kernel) (by simp [hl24_31]) rfl ?_
      simp only [bs, Nat.reduceAdd, ↓vopx, ↓vop, Nat.reduceBEq, flat, Nat.reduceLT, dLoad, vpart, gtmp, hl24_31, r5_6, r5_7, r5_8, r5_140, Nat.reduceSub, wocs, ↓goc, ↓woc, ↓vopm0, ↓vopm1, ↓callC, ↓pick_tt, calleeV, chn, ↓goq, ↓woq, List.zip_cons_cons, List.zip_nil_right, Tryd.ag26, Tryd.sl27, Tryd.sz26, t6_, t7_, bnd, ev_const, vflat, flat, Nat.div_one, Int.toNat_one, e1]
      refine ⟨by omega, by omega, by omega, ?_⟩
      have hdr : List.take (n - 1) (List.drop 1 (List.map TI (tuL n q))) = ((tuL n q).drop 1).map TI := by rw [List.map_drop, List.take_of_length_le (by rw [List.length_drop, List.length_map, e1]; exact Nat.le_refl _)]
      rw [hdr]
      refine ⟨⟨Tryd.is8, kt7⟩, ?_⟩
      refine phase_end ?_
      try simp only [thenV]
      refine hK27 _ _ ?_
      refine vw_ret ?_
      refine hQ _ _ _ (.inr rfl) (done_tmp ?_ fun n b hn h => (tk n hn).trans h)
      try simp only [ev_hit, lpv, hl24_31, Nat.reduceLT]
end Go.Proofs
