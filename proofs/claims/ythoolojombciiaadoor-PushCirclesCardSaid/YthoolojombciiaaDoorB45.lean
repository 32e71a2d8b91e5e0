/- Lemmas on the way to the statement of this claim; no conditions. -/
import Derived.Shelf.Sort.AssemblyIn
import Derived.Shelf.Slices.In.SortNone
import Derived.Test.YthoolojombciiaaDoorB25
import Derived.Test.YthoolojombciiaaDoorB28
import Derived.Test.YthoolojombciiaaDoorB33
import Derived.Test.YthoolojombciiaaDoorB39
import Derived.Test.YthoolojombciiaaDoorB40
namespace Go.Proofs
open Go.Shelf
def Tryd.laysSort_ren : Go.Shelf.Ren := ⟨fun | 189 => 15 | 125 => 28 | 257 => 27 | 128 => 49 | 129 => 50 | 294 => 40 | 295 => 41 | 296 => 42 | 297 => 43 | 298 => 44 | 299 => 45 | 216 => 46 | 300 => 47 | 301 => 48 | 328 => 67 | 329 => 68 | 330 => 69 | 331 => 70 | 332 => 71 | 215 => 72 | 343 => 84 | n => n, fun | 28 => 27 | 3 => 3 | 46 => 61 | 0 => 0 | 51 => 90 | 53 => 92 | 4 => 4 | 183 => 83 | 182 => 82 | 131 => 87 | 5 => 5 | 9 => 9 | 218 => 113 | 222 => 117 | 228 => 131 | 229 => 132 | n => n, fun | n => n⟩
theorem Tryd.laysSort : Go.Proofs.Lays.n189 Tryd.prog Tryd.laysSort_ren := {
  mixed := by kernel_rfl
  f125 := Tryd.func28.trans (congrArg some (by kernel_rfl))
  f128 := Tryd.func49.trans (congrArg some (by kernel_rfl))
  f129 := Tryd.func50.trans (congrArg some (by kernel_rfl))
  f189 := Tryd.func15.trans (congrArg some (by kernel_rfl))
  f215 := Tryd.func72.trans (congrArg some (by kernel_rfl))
  f216 := Tryd.func46.trans (congrArg some (by kernel_rfl))
  f257 := Tryd.func27.trans (congrArg some (by kernel_rfl))
  f294 := Tryd.func40.trans (congrArg some (by kernel_rfl))
  f295 := Tryd.func41.trans (congrArg some (by kernel_rfl))
  f296 := Tryd.func42.trans (congrArg some (by kernel_rfl))
  f297 := Tryd.func43.trans (congrArg some (by kernel_rfl))
  f298 := Tryd.func44.trans (congrArg some (by kernel_rfl))
  f299 := Tryd.func45.trans (congrArg some (by kernel_rfl))
  f300 := Tryd.func47.trans (congrArg some (by kernel_rfl))
  f301 := Tryd.func48.trans (congrArg some (by kernel_rfl))
  f328 := Tryd.func67.trans (congrArg some (by kernel_rfl))
  f329 := Tryd.func68.trans (congrArg some (by kernel_rfl))
  f330 := Tryd.func69.trans (congrArg some (by kernel_rfl))
  f331 := Tryd.func70.trans (congrArg some (by kernel_rfl))
  f332 := Tryd.func71.trans (congrArg some (by kernel_rfl))
  f343 := Tryd.func84.trans (congrArg some (by kernel_rfl))
  t0 := Tryd.underlying0
  a0 := Tryd.isAgg0
  z0 := Tryd.sizeOf0
  v0 := Tryd.zeroValue0
  t3 := Tryd.underlying3
  a3 := Tryd.isAgg3
  z3 := Tryd.sizeOf3
  v3 := Tryd.zeroValue3
  t4 := Tryd.underlying4
  a4 := Tryd.isAgg4
  z4 := Tryd.sizeOf4
  v4 := Tryd.zeroValue4
  t5 := Tryd.underlying5
  a5 := Tryd.isAgg5
  z5 := Tryd.sizeOf5
  v5 := Tryd.zeroValue5
  t9 := Tryd.underlying9
  a9 := Tryd.isAgg9
  z9 := Tryd.sizeOf9
  v9 := Tryd.zeroValue9
  t28 := Tryd.underlying27
  a28 := Tryd.isAgg27
  z28 := Tryd.sizeOf27
  v28 := Tryd.zeroValue27
  t46 := Tryd.underlying61
  a46 := Tryd.isAgg61
  z46 := Tryd.sizeOf61
  v46 := Tryd.zeroValue61
  t51 := Tryd.underlying90
  a51 := Tryd.isAgg90
  z51 := Tryd.sizeOf90
  v51 := Tryd.zeroValue90
  t53 := Tryd.underlying92
  a53 := Tryd.isAgg92
  z53 := Tryd.sizeOf92
  v53 := Tryd.zeroValue92
  t131 := Tryd.underlying87
  a131 := Tryd.isAgg87
  z131 := Tryd.sizeOf87
  v131 := Tryd.zeroValue87
  t182 := Tryd.underlying82
  a182 := Tryd.isAgg82
  z182 := Tryd.sizeOf82
  v182 := Tryd.zeroValue82
  t183 := Tryd.underlying83
  a183 := Tryd.isAgg83
  z183 := Tryd.sizeOf83
  v183 := Tryd.zeroValue83
  t218 := Tryd.underlying113
  a218 := Tryd.isAgg113
  z218 := Tryd.sizeOf113
  v218 := Tryd.zeroValue113
  t222 := Tryd.underlying117
  a222 := Tryd.isAgg117
  z222 := Tryd.sizeOf117
  v222 := Tryd.zeroValue117
  t228 := Tryd.underlying131
  a228 := Tryd.isAgg131
  z228 := Tryd.sizeOf131
  v228 := Tryd.zeroValue131
  t229 := Tryd.underlying132
  a229 := Tryd.isAgg132
  z229 := Tryd.sizeOf132
  v229 := Tryd.zeroValue132 }
end Go.Proofs
open Go Go.V
namespace Go.V
theorem chg_more {P : Program} {B : Nat} {s : Sg} {ρ : Rho} {w : World} (hs : SR P B s ρ w) {n : Nat} {c : Blk} (hn : s.m n = some c) {bl : Nat} (hb : (ρ n).blk = some bl) (b : Blk) {w' : World}
    (h1 : w'.os = w.os) (h2 : w'.tape = w.tape) (h3 : w'.output = w.output) (h4 : w.heap.size ≤ w'.heap.size) (h5 : ∀ x, x < w.heap.size → x ≠ bl → w'.heap[x]? = w.heap[x]?)
    (h6 : ∀ rec, w.heap[bl]? = some (Obj.loop rec) → ∃ rec', w'.heap[bl]? = some (Obj.loop rec')) : Chg B s ρ w (s.set n b) w' n (ρ n) b where
  os := h1
  tape := h2
  output := h3
  size := h4
  same x hx he _ := h5 x hx (fun e => he (by rw [hb, e]))
  here m d hm := by
    unfold Sg.set at hm
    simp only at hm
    split at hm
    · rename_i e; cases hm; exact .inl ⟨e, rfl⟩
    · rename_i hne
      refine .inr ⟨hne, hm, ?_⟩
      rw [hb]
      by_cases hx : (ρ m).blk = some bl
      · exact absurd (hs.inj m n d c bl hm hn hx hb) hne
      · exact .inr hx
  name := .inr ⟨rfl, hs.lt n c hn, ⟨c, hn⟩, rfl⟩
  owned x hx := ⟨hs.lo n c x hn hx, .inr ⟨n, c, hn, hx⟩⟩
  loops l rec hl := by
    by_cases e : l = bl
    · subst e; exact h6 rec hl
    · exact ⟨rec, (h5 l (heap_lt hl) e).trans hl⟩
end Go.V
namespace Go.Proofs
open Go.Sort Go.Shelf
abbrev sortZ (zs : List Int) : List Int := zs.mergeSort fun x y => decide (x ≤ y)
theorem sortZ_length (zs : List Int) : (sortZ zs).length = zs.length := List.length_mergeSort ..
theorem sort_ (s : Sg) (n : Nat) (zs : List Int) (hn : s.m n = some (.arr 1 3 (zs.map TI))) (hz : zs.length < 1000000000) :
    VCall Tryd.prog 15 [.loc n 0 zs.length] s fun _ s' => s' = s.set n (.arr 1 3 ((sortZ zs).map TI)) := by
  intro B ρ w vs hs hB ha
  obtain ⟨y, rfl, hnl, ⟨ya, yc, hy⟩, hloc⟩ : ∃ y, vs = [y] ∧ n < s.next ∧ (∃ a c, y = .slice a zs.length c) ∧ _ := by
    match vs, ha with
    | [y], ⟨h, _⟩ => exact ⟨y, rfl, h⟩
  refine callsIn_wide.2 ?_
  by_cases h0 : zs.length = 0
  · have hzs : zs = [] := List.length_eq_zero_iff.1 h0
    subst hzs
    rw [hy]
    refine (Any.slices_Sort_int_none Tryd.laysSort ya yc w).mono fun e w' he => ?_
    obtain ⟨rfl, rfl⟩ := he
    refine ⟨_, .tup [], s.set n (.arr 1 3 ((sortZ []).map TI)), ρ, rfl, rfl, ?_, ⟨[], rfl, trivial⟩, ?_⟩
    · rw [show sortZ [] = [] by simp [sortZ], set_same s hn]; exact hs
    · rw [show sortZ [] = [] by simp [sortZ], set_same s hn]; exact Stp.refl _ _ _
  · rcases hloc _ hn with ⟨_, _, hz⟩ | ⟨h1, _⟩ | ⟨bl, cp, hb, hdy, hlc, _⟩
    · exact absurd hz h0
    · exact absurd h1 (by omega)
    · obtain ⟨hk1, hk0, hr | ⟨bl', arr, hb', hh, h5, h6, h7⟩⟩ := hs.rep n _ hn
      · rw [hr.1] at hb; cases hb
      rw [hb] at hb'; cases hb'
      rw [repTs_iff] at h7
      have hcell : ∀ j, j < zs.length → arr[j]? = some (.int .i64 (zs.getD j 0)) := fun j hj => by
        obtain ⟨x, hx, hr⟩ := h7 j (TI (zs.getD j 0)) (by rw [List.getElem?_map, List.getElem?_eq_getElem hj, List.getD_eq_getElem?_getD, List.getElem?_eq_getElem hj]; rfl)
        rw [RepT] at hr
        rw [Nat.zero_add] at hx
        rw [hx, hr.1]
      have hH : Holds (Value.int .i64) w bl 0 zs.toArray := fun j hj => by
        have hj' : j < zs.length := by simpa using hj
        refine ⟨?_, ?_⟩
        · unfold World.cell?
          rw [Nat.zero_add]
          simp only [hh]
          rw [show (if (none : Option Nat).isSome = true then none else arr[j]?) = arr[j]? from rfl, hcell j hj']
          congr 2
          rw [List.getD_eq_getElem?_getD, List.getElem?_eq_getElem hj', getElem!_pos _ j hj]; simp
        · unfold World.frozen?; simp [hh]
      have hbl : bl < w.heap.size := heap_lt hh
      rw [hdy]
      refine (calls_of_every_depth fun D => AnyS.slices_Sort_int_in Tryd.laysSort D bl 0 cp zs w hH hbl (by omega)).mono fun e w' he => ?_
      obtain ⟨rfl, q, os, rfl⟩ := he
      generalize hys : sortZ zs = ys
      have hyl : ys.length = zs.length := by rw [← hys]; exact sortZ_length zs
      have hys' : (zs.mergeSort fun x y => decide (x ≤ y)) = ys := hys
      rw [hys']
      have hsz : (putRow (Value.int .i64) (Go.Sort.ahead w q) bl 0 ys.toArray).heap.size = w.heap.size := by simp [putRow, mapBlock, Go.Sort.ahead]
      have hold : ∀ x, x < w.heap.size → x ≠ bl → (grow (putRow (Value.int .i64) (Go.Sort.ahead w q) bl 0 ys.toArray) os).heap[x]? = w.heap[x]? := fun x hx hxb => by
        show ((putRow (Value.int .i64) (Go.Sort.ahead w q) bl 0 ys.toArray).heap ++ os)[x]? = _
        rw [Array.getElem?_append_left (by rw [hsz]; exact hx)]
        simp only [putRow, mapBlock, Go.Sort.ahead, Array.getElem?_modify]
        rw [if_neg (Ne.symm hxb)]
      have hnew : (grow (putRow (Value.int .i64) (Go.Sort.ahead w q) bl 0 ys.toArray) os).heap[bl]? = some (.cells (putCells (Value.int .i64) 0 ys.toArray arr) 3 (0, 0)) := by
        show ((putRow (Value.int .i64) (Go.Sort.ahead w q) bl 0 ys.toArray).heap ++ os)[bl]? = _
        rw [Array.getElem?_append_left (by rw [hsz]; exact hbl)]
        simp only [putRow, mapBlock, Go.Sort.ahead, Array.getElem?_modify, if_true]
        rw [hh]; rfl
      have hchg := chg_more hs hn hb (.arr 1 3 (ys.map TI)) (w' := grow (putRow (Value.int .i64) (Go.Sort.ahead w q) bl 0 ys.toArray) os) rfl rfl rfl (by rw [size_grow, hsz]; omega) hold (fun rec hl => by rw [hh] at hl; cases hl)
      refine ⟨_, .tup [], s.set n (.arr 1 3 (ys.map TI)), ρ, rfl, rfl, ?_, ⟨[], rfl, trivial⟩, ?_⟩
      · have := hchg.sr hs ?_
        · rwa [up_self] at this
        · refine ⟨hk1, hk0, .inr ⟨bl, _, hb, hnew, ?_, ?_, (repTs_iff _ _).2 fun j c hj => ?_⟩⟩
          · rw [List.length_map, hyl]; simpa using h5
          · simp [putCells, h6]
          · rw [List.getElem?_map] at hj
            obtain ⟨z, hz1, rfl⟩ := Option.map_eq_some_iff.1 hj
            have hjl := (List.getElem?_eq_some_iff.1 hz1).1
            refine ⟨.int .i64 z, ?_, by rw [RepT]; exact ⟨rfl, rfl⟩⟩
            rw [Nat.zero_add, putCells, Array.getElem?_mapIdx, hcell j (by omega), Option.map_some, if_pos ⟨by omega, by simpa using hjl⟩]
            congr 2
            rw [Nat.sub_zero, getElem!_pos _ j (by simpa using hjl)]
            simpa using (List.getElem?_eq_some_iff.1 hz1).2
      · have := hchg.stp
        rwa [up_self] at this
end Go.Proofs

open Go Go.V
namespace Go.Proofs
theorem setAll_TI (l : List Int) {i : Nat} (h : i < l.length) (x : Int) : setAll (l.map TI) i [TI x] = (l.set i x).map TI := by
  rw [setAll_one _ _ _ (by simpa using h)]; simp [List.map_set]
def adjB : List Int → Bool
  | x :: y :: l => x == y || adjB (y :: l)
  | _ => false
theorem adj_at : ∀ {l : List Int} {i : Nat} {x : Int}, l[i]? = some x → l[i + 1]? = some x → adjB l = true
  | [], i, x, h, _ => by simp at h
  | [a], i, x, _, h => by simp at h
  | a :: b :: l, 0, x, h1, h2 => by simp at h1 h2; subst h1; subst h2; simp [adjB]
  | a :: b :: l, i + 1, x, h1, h2 => by simp [adjB, adj_at (l := b :: l) (i := i) (by simpa using h1) (by simpa using h2)]
theorem adj_none : ∀ {l : List Int}, (∀ (i : Nat) (x y : Int), i + 1 < l.length → l[i]? = some x → l[i + 1]? = some y → x ≠ y) → adjB l = false
  | [], _ => rfl
  | [a], _ => rfl
  | a :: b :: l, h => by
    have h0 := h 0 a b (by simp) rfl rfl
    have := adj_none (l := b :: l) fun i x y hi h1 h2 => h (i + 1) x y (by simp at hi ⊢; omega) (by simpa using h1) (by simpa using h2)
    simp [adjB, this, h0]
theorem adj_short {l : List Int} (h : l.length < 2) : adjB l = false := by
  match l, h with
  | [], _ => rfl
  | [a], _ => rfl
def CompQ (s : Sg) (n : Nat) (zs : List Int) (v : V) (s' : Sg) : Prop := ∃ (k : Nat) (L : List Int), v = .loc n 0 k ∧ k ≤ zs.length ∧ L.length = zs.length ∧ s' = s.set n (.arr 1 3 (L.map TI)) ∧ (k = zs.length ↔ adjB zs = false)
set_option maxRecDepth 20000 in
set_option maxHeartbeats 4000000 in
theorem compact_ (s : Sg) (n : Nat) (zs : List Int) (hn : s.m n = some (.arr 1 3 (zs.map TI))) (hz : zs.length < 1000000000) : VCall Tryd.prog 16 [.loc n 0 zs.length] s (CompQ s n zs) := by
  refine kcall_of_body Tryd.func16 rfl fun Q hQ => ?_
  obtain ⟨e, he, hl, h0⟩ : ∃ e : Env, ([.loc n 0 zs.length] ++ List.replicate (Tryd.f16.ntmps - ([.loc n 0 zs.length] : List V).length) .junk) = e ∧ e.length = 61 ∧ ev e (.tmp 0) = .loc n 0 zs.length := ⟨_, rfl, rfl, rfl⟩
  rw [he]
  clear he
  refine vsk fun K1 hK1 => ?_
  refine vw_sc 0 [] ?_
  simp only [bs, ↓vopx, ↓vop, thenV, flat, wocs, ↓goc, ↓woc, ↓vopm0]
  refine hK1 _ _ ?_
  refine vsk fun K2 hK2 => ?_
  refine vsk fun K3 hK3 => ?_
  refine vw_sc 0 [] ?_
  simp only [bs, ↓vopx, ↓vop, Nat.reduceBEq, thenV, flat, Nat.reduceLT, opII, hl, h0, wocs, ↓goc, ↓woc, ↓vopm0, Tryd.underlying27]
  refine hK3 _ _ ?_
  refine vck fun A B hA hB => ?_
  simp only [condV, ev_hit, lpv, Nat.reduceLT, decide_eq_true_eq, decide_eq_false_iff_not, hl]
  refine ⟨fun hc8 => hA ?_, fun hc8 => hB ?_⟩
  · clear hA hB A B
    refine vsk fun K4 hK4 => ?_
    refine vw_sc 0 [] ?_
    simp only [bs, ↓vopx, ↓vop, Nat.reduceBEq, thenV, Nat.reduceLT, hl, h0, wocs, ↓goc, ↓woc, ↓vopm0]
    refine hK4 _ _ ?_
    refine vw_ret ?_
    refine hQ _ _ _ (.inr rfl) (donek_tmp (v := .loc n 0 zs.length) ?_ rfl ⟨zs.length, zs, rfl, Nat.le_refl _, rfl, (set_self hn).symm, ?_⟩)
    try simp only [ev_hit, lpv, hl, Nat.reduceLT]
    rw [adj_short (by omega)]; simp
  · clear hA hB A B
    refine vw_skip ?_
    refine hK2 _ _ ?_
    refine vsk fun K5 hK5 => ?_
    refine vsk fun K6 hK6 => ?_
    refine vw_sc 0 [] ?_
    simp only [bs, ↓vopx, ↓vop, thenV, flat, wocs, ↓goc, ↓woc, ↓vopm0]
    refine hK6 _ _ ?_
    refine vw_block ?_
    refine vw_loop (fun mm e' s' => ∃ k : Nat, mm = zs.length - k ∧ 1 ≤ k ∧ k ≤ zs.length ∧ e'.length = 61 ∧ ev e' (.tmp 0) = .loc n 0 zs.length ∧ ev e' (.tmp 3) = I k ∧ s = s' ∧ ∀ (j : Nat) (x y : Int), j + 1 < k → zs[j]? = some x → zs[j + 1]? = some y → x ≠ y) (⟨1, rfl, Nat.le_refl _, by omega, ?_⟩) ?_
    · try simp only [ev_hit, ev_miss, Nat.reduceBEq, lpv, hl, h0, Nat.reduceLT, true_and]
      repeat ((with_reducible refine And.intro ?_ ?_); · trivial)
      exact fun j x y h => by omega
    rintro mm e _ ⟨k, rfl, hk1, hkl, hl, h0, h3, rfl, hno⟩
    refine vsk fun K7 hK7 => ?_
    refine vsk fun K8 hK8 => ?_
    refine vw_sc 0 [] ?_
    simp only [bs, ↓vopx, ↓vop, Nat.reduceBEq, thenV, Nat.reduceLT, opII, hl, h0, h3, wocs, ↓goc, ↓woc, ↓vopm0, Tryd.underlying27]
    refine hK8 _ _ ?_
    refine vck fun A B hA hB => ?_
    simp only [condV, ev_hit, lpv, Nat.reduceLT, decide_eq_true_eq, decide_eq_false_iff_not, hl]
    refine ⟨fun hc13 => hA ?_, fun hc13 => hB ?_⟩
    · clear hA hB A B
      refine vw_skip ?_
      refine hK7 _ _ ?_
      refine vsk fun K9 hK9 => ?_
      refine vw_block ?_
      refine vsk fun K10 hK10 => ?_
      obtain ⟨j, rfl⟩ : ∃ j, k = j + 1 := ⟨k - 1, by omega⟩
      have hlt : j + 1 < zs.length := by omega
      obtain ⟨x, hx⟩ : ∃ x, zs[j + 1]? = some x := ⟨_, List.getElem?_eq_getElem hlt⟩
      obtain ⟨y, hy⟩ : ∃ y, zs[j]? = some y := ⟨_, List.getElem?_eq_getElem (by omega)⟩
      have hsub : (((j + 1 : Nat) : Int) - 1) = (j : Int) := by omega
      refine vw_chain Tryd.mixed 9 [0, 0, 1, 1, 0, 0, 0, 1, 1] [] [] 0 (by decide +kernel) (by simp [lpv, hl]) rfl ?_
      simp only [bs, ↓vopx, ↓vop, Nat.reduceBEq, thenV, flat, Nat.reduceLT, dLoad, vpart, opII, opSS, hl, h0, h3, wocs, ↓goc, ↓woc, ↓vopm1, ↓farC, chn, ↓goq, ↓woq, List.zip_cons_cons, List.zip_nil_right, Tryd.ag3, Tryd.sz3, Tryd.un27, hn, hx, hy, hsub]
      repeat ((with_reducible refine And.intro ?_ ?_); · first | (with_reducible assumption) | omega | exact ⟨by omega, by omega⟩)
      refine hK10 _ _ ?_
      refine vck fun A B hA hB => ?_
      simp only [condV, ev_hit, lpv, Nat.reduceLT, beq_iff_eq, beq_eq_false_iff_ne, ne_eq, hl]
      refine ⟨fun hc25 => hA ?_, fun hc25 => hB ?_⟩
      · clear hA hB A B
        refine vsk fun K11 hK11 => ?_
        refine vw_sc 0 [] ?_
        simp only [bs, ↓vopx, ↓vop, Nat.reduceBEq, thenV, Nat.reduceLT, hl, h0, h3, wocs, ↓goc, ↓woc, ↓vopm0, Tryd.sl27, hn, bnd, vflat]
        refine ⟨⟨_, _, rfl⟩, by omega, by omega, ?_⟩
        refine hK11 _ _ ?_
        refine vsk fun K12 hK12 => ?_
        refine vsk fun K13 hK13 => ?_
        refine vw_sc 0 [] ?_
        simp only [bs, ↓vopx, ↓vop, thenV, flat, wocs, ↓goc, ↓woc, ↓vopm0]
        refine hK13 _ _ ?_
        refine vw_block ?_
        refine vw_loop (fun mm e' s' => ∃ (i p : Nat) (L : List Int), mm = zs.length - i ∧ 1 ≤ i ∧ j + 1 ≤ p ∧ p + 1 ≤ j + 1 + i ∧ i ≤ zs.length - (j + 1) ∧ L.length = zs.length ∧ e'.length = 61 ∧ ev e' (.tmp 0) = .loc n 0 zs.length ∧ ev e' (.tmp 3) = I p ∧ ev e' (.tmp 4) = .loc n (j + 1) (zs.length - (j + 1)) ∧ ev e' (.tmp 5) = I i ∧ s' = s.set n (.arr 1 3 (L.map TI))) (⟨1, j + 1, zs, rfl, Nat.le_refl _, Nat.le_refl _, by omega, by omega, rfl, ?_⟩) ?_
        · try simp only [ev_hit, ev_miss, Nat.reduceBEq, lpv, hl, h0, h3, Nat.reduceLT, true_and]
          repeat ((with_reducible refine And.intro ?_ ?_); · trivial)
          exact (set_self hn).symm
        rintro mm e _ ⟨i, p, L, rfl, hi1, hp1, hpi, hil, hL, hl, h0, h3, h4, h5, rfl⟩
        refine vsk fun K14 hK14 => ?_
        refine vsk fun K15 hK15 => ?_
        refine vw_sc 0 [] ?_
        simp only [bs, ↓vopx, ↓vop, Nat.reduceBEq, thenV, Nat.reduceLT, opII, hl, h4, h5, wocs, ↓goc, ↓woc, ↓vopm0, Tryd.underlying27]
        refine hK15 _ _ ?_
        refine vck fun A B hA hB => ?_
        simp only [condV, ev_hit, lpv, Nat.reduceLT, decide_eq_true_eq, decide_eq_false_iff_not, hl]
        refine ⟨fun hc32 => hA ?_, fun hc32 => hB ?_⟩
        · clear hA hB A B
          refine vw_skip ?_
          refine hK14 _ _ ?_
          refine vsk fun K16 hK16 => ?_
          refine vw_block ?_
          refine vsk fun K17 hK17 => ?_
          obtain ⟨q, rfl⟩ : ∃ q, i = q + 1 := ⟨i - 1, by omega⟩
          have hlt2 : j + 1 + (q + 1) < L.length := by omega
          obtain ⟨u, hu⟩ : ∃ u, L[j + 1 + (q + 1)]? = some u := ⟨_, List.getElem?_eq_getElem hlt2⟩
          obtain ⟨v, hv⟩ : ∃ v, L[j + 1 + q]? = some v := ⟨_, List.getElem?_eq_getElem (by omega)⟩
          have hsub2 : (((q + 1 : Nat) : Int) - 1) = (q : Int) := by omega
          refine vw_chain Tryd.mixed 9 [0, 0, 1, 1, 0, 0, 0, 1, 1] [] [] 0 (by decide +kernel) (by simp [lpv, hl]) rfl ?_
          simp only [bs, ↓vopx, ↓vop, Nat.reduceBEq, thenV, flat, Nat.reduceLT, dLoad, vpart, opII, opSS, hl, h4, h5, wocs, ↓goc, ↓woc, ↓vopm1, ↓farC, chn, ↓goq, ↓woq, List.zip_cons_cons, List.zip_nil_right, Tryd.ag3, Tryd.sz3, Tryd.un27, hn, hu, hv, hsub2]
          repeat ((with_reducible refine And.intro ?_ ?_); · first | (with_reducible assumption) | omega | exact ⟨by omega, by omega⟩)
          refine hK17 _ _ ?_
          refine vck fun A B hA hB => ?_
          simp only [condV, ev_hit, lpv, Nat.reduceLT, bne_iff_ne, bne_eq_false_iff_eq, ne_eq, hl]
          refine ⟨fun hc44 => hA ?_, fun hc44 => hB ?_⟩
          · clear hA hB A B
            refine vsk fun K18 hK18 => ?_
            refine vw_sc 0 [] ?_
            simp only [bs, ↓vopx, ↓vop, Nat.reduceBEq, thenV, Nat.reduceLT, V.cells, dLoad, vpart, Sg.frzL, Sg.frz1, hl, h0, h3, h4, h5, wocs, ↓goc, ↓woc, ↓vopm0, Tryd.ag3, Tryd.sz3, Tryd.un27, hn, hu, hL]
            repeat ((with_reducible refine And.intro ?_ ?_); · first | (with_reducible assumption) | omega)
            refine hK18 _ _ ?_
            refine vw_sc 0 [] ?_
            simp only [bs, ↓vopx, ↓vop, Nat.reduceBEq, thenV, blockV, flat, Nat.reduceLT, opII, hl, h3, wocs, ↓goc, ↓woc, ↓vopm0]
            repeat ((with_reducible refine And.intro ?_ ?_); · exact ⟨by omega, by omega⟩)
            refine hK16 _ _ ?_
            refine vw_sc 0 [] ?_
            simp only [bs, ↓vopx, ↓vop, Nat.reduceBEq, thenV, flat, Nat.reduceLT, opII, hl, h0, h4, h5, wocs, ↓goc, ↓woc, ↓vopm0]
            repeat ((with_reducible refine And.intro ?_ ?_); · exact ⟨by omega, by omega⟩)
            try simp only [ev_hit, ev_miss, Nat.reduceBEq, lpv, hl, h0, h3, h4, h5, if_true, if_false, Nat.reduceEqDiff, Nat.reduceLT, true_and, and_true]
            try simp only [true_and]
            first
             | exact ⟨zs.length - (q + 1 + 1), by omega, q + 1 + 1, p + 1, L.set p u, rfl, by omega, by omega, by omega, by omega, by rw [List.length_set]; exact hL, by push_cast; rfl, by push_cast; rfl, by rw [set_set, setAll_TI L (by omega)]⟩
             | exact ⟨zs.length - (q + 1 + 1), by omega, q + 1 + 1, p, L, rfl, by omega, by omega, by omega, by omega, hL, rfl, by push_cast; rfl, rfl⟩
          · clear hA hB A B
            refine vw_skip ?_
            refine hK16 _ _ ?_
            refine vw_sc 0 [] ?_
            simp only [bs, ↓vopx, ↓vop, Nat.reduceBEq, thenV, flat, Nat.reduceLT, opII, hl, h0, h3, h4, h5, wocs, ↓goc, ↓woc, ↓vopm0]
            repeat ((with_reducible refine And.intro ?_ ?_); · exact ⟨by omega, by omega⟩)
            try simp only [ev_hit, ev_miss, Nat.reduceBEq, lpv, hl, h0, h3, h4, h5, if_true, if_false, Nat.reduceEqDiff, Nat.reduceLT, true_and, and_true]
            try simp only [true_and]
            first
             | exact ⟨zs.length - (q + 1 + 1), by omega, q + 1 + 1, p + 1, L.set p u, rfl, by omega, by omega, by omega, by omega, by rw [List.length_set]; exact hL, by push_cast; rfl, by push_cast; rfl, by rw [set_set, setAll_TI L (by omega)]⟩
             | exact ⟨zs.length - (q + 1 + 1), by omega, q + 1 + 1, p, L, rfl, by omega, by omega, by omega, by omega, hL, rfl, by push_cast; rfl, rfl⟩
        · clear hA hB A B
          refine vw_exit ?_
          simp only [thenV, blockV, if_true, if_false, Nat.reduceEqDiff, reduceCtorEq]
          refine hK12 _ _ ?_
          refine vsk fun K19 hK19 => ?_
          refine vw_sc_then (md := 0) 3 rfl [] ?_
          simp only [bs, ↓vopx, ↓vop, Nat.reduceBEq, Nat.reduceLT, hl, h0, h3, wocs, ↓goc, ↓woc, ↓vopm0, Tryd.sl27, hn, bnd, vflat]
          refine ⟨⟨_, _, rfl⟩, by omega, by omega, ?_⟩
          have hcl : setAll (L.map TI) p (List.replicate (zs.length - p) (TI 0)) = (L.take p ++ List.replicate (zs.length - p) 0).map TI := by simp [setAll, hL, show p + (zs.length - p) = zs.length by omega, ← List.map_take]
          refine vl_cons_none rfl rfl rfl ((sound_clear (z := .int .i64 0) (el := 3) rfl rfl rfl rfl Tryd.underlying27 (fun _ => by kernel_rfl) rfl rfl (n := n) (off := p) (len := zs.length - p) ?_ (ty := 3) (cs := L.map TI) ?_ ?_ ?_).opg)
          · try simp only [ev_hit, lpv, hl, Nat.reduceLT]
          · simp [Sg.set]
          · simp [hL]; omega
          refine vl_nil ?_
          rw [set_set, hcl]
          simp only [thenV]
          refine hK19 _ _ ?_
          refine vsk fun K20 hK20 => ?_
          refine vw_sc 0 [] ?_
          simp only [bs, ↓vopx, ↓vop, Nat.reduceBEq, thenV, Nat.reduceLT, hl, h0, h3, wocs, ↓goc, ↓woc, ↓vopm0, Tryd.sl27, hn, bnd, vflat, Nat.sub_zero]
          refine ⟨⟨_, _, rfl⟩, by omega, by omega, ?_⟩
          refine hK20 _ _ ?_
          refine vw_ret ?_
          refine hQ _ _ _ (.inr rfl) (donek_tmp (v := .loc n 0 p) ?_ rfl ⟨p, L.take p ++ List.replicate (zs.length - p) 0, rfl, by omega, by simp [hL]; omega, rfl, ?_⟩)
          try simp only [ev_hit, lpv, hl, Nat.reduceLT]
          rw [adj_at hy (by rw [hx, hc25])]; simp; omega
      · clear hA hB A B
        refine vw_skip ?_
        refine hK9 _ _ ?_
        refine vw_sc 0 [] ?_
        simp only [bs, ↓vopx, ↓vop, Nat.reduceBEq, thenV, flat, Nat.reduceLT, opII, hl, h0, h3, wocs, ↓goc, ↓woc, ↓vopm0]
        repeat ((with_reducible refine And.intro ?_ ?_); · exact ⟨by omega, by omega⟩)
        refine ⟨zs.length - (j + 1 + 1), by omega, j + 1 + 1, rfl, by omega, by omega, ?_⟩
        try simp only [ev_hit, ev_miss, Nat.reduceBEq, lpv, hl, h0, h3, if_true, if_false, Nat.reduceEqDiff, Nat.reduceLT, true_and, and_true]
        repeat ((with_reducible refine And.intro ?_ ?_); · trivial)
        intro j2 x2 y2 hj2 h1 h2
        rcases Nat.lt_succ_iff_lt_or_eq.1 (show j2 < j + 1 by omega) with h | h
        · exact hno j2 x2 y2 (by omega) h1 h2
        · subst h; rw [hy] at h1; rw [hx] at h2; cases h1; cases h2; exact fun e => hc25 e.symm
    · clear hA hB A B
      have hkn : k = zs.length := by omega
      refine vw_exit ?_
      simp only [thenV, blockV, if_true]
      refine hK5 _ _ ?_
      refine vsk fun K21 hK21 => ?_
      refine vw_sc 0 [] ?_
      simp only [bs, ↓vopx, ↓vop, Nat.reduceBEq, thenV, Nat.reduceLT, hl, h0, wocs, ↓goc, ↓woc, ↓vopm0]
      refine hK21 _ _ ?_
      refine vw_ret ?_
      refine hQ _ _ _ (.inr rfl) (donek_tmp (v := .loc n 0 zs.length) ?_ rfl ⟨zs.length, zs, rfl, Nat.le_refl _, rfl, (set_self hn).symm, ?_⟩)
      try simp only [ev_hit, lpv, hl, Nat.reduceLT]
      rw [adj_none fun i x y hi h1 h2 => hno i x y (by omega) h1 h2]; simp
end Go.Proofs
