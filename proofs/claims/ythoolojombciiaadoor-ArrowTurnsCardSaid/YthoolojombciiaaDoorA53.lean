/- Lemmas on the way to the statement of this claim; no conditions. -/
import Derived.Test.YthoolojombciiaaDoorA28
import Derived.Test.YthoolojombciiaaDoorA30
import Derived.Test.YthoolojombciiaaDoorA34
import Derived.Test.YthoolojombciiaaDoorA36
import Derived.Test.YthoolojombciiaaDoorA37
import Derived.Test.YthoolojombciiaaDoorA38
import Derived.Test.YthoolojombciiaaDoorA41
import Derived.Test.YthoolojombciiaaDoorA44
import Derived.Test.YthoolojombciiaaDoorA48
import Derived.Test.YthoolojombciiaaDoorA49
import Derived.Test.YthoolojombciiaaDoorA50
open Go Go.V
namespace Go.Proofs
def injS (f : List Int) : Bool := !(adjB (sortZ f))
def invS (a b : Ob) (f g : List Int) : Bool := arrS a b f && (arrS b a g && ((thenS f g).1 == idS f.length && (thenS g f).1 == idS g.length))
theorem thenS_le (f g : List Int) : (thenS f g).1.length ≤ f.length := by
  unfold thenS; split <;> simp
theorem idS_le (n : Int) : (idS n).length ≤ 40 := by
  have : idN n ≤ 40 := by unfold idN; omega
  simp [idS]; exact this
theorem iff_dec {k n : Nat} {b : Bool} (h : k = n ↔ b = false) : (((k : Int) == (n : Int))) = !b := by
  cases b with
  | true =>
    have : ¬ k = n := fun e => by have := h.1 e; cases this
    simp; omega
  | false =>
    have := h.2 rfl
    simp [this]
set_option maxRecDepth 20000 in
theorem injective_ (f : List Int) (hf : f.length < 100000000) : PCall Tryd.prog 7 [.t (tInts f)] (Bo (injS f)) := by
  refine pcall_of_body Tryd.func7 rfl fun s Q hQ => ?_
  obtain ⟨e, he, hl, h0⟩ : ∃ e : Env, ([.t (tInts f)] ++ List.replicate (Tryd.f7.ntmps - ([.t (tInts f)] : List V).length) .junk) = e ∧ e.length = 18 ∧ ev e (.tmp 0) = .t (tInts f) := ⟨_, rfl, rfl, rfl⟩
  rw [he]
  clear he
  refine vsk fun K1 hK1 => ?_
  refine vw_sc 0 [] ?_
  simp only [bs, ↓vopx, ↓vop, thenV, flat, wocs, ↓goc, ↓woc, ↓vopm0]
  refine hK1 _ _ ?_
  refine vsk fun K2 hK2 => ?_
  refine vw_sc 0 [] ?_
  simp only [bs, ↓vopx, ↓vop, Nat.reduceBEq, thenV, Nat.reduceLT, hl, h0, wocs, ↓goc, ↓woc, ↓vopm0, Tryd.sl27, Tryd.un27, len_tInts]
  refine ⟨by omega, by omega, by omega, ?_⟩
  refine hK2 _ _ ?_
  refine vsk fun K3 hK3 => ?_
  refine vw_sc 0 [] ?_
  simp only [bs, srcT, ↓vopx, ↓vop, Nat.reduceBEq, thenV, Nat.reduceLT, hl, h0, wocs, ↓goc, ↓woc, ↓vopm0, Tryd.sl27, srcT]
  refine ⟨by rw [repl_length]; simp, ?_⟩
  rw [add_set]
  have hc0 := th_copy f
  simp only [List.length_map] at hc0
  rw [hc0]
  refine hK3 _ _ ?_
  refine vsk fun K4 hK4 => ?_
  refine vw_sc 0 [.stop] ?_
  simp only [bs, ↓vopx, ↓vop, Nat.reduceBEq, thenV, Nat.reduceLT, hl, wocs, ↓goc, ↓woc, ↓vopm0, ↓callC, calleeV]
  refine ⟨Tryd.is15, (sort_ _ s.next f (by simp [Sg.add]) (by omega)).mono fun v s2 hv => ?_⟩
  subst hv
  try simp only [bs, Nat.reduceBEq, Nat.reduceLT, hl, Hold]
  rw [add_set]
  refine hK4 _ _ ?_
  refine vsk fun K5 hK5 => ?_
  have hsl := sortZ_length f
  refine vw_sc 0 [.stop] ?_
  simp only [bs, ↓vopx, ↓vop, Nat.reduceBEq, thenV, Nat.reduceLT, opII, opSS, hl, wocs, ↓goc, ↓woc, ↓vopm0, ↓callC, calleeV, ↓farC]
  rw [← hsl]
  refine ⟨Tryd.is16, (compact_ _ s.next (sortZ f) (by simp [Sg.add]) (by omega)).mono fun v s2 hv => ?_⟩
  obtain ⟨k, L, rfl, hkl, hL, rfl, hk⟩ := hv
  rw [hsl] at hk
  try simp only [bs, Nat.reduceBEq, Nat.reduceLT, hl, h0, len_tInts, Tryd.underlying27, Hold]
  rw [iff_dec hk]
  refine hK5 _ _ ?_
  refine vw_ret ?_
  refine hQ _ _ _ (.inr rfl) (done_tmp ?_ fun n b hn h => by simp [Sg.add, Sg.set, show n ≠ s.next by omega, h])
  try simp only [ev_hit, lpv, hl, Nat.reduceLT]
  rfl
set_option maxRecDepth 20000 in
theorem inverse_ (a b : Ob) (f g : List Int) (ha1 : a.labels.length < 1000000000) (ha2 : a.pairs.length < 1000000000) (hb1 : b.labels.length < 1000000000) (hb2 : b.pairs.length < 1000000000) (hf : f.length < 100000000) (hg : g.length < 100000000) : PCall Tryd.prog 6 [vObj a, vObj b, .t (tInts f), .t (tInts g)] (Bo (invS a b f g)) := by
  refine pcall_of_body Tryd.func6 rfl fun s Q hQ => ?_
  obtain ⟨e, he, hl, h0, h1, h2, h3⟩ : ∃ e : Env, ([vObj a, vObj b, .t (tInts f), .t (tInts g)] ++ List.replicate (Tryd.f6.ntmps - ([vObj a, vObj b, .t (tInts f), .t (tInts g)] : List V).length) .junk) = e ∧ e.length = 49 ∧ ev e (.tmp 0) = vObj a ∧ ev e (.tmp 1) = vObj b ∧ ev e (.tmp 2) = .t (tInts f) ∧ ev e (.tmp 3) = .t (tInts g) := ⟨_, rfl, rfl, rfl, rfl, rfl, rfl⟩
  rw [he]
  clear he
  refine vsk fun K1 hK1 => ?_
  refine vw_sc 0 [] ?_
  simp only [bs, ↓vopx, ↓vop, Nat.reduceBEq, thenV, flat, V.cells, h0, h1, wocs, ↓goc, ↓woc, ↓vopm0]
  refine hK1 _ _ ?_
  refine vsk fun K2 hK2 => ?_
  refine vsk fun K3 hK3 => ?_
  rcases (show arrS a b f = false ∨ (arrS a b f = true ∧ arrS b a g = false) ∨ (arrS a b f = true ∧ arrS b a g = true) by cases arrS a b f <;> cases arrS b a g <;> simp) with hab | ⟨hab, hba⟩ | ⟨hab, hba⟩
  · refine vw_sc 0 [.pur (Bo (arrS a b f))] ?_
    simp only [bs, Nat.reduceAdd, ↓vopx, ↓vop, Nat.reduceBEq, thenV, flat, Nat.reduceLT, dLoad, vpart, gtmp, hl, h2, wocs, ↓goc, ↓woc, ↓vopm0, ↓callC, ↓pick_tf, calleeV, Tryd.ag26, Tryd.sz26, hab]
    repeat ((with_reducible refine And.intro ?_ ?_); · exact ⟨Tryd.is8, by simpa only [hab] using arrow_ a b f ha1 ha2 hb1 hb2 (by omega)⟩)
    refine hK3 _ _ ?_
    refine vck fun A B hA hB => ?_
    simp only [condV, ev_hit, lpv, Nat.reduceLT, true_implies, reduceCtorEq, false_implies, and_true, hl]
    refine hA ?_
    clear hA hB A B
    refine vsk fun K4 hK4 => ?_
    refine vw_sc 0 [] ?_
    simp only [bs, ↓vopx, ↓vop, thenV, flat, wocs, ↓goc, ↓woc, ↓vopm0]
    refine hK4 _ _ ?_
    refine vw_ret ?_
    refine hQ _ _ _ (.inr rfl) (done_tmp ?_ fun n b hn h => by simp [Sg.add, show n ≠ s.next by omega, show n ≠ s.next + 1 by omega, h])
    try simp only [ev_hit, lpv, hl, Nat.reduceLT]
    simp [invS, hab]
  · refine vw_sc 0 [.pur (Bo (arrS a b f)), .pur (Bo (arrS b a g))] ?_
    simp only [bs, Nat.reduceAdd, ↓vopx, ↓vop, Nat.reduceBEq, thenV, flat, Nat.reduceLT, dLoad, vpart, gtmp, hl, h2, h3, wocs, ↓goc, ↓woc, ↓vopm0, ↓callC, ↓pick_ff, calleeV, Tryd.ag26, Tryd.sz26, hab, hba]
    repeat ((with_reducible refine And.intro ?_ ?_); · first | exact ⟨Tryd.is8, by simpa only [hab] using arrow_ a b f ha1 ha2 hb1 hb2 (by omega)⟩ | exact ⟨Tryd.is8, by simpa only [hba] using arrow_ b a g hb1 hb2 ha1 ha2 (by omega)⟩)
    refine hK3 _ _ ?_
    refine vck fun A B hA hB => ?_
    simp only [condV, ev_hit, lpv, Nat.reduceLT, true_implies, reduceCtorEq, false_implies, and_true, hl]
    refine hA ?_
    clear hA hB A B
    refine vsk fun K5 hK5 => ?_
    refine vw_sc 0 [] ?_
    simp only [bs, ↓vopx, ↓vop, thenV, flat, wocs, ↓goc, ↓woc, ↓vopm0]
    refine hK5 _ _ ?_
    refine vw_ret ?_
    refine hQ _ _ _ (.inr rfl) (done_tmp ?_ fun n b hn h => by simp [Sg.add, show n ≠ s.next by omega, show n ≠ s.next + 1 by omega, h])
    try simp only [ev_hit, lpv, hl, Nat.reduceLT]
    simp [invS, hba]
  · refine vw_sc 0 [.pur (Bo (arrS a b f)), .pur (Bo (arrS b a g))] ?_
    simp only [bs, Nat.reduceAdd, ↓vopx, ↓vop, Nat.reduceBEq, thenV, flat, Nat.reduceLT, dLoad, vpart, gtmp, hl, h2, h3, wocs, ↓goc, ↓woc, ↓vopm0, ↓callC, ↓pick_ff, calleeV, Tryd.ag26, Tryd.sz26, hab, hba]
    repeat ((with_reducible refine And.intro ?_ ?_); · first | exact ⟨Tryd.is8, by simpa only [hab] using arrow_ a b f ha1 ha2 hb1 hb2 (by omega)⟩ | exact ⟨Tryd.is8, by simpa only [hba] using arrow_ b a g hb1 hb2 ha1 ha2 (by omega)⟩)
    refine hK3 _ _ ?_
    refine vck fun A B hA hB => ?_
    simp only [condV, ev_hit, lpv, Nat.reduceLT, true_implies, reduceCtorEq, false_implies, true_and, hl]
    refine hB ?_
    clear hA hB A B
    refine vw_skip ?_
    refine hK2 _ _ ?_
    refine vsk fun K6 hK6 => ?_
    refine vw_sc 0 [.pur (.tup [.t (tInts (thenS f g).1), Bo (thenS f g).2])] ?_
    simp only [bs, ↓vopx, ↓vop, Nat.reduceBEq, thenV, Nat.reduceLT, hl, h2, h3, wocs, ↓goc, ↓woc, ↓vopm0, ↓callC, calleeV]
    repeat ((with_reducible refine And.intro ?_ ?_); · exact ⟨Tryd.is13, then_ f g (by omega) (by omega)⟩)
    refine hK6 _ _ ?_
    refine vsk fun K7 hK7 => ?_
    refine vw_sc 0 [.pur (.tup [.t (tInts (thenS g f).1), Bo (thenS g f).2])] ?_
    simp only [bs, ↓vopx, ↓vop, Nat.reduceBEq, thenV, Nat.reduceLT, hl, h2, h3, wocs, ↓goc, ↓woc, ↓vopm0, ↓callC, calleeV]
    repeat ((with_reducible refine And.intro ?_ ?_); · exact ⟨Tryd.is13, then_ g f (by omega) (by omega)⟩)
    refine hK7 _ _ ?_
    refine vsk fun K8 hK8 => ?_
    cases hq : ((thenS f g).1 == idS f.length)
    · refine vw_sc 0 [.pur (.t (tInts (idS f.length))), .pur (Bo ((thenS f g).1 == idS f.length))] ?_
      simp only [bs, ↓vopx, ↓vop, Nat.reduceBEq, thenV, flat, Nat.reduceLT, gtmp, hl, h2, wocs, ↓goc, ↓woc, ↓vopm0, ↓callC, ↓pick_ft, calleeV, len_tInts, Tryd.underlying27, hq]
      repeat ((with_reducible refine And.intro ?_ ?_); · first | exact ⟨Tryd.is9, identity_ _⟩ | exact ⟨Tryd.is14, by simpa only [hq] using arrowSame_ (thenS f g).1 (idS f.length) (by have := thenS_le f g; omega) (by have := idS_le f.length; omega)⟩)
      refine hK8 _ _ ?_
      refine vw_ret ?_
      refine hQ _ _ _ (.inr rfl) (done_tmp ?_ fun n b hn h => by simp [Sg.add, show n ≠ s.next by omega, show n ≠ s.next + 1 by omega, h])
      try simp only [ev_hit, lpv, hl, Nat.reduceLT]
      simp [invS, hab, hba, hq]
    · refine vw_sc 0 [.pur (.t (tInts (idS f.length))), .pur (Bo ((thenS f g).1 == idS f.length)), .pur (.t (tInts (idS g.length))), .pur (Bo ((thenS g f).1 == idS g.length))] ?_
      simp only [bs, ↓vopx, ↓vop, Nat.reduceBEq, thenV, flat, Nat.reduceLT, gtmp, hl, h2, h3, wocs, ↓goc, ↓woc, ↓vopm0, ↓callC, ↓pick_tt, calleeV, len_tInts, Tryd.underlying27, hq]
      repeat ((with_reducible refine And.intro ?_ ?_); · first | exact ⟨Tryd.is9, identity_ _⟩ | exact ⟨Tryd.is14, by simpa only [hq] using arrowSame_ (thenS f g).1 (idS f.length) (by have := thenS_le f g; omega) (by have := idS_le f.length; omega)⟩ | exact ⟨Tryd.is14, arrowSame_ (thenS g f).1 (idS g.length) (by have := thenS_le g f; omega) (by have := idS_le g.length; omega)⟩)
      refine hK8 _ _ ?_
      refine vw_ret ?_
      refine hQ _ _ _ (.inr rfl) (done_tmp ?_ fun n b hn h => by simp [Sg.add, show n ≠ s.next by omega, show n ≠ s.next + 1 by omega, h])
      try simp only [ev_hit, lpv, hl, Nat.reduceLT]
      simp [invS, hab, hba, hq]
end Go.Proofs

open Go Go.V
namespace Go.Proofs
theorem adj_nodup : ∀ {l : List Int}, l.Pairwise (· ≤ ·) → (adjB l = false ↔ l.Nodup)
  | [], _ => by simp [adjB]
  | [a], _ => by simp [adjB]
  | a :: b :: l, h => by
    have h1 := List.pairwise_cons.1 h
    have ih := adj_nodup h1.2
    have h2 := List.pairwise_cons.1 h1.2
    simp only [adjB, Bool.or_eq_false_iff, beq_eq_false_iff_ne]
    rw [ih, List.nodup_cons (a := a)]
    constructor
    · rintro ⟨h3, h4⟩
      refine ⟨fun hm => ?_, h4⟩
      rcases List.mem_cons.1 hm with e | e
      · exact h3 e
      · have k1 := h1.1 b (by simp)
        have k2 := h2.1 a e
        omega
    · rintro ⟨h3, h4⟩
      exact ⟨fun e => h3 (by simp [e]), h4⟩
theorem injS_iff (f : List Int) : injS f = decide f.Nodup := by
  have hs : (sortZ f).Pairwise (· ≤ ·) := by
    have := List.pairwise_mergeSort (le := fun x y : Int => decide (x ≤ y)) (fun a b c h1 h2 => by simp at h1 h2 ⊢; omega) (fun a b => by simp; omega) f
    exact this.imp fun h => by simpa using h
  have hp : (sortZ f).Nodup ↔ f.Nodup := (List.mergeSort_perm f _).nodup_iff
  have := adj_nodup hs
  unfold injS
  cases h : adjB (sortZ f) with
  | false => simp [hp.1 (this.1 h)]
  | true =>
    have : ¬ f.Nodup := fun hn => by have := this.2 (hp.2 hn); rw [h] at this; cases this
    simp [this]
theorem nc2 : ((2 : Nat) : Int) = 2 := rfl
theorem nc3 : ((3 : Nat) : Int) = 3 := rfl
abbrev kX : ByteArray := { data := #[120] }
abbrev kA : Ob := ⟨[kX, kX], []⟩
abbrev kB : Ob := ⟨[kX], []⟩
theorem k_th1 : thenS [1, 0] [5, 6] = ([6, 5], true) := by decide +kernel
theorem k_th2 : thenS [2] [0] = ([], false) := by decide +kernel
theorem k_ar1 : arrS kA kB [0, 0] = true := by decide +kernel
theorem k_ar2 : arrS kB kA [2] = false := by decide +kernel
theorem k_id3 : idS 3 = [0, 1, 2] := by decide +kernel
theorem k_in1 : injS [6, 5] = true := by rw [injS_iff]; decide
theorem k_in2 : injS [1, 1] = false := by rw [injS_iff]; decide
theorem k_iv1 : invS kA kA [1, 0] [1, 0] = true := by decide +kernel
theorem k_iv2 : invS kA kB [0, 0] [0] = false := by decide +kernel
theorem kc_th1 : PCall Tryd.prog 13 [.t (tInts [1, 0]), .t (tInts [5, 6])] (.tup [.t (tInts [6, 5]), Bo true]) := by have := then_ [1, 0] [5, 6] (by decide) (by decide); rw [k_th1] at this; exact this
theorem kc_th2 : PCall Tryd.prog 13 [.t (tInts [2]), .t (tInts [0])] (.tup [.t (tInts []), Bo false]) := by have := then_ [2] [0] (by decide) (by decide); rw [k_th2] at this; exact this
theorem kc_ar1 : PCall Tryd.prog 8 [vObj kA, vObj kB, .t (tInts [0, 0])] (Bo true) := by have := arrow_ kA kB [0, 0] (by decide) (by decide) (by decide) (by decide) (by decide); rw [k_ar1] at this; exact this
theorem kc_ar2 : PCall Tryd.prog 8 [vObj kB, vObj kA, .t (tInts [2])] (Bo false) := by have := arrow_ kB kA [2] (by decide) (by decide) (by decide) (by decide) (by decide); rw [k_ar2] at this; exact this
theorem kc_id3 : PCall Tryd.prog 9 [I 3] (.t (tInts [0, 1, 2])) := by have := identity_ 3; rw [k_id3] at this; exact this
theorem kc_sm : PCall Tryd.prog 14 [.t (tInts [6, 5]), .t (tInts [6, 5])] (Bo true) := arrowSame_ [6, 5] [6, 5] (by decide) (by decide)
theorem kc_in1 : PCall Tryd.prog 7 [.t (tInts [6, 5])] (Bo true) := by have := injective_ [6, 5] (by decide); rw [k_in1] at this; exact this
theorem kc_in2 : PCall Tryd.prog 7 [.t (tInts [1, 1])] (Bo false) := by have := injective_ [1, 1] (by decide); rw [k_in2] at this; exact this
theorem kc_iv1 : PCall Tryd.prog 6 [vObj kA, vObj kA, .t (tInts [1, 0]), .t (tInts [1, 0])] (Bo true) := by have := inverse_ kA kA [1, 0] [1, 0] (by decide) (by decide) (by decide) (by decide) (by decide) (by decide); rw [k_iv1] at this; exact this
theorem kc_iv2 : PCall Tryd.prog 6 [vObj kA, vObj kB, .t (tInts [0, 0]), .t (tInts [0])] (Bo false) := by have := inverse_ kA kB [0, 0] [0] (by decide) (by decide) (by decide) (by decide) (by decide) (by decide); rw [k_iv2] at this; exact this
set_option maxRecDepth 20000 in
theorem known5_  : PCall Tryd.prog 5 [] (Bo true) := by
  refine pcall_of_body Tryd.func5 rfl fun s Q hQ => ?_
  obtain ⟨e, he, hl⟩ : ∃ e : Env, ([] ++ List.replicate (Tryd.f5.ntmps - ([] : List V).length) .junk) = e ∧ e.length = 86 := ⟨_, rfl, rfl⟩
  rw [he]
  clear he
  refine vsk fun K1 hK1 => ?_
  refine vw_sc 0 [] ?_
  simp only [bs, ↓vopx, ↓vop, thenV, flat, wocs, ↓goc, ↓woc, ↓vopm0]
  refine hK1 _ _ ?_
  refine vsk fun K2 hK2 => ?_
  refine vw_sc 1 [] ?_
  simp only [bs, Nat.reduceLeDiff, Nat.reduceAdd, vparts, gfill, repl, Sg.frzP, ↓vopx, ↓vop, Nat.reduceBEq, thenV, flat, Nat.reduceLT, V.cells, Sg.frzL, Sg.frz1, hl, wocs, ↓goc, ↓woc, ↓vopm1, Tryd.sl23, Tryd.st26, Tryd.sz26, Tryd.zv26]
  refine hK2 _ _ ?_
  refine vsk fun K3 hK3 => ?_
  rw [add_set]
  refine VW.nilBox s.next 1 2 (by omega) (add_self _ _) rfl ?_
  rw [add_set]
  simp only [List.set_cons_succ, List.set_cons_zero]
  refine vw_sc 1 [] ?_
  simp only [bs, Nat.reduceLeDiff, Nat.reduceAdd, vparts, gfill, repl, Sg.frzP, ↓vopx, ↓vop, Nat.reduceBEq, thenV, flat, Nat.reduceLT, V.cells, Sg.frzL, Sg.frz1, hl, wocs, ↓goc, ↓woc, ↓vopm1, Tryd.sl23, Tryd.st26, Tryd.sz26, Tryd.zv26]
  refine hK3 _ _ ?_
  refine vsk fun K4 hK4 => ?_
  have ea : ∀ b c d : Blk, ((s.add b).add c).set (s.next + 1) d = (s.add b).add d := fun b c d => add_set (s.add b) c d
  rw [ea]
  refine VW.nilBox (s.next + 1) 1 2 (by omega) (add_self (s.add _) _) rfl ?_
  rw [ea]
  simp only [List.set_cons_succ, List.set_cons_zero]
  refine vw_sc 1 [.pur (.tup [.t (tInts [6, 5]), Bo true])] ?_
  simp only [bs, Nat.reduceLeDiff, Nat.reduceAdd, vparts, gfill, repl, Sg.frzP, ↓vopx, ↓vop, Nat.reduceBEq, thenV, flat, Nat.reduceLT, V.cells, Sg.frzL, Sg.frz1, hl, wocs, ↓goc, ↓woc, ↓vopm1, ↓callC, calleeV, Tryd.sl27]
  repeat ((with_reducible refine And.intro ?_ ?_); · exact ⟨Tryd.is13, kc_th1⟩)
  refine hK4 _ _ ?_
  refine vsk fun K5 hK5 => ?_
  refine vw_sc 1 [.pur (.tup [.t (tInts []), Bo false])] ?_
  simp only [bs, Nat.reduceLeDiff, vparts, gfill, repl, Sg.frzP, ↓vopx, ↓vop, Nat.reduceBEq, thenV, flat, Nat.reduceLT, V.cells, Sg.frzL, Sg.frz1, hl, wocs, ↓goc, ↓woc, ↓vopm1, ↓callC, calleeV, Tryd.sl27]
  repeat ((with_reducible refine And.intro ?_ ?_); · exact ⟨Tryd.is13, kc_th2⟩)
  refine hK5 _ _ ?_
  refine vsk fun K6 hK6 => ?_
  refine vw_cut 64 rfl ?_
  refine vl_chunk 1 0 12 52 [(4, 27)] [.pur (Bo true), .pur (Bo false)] (by decide +kernel) (by decide) fun ops' KC hgs hKC => ?_
  have g4_ : gtmp ops' 4 = some 27 := hgs (4, 27) (by simp)
  simp only [bs, Nat.reduceLeDiff, Nat.reduceAdd, vparts, gfill, repl, Sg.frzP, ↓vopx, ↓vop, Nat.reduceBEq, flat, Nat.reduceLT, V.cells, dLoad, vpart, Sg.frzL, Sg.frz1, hl, g4_, wocs, ↓goc, ↓woc, ↓vopm1, ↓callC, ↓pick_tt, calleeV, Tryd.ag26, Tryd.sl27, Tryd.sz26]
  repeat ((with_reducible refine And.intro ?_ ?_); · first | exact ⟨Tryd.is8, kc_ar1⟩ | exact ⟨Tryd.is8, kc_ar2⟩)
  refine hKC _ _ ?_
  clear g4_
  clear hgs hKC KC ops'
  refine vl_env fun e5_0 hE => ?_
  have hl5_0 : e5_0.length = 86 := by rw [hE]; simp only [lpv, hl]
  have q1 : ev e5_0 (.tmp 1) = .ptr s.next 0 := by rw [hE]; simp only [ev_hit, ev_miss, Nat.reduceBEq, lpv, hl, Nat.reduceLT]
  have q2 : ev e5_0 (.tmp 2) = .ptr (s.next + 1) 0 := by rw [hE]; simp only [ev_hit, ev_miss, Nat.reduceBEq, lpv, hl, Nat.reduceLT]
  have q3 : ev e5_0 (.tmp 3) = .t (tInts [6, 5]) := by rw [hE]; simp only [ev_hit, ev_miss, Nat.reduceBEq, lpv, hl, Nat.reduceLT]
  have q4 : ev e5_0 (.tmp 4) = Bo true := by rw [hE]; simp only [ev_hit, ev_miss, Nat.reduceBEq, lpv, hl, Nat.reduceLT]
  have q6 : ev e5_0 (.tmp 6) = Bo false := by rw [hE]; simp only [ev_hit, ev_miss, Nat.reduceBEq, lpv, hl, Nat.reduceLT]
  have q34 : ev e5_0 (.tmp 34) = Bo true := by rw [hE]; simp only [ev_hit, lpv, hl, Nat.reduceLT]
  clear hE
  refine vl_chunk 1 12 18 34 [(11, 34), (14, 37), (19, 42), (25, 48)] [] (by decide +kernel) (by decide) fun ops' KC hgs hKC => ?_
  have g11_ : gtmp ops' 11 = some 34 := hgs (11, 34) (by simp)
  have g14_ : gtmp ops' 14 = some 37 := hgs (14, 37) (by simp)
  have g19_ : gtmp ops' 19 = some 42 := hgs (19, 42) (by simp)
  have g25_ : gtmp ops' 25 = some 48 := hgs (25, 48) (by simp)
  simp only [bs, Nat.reduceAdd, ↓vopx, ↓vop, Nat.reduceBEq, flat, Nat.reduceLT, dLoad, vpart, opII, hl5_0, q3, q4, q6, q34, g11_, g14_, g19_, g25_, wocs, ↓goc, ↓woc, ↓vopm1, ↓pick_tt, Tryd.ag3, Tryd.sz3, Tryd.un27, len_tInts, nc2, Int.toNat_zero, beq_self_eq_true]
  repeat ((with_reducible refine And.intro ?_ ?_); · omega)
  refine hKC _ _ ?_
  clear g11_
  clear g14_
  clear g19_
  clear g25_
  clear hgs hKC KC ops'
  refine vl_env fun e5_1 hE => ?_
  have hl5_1 : e5_1.length = 86 := by rw [hE]; simp only [lpv, hl5_0]
  have r1 : ev e5_1 (.tmp 1) = .ptr s.next 0 := by rw [hE]; simp only [ev_miss, Nat.reduceBEq, q1]
  have r2 : ev e5_1 (.tmp 2) = .ptr (s.next + 1) 0 := by rw [hE]; simp only [ev_miss, Nat.reduceBEq, q2]
  have r3 : ev e5_1 (.tmp 3) = .t (tInts [6, 5]) := by rw [hE]; simp only [ev_miss, Nat.reduceBEq, q3]
  have r52 : ev e5_1 (.tmp 52) = Bo true := by rw [hE]; simp only [ev_hit, lpv, hl5_0, Nat.reduceLT]
  clear hE
  refine vl_chunk 1 30 14 20 [(29, 52), (34, 57), (39, 62)] [.pur (.t (tInts [0, 1, 2])), .pur (Bo true), .pur (Bo true)] (by decide +kernel) (by decide) fun ops' KC hgs hKC => ?_
  have g29_ : gtmp ops' 29 = some 52 := hgs (29, 52) (by simp)
  have g34_ : gtmp ops' 34 = some 57 := hgs (34, 57) (by simp)
  have g39_ : gtmp ops' 39 = some 62 := hgs (39, 62) (by simp)
  simp only [bs, Nat.reduceLeDiff, Nat.reduceAdd, vparts, gfill, repl, Sg.frzP, ↓vopx, ↓vop, Nat.reduceBEq, flat, Nat.reduceLT, V.cells, opII, Sg.frzL, Sg.frz1, hl5_1, r3, r52, g29_, g34_, g39_, wocs, ↓goc, ↓woc, ↓vopm1, ↓callC, ↓pick_tt, calleeV, Tryd.sl27, Tryd.un27, len_tInts, nc3, beq_self_eq_true]
  repeat ((with_reducible refine And.intro ?_ ?_); · first | exact ⟨Tryd.is9, kc_id3⟩ | exact ⟨Tryd.is14, kc_sm⟩ | exact ⟨Tryd.is7, kc_in1⟩)
  refine hKC _ _ ?_
  clear g29_
  clear g34_
  clear g39_
  clear hgs hKC KC ops'
  refine vl_env fun e5_2 hE => ?_
  have hl5_2 : e5_2.length = 86 := by rw [hE]; simp only [lpv, hl5_1]
  have u1 : ev e5_2 (.tmp 1) = .ptr s.next 0 := by rw [hE]; simp only [ev_miss, Nat.reduceBEq, r1]
  have u2 : ev e5_2 (.tmp 2) = .ptr (s.next + 1) 0 := by rw [hE]; simp only [ev_miss, Nat.reduceBEq, r2]
  have u66 : ev e5_2 (.tmp 66) = Bo true := by rw [hE]; simp only [ev_hit, lpv, hl5_1, Nat.reduceLT]
  clear hE
  refine vl_chunk 1 44 12 8 [(43, 66), (48, 71)] [.pur (Bo false), .pur (Bo true)] (by decide +kernel) (by decide) fun ops' KC hgs hKC => ?_
  have g43_ : gtmp ops' 43 = some 66 := hgs (43, 66) (by simp)
  have g48_ : gtmp ops' 48 = some 71 := hgs (48, 71) (by simp)
  simp only [bs, Nat.reduceLeDiff, Nat.reduceAdd, vparts, gfill, repl, Sg.frzP, ↓vopx, ↓vop, Nat.reduceBEq, flat, Nat.reduceLT, V.cells, dLoad, vpart, Sg.frzL, Sg.frz1, hl5_2, u1, u66, g43_, g48_, wocs, ↓goc, ↓woc, ↓vopm1, ↓callC, ↓pick_tt, calleeV, Tryd.ag26, Tryd.sl27, Tryd.sz26]
  repeat ((with_reducible refine And.intro ?_ ?_); · first | exact ⟨Tryd.is7, kc_in2⟩ | exact ⟨Tryd.is6, kc_iv1⟩)
  refine hKC _ _ ?_
  clear g43_
  clear g48_
  clear hgs hKC KC ops'
  refine vl_env fun e5_3 hE => ?_
  have hl5_3 : e5_3.length = 86 := by rw [hE]; simp only [lpv, hl5_2]
  have w1 : ev e5_3 (.tmp 1) = .ptr s.next 0 := by rw [hE]; simp only [ev_miss, Nat.reduceBEq, u1]
  have w2 : ev e5_3 (.tmp 2) = .ptr (s.next + 1) 0 := by rw [hE]; simp only [ev_miss, Nat.reduceBEq, u2]
  have w78 : ev e5_3 (.tmp 78) = Bo true := by rw [hE]; simp only [ev_hit, lpv, hl5_2, Nat.reduceLT]
  clear hE
  refine vl_chunk 1 56 8 0 [(55, 78)] [.pur (Bo false)] (by decide +kernel) (by decide) fun ops' KC hgs hKC => ?_
  have g55_ : gtmp ops' 55 = some 78 := hgs (55, 78) (by simp)
  simp only [bs, Nat.reduceLeDiff, Nat.reduceAdd, vparts, gfill, repl, Sg.frzP, ↓vopx, ↓vop, Nat.reduceBEq, flat, Nat.reduceLT, V.cells, dLoad, vpart, Sg.frzL, Sg.frz1, hl5_3, w1, w2, w78, g55_, wocs, ↓goc, ↓woc, ↓vopm1, ↓callC, ↓pick_tt, calleeV, Tryd.ag26, Tryd.sl27, Tryd.sz26]
  repeat ((with_reducible refine And.intro ?_ ?_); · exact ⟨Tryd.is6, kc_iv2⟩)
  refine hKC _ _ ?_
  clear g55_
  clear hgs hKC KC ops'
  refine vl_nil ?_
  try simp only [thenV]
  refine hK6 _ _ ?_
  refine vw_ret ?_
  refine hQ _ _ _ (.inr rfl) (done_tmp ?_ fun n b hn h => by simp [Sg.add, show n ≠ s.next by omega, show n ≠ s.next + 1 by omega, h])
  try simp only [ev_hit, lpv, hl5_3, Nat.reduceLT]
end Go.Proofs

open Go Go.V
namespace Go.Proofs
def putL (o l w : List Int) : Nat → List Int
  | 0 => o
  | x + 1 => (putL o l w x).set (l.getD x 0).toNat (w.getD x 0)
theorem putL_len (o l w : List Int) : ∀ x, (putL o l w x).length = o.length
  | 0 => rfl
  | x + 1 => by simp [putL, putL_len o l w x]
theorem putL_succ {o l w : List Int} {x : Nat} {y z : Int} (hy : l[x]? = some y) (hz : w[x]? = some z) : putL o l w (x + 1) = (putL o l w x).set y.toNat z := by
  show (putL o l w x).set (l.getD x 0).toNat (w.getD x 0) = _
  rw [getD_of hy, getD_of hz]
end Go.Proofs

open Go Go.V
namespace Go.Proofs
structure LaI (s : Sg) (o : Ob) (L : List Int) (i m7 : Nat) (s' : Sg) : Prop where
  b2 : s'.m s.next = some (.box 26 [.t (tStrs o.labels), .t (tPairs o.pairs)])
  b4 : s'.m (s.next + 1) = some (.box 26 [.t (.v (.slice none 0 0)), .t (.v (.slice none 0 0))])
  a7 : s'.m m7 = some (.arr 1 9 ((glLab o L i).map TS))
  same : ∀ j, j < s.next → s'.m j = s.m j
  lo : s.next + 2 ≤ m7
  hi : m7 < s'.next
theorem glLab_new {o : Ob} {L : List Int} {i : Nat} {z : Int} {lb : ByteArray} (hz : L[i]? = some z) (h : z = (glLab o L i).length) (hl : o.labels[i]? = some lb) : glLab o L (i + 1) = glLab o L i ++ [lb] := by
  have hg := getD_of hz
  unfold glLab at h ⊢
  rw [List.length_map] at h
  show List.map _ (if L.getD i 0 = (fstL L i).length then fstL L i ++ [i] else fstL L i) = _
  rw [hg, if_pos h]
  simp [List.getD_eq_getElem?_getD, hl]
theorem LaI.new {s : Sg} {o : Ob} {L : List Int} {i m7 : Nat} {s' : Sg} (h : LaI s o L i m7 s') {z : Int} {lb : ByteArray} (hz : L[i]? = some z) (hn : z = (glLab o L i).length) (hl : o.labels[i]? = some lb) (B : Blk) : ∃ m, V.loc (s'.next + 1) 0 ((glLab o L i).length + 1) = .loc m 0 (glLab o L (i + 1)).length ∧ LaI s o L (i + 1) m (((s'.add B).del m7).add (.arr 1 9 ((glLab o L i).map TS ++ [TS lb]))) := by
  have hlo := h.lo
  have hhi := h.hi
  have hfr : ∀ x, x < s'.next → x ≠ m7 → (((s'.add B).del m7).add (.arr 1 9 ((glLab o L i).map TS ++ [TS lb]))).m x = s'.m x := fun x h1 h2 => by
    rw [m_add, if_neg (by simp only [n_del, n_add]; omega), m_del, if_neg h2, m_add, if_neg (by omega)]
  refine ⟨s'.next + 1, ?_, ?_, ?_, ?_, fun j hj => ?_, by omega, by simp only [n_del, n_add]; omega⟩
  · rw [glLab_new hz hn hl, List.length_append]; rfl
  · rw [hfr _ (by omega) (by omega)]; exact h.b2
  · rw [hfr _ (by omega) (by omega)]; exact h.b4
  · rw [m_add, if_pos (by simp only [n_del, n_add]), glLab_new hz hn hl, List.map_append]; rfl
  · rw [hfr _ (by omega) (by omega)]; exact h.same j hj
end Go.Proofs

open Go Go.V
namespace Go.V
variable {P : Program} {ops : Array Oper} {Q : Exit → Env → Sg → Prop} {e : Env} {s : Sg}
theorem vl_conv {i m : Nat} {o : Oper} (hi : ops[i]? = some o) (hg : o.guard = none) {t t' : TypeId} {x : Operand} (ho : o.op = .convert t t' x) {a v : Value} (hx : vflat (ev e x) = some a) (hv : flatly (calm P (convert t t' a)) = some v)
    (h : VL P ops Q (List.range' (i + 1) m) (putv e o.dst (.t (.v v))) s) : VL P ops Q (List.range' i (m + 1)) e s := by
  rw [List.range'_succ]
  exact vl_cons hi hg (Sound.opg (sound_conv ho hx hv h))
theorem rem_u8 (t : TypeId) (x y : Operand) (a b : Int) (h0 : 0 ≤ a) (h1 : 0 < b) : vbin P .rem t x y (.int .u8 a) (.int .u8 b) = some (.int .u8 (a % b)) := by
  have hb : b ≠ 0 := by omega
  have e1 : a.tmod b = a % b := Int.tmod_eq_emod_of_nonneg h0
  simp only [vbin, eqGuard, Go.binOp, Op.intDiv, hb, if_false, e1]
  rfl
end Go.V
namespace Go.Proofs
end Go.Proofs
