/- Steps on the way to the statement that the last text of this claim proves: an abstract machine over the code, proved sound, and what the functions come to over it. No condition of their own. -/
import Derived.Test.YtkdkajlgbhggdaaDoorA33
import Derived.Test.YtkdkajlgbhggdaaDoorA37
import Derived.Test.YtkdkajlgbhggdaaDoorA38
import Derived.Test.YtkdkajlgbhggdaaDoorA42
open Go Go.V
namespace Go.Proofs

def injS (f : List Int) : Bool := !(adjB (sortZ f))
def invS (a b : Ob) (f g : List Int) : Bool := arrS a b f && (arrS b a g && ((thenS f g).1 == idS f.length && (thenS g f).1 == idS g.length))
theorem thenS_le (f g : List Int) : (thenS f g).1.length ≤ f.length := by
  unfold thenS; split <;> simp
theorem idS_le (n : Int) : (idS n).length ≤ 40 := by
  have : idN n ≤ 40 := by unfold idN; omega
  simp [idS]; exact this
theorem iff_dec {k n : Nat} {b : Bool} (h : k = n ↔ b = false) : (((k : Int) == (n : Int))) = !b := by
  cases b with
  | true =>
    have : ¬ k = n := fun e => by have := h.1 e; cases this
    simp; omega
  | false =>
    have := h.2 rfl
    simp [this]

set_option maxRecDepth 20000 in
theorem injective_ (f : List Int) (hf : f.length < 100000000) : PCall Tryd.prog 62 [.t (tInts f)] (Bo (injS f)) := by
  refine pcall_of_body Tryd.func62 rfl fun s Q hQ => ?_
  obtain ⟨e, he, hl, h0⟩ : ∃ e : Env, ([.t (tInts f)] ++ List.replicate (Tryd.f62.ntmps - ([.t (tInts f)] : List V).length) .junk) = e ∧ e.length = 18 ∧ ev e (.tmp 0) = .t (tInts f) := ⟨_, rfl, rfl, rfl⟩
  rw [he]
  clear he
  refine vw_seq_k fun K1 hK1 => ?_
  refine vw_sc 0 [] ?_
  simp only [bs, ↓vopx, ↓vop, thenV, flat, wocs, ↓goc, ↓woc, ↓vopm0]
  repeat ((with_reducible refine And.intro ?_ ?_); · first | (with_reducible assumption) | omega | exact ⟨by omega, by omega⟩ | with_reducible rfl | (repeat' first | exact Keep.refl _ | refine Keep.add ?_ ?_ _ | refine Keep.set ?_ ?_ _ | exact Nat.le_refl _ | (simp only [Sg.add, Sg.set, Sg.del]; omega)))
  refine hK1 _ _ ?_
  refine vw_seq_k fun K2 hK2 => ?_
  refine vw_sc 0 [] ?_
  simp only [bs, ↓vopx, ↓vop, Nat.reduceBEq, thenV, Nat.reduceLT, hl, h0, wocs, ↓goc, ↓woc, ↓vopm0, Tryd.sl26, Tryd.un26, len_tInts]
  refine ⟨by omega, by omega, by omega, ?_⟩
  refine hK2 _ _ ?_
  refine vw_seq_k fun K3 hK3 => ?_
  refine vw_sc 0 [] ?_
  simp only [bs, srcT, ↓vopx, ↓vop, Nat.reduceBEq, thenV, Nat.reduceLT, hl, h0, wocs, ↓goc, ↓woc, ↓vopm0, Tryd.sl26, srcT]
  refine ⟨by rw [repl_length]; simp, ?_⟩
  rw [add_set]
  have hc0 := th_copy f
  simp only [List.length_map] at hc0
  rw [hc0]
  refine hK3 _ _ ?_
  refine vw_seq_k fun K4 hK4 => ?_
  refine vw_sc 0 [.stop] ?_
  simp only [bs, ↓vopx, ↓vop, Nat.reduceBEq, thenV, Nat.reduceLT, hl, wocs, ↓goc, ↓woc, ↓vopm0, ↓callC, calleeV]
  refine ⟨Tryd.is86, (sort_ _ s.next f (by simp [Sg.add]) (by omega)).mono fun v s2 hv => ?_⟩
  subst hv
  try simp only [bs, Nat.reduceBEq, Nat.reduceLT, hl, Hold]
  rw [add_set]
  refine hK4 _ _ ?_
  refine vw_seq_k fun K5 hK5 => ?_
  have hsl := sortZ_length f
  refine vw_sc 0 [.stop] ?_
  simp only [bs, ↓vopx, ↓vop, Nat.reduceBEq, thenV, Nat.reduceLT, opII, opSS, hl, wocs, ↓goc, ↓woc, ↓vopm0, ↓callC, calleeV, ↓farC]
  rw [← hsl]
  refine ⟨Tryd.is87, (compact_ _ s.next (sortZ f) (by simp [Sg.add]) (by omega)).mono fun v s2 hv => ?_⟩
  obtain ⟨k, L, rfl, hkl, hL, rfl, hk⟩ := hv
  rw [hsl] at hk
  try simp only [bs, Nat.reduceBEq, Nat.reduceLT, hl, h0, len_tInts, Tryd.underlying26, Hold]
  rw [iff_dec hk]
  refine hK5 _ _ ?_
  refine vw_ret ?_
  refine hQ _ _ _ (.inr rfl) (done_tmp ?_ fun n b hn h => by simp [Sg.add, Sg.set, show n ≠ s.next by omega, h])
  try simp only [ev_hit, length_putv, hl, Nat.reduceLT]
  rfl

set_option maxRecDepth 20000 in
theorem inverse_ (a b : Ob) (f g : List Int) (ha1 : a.labels.length < 1000000000) (ha2 : a.pairs.length < 1000000000) (hb1 : b.labels.length < 1000000000) (hb2 : b.pairs.length < 1000000000) (hf : f.length < 100000000) (hg : g.length < 100000000) : PCall Tryd.prog 36 [vObj a, vObj b, .t (tInts f), .t (tInts g)] (Bo (invS a b f g)) := by
  refine pcall_of_body Tryd.func36 rfl fun s Q hQ => ?_
  obtain ⟨e, he, hl, h0, h1, h2, h3⟩ : ∃ e : Env, ([vObj a, vObj b, .t (tInts f), .t (tInts g)] ++ List.replicate (Tryd.f36.ntmps - ([vObj a, vObj b, .t (tInts f), .t (tInts g)] : List V).length) .junk) = e ∧ e.length = 49 ∧ ev e (.tmp 0) = vObj a ∧ ev e (.tmp 1) = vObj b ∧ ev e (.tmp 2) = .t (tInts f) ∧ ev e (.tmp 3) = .t (tInts g) := ⟨_, rfl, rfl, rfl, rfl, rfl, rfl⟩
  rw [he]
  clear he
  refine vw_seq_k fun K1 hK1 => ?_
  refine vw_sc 0 [] ?_
  simp only [bs, ↓vopx, ↓vop, Nat.reduceBEq, thenV, flat, V.cells, h0, h1, wocs, ↓goc, ↓woc, ↓vopm0]
  repeat ((with_reducible refine And.intro ?_ ?_); · first | (with_reducible assumption) | omega | exact ⟨by omega, by omega⟩ | with_reducible rfl | (repeat' first | exact Keep.refl _ | refine Keep.add ?_ ?_ _ | refine Keep.set ?_ ?_ _ | exact Nat.le_refl _ | (simp only [Sg.add, Sg.set, Sg.del]; omega)))
  refine hK1 _ _ ?_
  refine vw_seq_k fun K2 hK2 => ?_
  refine vw_seq_k fun K3 hK3 => ?_
  rcases (show arrS a b f = false ∨ (arrS a b f = true ∧ arrS b a g = false) ∨ (arrS a b f = true ∧ arrS b a g = true) by cases arrS a b f <;> cases arrS b a g <;> simp) with hab | ⟨hab, hba⟩ | ⟨hab, hba⟩
  · refine vw_sc 0 [.pur (Bo (arrS a b f))] ?_
    simp only [bs, Nat.reduceAdd, ↓vopx, ↓vop, Nat.reduceBEq, thenV, flat, Nat.reduceLT, dLoad, vpart, gtmp, hl, h2, wocs, ↓goc, ↓woc, ↓vopm0, ↓callC, ↓pick_tf, calleeV, Tryd.ag25, Tryd.sz25, hab]
    repeat ((with_reducible refine And.intro ?_ ?_); · first | (with_reducible assumption) | omega | exact ⟨by omega, by omega⟩ | exact ⟨Tryd.is34, by simpa only [hab] using arrow_ a b f ha1 ha2 hb1 hb2 (by omega)⟩ | with_reducible rfl | (repeat' first | exact Keep.refl _ | refine Keep.add ?_ ?_ _ | refine Keep.set ?_ ?_ _ | exact Nat.le_refl _ | (simp only [Sg.add, Sg.set, Sg.del]; omega)))
    refine hK3 _ _ ?_
    refine vw_cond_k fun A B hA hB => ?_
    simp only [condV, ev_hit, length_putv, Nat.reduceLT, true_implies, reduceCtorEq, false_implies, and_true, hl]
    refine hA ?_
    clear hA hB A B
    refine vw_seq_k fun K4 hK4 => ?_
    refine vw_sc 0 [] ?_
    simp only [bs, ↓vopx, ↓vop, thenV, flat, wocs, ↓goc, ↓woc, ↓vopm0]
    repeat ((with_reducible refine And.intro ?_ ?_); · first | (with_reducible assumption) | omega | exact ⟨by omega, by omega⟩ | with_reducible rfl | (repeat' first | exact Keep.refl _ | refine Keep.add ?_ ?_ _ | refine Keep.set ?_ ?_ _ | exact Nat.le_refl _ | (simp only [Sg.add, Sg.set, Sg.del]; omega)))
    refine hK4 _ _ ?_
    refine vw_ret ?_
    refine hQ _ _ _ (.inr rfl) (done_tmp ?_ fun n b hn h => by simp [Sg.add, show n ≠ s.next by omega, show n ≠ s.next + 1 by omega, h])
    try simp only [ev_hit, length_putv, hl, Nat.reduceLT]
    simp [invS, hab]
  · refine vw_sc 0 [.pur (Bo (arrS a b f)), .pur (Bo (arrS b a g))] ?_
    simp only [bs, Nat.reduceAdd, ↓vopx, ↓vop, Nat.reduceBEq, thenV, flat, Nat.reduceLT, dLoad, vpart, gtmp, hl, h2, h3, wocs, ↓goc, ↓woc, ↓vopm0, ↓callC, ↓pick_ff, calleeV, Tryd.ag25, Tryd.sz25, hab, hba]
    repeat ((with_reducible refine And.intro ?_ ?_); · first | (with_reducible assumption) | omega | exact ⟨by omega, by omega⟩ | exact ⟨Tryd.is34, by simpa only [hab] using arrow_ a b f ha1 ha2 hb1 hb2 (by omega)⟩ | exact ⟨Tryd.is34, by simpa only [hba] using arrow_ b a g hb1 hb2 ha1 ha2 (by omega)⟩ | with_reducible rfl | (repeat' first | exact Keep.refl _ | refine Keep.add ?_ ?_ _ | refine Keep.set ?_ ?_ _ | exact Nat.le_refl _ | (simp only [Sg.add, Sg.set, Sg.del]; omega)))
    refine hK3 _ _ ?_
    refine vw_cond_k fun A B hA hB => ?_
    simp only [condV, ev_hit, length_putv, Nat.reduceLT, true_implies, reduceCtorEq, false_implies, and_true, hl]
    refine hA ?_
    clear hA hB A B
    refine vw_seq_k fun K5 hK5 => ?_
    refine vw_sc 0 [] ?_
    simp only [bs, ↓vopx, ↓vop, thenV, flat, wocs, ↓goc, ↓woc, ↓vopm0]
    repeat ((with_reducible refine And.intro ?_ ?_); · first | (with_reducible assumption) | omega | exact ⟨by omega, by omega⟩ | with_reducible rfl | (repeat' first | exact Keep.refl _ | refine Keep.add ?_ ?_ _ | refine Keep.set ?_ ?_ _ | exact Nat.le_refl _ | (simp only [Sg.add, Sg.set, Sg.del]; omega)))
    refine hK5 _ _ ?_
    refine vw_ret ?_
    refine hQ _ _ _ (.inr rfl) (done_tmp ?_ fun n b hn h => by simp [Sg.add, show n ≠ s.next by omega, show n ≠ s.next + 1 by omega, h])
    try simp only [ev_hit, length_putv, hl, Nat.reduceLT]
    simp [invS, hba]
  · refine vw_sc 0 [.pur (Bo (arrS a b f)), .pur (Bo (arrS b a g))] ?_
    simp only [bs, Nat.reduceAdd, ↓vopx, ↓vop, Nat.reduceBEq, thenV, flat, Nat.reduceLT, dLoad, vpart, gtmp, hl, h2, h3, wocs, ↓goc, ↓woc, ↓vopm0, ↓callC, ↓pick_ff, calleeV, Tryd.ag25, Tryd.sz25, hab, hba]
    repeat ((with_reducible refine And.intro ?_ ?_); · first | (with_reducible assumption) | omega | exact ⟨by omega, by omega⟩ | exact ⟨Tryd.is34, by simpa only [hab] using arrow_ a b f ha1 ha2 hb1 hb2 (by omega)⟩ | exact ⟨Tryd.is34, by simpa only [hba] using arrow_ b a g hb1 hb2 ha1 ha2 (by omega)⟩ | with_reducible rfl | (repeat' first | exact Keep.refl _ | refine Keep.add ?_ ?_ _ | refine Keep.set ?_ ?_ _ | exact Nat.le_refl _ | (simp only [Sg.add, Sg.set, Sg.del]; omega)))
    refine hK3 _ _ ?_
    refine vw_cond_k fun A B hA hB => ?_
    simp only [condV, ev_hit, length_putv, Nat.reduceLT, true_implies, reduceCtorEq, false_implies, true_and, hl]
    refine hB ?_
    clear hA hB A B
    refine vw_skip ?_
    refine hK2 _ _ ?_
    refine vw_seq_k fun K6 hK6 => ?_
    refine vw_sc 0 [.pur (.tup [.t (tInts (thenS f g).1), Bo (thenS f g).2])] ?_
    simp only [bs, ↓vopx, ↓vop, Nat.reduceBEq, thenV, Nat.reduceLT, hl, h2, h3, wocs, ↓goc, ↓woc, ↓vopm0, ↓callC, calleeV]
    repeat ((with_reducible refine And.intro ?_ ?_); · first | (with_reducible assumption) | omega | exact ⟨by omega, by omega⟩ | exact ⟨Tryd.is32, then_ f g (by omega) (by omega)⟩ | with_reducible rfl | (repeat' first | exact Keep.refl _ | refine Keep.add ?_ ?_ _ | refine Keep.set ?_ ?_ _ | exact Nat.le_refl _ | (simp only [Sg.add, Sg.set, Sg.del]; omega)))
    refine hK6 _ _ ?_
    refine vw_seq_k fun K7 hK7 => ?_
    refine vw_sc 0 [.pur (.tup [.t (tInts (thenS g f).1), Bo (thenS g f).2])] ?_
    simp only [bs, ↓vopx, ↓vop, Nat.reduceBEq, thenV, Nat.reduceLT, hl, h2, h3, wocs, ↓goc, ↓woc, ↓vopm0, ↓callC, calleeV]
    repeat ((with_reducible refine And.intro ?_ ?_); · first | (with_reducible assumption) | omega | exact ⟨by omega, by omega⟩ | exact ⟨Tryd.is32, then_ g f (by omega) (by omega)⟩ | with_reducible rfl | (repeat' first | exact Keep.refl _ | refine Keep.add ?_ ?_ _ | refine Keep.set ?_ ?_ _ | exact Nat.le_refl _ | (simp only [Sg.add, Sg.set, Sg.del]; omega)))
    refine hK7 _ _ ?_
    refine vw_seq_k fun K8 hK8 => ?_
    cases hq : ((thenS f g).1 == idS f.length)
    · refine vw_sc 0 [.pur (.t (tInts (idS f.length))), .pur (Bo ((thenS f g).1 == idS f.length))] ?_
      simp only [bs, ↓vopx, ↓vop, Nat.reduceBEq, thenV, flat, Nat.reduceLT, gtmp, hl, h2, wocs, ↓goc, ↓woc, ↓vopm0, ↓callC, ↓pick_ft, calleeV, len_tInts, Tryd.underlying26, hq]
      repeat ((with_reducible refine And.intro ?_ ?_); · first | (with_reducible assumption) | omega | exact ⟨by omega, by omega⟩ | exact ⟨Tryd.is35, identity_ _⟩ | exact ⟨Tryd.is33, by simpa only [hq] using arrowSame_ (thenS f g).1 (idS f.length) (by have := thenS_le f g; omega) (by have := idS_le f.length; omega)⟩ | with_reducible rfl | (repeat' first | exact Keep.refl _ | refine Keep.add ?_ ?_ _ | refine Keep.set ?_ ?_ _ | exact Nat.le_refl _ | (simp only [Sg.add, Sg.set, Sg.del]; omega)))
      refine hK8 _ _ ?_
      refine vw_ret ?_
      refine hQ _ _ _ (.inr rfl) (done_tmp ?_ fun n b hn h => by simp [Sg.add, show n ≠ s.next by omega, show n ≠ s.next + 1 by omega, h])
      try simp only [ev_hit, length_putv, hl, Nat.reduceLT]
      simp [invS, hab, hba, hq]
    · refine vw_sc 0 [.pur (.t (tInts (idS f.length))), .pur (Bo ((thenS f g).1 == idS f.length)), .pur (.t (tInts (idS g.length))), .pur (Bo ((thenS g f).1 == idS g.length))] ?_
      simp only [bs, ↓vopx, ↓vop, Nat.reduceBEq, thenV, flat, Nat.reduceLT, gtmp, hl, h2, h3, wocs, ↓goc, ↓woc, ↓vopm0, ↓callC, ↓pick_tt, calleeV, len_tInts, Tryd.underlying26, hq]
      repeat ((with_reducible refine And.intro ?_ ?_); · first | (with_reducible assumption) | omega | exact ⟨by omega, by omega⟩ | exact ⟨Tryd.is35, identity_ _⟩ | exact ⟨Tryd.is33, by simpa only [hq] using arrowSame_ (thenS f g).1 (idS f.length) (by have := thenS_le f g; omega) (by have := idS_le f.length; omega)⟩ | exact ⟨Tryd.is35, identity_ _⟩ | exact ⟨Tryd.is33, arrowSame_ (thenS g f).1 (idS g.length) (by have := thenS_le g f; omega) (by have := idS_le g.length; omega)⟩ | with_reducible rfl | (repeat' first | exact Keep.refl _ | refine Keep.add ?_ ?_ _ | refine Keep.set ?_ ?_ _ | exact Nat.le_refl _ | (simp only [Sg.add, Sg.set, Sg.del]; omega)))
      refine hK8 _ _ ?_
      refine vw_ret ?_
      refine hQ _ _ _ (.inr rfl) (done_tmp ?_ fun n b hn h => by simp [Sg.add, show n ≠ s.next by omega, show n ≠ s.next + 1 by omega, h])
      try simp only [ev_hit, length_putv, hl, Nat.reduceLT]
      simp [invS, hab, hba, hq]

end Go.Proofs

open Go Go.V
namespace Go.Proofs

theorem adj_nodup : ∀ {l : List Int}, l.Pairwise (· ≤ ·) → (adjB l = false ↔ l.Nodup)
  | [], _ => by simp [adjB]
  | [a], _ => by simp [adjB]
  | a :: b :: l, h => by
    have h1 := List.pairwise_cons.1 h
    have ih := adj_nodup h1.2
    have h2 := List.pairwise_cons.1 h1.2
    simp only [adjB, Bool.or_eq_false_iff, beq_eq_false_iff_ne]
    rw [ih, List.nodup_cons (a := a)]
    constructor
    · rintro ⟨h3, h4⟩
      refine ⟨fun hm => ?_, h4⟩
      rcases List.mem_cons.1 hm with e | e
      · exact h3 e
      · have k1 := h1.1 b (by simp)
        have k2 := h2.1 a e
        omega
    · rintro ⟨h3, h4⟩
      exact ⟨fun e => h3 (by simp [e]), h4⟩
theorem injS_iff (f : List Int) : injS f = decide f.Nodup := by
  have hs : (sortZ f).Pairwise (· ≤ ·) := by
    have := List.pairwise_mergeSort (le := fun x y : Int => decide (x ≤ y)) (fun a b c h1 h2 => by simp at h1 h2 ⊢; omega) (fun a b => by simp; omega) f
    exact this.imp fun h => by simpa using h
  have hp : (sortZ f).Nodup ↔ f.Nodup := (List.mergeSort_perm f _).nodup_iff
  have := adj_nodup hs
  unfold injS
  cases h : adjB (sortZ f) with
  | false => simp [hp.1 (this.1 h)]
  | true =>
    have : ¬ f.Nodup := fun hn => by have := this.2 (hp.2 hn); rw [h] at this; cases this
    simp [this]
theorem nc2 : ((2 : Nat) : Int) = 2 := rfl
theorem nc3 : ((3 : Nat) : Int) = 3 := rfl
abbrev kX : ByteArray := { data := #[120] }
abbrev kA : Ob := ⟨[kX, kX], []⟩
abbrev kB : Ob := ⟨[kX], []⟩
theorem k_th1 : thenS [1, 0] [5, 6] = ([6, 5], true) := by decide +kernel
theorem k_th2 : thenS [2] [0] = ([], false) := by decide +kernel
theorem k_ar1 : arrS kA kB [0, 0] = true := by decide +kernel
theorem k_ar2 : arrS kB kA [2] = false := by decide +kernel
theorem k_id3 : idS 3 = [0, 1, 2] := by decide +kernel
theorem k_in1 : injS [6, 5] = true := by rw [injS_iff]; decide
theorem k_in2 : injS [1, 1] = false := by rw [injS_iff]; decide
theorem k_iv1 : invS kA kA [1, 0] [1, 0] = true := by decide +kernel
theorem k_iv2 : invS kA kB [0, 0] [0] = false := by decide +kernel
theorem kc_th1 : PCall Tryd.prog 32 [.t (tInts [1, 0]), .t (tInts [5, 6])] (.tup [.t (tInts [6, 5]), Bo true]) := by have := then_ [1, 0] [5, 6] (by decide) (by decide); rw [k_th1] at this; exact this
theorem kc_th2 : PCall Tryd.prog 32 [.t (tInts [2]), .t (tInts [0])] (.tup [.t (tInts []), Bo false]) := by have := then_ [2] [0] (by decide) (by decide); rw [k_th2] at this; exact this
theorem kc_ar1 : PCall Tryd.prog 34 [vObj kA, vObj kB, .t (tInts [0, 0])] (Bo true) := by have := arrow_ kA kB [0, 0] (by decide) (by decide) (by decide) (by decide) (by decide); rw [k_ar1] at this; exact this
theorem kc_ar2 : PCall Tryd.prog 34 [vObj kB, vObj kA, .t (tInts [2])] (Bo false) := by have := arrow_ kB kA [2] (by decide) (by decide) (by decide) (by decide) (by decide); rw [k_ar2] at this; exact this
theorem kc_id3 : PCall Tryd.prog 35 [I 3] (.t (tInts [0, 1, 2])) := by have := identity_ 3; rw [k_id3] at this; exact this
theorem kc_sm : PCall Tryd.prog 33 [.t (tInts [6, 5]), .t (tInts [6, 5])] (Bo true) := arrowSame_ [6, 5] [6, 5] (by decide) (by decide)
theorem kc_in1 : PCall Tryd.prog 62 [.t (tInts [6, 5])] (Bo true) := by have := injective_ [6, 5] (by decide); rw [k_in1] at this; exact this
theorem kc_in2 : PCall Tryd.prog 62 [.t (tInts [1, 1])] (Bo false) := by have := injective_ [1, 1] (by decide); rw [k_in2] at this; exact this
theorem kc_iv1 : PCall Tryd.prog 36 [vObj kA, vObj kA, .t (tInts [1, 0]), .t (tInts [1, 0])] (Bo true) := by have := inverse_ kA kA [1, 0] [1, 0] (by decide) (by decide) (by decide) (by decide) (by decide) (by decide); rw [k_iv1] at this; exact this
theorem kc_iv2 : PCall Tryd.prog 36 [vObj kA, vObj kB, .t (tInts [0, 0]), .t (tInts [0])] (Bo false) := by have := inverse_ kA kB [0, 0] [0] (by decide) (by decide) (by decide) (by decide) (by decide) (by decide); rw [k_iv2] at this; exact this

set_option maxRecDepth 20000 in
theorem known5_  : PCall Tryd.prog 56 [] (Bo true) := by
  refine pcall_of_body Tryd.func56 rfl fun s Q hQ => ?_
  obtain ⟨e, he, hl⟩ : ∃ e : Env, ([] ++ List.replicate (Tryd.f56.ntmps - ([] : List V).length) .junk) = e ∧ e.length = 86 := ⟨_, rfl, rfl⟩
  rw [he]
  clear he
  refine vw_seq_k fun K1 hK1 => ?_
  refine vw_sc 0 [] ?_
  simp only [bs, ↓vopx, ↓vop, thenV, flat, wocs, ↓goc, ↓woc, ↓vopm0]
  repeat ((with_reducible refine And.intro ?_ ?_); · first | (with_reducible assumption) | omega | exact ⟨by omega, by omega⟩ | with_reducible rfl | (repeat' first | exact Keep.refl _ | refine Keep.add ?_ ?_ _ | refine Keep.set ?_ ?_ _ | exact Nat.le_refl _ | (simp only [Sg.add, Sg.set, Sg.del]; omega)))
  refine hK1 _ _ ?_
  refine vw_seq_k fun K2 hK2 => ?_
  refine vw_sc 1 [] ?_
  simp only [bs, Nat.reduceLeDiff, Nat.reduceAdd, vparts, gfill, repl, Sg.frzP, ↓vopx, ↓vop, Nat.reduceBEq, thenV, flat, Nat.reduceLT, V.cells, Sg.frzL, Sg.frz1, hl, wocs, ↓goc, ↓woc, ↓vopm1, Tryd.sl22, Tryd.st25, Tryd.sz25, Tryd.zv25]
  repeat ((with_reducible refine And.intro ?_ ?_); · first | (with_reducible assumption) | omega | exact ⟨by omega, by omega⟩ | with_reducible rfl | (repeat' first | exact Keep.refl _ | refine Keep.add ?_ ?_ _ | refine Keep.set ?_ ?_ _ | exact Nat.le_refl _ | (simp only [Sg.add, Sg.set, Sg.del]; omega)))
  refine hK2 _ _ ?_
  refine vw_seq_k fun K3 hK3 => ?_
  rw [add_set]
  refine VW.nilBox s.next 1 2 (by omega) (add_self _ _) rfl ?_
  rw [add_set]
  simp only [List.set_cons_succ, List.set_cons_zero]
  refine vw_sc 1 [] ?_
  simp only [bs, Nat.reduceLeDiff, Nat.reduceAdd, vparts, gfill, repl, Sg.frzP, ↓vopx, ↓vop, Nat.reduceBEq, thenV, flat, Nat.reduceLT, V.cells, Sg.frzL, Sg.frz1, hl, wocs, ↓goc, ↓woc, ↓vopm1, Tryd.sl22, Tryd.st25, Tryd.sz25, Tryd.zv25]
  repeat ((with_reducible refine And.intro ?_ ?_); · first | (with_reducible assumption) | omega | exact ⟨by omega, by omega⟩ | with_reducible rfl | (repeat' first | exact Keep.refl _ | refine Keep.add ?_ ?_ _ | refine Keep.set ?_ ?_ _ | exact Nat.le_refl _ | (simp only [Sg.add, Sg.set, Sg.del]; omega)))
  refine hK3 _ _ ?_
  refine vw_seq_k fun K4 hK4 => ?_
  have ea : ∀ b c d : Blk, ((s.add b).add c).set (s.next + 1) d = (s.add b).add d := fun b c d => add_set (s.add b) c d
  rw [ea]
  refine VW.nilBox (s.next + 1) 1 2 (by omega) (add_self (s.add _) _) rfl ?_
  rw [ea]
  simp only [List.set_cons_succ, List.set_cons_zero]
  refine vw_sc 1 [.pur (.tup [.t (tInts [6, 5]), Bo true])] ?_
  simp only [bs, Nat.reduceLeDiff, Nat.reduceAdd, vparts, gfill, repl, Sg.frzP, ↓vopx, ↓vop, Nat.reduceBEq, thenV, flat, Nat.reduceLT, V.cells, Sg.frzL, Sg.frz1, hl, wocs, ↓goc, ↓woc, ↓vopm1, ↓callC, calleeV, Tryd.sl26]
  repeat ((with_reducible refine And.intro ?_ ?_); · first | (with_reducible assumption) | omega | exact ⟨by omega, by omega⟩ | exact ⟨Tryd.is32, kc_th1⟩ | with_reducible rfl | (repeat' first | exact Keep.refl _ | refine Keep.add ?_ ?_ _ | refine Keep.set ?_ ?_ _ | exact Nat.le_refl _ | (simp only [Sg.add, Sg.set, Sg.del]; omega)))
  refine hK4 _ _ ?_
  refine vw_seq_k fun K5 hK5 => ?_
  refine vw_sc 1 [.pur (.tup [.t (tInts []), Bo false])] ?_
  simp only [bs, Nat.reduceLeDiff, vparts, gfill, repl, Sg.frzP, ↓vopx, ↓vop, Nat.reduceBEq, thenV, flat, Nat.reduceLT, V.cells, Sg.frzL, Sg.frz1, hl, wocs, ↓goc, ↓woc, ↓vopm1, ↓callC, calleeV, Tryd.sl26]
  repeat ((with_reducible refine And.intro ?_ ?_); · first | (with_reducible assumption) | omega | exact ⟨by omega, by omega⟩ | exact ⟨Tryd.is32, kc_th2⟩ | with_reducible rfl | (repeat' first | exact Keep.refl _ | refine Keep.add ?_ ?_ _ | refine Keep.set ?_ ?_ _ | exact Nat.le_refl _ | (simp only [Sg.add, Sg.set, Sg.del]; omega)))
  refine hK5 _ _ ?_
  refine vw_seq_k fun K6 hK6 => ?_
  refine vw_cut 64 rfl ?_
  refine vl_chunk 1 0 12 52 [(4, 27)] [.pur (Bo true), .pur (Bo false)] (by decide +kernel) (by decide) fun ops' KC hgs hKC => ?_
  have g4_ : gtmp ops' 4 = some 27 := hgs (4, 27) (by simp)
  simp only [bs, Nat.reduceLeDiff, Nat.reduceAdd, vparts, gfill, repl, Sg.frzP, ↓vopx, ↓vop, Nat.reduceBEq, flat, Nat.reduceLT, V.cells, dLoad, vpart, Sg.frzL, Sg.frz1, hl, g4_, wocs, ↓goc, ↓woc, ↓vopm1, ↓callC, ↓pick_tt, calleeV, Tryd.ag25, Tryd.sl26, Tryd.sz25]
  repeat ((with_reducible refine And.intro ?_ ?_); · first | (with_reducible assumption) | omega | exact ⟨by omega, by omega⟩ | exact ⟨Tryd.is34, kc_ar1⟩ | exact ⟨Tryd.is34, kc_ar2⟩ | with_reducible rfl | (repeat' first | exact Keep.refl _ | refine Keep.add ?_ ?_ _ | refine Keep.set ?_ ?_ _ | exact Nat.le_refl _ | (simp only [Sg.add, Sg.set, Sg.del]; omega)))
  refine hKC _ _ ?_
  clear g4_
  clear hgs hKC KC ops'
  refine vl_env fun e5_0 hE => ?_
  have hl5_0 : e5_0.length = 86 := by rw [hE]; simp only [length_putv, hl]
  have q1 : ev e5_0 (.tmp 1) = .ptr s.next 0 := by rw [hE]; simp only [ev_hit, ev_miss, Nat.reduceBEq, length_putv, hl, Nat.reduceLT]
  have q2 : ev e5_0 (.tmp 2) = .ptr (s.next + 1) 0 := by rw [hE]; simp only [ev_hit, ev_miss, Nat.reduceBEq, length_putv, hl, Nat.reduceLT]
  have q3 : ev e5_0 (.tmp 3) = .t (tInts [6, 5]) := by rw [hE]; simp only [ev_hit, ev_miss, Nat.reduceBEq, length_putv, hl, Nat.reduceLT]
  have q4 : ev e5_0 (.tmp 4) = Bo true := by rw [hE]; simp only [ev_hit, ev_miss, Nat.reduceBEq, length_putv, hl, Nat.reduceLT]
  have q6 : ev e5_0 (.tmp 6) = Bo false := by rw [hE]; simp only [ev_hit, ev_miss, Nat.reduceBEq, length_putv, hl, Nat.reduceLT]
  have q34 : ev e5_0 (.tmp 34) = Bo true := by rw [hE]; simp only [ev_hit, length_putv, hl, Nat.reduceLT]
  clear hE
  refine vl_chunk 1 12 18 34 [(11, 34), (14, 37), (19, 42), (25, 48)] [] (by decide +kernel) (by decide) fun ops' KC hgs hKC => ?_
  have g11_ : gtmp ops' 11 = some 34 := hgs (11, 34) (by simp)
  have g14_ : gtmp ops' 14 = some 37 := hgs (14, 37) (by simp)
  have g19_ : gtmp ops' 19 = some 42 := hgs (19, 42) (by simp)
  have g25_ : gtmp ops' 25 = some 48 := hgs (25, 48) (by simp)
  simp only [bs, Nat.reduceAdd, ↓vopx, ↓vop, Nat.reduceBEq, flat, Nat.reduceLT, dLoad, vpart, opII, hl5_0, q3, q4, q6, q34, g11_, g14_, g19_, g25_, wocs, ↓goc, ↓woc, ↓vopm1, ↓pick_tt, Tryd.ag3, Tryd.sz3, Tryd.un26, len_tInts, nc2, Int.toNat_zero, beq_self_eq_true]
  repeat ((with_reducible refine And.intro ?_ ?_); · first | (with_reducible assumption) | omega | exact ⟨by omega, by omega⟩ | with_reducible rfl | (repeat' first | exact Keep.refl _ | refine Keep.add ?_ ?_ _ | refine Keep.set ?_ ?_ _ | exact Nat.le_refl _ | (simp only [Sg.add, Sg.set, Sg.del]; omega)))
  refine hKC _ _ ?_
  clear g11_
  clear g14_
  clear g19_
  clear g25_
  clear hgs hKC KC ops'
  refine vl_env fun e5_1 hE => ?_
  have hl5_1 : e5_1.length = 86 := by rw [hE]; simp only [length_putv, hl5_0]
  have r1 : ev e5_1 (.tmp 1) = .ptr s.next 0 := by rw [hE]; simp only [ev_miss, Nat.reduceBEq, q1]
  have r2 : ev e5_1 (.tmp 2) = .ptr (s.next + 1) 0 := by rw [hE]; simp only [ev_miss, Nat.reduceBEq, q2]
  have r3 : ev e5_1 (.tmp 3) = .t (tInts [6, 5]) := by rw [hE]; simp only [ev_miss, Nat.reduceBEq, q3]
  have r52 : ev e5_1 (.tmp 52) = Bo true := by rw [hE]; simp only [ev_hit, length_putv, hl5_0, Nat.reduceLT]
  clear hE
  refine vl_chunk 1 30 14 20 [(29, 52), (34, 57), (39, 62)] [.pur (.t (tInts [0, 1, 2])), .pur (Bo true), .pur (Bo true)] (by decide +kernel) (by decide) fun ops' KC hgs hKC => ?_
  have g29_ : gtmp ops' 29 = some 52 := hgs (29, 52) (by simp)
  have g34_ : gtmp ops' 34 = some 57 := hgs (34, 57) (by simp)
  have g39_ : gtmp ops' 39 = some 62 := hgs (39, 62) (by simp)
  simp only [bs, Nat.reduceLeDiff, Nat.reduceAdd, vparts, gfill, repl, Sg.frzP, ↓vopx, ↓vop, Nat.reduceBEq, flat, Nat.reduceLT, V.cells, opII, Sg.frzL, Sg.frz1, hl5_1, r3, r52, g29_, g34_, g39_, wocs, ↓goc, ↓woc, ↓vopm1, ↓callC, ↓pick_tt, calleeV, Tryd.sl26, Tryd.un26, len_tInts, nc3, beq_self_eq_true]
  repeat ((with_reducible refine And.intro ?_ ?_); · first | (with_reducible assumption) | omega | exact ⟨by omega, by omega⟩ | exact ⟨Tryd.is35, kc_id3⟩ | exact ⟨Tryd.is33, kc_sm⟩ | exact ⟨Tryd.is62, kc_in1⟩ | with_reducible rfl | (repeat' first | exact Keep.refl _ | refine Keep.add ?_ ?_ _ | refine Keep.set ?_ ?_ _ | exact Nat.le_refl _ | (simp only [Sg.add, Sg.set, Sg.del]; omega)))
  refine hKC _ _ ?_
  clear g29_
  clear g34_
  clear g39_
  clear hgs hKC KC ops'
  refine vl_env fun e5_2 hE => ?_
  have hl5_2 : e5_2.length = 86 := by rw [hE]; simp only [length_putv, hl5_1]
  have u1 : ev e5_2 (.tmp 1) = .ptr s.next 0 := by rw [hE]; simp only [ev_miss, Nat.reduceBEq, r1]
  have u2 : ev e5_2 (.tmp 2) = .ptr (s.next + 1) 0 := by rw [hE]; simp only [ev_miss, Nat.reduceBEq, r2]
  have u66 : ev e5_2 (.tmp 66) = Bo true := by rw [hE]; simp only [ev_hit, length_putv, hl5_1, Nat.reduceLT]
  clear hE
  refine vl_chunk 1 44 12 8 [(43, 66), (48, 71)] [.pur (Bo false), .pur (Bo true)] (by decide +kernel) (by decide) fun ops' KC hgs hKC => ?_
  have g43_ : gtmp ops' 43 = some 66 := hgs (43, 66) (by simp)
  have g48_ : gtmp ops' 48 = some 71 := hgs (48, 71) (by simp)
  simp only [bs, Nat.reduceLeDiff, Nat.reduceAdd, vparts, gfill, repl, Sg.frzP, ↓vopx, ↓vop, Nat.reduceBEq, flat, Nat.reduceLT, V.cells, dLoad, vpart, Sg.frzL, Sg.frz1, hl5_2, u1, u66, g43_, g48_, wocs, ↓goc, ↓woc, ↓vopm1, ↓callC, ↓pick_tt, calleeV, Tryd.ag25, Tryd.sl26, Tryd.sz25]
  repeat ((with_reducible refine And.intro ?_ ?_); · first | (with_reducible assumption) | omega | exact ⟨by omega, by omega⟩ | exact ⟨Tryd.is62, kc_in2⟩ | exact ⟨Tryd.is36, kc_iv1⟩ | with_reducible rfl | (repeat' first | exact Keep.refl _ | refine Keep.add ?_ ?_ _ | refine Keep.set ?_ ?_ _ | exact Nat.le_refl _ | (simp only [Sg.add, Sg.set, Sg.del]; omega)))
  refine hKC _ _ ?_
  clear g43_
  clear g48_
  clear hgs hKC KC ops'
  refine vl_env fun e5_3 hE => ?_
  have hl5_3 : e5_3.length = 86 := by rw [hE]; simp only [length_putv, hl5_2]
  have w1 : ev e5_3 (.tmp 1) = .ptr s.next 0 := by rw [hE]; simp only [ev_miss, Nat.reduceBEq, u1]
  have w2 : ev e5_3 (.tmp 2) = .ptr (s.next + 1) 0 := by rw [hE]; simp only [ev_miss, Nat.reduceBEq, u2]
  have w78 : ev e5_3 (.tmp 78) = Bo true := by rw [hE]; simp only [ev_hit, length_putv, hl5_2, Nat.reduceLT]
  clear hE
  refine vl_chunk 1 56 8 0 [(55, 78)] [.pur (Bo false)] (by decide +kernel) (by decide) fun ops' KC hgs hKC => ?_
  have g55_ : gtmp ops' 55 = some 78 := hgs (55, 78) (by simp)
  simp only [bs, Nat.reduceLeDiff, Nat.reduceAdd, vparts, gfill, repl, Sg.frzP, ↓vopx, ↓vop, Nat.reduceBEq, flat, Nat.reduceLT, V.cells, dLoad, vpart, Sg.frzL, Sg.frz1, hl5_3, w1, w2, w78, g55_, wocs, ↓goc, ↓woc, ↓vopm1, ↓callC, ↓pick_tt, calleeV, Tryd.ag25, Tryd.sl26, Tryd.sz25]
  repeat ((with_reducible refine And.intro ?_ ?_); · first | (with_reducible assumption) | omega | exact ⟨by omega, by omega⟩ | exact ⟨Tryd.is36, kc_iv2⟩ | with_reducible rfl | (repeat' first | exact Keep.refl _ | refine Keep.add ?_ ?_ _ | refine Keep.set ?_ ?_ _ | exact Nat.le_refl _ | (simp only [Sg.add, Sg.set, Sg.del]; omega)))
  refine hKC _ _ ?_
  clear g55_
  clear hgs hKC KC ops'
  refine vl_nil ?_
  try simp only [thenV]
  refine hK6 _ _ ?_
  refine vw_ret ?_
  refine hQ _ _ _ (.inr rfl) (done_tmp ?_ fun n b hn h => by simp [Sg.add, show n ≠ s.next by omega, show n ≠ s.next + 1 by omega, h])
  try simp only [ev_hit, length_putv, hl5_3, Nat.reduceLT]

end Go.Proofs

open Go Go.V
namespace Go.Proofs

theorem few_le {o : Ob} (h : fewS o = true) : o.labels.length ≤ 50 ∧ o.pairs.length ≤ 200 := by
  unfold fewS at h
  simp only [Bool.and_eq_true, decide_eq_true_eq] at h
  exact ⟨h.1.2, h.2⟩
theorem wk_nil1 {s s' : Sg} {k : Nat} (hk : 0 < k) : EWk s s' (.t (.v (.slice none 0 0))) (.t (.sl k [])) := .inr (.inl (.inr (.inr ⟨k, hk, rfl, rfl⟩)))
theorem wk_nilO {s s' : Sg} : EWk s s' (.agg [.t (.v (.slice none 0 0)), .t (.v (.slice none 0 0))]) (vObj ⟨[], []⟩) :=
  .inr (.inr (.inl ⟨_, _, rfl, rfl, .inr (.inr ⟨1, by omega, rfl, rfl⟩), .inr (.inr ⟨2, by omega, rfl, rfl⟩), trivial⟩))
theorem wk_same {s s' : Sg} (x : V) : EWk s s' x x := .inr (.inl (.inl rfl))
theorem wk_args {s : Sg} {args args' : List V} (h : All2 (EWk s s) args args') : Wk args s args' s := ⟨rfl, fun n b h => ⟨b, h, bwk_refl _ _ _⟩, h⟩
theorem arrow_nil {a : Ob} (ha : IsOb a) (h2 : a.pairs.length < 1000000000) : PCall Tryd.prog 34 [.agg [.t (.v (.slice none 0 0)), .t (.v (.slice none 0 0))], vObj a, .t (.v (.slice none 0 0))] (Bo true) := fun s => by
  have h := arrow_ ⟨[], []⟩ a [] (by decide) (by decide) (by have := ha.le; omega) h2 (by decide) s
  rw [nil_arr ha] at h
  exact VCall.wk (wk_args (args' := [vObj ⟨[], []⟩, vObj a, .t (tInts [])]) ⟨wk_nilO, wk_same _, wk_nil1 (by omega), trivial⟩) h

set_option maxRecDepth 20000 in
theorem lawThen_ (a b c : Ob) (f g : List Int) (ha1 : a.labels.length ≤ 9223372036854775807) (ha2 : a.pairs.length ≤ 9223372036854775807) (hb1 : b.labels.length ≤ 9223372036854775807) (hb2 : b.pairs.length ≤ 9223372036854775807) (hc1 : c.labels.length ≤ 9223372036854775807) (hc2 : c.pairs.length ≤ 9223372036854775807) : PCall Tryd.prog 18 [vObj a, vObj b, vObj c, .t (tInts f), .t (tInts g)] (Bo true) := by
  refine pcall_of_body Tryd.func18 rfl fun s Q hQ => ?_
  obtain ⟨e, he, hl, h0, h1, h2, h3, h4⟩ : ∃ e : Env, ([vObj a, vObj b, vObj c, .t (tInts f), .t (tInts g)] ++ List.replicate (Tryd.f18.ntmps - ([vObj a, vObj b, vObj c, .t (tInts f), .t (tInts g)] : List V).length) .junk) = e ∧ e.length = 115 ∧ ev e (.tmp 0) = vObj a ∧ ev e (.tmp 1) = vObj b ∧ ev e (.tmp 2) = vObj c ∧ ev e (.tmp 3) = .t (tInts f) ∧ ev e (.tmp 4) = .t (tInts g) := ⟨_, rfl, rfl, rfl, rfl, rfl, rfl, rfl⟩
  rw [he]
  clear he
  have n2 : ¬ s.next = s.next + 1 + 1 := by omega
  refine vw_seq_k fun K1 hK1 => ?_
  refine vw_sc 0 [] ?_
  simp only [bs, ↓vopx, ↓vop, Nat.reduceBEq, thenV, flat, V.cells, h0, h1, h2, wocs, ↓goc, ↓woc, ↓vopm0]
  repeat ((with_reducible refine And.intro ?_ ?_); · first | (with_reducible assumption) | omega | exact ⟨by omega, by omega⟩ | with_reducible rfl | (repeat' first | exact Keep.refl _ | refine Keep.add ?_ ?_ _ | refine Keep.set ?_ ?_ _ | exact Nat.le_refl _ | (simp only [Sg.add, Sg.set, Sg.del]; omega)))
  refine hK1 _ _ ?_
  refine vw_seq_k fun K2 hK2 => ?_
  refine vw_seq_k fun K3 hK3 => ?_
  refine vw_sc 0 [.pur (Bo true)] ?_
  simp only [bs, ↓vopx, ↓vop, thenV, Nat.reduceLT, hl, wocs, ↓goc, ↓woc, ↓vopm0, ↓callC, calleeV]
  repeat ((with_reducible refine And.intro ?_ ?_); · first | (with_reducible assumption) | omega | exact ⟨by omega, by omega⟩ | exact ⟨Tryd.is56, known5_⟩ | with_reducible rfl | (repeat' first | exact Keep.refl _ | refine Keep.add ?_ ?_ _ | refine Keep.set ?_ ?_ _ | exact Nat.le_refl _ | (simp only [Sg.add, Sg.set, Sg.del]; omega)))
  refine hK3 _ _ ?_
  refine vw_cond_k fun A B hA hB => ?_
  simp only [condV, ev_hit, length_putv, Nat.reduceLT, true_implies, reduceCtorEq, false_implies, true_and, hl]
  refine hB ?_
  clear hA hB A B
  refine vw_skip ?_
  refine hK2 _ _ ?_
  refine vw_seq_k fun K4 hK4 => ?_
  refine vw_seq_k fun K5 hK5 => ?_
  rcases (show fewS a = false ∨ (fewS a = true ∧ (fewS b = false ∨ (fewS b = true ∧ (fewS c = false ∨ (fewS c = true ∧ ((f.length : Int) > 60 ∨ (¬ (f.length : Int) > 60 ∧ ((g.length : Int) > 60 ∨ ¬ (g.length : Int) > 60)))))))) by cases fewS a <;> cases fewS b <;> cases fewS c <;> simp <;> omega) with hfa | ⟨hfa, hfb | ⟨hfb, hfc | ⟨hfc, hlf | ⟨hlf, hlg | hlg⟩⟩⟩⟩
  · refine vw_sc 0 [.pur (Bo (fewS a))] ?_
    simp only [bs, Nat.reduceAdd, ↓vopx, ↓vop, Nat.reduceBEq, thenV, flat, Nat.reduceLT, dLoad, vpart, gtmp, hl, wocs, ↓goc, ↓woc, ↓vopm0, ↓callC, ↓pick_tf, calleeV, Tryd.ag25, Tryd.sz25, n2, hfa]
    repeat ((with_reducible refine And.intro ?_ ?_); · first | (with_reducible assumption) | omega | exact ⟨by omega, by omega⟩ | exact ⟨Tryd.is57, by simpa only [hfa] using few5_ a (by omega) (by omega)⟩ | with_reducible rfl | (repeat' first | exact Keep.refl _ | refine Keep.add ?_ ?_ _ | refine Keep.set ?_ ?_ _ | exact Nat.le_refl _ | (simp only [Sg.add, Sg.set, Sg.del]; omega)))
    refine hK5 _ _ ?_
    refine vw_cond_k fun A B hA hB => ?_
    simp only [condV, ev_hit, length_putv, Nat.reduceLT, true_implies, reduceCtorEq, false_implies, and_true, hl]
    refine hA ?_
    clear hA hB A B
    refine vw_seq_k fun K6 hK6 => ?_
    refine vw_sc 0 [] ?_
    simp only [bs, ↓vopx, ↓vop, thenV, flat, wocs, ↓goc, ↓woc, ↓vopm0]
    repeat ((with_reducible refine And.intro ?_ ?_); · first | (with_reducible assumption) | omega | exact ⟨by omega, by omega⟩ | with_reducible rfl | (repeat' first | exact Keep.refl _ | refine Keep.add ?_ ?_ _ | refine Keep.set ?_ ?_ _ | exact Nat.le_refl _ | (simp only [Sg.add, Sg.set, Sg.del]; omega)))
    refine hK6 _ _ ?_
    refine vw_ret ?_
    refine hQ _ _ _ (.inr rfl) (done_tmp ?_ fun n b hn h => by simp [Sg.add, show n ≠ s.next by omega, show n ≠ s.next + 1 by omega, show n ≠ s.next + 1 + 1 by omega, h])
    try simp only [ev_hit, length_putv, hl, Nat.reduceLT]
  · refine vw_sc 0 [.pur (Bo (fewS a)), .pur (Bo (fewS b))] ?_
    simp only [bs, Nat.reduceAdd, ↓vopx, ↓vop, Nat.reduceBEq, thenV, flat, Nat.reduceLT, dLoad, vpart, gtmp, hl, wocs, ↓goc, ↓woc, ↓vopm0, ↓callC, ↓pick_ff, ↓pick_tf, calleeV, Tryd.ag25, Tryd.sz25, n2, hfa, hfb]
    repeat ((with_reducible refine And.intro ?_ ?_); · first | (with_reducible assumption) | omega | exact ⟨by omega, by omega⟩ | exact ⟨Tryd.is57, by simpa only [hfa] using few5_ a (by omega) (by omega)⟩ | exact ⟨Tryd.is57, by simpa only [hfb] using few5_ b (by omega) (by omega)⟩ | with_reducible rfl | (repeat' first | exact Keep.refl _ | refine Keep.add ?_ ?_ _ | refine Keep.set ?_ ?_ _ | exact Nat.le_refl _ | (simp only [Sg.add, Sg.set, Sg.del]; omega)))
    refine hK5 _ _ ?_
    refine vw_cond_k fun A B hA hB => ?_
    simp only [condV, ev_hit, length_putv, Nat.reduceLT, true_implies, reduceCtorEq, false_implies, and_true, hl]
    refine hA ?_
    clear hA hB A B
    refine vw_seq_k fun K7 hK7 => ?_
    refine vw_sc 0 [] ?_
    simp only [bs, ↓vopx, ↓vop, thenV, flat, wocs, ↓goc, ↓woc, ↓vopm0]
    repeat ((with_reducible refine And.intro ?_ ?_); · first | (with_reducible assumption) | omega | exact ⟨by omega, by omega⟩ | with_reducible rfl | (repeat' first | exact Keep.refl _ | refine Keep.add ?_ ?_ _ | refine Keep.set ?_ ?_ _ | exact Nat.le_refl _ | (simp only [Sg.add, Sg.set, Sg.del]; omega)))
    refine hK7 _ _ ?_
    refine vw_ret ?_
    refine hQ _ _ _ (.inr rfl) (done_tmp ?_ fun n b hn h => by simp [Sg.add, show n ≠ s.next by omega, show n ≠ s.next + 1 by omega, show n ≠ s.next + 1 + 1 by omega, h])
    try simp only [ev_hit, length_putv, hl, Nat.reduceLT]
  · refine vw_sc 0 [.pur (Bo (fewS a)), .pur (Bo (fewS b)), .pur (Bo (fewS c))] ?_
    simp only [bs, Nat.reduceAdd, ↓vopx, ↓vop, Nat.reduceBEq, thenV, flat, Nat.reduceLT, dLoad, vpart, gtmp, hl, wocs, ↓goc, ↓woc, ↓vopm0, ↓callC, ↓pick_ff, ↓pick_tf, calleeV, Tryd.ag25, Tryd.sz25, n2, hfa, hfb, hfc]
    repeat ((with_reducible refine And.intro ?_ ?_); · first | (with_reducible assumption) | omega | exact ⟨by omega, by omega⟩ | exact ⟨Tryd.is57, by simpa only [hfa] using few5_ a (by omega) (by omega)⟩ | exact ⟨Tryd.is57, by simpa only [hfb] using few5_ b (by omega) (by omega)⟩ | exact ⟨Tryd.is57, by simpa only [hfc] using few5_ c (by omega) (by omega)⟩ | with_reducible rfl | (repeat' first | exact Keep.refl _ | refine Keep.add ?_ ?_ _ | refine Keep.set ?_ ?_ _ | exact Nat.le_refl _ | (simp only [Sg.add, Sg.set, Sg.del]; omega)))
    refine hK5 _ _ ?_
    refine vw_cond_k fun A B hA hB => ?_
    simp only [condV, ev_hit, length_putv, Nat.reduceLT, true_implies, reduceCtorEq, false_implies, and_true, hl]
    refine hA ?_
    clear hA hB A B
    refine vw_seq_k fun K8 hK8 => ?_
    refine vw_sc 0 [] ?_
    simp only [bs, ↓vopx, ↓vop, thenV, flat, wocs, ↓goc, ↓woc, ↓vopm0]
    repeat ((with_reducible refine And.intro ?_ ?_); · first | (with_reducible assumption) | omega | exact ⟨by omega, by omega⟩ | with_reducible rfl | (repeat' first | exact Keep.refl _ | refine Keep.add ?_ ?_ _ | refine Keep.set ?_ ?_ _ | exact Nat.le_refl _ | (simp only [Sg.add, Sg.set, Sg.del]; omega)))
    refine hK8 _ _ ?_
    refine vw_ret ?_
    refine hQ _ _ _ (.inr rfl) (done_tmp ?_ fun n b hn h => by simp [Sg.add, show n ≠ s.next by omega, show n ≠ s.next + 1 by omega, show n ≠ s.next + 1 + 1 by omega, h])
    try simp only [ev_hit, length_putv, hl, Nat.reduceLT]
  · refine vw_sc 0 [.pur (Bo (fewS a)), .pur (Bo (fewS b)), .pur (Bo (fewS c))] ?_
    simp only [bs, Nat.reduceAdd, ↓vopx, ↓vop, Nat.reduceBEq, thenV, flat, Nat.reduceLT, dLoad, vpart, opII, gtmp, hl, h3, wocs, ↓goc, ↓woc, ↓vopm0, ↓callC, ↓pick_ff, ↓pick_tf, calleeV, Tryd.ag25, Tryd.sz25, len_tInts, Tryd.underlying26, n2, hfa, hfb, hfc, hlf]
    repeat ((with_reducible refine And.intro ?_ ?_); · first | (with_reducible assumption) | omega | exact ⟨by omega, by omega⟩ | exact ⟨Tryd.is57, by simpa only [hfa] using few5_ a (by omega) (by omega)⟩ | exact ⟨Tryd.is57, by simpa only [hfb] using few5_ b (by omega) (by omega)⟩ | exact ⟨Tryd.is57, by simpa only [hfc] using few5_ c (by omega) (by omega)⟩ | with_reducible rfl | (repeat' first | exact Keep.refl _ | refine Keep.add ?_ ?_ _ | refine Keep.set ?_ ?_ _ | exact Nat.le_refl _ | (simp only [Sg.add, Sg.set, Sg.del]; omega)))
    refine hK5 _ _ ?_
    refine vw_cond_k fun A B hA hB => ?_
    simp only [condV, ev_hit, length_putv, Nat.reduceLT, true_implies, reduceCtorEq, false_implies, and_true, hl]
    refine hA ?_
    clear hA hB A B
    refine vw_seq_k fun K9 hK9 => ?_
    refine vw_sc 0 [] ?_
    simp only [bs, ↓vopx, ↓vop, thenV, flat, wocs, ↓goc, ↓woc, ↓vopm0]
    repeat ((with_reducible refine And.intro ?_ ?_); · first | (with_reducible assumption) | omega | exact ⟨by omega, by omega⟩ | with_reducible rfl | (repeat' first | exact Keep.refl _ | refine Keep.add ?_ ?_ _ | refine Keep.set ?_ ?_ _ | exact Nat.le_refl _ | (simp only [Sg.add, Sg.set, Sg.del]; omega)))
    refine hK9 _ _ ?_
    refine vw_ret ?_
    refine hQ _ _ _ (.inr rfl) (done_tmp ?_ fun n b hn h => by simp [Sg.add, show n ≠ s.next by omega, show n ≠ s.next + 1 by omega, show n ≠ s.next + 1 + 1 by omega, h])
    try simp only [ev_hit, length_putv, hl, Nat.reduceLT]
  · refine vw_sc 0 [.pur (Bo (fewS a)), .pur (Bo (fewS b)), .pur (Bo (fewS c))] ?_
    simp only [bs, Nat.reduceAdd, ↓vopx, ↓vop, Nat.reduceBEq, thenV, flat, Nat.reduceLT, dLoad, vpart, opII, gtmp, hl, h3, h4, wocs, ↓goc, ↓woc, ↓vopm0, ↓callC, ↓pick_ff, calleeV, Tryd.ag25, Tryd.sz25, len_tInts, Tryd.underlying26, n2, hfa, hfb, hfc, hlf, hlg]
    repeat ((with_reducible refine And.intro ?_ ?_); · first | (with_reducible assumption) | omega | exact ⟨by omega, by omega⟩ | exact ⟨Tryd.is57, by simpa only [hfa] using few5_ a (by omega) (by omega)⟩ | exact ⟨Tryd.is57, by simpa only [hfb] using few5_ b (by omega) (by omega)⟩ | exact ⟨Tryd.is57, by simpa only [hfc] using few5_ c (by omega) (by omega)⟩ | with_reducible rfl | (repeat' first | exact Keep.refl _ | refine Keep.add ?_ ?_ _ | refine Keep.set ?_ ?_ _ | exact Nat.le_refl _ | (simp only [Sg.add, Sg.set, Sg.del]; omega)))
    refine hK5 _ _ ?_
    refine vw_cond_k fun A B hA hB => ?_
    simp only [condV, ev_hit, length_putv, Nat.reduceLT, true_implies, reduceCtorEq, false_implies, and_true, hl]
    refine hA ?_
    clear hA hB A B
    refine vw_seq_k fun K10 hK10 => ?_
    refine vw_sc 0 [] ?_
    simp only [bs, ↓vopx, ↓vop, thenV, flat, wocs, ↓goc, ↓woc, ↓vopm0]
    repeat ((with_reducible refine And.intro ?_ ?_); · first | (with_reducible assumption) | omega | exact ⟨by omega, by omega⟩ | with_reducible rfl | (repeat' first | exact Keep.refl _ | refine Keep.add ?_ ?_ _ | refine Keep.set ?_ ?_ _ | exact Nat.le_refl _ | (simp only [Sg.add, Sg.set, Sg.del]; omega)))
    refine hK10 _ _ ?_
    refine vw_ret ?_
    refine hQ _ _ _ (.inr rfl) (done_tmp ?_ fun n b hn h => by simp [Sg.add, show n ≠ s.next by omega, show n ≠ s.next + 1 by omega, show n ≠ s.next + 1 + 1 by omega, h])
    try simp only [ev_hit, length_putv, hl, Nat.reduceLT]
  · refine vw_sc 0 [.pur (Bo (fewS a)), .pur (Bo (fewS b)), .pur (Bo (fewS c))] ?_
    simp only [bs, Nat.reduceAdd, ↓vopx, ↓vop, Nat.reduceBEq, thenV, flat, Nat.reduceLT, dLoad, vpart, opII, gtmp, hl, h3, h4, wocs, ↓goc, ↓woc, ↓vopm0, ↓callC, ↓pick_ff, calleeV, Tryd.ag25, Tryd.sz25, len_tInts, Tryd.underlying26, n2, hfa, hfb, hfc, hlf, hlg]
    repeat ((with_reducible refine And.intro ?_ ?_); · first | (with_reducible assumption) | omega | exact ⟨by omega, by omega⟩ | exact ⟨Tryd.is57, by simpa only [hfa] using few5_ a (by omega) (by omega)⟩ | exact ⟨Tryd.is57, by simpa only [hfb] using few5_ b (by omega) (by omega)⟩ | exact ⟨Tryd.is57, by simpa only [hfc] using few5_ c (by omega) (by omega)⟩ | with_reducible rfl | (repeat' first | exact Keep.refl _ | refine Keep.add ?_ ?_ _ | refine Keep.set ?_ ?_ _ | exact Nat.le_refl _ | (simp only [Sg.add, Sg.set, Sg.del]; omega)))
    refine hK5 _ _ ?_
    refine vw_cond_k fun A B hA hB => ?_
    simp only [condV, ev_hit, length_putv, Nat.reduceLT, true_implies, reduceCtorEq, false_implies, true_and, hl]
    refine hB ?_
    clear hA hB A B
    refine vw_skip ?_
    refine hK4 _ _ ?_
    refine vw_seq_k fun K11 hK11 => ?_
    refine vw_seq_k fun K12 hK12 => ?_
    have ba := few_le hfa
    have bb := few_le hfb
    have bc := few_le hfc
    rcases (show arrS a b f = false ∨ (arrS a b f = true ∧ arrS b c g = false) ∨ (arrS a b f = true ∧ arrS b c g = true) by cases arrS a b f <;> cases arrS b c g <;> simp) with hab | ⟨hab, hbc⟩ | ⟨hab, hbc⟩
    · refine vw_sc 0 [.pur (Bo false)] ?_
      simp only [bs, Nat.reduceAdd, ↓vopx, ↓vop, Nat.reduceBEq, thenV, flat, Nat.reduceLT, dLoad, vpart, gtmp, hl, h3, wocs, ↓goc, ↓woc, ↓vopm0, ↓callC, ↓pick_tf, calleeV, Tryd.ag25, Tryd.sz25, n2]
      repeat ((with_reducible refine And.intro ?_ ?_); · first | (with_reducible assumption) | omega | exact ⟨by omega, by omega⟩ | exact ⟨Tryd.is34, by have := arrow_ a b f (by omega) (by omega) (by omega) (by omega) (by omega); rw [hab] at this; exact this⟩ | with_reducible rfl | (repeat' first | exact Keep.refl _ | refine Keep.add ?_ ?_ _ | refine Keep.set ?_ ?_ _ | exact Nat.le_refl _ | (simp only [Sg.add, Sg.set, Sg.del]; omega)))
      refine hK12 _ _ ?_
      refine vw_cond_k fun A B hA hB => ?_
      simp only [condV, ev_hit, length_putv, Nat.reduceLT, true_implies, reduceCtorEq, false_implies, and_true, hl]
      refine hA ?_
      clear hA hB A B
      refine vw_seq_k fun K13 hK13 => ?_
      refine vw_sc 0 [] ?_
      simp only [bs, ↓vopx, ↓vop, thenV, flat, wocs, ↓goc, ↓woc, ↓vopm0]
      repeat ((with_reducible refine And.intro ?_ ?_); · first | (with_reducible assumption) | omega | exact ⟨by omega, by omega⟩ | with_reducible rfl | (repeat' first | exact Keep.refl _ | refine Keep.add ?_ ?_ _ | refine Keep.set ?_ ?_ _ | exact Nat.le_refl _ | (simp only [Sg.add, Sg.set, Sg.del]; omega)))
      refine hK13 _ _ ?_
      refine vw_ret ?_
      refine hQ _ _ _ (.inr rfl) (done_tmp ?_ fun n b hn h => by simp [Sg.add, show n ≠ s.next by omega, show n ≠ s.next + 1 by omega, show n ≠ s.next + 1 + 1 by omega, h])
      try simp only [ev_hit, length_putv, hl, Nat.reduceLT]
    · refine vw_sc 0 [.pur (Bo true), .pur (Bo false)] ?_
      simp only [bs, Nat.reduceAdd, ↓vopx, ↓vop, Nat.reduceBEq, thenV, flat, Nat.reduceLT, dLoad, vpart, gtmp, hl, h3, h4, wocs, ↓goc, ↓woc, ↓vopm0, ↓callC, ↓pick_ff, calleeV, Tryd.ag25, Tryd.sz25, n2]
      repeat ((with_reducible refine And.intro ?_ ?_); · first | (with_reducible assumption) | omega | exact ⟨by omega, by omega⟩ | exact ⟨Tryd.is34, by have := arrow_ a b f (by omega) (by omega) (by omega) (by omega) (by omega); rw [hab] at this; exact this⟩ | exact ⟨Tryd.is34, by have := arrow_ b c g (by omega) (by omega) (by omega) (by omega) (by omega); rw [hbc] at this; exact this⟩ | with_reducible rfl | (repeat' first | exact Keep.refl _ | refine Keep.add ?_ ?_ _ | refine Keep.set ?_ ?_ _ | exact Nat.le_refl _ | (simp only [Sg.add, Sg.set, Sg.del]; omega)))
      refine hK12 _ _ ?_
      refine vw_cond_k fun A B hA hB => ?_
      simp only [condV, ev_hit, length_putv, Nat.reduceLT, true_implies, reduceCtorEq, false_implies, and_true, hl]
      refine hA ?_
      clear hA hB A B
      refine vw_seq_k fun K14 hK14 => ?_
      refine vw_sc 0 [] ?_
      simp only [bs, ↓vopx, ↓vop, thenV, flat, wocs, ↓goc, ↓woc, ↓vopm0]
      repeat ((with_reducible refine And.intro ?_ ?_); · first | (with_reducible assumption) | omega | exact ⟨by omega, by omega⟩ | with_reducible rfl | (repeat' first | exact Keep.refl _ | refine Keep.add ?_ ?_ _ | refine Keep.set ?_ ?_ _ | exact Nat.le_refl _ | (simp only [Sg.add, Sg.set, Sg.del]; omega)))
      refine hK14 _ _ ?_
      refine vw_ret ?_
      refine hQ _ _ _ (.inr rfl) (done_tmp ?_ fun n b hn h => by simp [Sg.add, show n ≠ s.next by omega, show n ≠ s.next + 1 by omega, show n ≠ s.next + 1 + 1 by omega, h])
      try simp only [ev_hit, length_putv, hl, Nat.reduceLT]
    · refine vw_sc 0 [.pur (Bo true), .pur (Bo true)] ?_
      simp only [bs, Nat.reduceAdd, ↓vopx, ↓vop, Nat.reduceBEq, thenV, flat, Nat.reduceLT, dLoad, vpart, gtmp, hl, h3, h4, wocs, ↓goc, ↓woc, ↓vopm0, ↓callC, ↓pick_ff, calleeV, Tryd.ag25, Tryd.sz25, n2]
      repeat ((with_reducible refine And.intro ?_ ?_); · first | (with_reducible assumption) | omega | exact ⟨by omega, by omega⟩ | exact ⟨Tryd.is34, by have := arrow_ a b f (by omega) (by omega) (by omega) (by omega) (by omega); rw [hab] at this; exact this⟩ | exact ⟨Tryd.is34, by have := arrow_ b c g (by omega) (by omega) (by omega) (by omega) (by omega); rw [hbc] at this; exact this⟩ | with_reducible rfl | (repeat' first | exact Keep.refl _ | refine Keep.add ?_ ?_ _ | refine Keep.set ?_ ?_ _ | exact Nat.le_refl _ | (simp only [Sg.add, Sg.set, Sg.del]; omega)))
      refine hK12 _ _ ?_
      refine vw_cond_k fun A B hA hB => ?_
      simp only [condV, ev_hit, length_putv, Nat.reduceLT, true_implies, reduceCtorEq, false_implies, true_and, hl]
      refine hB ?_
      clear hA hB A B
      refine vw_skip ?_
      refine hK11 _ _ ?_
      refine vw_seq_k fun K15 hK15 => ?_
      obtain ⟨hoa, hob, hm1, _⟩ := arrS_iff.1 hab
      obtain ⟨_, hoc, hm2, _⟩ := arrS_iff.1 hbc
      have hla := hoa.le
      have hlb := hob.le
      have hfl := allY_length hm1
      have hgl := allY_length hm2
      have hth : thenS f g = (f.map fun y => g.getD y.toNat 0, true) := thenS_ok fun y hy => by have := map_all hm1 y hy; rw [hgl]; exact this
      have hac := then_arr hab hbc
      have haa := id_arr hoa
      have hi1 := then_id_left (f := f) hla hfl
      have hi2 := then_id_right (f := f) hlb fun y hy => map_all hm1 y hy
      refine vw_sc 0 [.pur (.tup [.t (tInts (f.map fun y => g.getD y.toNat 0)), Bo true])] ?_
      simp only [bs, ↓vopx, ↓vop, Nat.reduceBEq, thenV, Nat.reduceLT, hl, h3, h4, wocs, ↓goc, ↓woc, ↓vopm0, ↓callC, calleeV]
      repeat ((with_reducible refine And.intro ?_ ?_); · first | (with_reducible assumption) | omega | exact ⟨by omega, by omega⟩ | exact ⟨Tryd.is32, by have := then_ f g (by omega) (by omega); rw [hth] at this; exact this⟩ | with_reducible rfl | (repeat' first | exact Keep.refl _ | refine Keep.add ?_ ?_ _ | refine Keep.set ?_ ?_ _ | exact Nat.le_refl _ | (simp only [Sg.add, Sg.set, Sg.del]; omega)))
      refine hK15 _ _ ?_
      refine vw_seq_k fun K16 hK16 => ?_
      refine vw_sc 0 [.pur (.t (tInts (idS a.labels.length))), .pur (.tup [.t (tInts f), Bo true])] ?_
      simp only [bs, ↓vopx, ↓vop, Nat.reduceBEq, thenV, Nat.reduceLT, dLoad, vpart, hl, h3, wocs, ↓goc, ↓woc, ↓vopm0, ↓callC, calleeV, Tryd.ag22, Tryd.fd25_0, Tryd.sz22, Tryd.un22, len_tStrs, n2]
      repeat ((with_reducible refine And.intro ?_ ?_); · first | (with_reducible assumption) | omega | exact ⟨by omega, by omega⟩ | exact ⟨Tryd.is35, identity_ _⟩ | exact ⟨Tryd.is32, by have := then_ (idS a.labels.length) f (by have := idS_le a.labels.length; omega) (by omega); rw [hi1] at this; exact this⟩ | with_reducible rfl | (repeat' first | exact Keep.refl _ | refine Keep.add ?_ ?_ _ | refine Keep.set ?_ ?_ _ | exact Nat.le_refl _ | (simp only [Sg.add, Sg.set, Sg.del]; omega)))
      refine hK16 _ _ ?_
      refine vw_seq_k fun K17 hK17 => ?_
      refine vw_sc 0 [.pur (.t (tInts (idS b.labels.length))), .pur (.tup [.t (tInts f), Bo true])] ?_
      simp only [bs, ↓vopx, ↓vop, Nat.reduceBEq, thenV, Nat.reduceLT, dLoad, vpart, hl, h3, wocs, ↓goc, ↓woc, ↓vopm0, ↓callC, calleeV, Tryd.ag22, Tryd.fd25_0, Tryd.sz22, Tryd.un22, len_tStrs]
      repeat ((with_reducible refine And.intro ?_ ?_); · first | (with_reducible assumption) | omega | exact ⟨by omega, by omega⟩ | exact ⟨Tryd.is35, identity_ _⟩ | exact ⟨Tryd.is32, by have := then_ f (idS b.labels.length) (by omega) (by have := idS_le b.labels.length; omega); rw [hi2] at this; exact this⟩ | with_reducible rfl | (repeat' first | exact Keep.refl _ | refine Keep.add ?_ ?_ _ | refine Keep.set ?_ ?_ _ | exact Nat.le_refl _ | (simp only [Sg.add, Sg.set, Sg.del]; omega)))
      refine hK17 _ _ ?_
      refine vw_seq_k fun K18 hK18 => ?_
      refine vw_chain Tryd.mixed 35 [0, 0, 1, 1, 0, 0, 0, 0, 0, 0, 0, 0, 0, 0, 0, 0, 0, 0, 0, 0, 0, 0, 0, 0, 1, 1, 0, 1, 0, 0, 0, 0, 0, 0, 1] [.pur (Bo true), .pur (Bo true), .pur (Bo true), .pur (.t (tInts (idS a.labels.length))), .pur (Bo true), .pur (Bo true)] [] 0 (by decide +kernel) (by simp [length_putv, hl]) rfl ?_
      simp only [bs, Nat.reduceAdd, vparts, gfill, ↓vopx, ↓vop, Nat.reduceBEq, thenV, flat, Nat.reduceLT, dLoad, vpart, gtmp, hl, h3, wocs, ↓goc, ↓woc, ↓vopm0, ↓vopm1, ↓callC, ↓pick_tt, calleeV, chn, ↓goq, ↓woq, ↓callQ, List.zip_cons_cons, List.zip_nil_right, Tryd.ag22, Tryd.ag25, Tryd.fd25_0, Tryd.st25, Tryd.sz22, Tryd.sz25, Tryd.un22, len_tStrs, n2]
      repeat ((with_reducible refine And.intro ?_ ?_); · first | (with_reducible assumption) | omega | exact ⟨by omega, by omega⟩ | exact ⟨Tryd.is34, by have := arrow_ a c (f.map fun y => g.getD y.toNat 0) (by omega) (by omega) (by omega) (by omega) (by rw [List.length_map]; omega); rw [hac] at this; exact this⟩ | exact ⟨Tryd.is33, by have := arrowSame_ f f (by omega) (by omega); rw [beq_self_eq_true] at this; exact this⟩ | exact ⟨Tryd.is33, by have := arrowSame_ f f (by omega) (by omega); rw [beq_self_eq_true] at this; exact this⟩ | exact ⟨Tryd.is35, identity_ _⟩ | exact ⟨Tryd.is34, by have := arrow_ a a (idS a.labels.length) (by omega) (by omega) (by omega) (by omega) (by have := idS_le a.labels.length; omega); rw [haa] at this; exact this⟩ | exact ⟨Tryd.is34, arrow_nil hoa (by omega)⟩ | with_reducible rfl | (repeat' first | exact Keep.refl _ | refine Keep.add ?_ ?_ _ | refine Keep.set ?_ ?_ _ | exact Nat.le_refl _ | (simp only [Sg.add, Sg.set, Sg.del]; omega)))
      refine hK18 _ _ ?_
      refine vw_ret ?_
      refine hQ _ _ _ (.inr rfl) (done_tmp ?_ fun n b hn h => by simp [Sg.add, show n ≠ s.next by omega, show n ≠ s.next + 1 by omega, show n ≠ s.next + 1 + 1 by omega, h])
      try simp only [ev_hit, length_putv, hl, Nat.reduceLT]

end Go.Proofs
