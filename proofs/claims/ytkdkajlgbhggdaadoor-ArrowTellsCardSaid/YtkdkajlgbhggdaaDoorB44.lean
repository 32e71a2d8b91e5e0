/- Steps on the way to the statement that the last text of this claim proves: an abstract machine over the code, proved sound, and what the functions come to over it. No condition of their own. -/
import Derived.Test.YtkdkajlgbhggdaaDoorB34
import Derived.Test.YtkdkajlgbhggdaaDoorB38
import Derived.Test.YtkdkajlgbhggdaaDoorB39
import Derived.Test.YtkdkajlgbhggdaaDoorB42
open Go Go.V
namespace Go.Proofs

def injS (f : List Int) : Bool := !(adjB (sortZ f))
def invS (a b : Ob) (f g : List Int) : Bool := arrS a b f && (arrS b a g && ((thenS f g).1 == idS f.length && (thenS g f).1 == idS g.length))
theorem thenS_le (f g : List Int) : (thenS f g).1.length ≤ f.length := by
  unfold thenS; split <;> simp
theorem idS_le (n : Int) : (idS n).length ≤ 40 := by
  have : idN n ≤ 40 := by unfold idN; omega
  simp [idS]; exact this
theorem iff_dec {k n : Nat} {b : Bool} (h : k = n ↔ b = false) : (((k : Int) == (n : Int))) = !b := by
  cases b with
  | true =>
    have : ¬ k = n := fun e => by have := h.1 e; cases this
    simp; omega
  | false =>
    have := h.2 rfl
    simp [this]

set_option maxRecDepth 20000 in
theorem injective_ (f : List Int) (hf : f.length < 100000000) : PCall Tryd.prog 62 [.t (tInts f)] (Bo (injS f)) := by
  refine pcall_of_body Tryd.func62 rfl fun s Q hQ => ?_
  obtain ⟨e, he, hl, h0⟩ : ∃ e : Env, ([.t (tInts f)] ++ List.replicate (Tryd.f62.ntmps - ([.t (tInts f)] : List V).length) .junk) = e ∧ e.length = 18 ∧ ev e (.tmp 0) = .t (tInts f) := ⟨_, rfl, rfl, rfl⟩
  rw [he]
  clear he
  refine vw_seq_k fun K1 hK1 => ?_
  refine vw_sc 0 [] ?_
  simp only [bs, ↓vopx, ↓vop, thenV, flat, wocs, ↓goc, ↓woc, ↓vopm0]
  repeat ((with_reducible refine And.intro ?_ ?_); · first | (with_reducible assumption) | omega | exact ⟨by omega, by omega⟩ | with_reducible rfl | (repeat' first | exact Keep.refl _ | refine Keep.add ?_ ?_ _ | refine Keep.set ?_ ?_ _ | exact Nat.le_refl _ | (simp only [Sg.add, Sg.set, Sg.del]; omega)))
  refine hK1 _ _ ?_
  refine vw_seq_k fun K2 hK2 => ?_
  refine vw_sc 0 [] ?_
  simp only [bs, ↓vopx, ↓vop, Nat.reduceBEq, thenV, Nat.reduceLT, hl, h0, wocs, ↓goc, ↓woc, ↓vopm0, Tryd.sl26, Tryd.un26, len_tInts]
  refine ⟨by omega, by omega, by omega, ?_⟩
  refine hK2 _ _ ?_
  refine vw_seq_k fun K3 hK3 => ?_
  refine vw_sc 0 [] ?_
  simp only [bs, srcT, ↓vopx, ↓vop, Nat.reduceBEq, thenV, Nat.reduceLT, hl, h0, wocs, ↓goc, ↓woc, ↓vopm0, Tryd.sl26, srcT]
  refine ⟨by rw [repl_length]; simp, ?_⟩
  rw [add_set]
  have hc0 := th_copy f
  simp only [List.length_map] at hc0
  rw [hc0]
  refine hK3 _ _ ?_
  refine vw_seq_k fun K4 hK4 => ?_
  refine vw_sc 0 [.stop] ?_
  simp only [bs, ↓vopx, ↓vop, Nat.reduceBEq, thenV, Nat.reduceLT, hl, wocs, ↓goc, ↓woc, ↓vopm0, ↓callC, calleeV]
  refine ⟨Tryd.is86, (sort_ _ s.next f (by simp [Sg.add]) (by omega)).mono fun v s2 hv => ?_⟩
  subst hv
  try simp only [bs, Nat.reduceBEq, Nat.reduceLT, hl, Hold]
  rw [add_set]
  refine hK4 _ _ ?_
  refine vw_seq_k fun K5 hK5 => ?_
  have hsl := sortZ_length f
  refine vw_sc 0 [.stop] ?_
  simp only [bs, ↓vopx, ↓vop, Nat.reduceBEq, thenV, Nat.reduceLT, opII, opSS, hl, wocs, ↓goc, ↓woc, ↓vopm0, ↓callC, calleeV, ↓farC]
  rw [← hsl]
  refine ⟨Tryd.is87, (compact_ _ s.next (sortZ f) (by simp [Sg.add]) (by omega)).mono fun v s2 hv => ?_⟩
  obtain ⟨k, L, rfl, hkl, hL, rfl, hk⟩ := hv
  rw [hsl] at hk
  try simp only [bs, Nat.reduceBEq, Nat.reduceLT, hl, h0, len_tInts, Tryd.underlying26, Hold]
  rw [iff_dec hk]
  refine hK5 _ _ ?_
  refine vw_ret ?_
  refine hQ _ _ _ (.inr rfl) (done_tmp ?_ fun n b hn h => by simp [Sg.add, Sg.set, show n ≠ s.next by omega, h])
  try simp only [ev_hit, length_putv, hl, Nat.reduceLT]
  rfl

set_option maxRecDepth 20000 in
theorem inverse_ (a b : Ob) (f g : List Int) (ha1 : a.labels.length < 1000000000) (ha2 : a.pairs.length < 1000000000) (hb1 : b.labels.length < 1000000000) (hb2 : b.pairs.length < 1000000000) (hf : f.length < 100000000) (hg : g.length < 100000000) : PCall Tryd.prog 36 [vObj a, vObj b, .t (tInts f), .t (tInts g)] (Bo (invS a b f g)) := by
  refine pcall_of_body Tryd.func36 rfl fun s Q hQ => ?_
  obtain ⟨e, he, hl, h0, h1, h2, h3⟩ : ∃ e : Env, ([vObj a, vObj b, .t (tInts f), .t (tInts g)] ++ List.replicate (Tryd.f36.ntmps - ([vObj a, vObj b, .t (tInts f), .t (tInts g)] : List V).length) .junk) = e ∧ e.length = 49 ∧ ev e (.tmp 0) = vObj a ∧ ev e (.tmp 1) = vObj b ∧ ev e (.tmp 2) = .t (tInts f) ∧ ev e (.tmp 3) = .t (tInts g) := ⟨_, rfl, rfl, rfl, rfl, rfl, rfl⟩
  rw [he]
  clear he
  refine vw_seq_k fun K1 hK1 => ?_
  refine vw_sc 0 [] ?_
  simp only [bs, ↓vopx, ↓vop, Nat.reduceBEq, thenV, flat, V.cells, h0, h1, wocs, ↓goc, ↓woc, ↓vopm0]
  repeat ((with_reducible refine And.intro ?_ ?_); · first | (with_reducible assumption) | omega | exact ⟨by omega, by omega⟩ | with_reducible rfl | (repeat' first | exact Keep.refl _ | refine Keep.add ?_ ?_ _ | refine Keep.set ?_ ?_ _ | exact Nat.le_refl _ | (simp only [Sg.add, Sg.set, Sg.del]; omega)))
  refine hK1 _ _ ?_
  refine vw_seq_k fun K2 hK2 => ?_
  refine vw_seq_k fun K3 hK3 => ?_
  rcases (show arrS a b f = false ∨ (arrS a b f = true ∧ arrS b a g = false) ∨ (arrS a b f = true ∧ arrS b a g = true) by cases arrS a b f <;> cases arrS b a g <;> simp) with hab | ⟨hab, hba⟩ | ⟨hab, hba⟩
  · refine vw_sc 0 [.pur (Bo (arrS a b f))] ?_
    simp only [bs, Nat.reduceAdd, ↓vopx, ↓vop, Nat.reduceBEq, thenV, flat, Nat.reduceLT, dLoad, vpart, gtmp, hl, h2, wocs, ↓goc, ↓woc, ↓vopm0, ↓callC, ↓pick_tf, calleeV, Tryd.ag25, Tryd.sz25, hab]
    repeat ((with_reducible refine And.intro ?_ ?_); · first | (with_reducible assumption) | omega | exact ⟨by omega, by omega⟩ | exact ⟨Tryd.is34, by simpa only [hab] using arrow_ a b f ha1 ha2 hb1 hb2 (by omega)⟩ | with_reducible rfl | (repeat' first | exact Keep.refl _ | refine Keep.add ?_ ?_ _ | refine Keep.set ?_ ?_ _ | exact Nat.le_refl _ | (simp only [Sg.add, Sg.set, Sg.del]; omega)))
    refine hK3 _ _ ?_
    refine vw_cond_k fun A B hA hB => ?_
    simp only [condV, ev_hit, length_putv, Nat.reduceLT, true_implies, reduceCtorEq, false_implies, and_true, hl]
    refine hA ?_
    clear hA hB A B
    refine vw_seq_k fun K4 hK4 => ?_
    refine vw_sc 0 [] ?_
    simp only [bs, ↓vopx, ↓vop, thenV, flat, wocs, ↓goc, ↓woc, ↓vopm0]
    repeat ((with_reducible refine And.intro ?_ ?_); · first | (with_reducible assumption) | omega | exact ⟨by omega, by omega⟩ | with_reducible rfl | (repeat' first | exact Keep.refl _ | refine Keep.add ?_ ?_ _ | refine Keep.set ?_ ?_ _ | exact Nat.le_refl _ | (simp only [Sg.add, Sg.set, Sg.del]; omega)))
    refine hK4 _ _ ?_
    refine vw_ret ?_
    refine hQ _ _ _ (.inr rfl) (done_tmp ?_ fun n b hn h => by simp [Sg.add, show n ≠ s.next by omega, show n ≠ s.next + 1 by omega, h])
    try simp only [ev_hit, length_putv, hl, Nat.reduceLT]
    simp [invS, hab]
  · refine vw_sc 0 [.pur (Bo (arrS a b f)), .pur (Bo (arrS b a g))] ?_
    simp only [bs, Nat.reduceAdd, ↓vopx, ↓vop, Nat.reduceBEq, thenV, flat, Nat.reduceLT, dLoad, vpart, gtmp, hl, h2, h3, wocs, ↓goc, ↓woc, ↓vopm0, ↓callC, ↓pick_ff, calleeV, Tryd.ag25, Tryd.sz25, hab, hba]
    repeat ((with_reducible refine And.intro ?_ ?_); · first | (with_reducible assumption) | omega | exact ⟨by omega, by omega⟩ | exact ⟨Tryd.is34, by simpa only [hab] using arrow_ a b f ha1 ha2 hb1 hb2 (by omega)⟩ | exact ⟨Tryd.is34, by simpa only [hba] using arrow_ b a g hb1 hb2 ha1 ha2 (by omega)⟩ | with_reducible rfl | (repeat' first | exact Keep.refl _ | refine Keep.add ?_ ?_ _ | refine Keep.set ?_ ?_ _ | exact Nat.le_refl _ | (simp only [Sg.add, Sg.set, Sg.del]; omega)))
    refine hK3 _ _ ?_
    refine vw_cond_k fun A B hA hB => ?_
    simp only [condV, ev_hit, length_putv, Nat.reduceLT, true_implies, reduceCtorEq, false_implies, and_true, hl]
    refine hA ?_
    clear hA hB A B
    refine vw_seq_k fun K5 hK5 => ?_
    refine vw_sc 0 [] ?_
    simp only [bs, ↓vopx, ↓vop, thenV, flat, wocs, ↓goc, ↓woc, ↓vopm0]
    repeat ((with_reducible refine And.intro ?_ ?_); · first | (with_reducible assumption) | omega | exact ⟨by omega, by omega⟩ | with_reducible rfl | (repeat' first | exact Keep.refl _ | refine Keep.add ?_ ?_ _ | refine Keep.set ?_ ?_ _ | exact Nat.le_refl _ | (simp only [Sg.add, Sg.set, Sg.del]; omega)))
    refine hK5 _ _ ?_
    refine vw_ret ?_
    refine hQ _ _ _ (.inr rfl) (done_tmp ?_ fun n b hn h => by simp [Sg.add, show n ≠ s.next by omega, show n ≠ s.next + 1 by omega, h])
    try simp only [ev_hit, length_putv, hl, Nat.reduceLT]
    simp [invS, hba]
  · refine vw_sc 0 [.pur (Bo (arrS a b f)), .pur (Bo (arrS b a g))] ?_
    simp only [bs, Nat.reduceAdd, ↓vopx, ↓vop, Nat.reduceBEq, thenV, flat, Nat.reduceLT, dLoad, vpart, gtmp, hl, h2, h3, wocs, ↓goc, ↓woc, ↓vopm0, ↓callC, ↓pick_ff, calleeV, Tryd.ag25, Tryd.sz25, hab, hba]
    repeat ((with_reducible refine And.intro ?_ ?_); · first | (with_reducible assumption) | omega | exact ⟨by omega, by omega⟩ | exact ⟨Tryd.is34, by simpa only [hab] using arrow_ a b f ha1 ha2 hb1 hb2 (by omega)⟩ | exact ⟨Tryd.is34, by simpa only [hba] using arrow_ b a g hb1 hb2 ha1 ha2 (by omega)⟩ | with_reducible rfl | (repeat' first | exact Keep.refl _ | refine Keep.add ?_ ?_ _ | refine Keep.set ?_ ?_ _ | exact Nat.le_refl _ | (simp only [Sg.add, Sg.set, Sg.del]; omega)))
    refine hK3 _ _ ?_
    refine vw_cond_k fun A B hA hB => ?_
    simp only [condV, ev_hit, length_putv, Nat.reduceLT, true_implies, reduceCtorEq, false_implies, true_and, hl]
    refine hB ?_
    clear hA hB A B
    refine vw_skip ?_
    refine hK2 _ _ ?_
    refine vw_seq_k fun K6 hK6 => ?_
    refine vw_sc 0 [.pur (.tup [.t (tInts (thenS f g).1), Bo (thenS f g).2])] ?_
    simp only [bs, ↓vopx, ↓vop, Nat.reduceBEq, thenV, Nat.reduceLT, hl, h2, h3, wocs, ↓goc, ↓woc, ↓vopm0, ↓callC, calleeV]
    repeat ((with_reducible refine And.intro ?_ ?_); · first | (with_reducible assumption) | omega | exact ⟨by omega, by omega⟩ | exact ⟨Tryd.is32, then_ f g (by omega) (by omega)⟩ | with_reducible rfl | (repeat' first | exact Keep.refl _ | refine Keep.add ?_ ?_ _ | refine Keep.set ?_ ?_ _ | exact Nat.le_refl _ | (simp only [Sg.add, Sg.set, Sg.del]; omega)))
    refine hK6 _ _ ?_
    refine vw_seq_k fun K7 hK7 => ?_
    refine vw_sc 0 [.pur (.tup [.t (tInts (thenS g f).1), Bo (thenS g f).2])] ?_
    simp only [bs, ↓vopx, ↓vop, Nat.reduceBEq, thenV, Nat.reduceLT, hl, h2, h3, wocs, ↓goc, ↓woc, ↓vopm0, ↓callC, calleeV]
    repeat ((with_reducible refine And.intro ?_ ?_); · first | (with_reducible assumption) | omega | exact ⟨by omega, by omega⟩ | exact ⟨Tryd.is32, then_ g f (by omega) (by omega)⟩ | with_reducible rfl | (repeat' first | exact Keep.refl _ | refine Keep.add ?_ ?_ _ | refine Keep.set ?_ ?_ _ | exact Nat.le_refl _ | (simp only [Sg.add, Sg.set, Sg.del]; omega)))
    refine hK7 _ _ ?_
    refine vw_seq_k fun K8 hK8 => ?_
    cases hq : ((thenS f g).1 == idS f.length)
    · refine vw_sc 0 [.pur (.t (tInts (idS f.length))), .pur (Bo ((thenS f g).1 == idS f.length))] ?_
      simp only [bs, ↓vopx, ↓vop, Nat.reduceBEq, thenV, flat, Nat.reduceLT, gtmp, hl, h2, wocs, ↓goc, ↓woc, ↓vopm0, ↓callC, ↓pick_ft, calleeV, len_tInts, Tryd.underlying26, hq]
      repeat ((with_reducible refine And.intro ?_ ?_); · first | (with_reducible assumption) | omega | exact ⟨by omega, by omega⟩ | exact ⟨Tryd.is35, identity_ _⟩ | exact ⟨Tryd.is33, by simpa only [hq] using arrowSame_ (thenS f g).1 (idS f.length) (by have := thenS_le f g; omega) (by have := idS_le f.length; omega)⟩ | with_reducible rfl | (repeat' first | exact Keep.refl _ | refine Keep.add ?_ ?_ _ | refine Keep.set ?_ ?_ _ | exact Nat.le_refl _ | (simp only [Sg.add, Sg.set, Sg.del]; omega)))
      refine hK8 _ _ ?_
      refine vw_ret ?_
      refine hQ _ _ _ (.inr rfl) (done_tmp ?_ fun n b hn h => by simp [Sg.add, show n ≠ s.next by omega, show n ≠ s.next + 1 by omega, h])
      try simp only [ev_hit, length_putv, hl, Nat.reduceLT]
      simp [invS, hab, hba, hq]
    · refine vw_sc 0 [.pur (.t (tInts (idS f.length))), .pur (Bo ((thenS f g).1 == idS f.length)), .pur (.t (tInts (idS g.length))), .pur (Bo ((thenS g f).1 == idS g.length))] ?_
      simp only [bs, ↓vopx, ↓vop, Nat.reduceBEq, thenV, flat, Nat.reduceLT, gtmp, hl, h2, h3, wocs, ↓goc, ↓woc, ↓vopm0, ↓callC, ↓pick_tt, calleeV, len_tInts, Tryd.underlying26, hq]
      repeat ((with_reducible refine And.intro ?_ ?_); · first | (with_reducible assumption) | omega | exact ⟨by omega, by omega⟩ | exact ⟨Tryd.is35, identity_ _⟩ | exact ⟨Tryd.is33, by simpa only [hq] using arrowSame_ (thenS f g).1 (idS f.length) (by have := thenS_le f g; omega) (by have := idS_le f.length; omega)⟩ | exact ⟨Tryd.is35, identity_ _⟩ | exact ⟨Tryd.is33, arrowSame_ (thenS g f).1 (idS g.length) (by have := thenS_le g f; omega) (by have := idS_le g.length; omega)⟩ | with_reducible rfl | (repeat' first | exact Keep.refl _ | refine Keep.add ?_ ?_ _ | refine Keep.set ?_ ?_ _ | exact Nat.le_refl _ | (simp only [Sg.add, Sg.set, Sg.del]; omega)))
      refine hK8 _ _ ?_
      refine vw_ret ?_
      refine hQ _ _ _ (.inr rfl) (done_tmp ?_ fun n b hn h => by simp [Sg.add, show n ≠ s.next by omega, show n ≠ s.next + 1 by omega, h])
      try simp only [ev_hit, length_putv, hl, Nat.reduceLT]
      simp [invS, hab, hba, hq]

end Go.Proofs

open Go Go.V
namespace Go.Proofs

theorem adj_nodup : ∀ {l : List Int}, l.Pairwise (· ≤ ·) → (adjB l = false ↔ l.Nodup)
  | [], _ => by simp [adjB]
  | [a], _ => by simp [adjB]
  | a :: b :: l, h => by
    have h1 := List.pairwise_cons.1 h
    have ih := adj_nodup h1.2
    have h2 := List.pairwise_cons.1 h1.2
    simp only [adjB, Bool.or_eq_false_iff, beq_eq_false_iff_ne]
    rw [ih, List.nodup_cons (a := a)]
    constructor
    · rintro ⟨h3, h4⟩
      refine ⟨fun hm => ?_, h4⟩
      rcases List.mem_cons.1 hm with e | e
      · exact h3 e
      · have k1 := h1.1 b (by simp)
        have k2 := h2.1 a e
        omega
    · rintro ⟨h3, h4⟩
      exact ⟨fun e => h3 (by simp [e]), h4⟩
theorem injS_iff (f : List Int) : injS f = decide f.Nodup := by
  have hs : (sortZ f).Pairwise (· ≤ ·) := by
    have := List.pairwise_mergeSort (le := fun x y : Int => decide (x ≤ y)) (fun a b c h1 h2 => by simp at h1 h2 ⊢; omega) (fun a b => by simp; omega) f
    exact this.imp fun h => by simpa using h
  have hp : (sortZ f).Nodup ↔ f.Nodup := (List.mergeSort_perm f _).nodup_iff
  have := adj_nodup hs
  unfold injS
  cases h : adjB (sortZ f) with
  | false => simp [hp.1 (this.1 h)]
  | true =>
    have : ¬ f.Nodup := fun hn => by have := this.2 (hp.2 hn); rw [h] at this; cases this
    simp [this]
theorem nc2 : ((2 : Nat) : Int) = 2 := rfl
theorem nc3 : ((3 : Nat) : Int) = 3 := rfl
abbrev kX : ByteArray := { data := #[120] }
abbrev kA : Ob := ⟨[kX, kX], []⟩
abbrev kB : Ob := ⟨[kX], []⟩
theorem k_th1 : thenS [1, 0] [5, 6] = ([6, 5], true) := by decide +kernel
theorem k_th2 : thenS [2] [0] = ([], false) := by decide +kernel
theorem k_ar1 : arrS kA kB [0, 0] = true := by decide +kernel
theorem k_ar2 : arrS kB kA [2] = false := by decide +kernel
theorem k_id3 : idS 3 = [0, 1, 2] := by decide +kernel
theorem k_in1 : injS [6, 5] = true := by rw [injS_iff]; decide
theorem k_in2 : injS [1, 1] = false := by rw [injS_iff]; decide
theorem k_iv1 : invS kA kA [1, 0] [1, 0] = true := by decide +kernel
theorem k_iv2 : invS kA kB [0, 0] [0] = false := by decide +kernel
theorem kc_th1 : PCall Tryd.prog 32 [.t (tInts [1, 0]), .t (tInts [5, 6])] (.tup [.t (tInts [6, 5]), Bo true]) := by have := then_ [1, 0] [5, 6] (by decide) (by decide); rw [k_th1] at this; exact this
theorem kc_th2 : PCall Tryd.prog 32 [.t (tInts [2]), .t (tInts [0])] (.tup [.t (tInts []), Bo false]) := by have := then_ [2] [0] (by decide) (by decide); rw [k_th2] at this; exact this
theorem kc_ar1 : PCall Tryd.prog 34 [vObj kA, vObj kB, .t (tInts [0, 0])] (Bo true) := by have := arrow_ kA kB [0, 0] (by decide) (by decide) (by decide) (by decide) (by decide); rw [k_ar1] at this; exact this
theorem kc_ar2 : PCall Tryd.prog 34 [vObj kB, vObj kA, .t (tInts [2])] (Bo false) := by have := arrow_ kB kA [2] (by decide) (by decide) (by decide) (by decide) (by decide); rw [k_ar2] at this; exact this
theorem kc_id3 : PCall Tryd.prog 35 [I 3] (.t (tInts [0, 1, 2])) := by have := identity_ 3; rw [k_id3] at this; exact this
theorem kc_sm : PCall Tryd.prog 33 [.t (tInts [6, 5]), .t (tInts [6, 5])] (Bo true) := arrowSame_ [6, 5] [6, 5] (by decide) (by decide)
theorem kc_in1 : PCall Tryd.prog 62 [.t (tInts [6, 5])] (Bo true) := by have := injective_ [6, 5] (by decide); rw [k_in1] at this; exact this
theorem kc_in2 : PCall Tryd.prog 62 [.t (tInts [1, 1])] (Bo false) := by have := injective_ [1, 1] (by decide); rw [k_in2] at this; exact this
theorem kc_iv1 : PCall Tryd.prog 36 [vObj kA, vObj kA, .t (tInts [1, 0]), .t (tInts [1, 0])] (Bo true) := by have := inverse_ kA kA [1, 0] [1, 0] (by decide) (by decide) (by decide) (by decide) (by decide) (by decide); rw [k_iv1] at this; exact this
theorem kc_iv2 : PCall Tryd.prog 36 [vObj kA, vObj kB, .t (tInts [0, 0]), .t (tInts [0])] (Bo false) := by have := inverse_ kA kB [0, 0] [0] (by decide) (by decide) (by decide) (by decide) (by decide) (by decide); rw [k_iv2] at this; exact this

set_option maxRecDepth 20000 in
theorem known5_  : PCall Tryd.prog 56 [] (Bo true) := by
  refine pcall_of_body Tryd.func56 rfl fun s Q hQ => ?_
  obtain ⟨e, he, hl⟩ : ∃ e : Env, ([] ++ List.replicate (Tryd.f56.ntmps - ([] : List V).length) .junk) = e ∧ e.length = 86 := ⟨_, rfl, rfl⟩
  rw [he]
  clear he
  refine vw_seq_k fun K1 hK1 => ?_
  refine vw_sc 0 [] ?_
  simp only [bs, ↓vopx, ↓vop, thenV, flat, wocs, ↓goc, ↓woc, ↓vopm0]
  repeat ((with_reducible refine And.intro ?_ ?_); · first | (with_reducible assumption) | omega | exact ⟨by omega, by omega⟩ | with_reducible rfl | (repeat' first | exact Keep.refl _ | refine Keep.add ?_ ?_ _ | refine Keep.set ?_ ?_ _ | exact Nat.le_refl _ | (simp only [Sg.add, Sg.set, Sg.del]; omega)))
  refine hK1 _ _ ?_
  refine vw_seq_k fun K2 hK2 => ?_
  refine vw_sc 1 [] ?_
  simp only [bs, Nat.reduceLeDiff, Nat.reduceAdd, vparts, gfill, repl, Sg.frzP, ↓vopx, ↓vop, Nat.reduceBEq, thenV, flat, Nat.reduceLT, V.cells, Sg.frzL, Sg.frz1, hl, wocs, ↓goc, ↓woc, ↓vopm1, Tryd.sl22, Tryd.st25, Tryd.sz25, Tryd.zv25]
  repeat ((with_reducible refine And.intro ?_ ?_); · first | (with_reducible assumption) | omega | exact ⟨by omega, by omega⟩ | with_reducible rfl | (repeat' first | exact Keep.refl _ | refine Keep.add ?_ ?_ _ | refine Keep.set ?_ ?_ _ | exact Nat.le_refl _ | (simp only [Sg.add, Sg.set, Sg.del]; omega)))
  refine hK2 _ _ ?_
  refine vw_seq_k fun K3 hK3 => ?_
  rw [add_set]
  refine VW.nilBox s.next 1 2 (by omega) (add_self _ _) rfl ?_
  rw [add_set]
  simp only [List.set_cons_succ, List.set_cons_zero]
  refine vw_sc 1 [] ?_
  simp only [bs, Nat.reduceLeDiff, Nat.reduceAdd, vparts, gfill, repl, Sg.frzP, ↓vopx, ↓vop, Nat.reduceBEq, thenV, flat, Nat.reduceLT, V.cells, Sg.frzL, Sg.frz1, hl, wocs, ↓goc, ↓woc, ↓vopm1, Tryd.sl22, Tryd.st25, Tryd.sz25, Tryd.zv25]
  repeat ((with_reducible refine And.intro ?_ ?_); · first | (with_reducible assumption) | omega | exact ⟨by omega, by omega⟩ | with_reducible rfl | (repeat' first | exact Keep.refl _ | refine Keep.add ?_ ?_ _ | refine Keep.set ?_ ?_ _ | exact Nat.le_refl _ | (simp only [Sg.add, Sg.set, Sg.del]; omega)))
  refine hK3 _ _ ?_
  refine vw_seq_k fun K4 hK4 => ?_
  have ea : ∀ b c d : Blk, ((s.add b).add c).set (s.next + 1) d = (s.add b).add d := fun b c d => add_set (s.add b) c d
  rw [ea]
  refine VW.nilBox (s.next + 1) 1 2 (by omega) (add_self (s.add _) _) rfl ?_
  rw [ea]
  simp only [List.set_cons_succ, List.set_cons_zero]
  refine vw_sc 1 [.pur (.tup [.t (tInts [6, 5]), Bo true])] ?_
  simp only [bs, Nat.reduceLeDiff, Nat.reduceAdd, vparts, gfill, repl, Sg.frzP, ↓vopx, ↓vop, Nat.reduceBEq, thenV, flat, Nat.reduceLT, V.cells, Sg.frzL, Sg.frz1, hl, wocs, ↓goc, ↓woc, ↓vopm1, ↓callC, calleeV, Tryd.sl26]
  repeat ((with_reducible refine And.intro ?_ ?_); · first | (with_reducible assumption) | omega | exact ⟨by omega, by omega⟩ | exact ⟨Tryd.is32, kc_th1⟩ | with_reducible rfl | (repeat' first | exact Keep.refl _ | refine Keep.add ?_ ?_ _ | refine Keep.set ?_ ?_ _ | exact Nat.le_refl _ | (simp only [Sg.add, Sg.set, Sg.del]; omega)))
  refine hK4 _ _ ?_
  refine vw_seq_k fun K5 hK5 => ?_
  refine vw_sc 1 [.pur (.tup [.t (tInts []), Bo false])] ?_
  simp only [bs, Nat.reduceLeDiff, vparts, gfill, repl, Sg.frzP, ↓vopx, ↓vop, Nat.reduceBEq, thenV, flat, Nat.reduceLT, V.cells, Sg.frzL, Sg.frz1, hl, wocs, ↓goc, ↓woc, ↓vopm1, ↓callC, calleeV, Tryd.sl26]
  repeat ((with_reducible refine And.intro ?_ ?_); · first | (with_reducible assumption) | omega | exact ⟨by omega, by omega⟩ | exact ⟨Tryd.is32, kc_th2⟩ | with_reducible rfl | (repeat' first | exact Keep.refl _ | refine Keep.add ?_ ?_ _ | refine Keep.set ?_ ?_ _ | exact Nat.le_refl _ | (simp only [Sg.add, Sg.set, Sg.del]; omega)))
  refine hK5 _ _ ?_
  refine vw_seq_k fun K6 hK6 => ?_
  refine vw_cut 64 rfl ?_
  refine vl_chunk 1 0 12 52 [(4, 27)] [.pur (Bo true), .pur (Bo false)] (by decide +kernel) (by decide) fun ops' KC hgs hKC => ?_
  have g4_ : gtmp ops' 4 = some 27 := hgs (4, 27) (by simp)
  simp only [bs, Nat.reduceLeDiff, Nat.reduceAdd, vparts, gfill, repl, Sg.frzP, ↓vopx, ↓vop, Nat.reduceBEq, flat, Nat.reduceLT, V.cells, dLoad, vpart, Sg.frzL, Sg.frz1, hl, g4_, wocs, ↓goc, ↓woc, ↓vopm1, ↓callC, ↓pick_tt, calleeV, Tryd.ag25, Tryd.sl26, Tryd.sz25]
  repeat ((with_reducible refine And.intro ?_ ?_); · first | (with_reducible assumption) | omega | exact ⟨by omega, by omega⟩ | exact ⟨Tryd.is34, kc_ar1⟩ | exact ⟨Tryd.is34, kc_ar2⟩ | with_reducible rfl | (repeat' first | exact Keep.refl _ | refine Keep.add ?_ ?_ _ | refine Keep.set ?_ ?_ _ | exact Nat.le_refl _ | (simp only [Sg.add, Sg.set, Sg.del]; omega)))
  refine hKC _ _ ?_
  clear g4_
  clear hgs hKC KC ops'
  refine vl_env fun e5_0 hE => ?_
  have hl5_0 : e5_0.length = 86 := by rw [hE]; simp only [length_putv, hl]
  have q1 : ev e5_0 (.tmp 1) = .ptr s.next 0 := by rw [hE]; simp only [ev_hit, ev_miss, Nat.reduceBEq, length_putv, hl, Nat.reduceLT]
  have q2 : ev e5_0 (.tmp 2) = .ptr (s.next + 1) 0 := by rw [hE]; simp only [ev_hit, ev_miss, Nat.reduceBEq, length_putv, hl, Nat.reduceLT]
  have q3 : ev e5_0 (.tmp 3) = .t (tInts [6, 5]) := by rw [hE]; simp only [ev_hit, ev_miss, Nat.reduceBEq, length_putv, hl, Nat.reduceLT]
  have q4 : ev e5_0 (.tmp 4) = Bo true := by rw [hE]; simp only [ev_hit, ev_miss, Nat.reduceBEq, length_putv, hl, Nat.reduceLT]
  have q6 : ev e5_0 (.tmp 6) = Bo false := by rw [hE]; simp only [ev_hit, ev_miss, Nat.reduceBEq, length_putv, hl, Nat.reduceLT]
  have q34 : ev e5_0 (.tmp 34) = Bo true := by rw [hE]; simp only [ev_hit, length_putv, hl, Nat.reduceLT]
  clear hE
  refine vl_chunk 1 12 18 34 [(11, 34), (14, 37), (19, 42), (25, 48)] [] (by decide +kernel) (by decide) fun ops' KC hgs hKC => ?_
  have g11_ : gtmp ops' 11 = some 34 := hgs (11, 34) (by simp)
  have g14_ : gtmp ops' 14 = some 37 := hgs (14, 37) (by simp)
  have g19_ : gtmp ops' 19 = some 42 := hgs (19, 42) (by simp)
  have g25_ : gtmp ops' 25 = some 48 := hgs (25, 48) (by simp)
  simp only [bs, Nat.reduceAdd, ↓vopx, ↓vop, Nat.reduceBEq, flat, Nat.reduceLT, dLoad, vpart, opII, hl5_0, q3, q4, q6, q34, g11_, g14_, g19_, g25_, wocs, ↓goc, ↓woc, ↓vopm1, ↓pick_tt, Tryd.ag3, Tryd.sz3, Tryd.un26, len_tInts, nc2, Int.toNat_zero, beq_self_eq_true]
  repeat ((with_reducible refine And.intro ?_ ?_); · first | (with_reducible assumption) | omega | exact ⟨by omega, by omega⟩ | with_reducible rfl | (repeat' first | exact Keep.refl _ | refine Keep.add ?_ ?_ _ | refine Keep.set ?_ ?_ _ | exact Nat.le_refl _ | (simp only [Sg.add, Sg.set, Sg.del]; omega)))
  refine hKC _ _ ?_
  clear g11_
  clear g14_
  clear g19_
  clear g25_
  clear hgs hKC KC ops'
  refine vl_env fun e5_1 hE => ?_
  have hl5_1 : e5_1.length = 86 := by rw [hE]; simp only [length_putv, hl5_0]
  have r1 : ev e5_1 (.tmp 1) = .ptr s.next 0 := by rw [hE]; simp only [ev_miss, Nat.reduceBEq, q1]
  have r2 : ev e5_1 (.tmp 2) = .ptr (s.next + 1) 0 := by rw [hE]; simp only [ev_miss, Nat.reduceBEq, q2]
  have r3 : ev e5_1 (.tmp 3) = .t (tInts [6, 5]) := by rw [hE]; simp only [ev_miss, Nat.reduceBEq, q3]
  have r52 : ev e5_1 (.tmp 52) = Bo true := by rw [hE]; simp only [ev_hit, length_putv, hl5_0, Nat.reduceLT]
  clear hE
  refine vl_chunk 1 30 14 20 [(29, 52), (34, 57), (39, 62)] [.pur (.t (tInts [0, 1, 2])), .pur (Bo true), .pur (Bo true)] (by decide +kernel) (by decide) fun ops' KC hgs hKC => ?_
  have g29_ : gtmp ops' 29 = some 52 := hgs (29, 52) (by simp)
  have g34_ : gtmp ops' 34 = some 57 := hgs (34, 57) (by simp)
  have g39_ : gtmp ops' 39 = some 62 := hgs (39, 62) (by simp)
  simp only [bs, Nat.reduceLeDiff, Nat.reduceAdd, vparts, gfill, repl, Sg.frzP, ↓vopx, ↓vop, Nat.reduceBEq, flat, Nat.reduceLT, V.cells, opII, Sg.frzL, Sg.frz1, hl5_1, r3, r52, g29_, g34_, g39_, wocs, ↓goc, ↓woc, ↓vopm1, ↓callC, ↓pick_tt, calleeV, Tryd.sl26, Tryd.un26, len_tInts, nc3, beq_self_eq_true]
  repeat ((with_reducible refine And.intro ?_ ?_); · first | (with_reducible assumption) | omega | exact ⟨by omega, by omega⟩ | exact ⟨Tryd.is35, kc_id3⟩ | exact ⟨Tryd.is33, kc_sm⟩ | exact ⟨Tryd.is62, kc_in1⟩ | with_reducible rfl | (repeat' first | exact Keep.refl _ | refine Keep.add ?_ ?_ _ | refine Keep.set ?_ ?_ _ | exact Nat.le_refl _ | (simp only [Sg.add, Sg.set, Sg.del]; omega)))
  refine hKC _ _ ?_
  clear g29_
  clear g34_
  clear g39_
  clear hgs hKC KC ops'
  refine vl_env fun e5_2 hE => ?_
  have hl5_2 : e5_2.length = 86 := by rw [hE]; simp only [length_putv, hl5_1]
  have u1 : ev e5_2 (.tmp 1) = .ptr s.next 0 := by rw [hE]; simp only [ev_miss, Nat.reduceBEq, r1]
  have u2 : ev e5_2 (.tmp 2) = .ptr (s.next + 1) 0 := by rw [hE]; simp only [ev_miss, Nat.reduceBEq, r2]
  have u66 : ev e5_2 (.tmp 66) = Bo true := by rw [hE]; simp only [ev_hit, length_putv, hl5_1, Nat.reduceLT]
  clear hE
  refine vl_chunk 1 44 12 8 [(43, 66), (48, 71)] [.pur (Bo false), .pur (Bo true)] (by decide +kernel) (by decide) fun ops' KC hgs hKC => ?_
  have g43_ : gtmp ops' 43 = some 66 := hgs (43, 66) (by simp)
  have g48_ : gtmp ops' 48 = some 71 := hgs (48, 71) (by simp)
  simp only [bs, Nat.reduceLeDiff, Nat.reduceAdd, vparts, gfill, repl, Sg.frzP, ↓vopx, ↓vop, Nat.reduceBEq, flat, Nat.reduceLT, V.cells, dLoad, vpart, Sg.frzL, Sg.frz1, hl5_2, u1, u66, g43_, g48_, wocs, ↓goc, ↓woc, ↓vopm1, ↓callC, ↓pick_tt, calleeV, Tryd.ag25, Tryd.sl26, Tryd.sz25]
  repeat ((with_reducible refine And.intro ?_ ?_); · first | (with_reducible assumption) | omega | exact ⟨by omega, by omega⟩ | exact ⟨Tryd.is62, kc_in2⟩ | exact ⟨Tryd.is36, kc_iv1⟩ | with_reducible rfl | (repeat' first | exact Keep.refl _ | refine Keep.add ?_ ?_ _ | refine Keep.set ?_ ?_ _ | exact Nat.le_refl _ | (simp only [Sg.add, Sg.set, Sg.del]; omega)))
  refine hKC _ _ ?_
  clear g43_
  clear g48_
  clear hgs hKC KC ops'
  refine vl_env fun e5_3 hE => ?_
  have hl5_3 : e5_3.length = 86 := by rw [hE]; simp only [length_putv, hl5_2]
  have w1 : ev e5_3 (.tmp 1) = .ptr s.next 0 := by rw [hE]; simp only [ev_miss, Nat.reduceBEq, u1]
  have w2 : ev e5_3 (.tmp 2) = .ptr (s.next + 1) 0 := by rw [hE]; simp only [ev_miss, Nat.reduceBEq, u2]
  have w78 : ev e5_3 (.tmp 78) = Bo true := by rw [hE]; simp only [ev_hit, length_putv, hl5_2, Nat.reduceLT]
  clear hE
  refine vl_chunk 1 56 8 0 [(55, 78)] [.pur (Bo false)] (by decide +kernel) (by decide) fun ops' KC hgs hKC => ?_
  have g55_ : gtmp ops' 55 = some 78 := hgs (55, 78) (by simp)
  simp only [bs, Nat.reduceLeDiff, Nat.reduceAdd, vparts, gfill, repl, Sg.frzP, ↓vopx, ↓vop, Nat.reduceBEq, flat, Nat.reduceLT, V.cells, dLoad, vpart, Sg.frzL, Sg.frz1, hl5_3, w1, w2, w78, g55_, wocs, ↓goc, ↓woc, ↓vopm1, ↓callC, ↓pick_tt, calleeV, Tryd.ag25, Tryd.sl26, Tryd.sz25]
  repeat ((with_reducible refine And.intro ?_ ?_); · first | (with_reducible assumption) | omega | exact ⟨by omega, by omega⟩ | exact ⟨Tryd.is36, kc_iv2⟩ | with_reducible rfl | (repeat' first | exact Keep.refl _ | refine Keep.add ?_ ?_ _ | refine Keep.set ?_ ?_ _ | exact Nat.le_refl _ | (simp only [Sg.add, Sg.set, Sg.del]; omega)))
  refine hKC _ _ ?_
  clear g55_
  clear hgs hKC KC ops'
  refine vl_nil ?_
  try simp only [thenV]
  refine hK6 _ _ ?_
  refine vw_ret ?_
  refine hQ _ _ _ (.inr rfl) (done_tmp ?_ fun n b hn h => by simp [Sg.add, show n ≠ s.next by omega, show n ≠ s.next + 1 by omega, h])
  try simp only [ev_hit, length_putv, hl5_3, Nat.reduceLT]

end Go.Proofs

open Go Go.V
namespace Go.Proofs

theorem few_le {o : Ob} (h : fewS o = true) : o.labels.length ≤ 50 ∧ o.pairs.length ≤ 200 := by
  unfold fewS at h
  simp only [Bool.and_eq_true, decide_eq_true_eq] at h
  exact ⟨h.1.2, h.2⟩
end Go.Proofs

open Go Go.V
namespace Go.Proofs

abbrev gAt (g : List Int) (y : Int) : Int := g.getD y.toNat 0
def gdB (g : List Int) (y : Int) : Bool := decide (0 ≤ y) && decide (y < g.length)
theorem thenS_good {f g : List Int} (h : f.all (gdB g) = true) : thenS f g = (f.map (gAt g), true) := by unfold thenS; exact if_pos h
theorem thenS_bad {f g : List Int} (h : f.all (gdB g) = false) : thenS f g = ([], false) := by unfold thenS; exact if_neg (by show ¬ (f.all (gdB g) = true); rw [h]; simp)
theorem not_nodup {f : List Int} {i k : Nat} {x : Int} (h : k < i) (h1 : f[i]? = some x) (h2 : f[k]? = some x) : ¬ f.Nodup := fun hn => by
  obtain ⟨g1, e1⟩ := List.getElem?_eq_some_iff.1 h1
  obtain ⟨g2, e2⟩ := List.getElem?_eq_some_iff.1 h2
  exact (List.pairwise_iff_getElem.1 hn) k i g2 g1 h (by rw [e1, e2])
theorem nodup_step {f : List Int} {i : Nat} {x : Int} (h : (f.take i).Nodup) (hx : f[i]? = some x) (hn : ∀ (j : Nat) (y : Int), j < i → f[j]? = some y → x ≠ y) : (f.take (i + 1)).Nodup := by
  rw [List.take_add_one, hx]
  simp only [Option.toList_some]
  refine List.nodup_append.2 ⟨h, by simp, fun a ha b hb e => ?_⟩
  simp only [List.mem_singleton] at hb
  obtain ⟨j, hj⟩ := List.getElem?_of_mem ha
  have hji : j < i := by have := (List.getElem?_eq_some_iff.1 hj).1; simp at this; omega
  rw [List.getElem?_take, if_pos hji] at hj
  exact hn j a hji hj (by rw [← hb, e])
def invR (a b : Ob) (f g : List Int) : Bool := arrS a b f && (arrS b a g && ((thenS f g).1 == idS a.labels.length && (thenS g f).1 == idS b.labels.length))
theorem invR_eq (a b : Ob) (f g : List Int) : invR a b f g = invS a b f g := by
  unfold invR invS
  cases h1 : arrS a b f with
  | false => rfl
  | true =>
    cases h2 : arrS b a g with
    | false => rfl
    | true =>
      have e1 := allY_length (arrS_iff.1 h1).2.2.1
      have e2 := allY_length (arrS_iff.1 h2).2.2.1
      rw [e1, e2]
theorem far_bb (x y : Operand) (b : Bool) : opFar .eql (Bo b) (Bo b) Tryd.prog 4 x y (.bool true) := .inl ⟨.bool b, .bool b, rfl, rfl, by
  unfold vbin eqGuard Go.binOp
  cases b
  · simp only []; kernel_rfl
  · simp only []; kernel_rfl⟩

set_option maxRecDepth 20000 in
theorem refIdZ_ (n : Int) : PCall Tryd.prog 61 [I n] (.t (tInts (idS n))) := by
  refine pcall_of_body Tryd.func61 rfl fun s Q hQ => ?_
  obtain ⟨e, he, hl, h0⟩ : ∃ e : Env, ([I n] ++ List.replicate (Tryd.f61.ntmps - ([I n] : List V).length) .junk) = e ∧ e.length = 16 ∧ ev e (.tmp 0) = I n := ⟨_, rfl, rfl, rfl⟩
  rw [he]
  clear he
  have hN : idN n ≤ 40 := by unfold idN; omega
  refine vw_seq_k fun K1 hK1 => ?_
  refine vw_sc 0 [] ?_
  simp only [bs, ↓vopx, ↓vop, thenV, flat, wocs, ↓goc, ↓woc, ↓vopm0]
  repeat ((with_reducible refine And.intro ?_ ?_); · first | (with_reducible assumption) | omega | exact ⟨by omega, by omega⟩ | with_reducible rfl | (repeat' first | exact Keep.refl _ | refine Keep.add ?_ ?_ _ | refine Keep.set ?_ ?_ _ | exact Nat.le_refl _ | (simp only [Sg.add, Sg.set, Sg.del]; omega)))
  refine hK1 _ _ ?_
  refine vw_seq_k fun K2 hK2 => ?_
  refine vw_sc 0 [] ?_
  simp only [bs, ↓vopx, ↓vop, thenV, flat, wocs, ↓goc, ↓woc, ↓vopm0]
  repeat ((with_reducible refine And.intro ?_ ?_); · first | (with_reducible assumption) | omega | exact ⟨by omega, by omega⟩ | with_reducible rfl | (repeat' first | exact Keep.refl _ | refine Keep.add ?_ ?_ _ | refine Keep.set ?_ ?_ _ | exact Nat.le_refl _ | (simp only [Sg.add, Sg.set, Sg.del]; omega)))
  refine hK2 _ _ ?_
  refine vw_seq_k fun K3 hK3 => ?_
  refine vw_seq_k fun K4 hK4 => ?_
  refine VW.name 3 1 3 (by omega) (by simp only [ev_hit, length_putv, hl, Nat.reduceLT]) ?_
  refine vw_sc 0 [] ?_
  simp only [bs, ↓vopx, ↓vop, thenV, flat, wocs, ↓goc, ↓woc, ↓vopm0]
  repeat ((with_reducible refine And.intro ?_ ?_); · first | (with_reducible assumption) | omega | exact ⟨by omega, by omega⟩ | with_reducible rfl | (repeat' first | exact Keep.refl _ | refine Keep.add ?_ ?_ _ | refine Keep.set ?_ ?_ _ | exact Nat.le_refl _ | (simp only [Sg.add, Sg.set, Sg.del]; omega)))
  refine hK4 _ _ ?_
  refine vw_block ?_
  refine vw_loop (fun mm e' s' => ∃ i : Nat, mm = idN n - i ∧ i ≤ idN n ∧ e'.length = 16 ∧ ev e' (.tmp 0) = I n ∧ ev e' (.tmp 4) = I i ∧ True ∧ ∃ m, ev e' (.tmp 3) = .loc m 0 (rangeI i).length ∧ GrowI s s' m (rangeI i) ∧ Keep s s' ∧ s.next ≤ s'.next) (⟨0, rfl, Nat.zero_le _, ?_⟩) ?_
  · try simp only [ev_hit, ev_miss, Nat.reduceBEq, length_putv, hl, h0, Nat.reduceLT, true_and]
    repeat ((with_reducible refine And.intro ?_ ?_); · first | trivial | assumption | omega | rfl | (push_cast; rfl) | exact ⟨by omega, by omega⟩)
    exact ⟨s.next, rfl, GrowI.new s, (Keep.refl s).add (Nat.le_refl _) _, by simp [Sg.add]⟩
  rintro mm e s1 ⟨i, rfl, hle_i, hl, h0, h_i, hst, ⟨m, hm3, hgr, hkeep, hnx⟩⟩
  refine vw_seq_k fun K5 hK5 => ?_
  refine vw_seq_k fun K6 hK6 => ?_
  refine vw_sc 0 [] ?_
  simp only [bs, ↓vopx, ↓vop, Nat.reduceBEq, thenV, flat, Nat.reduceLT, opII, hl, h0, h_i, wocs, ↓goc, ↓woc, ↓vopm0]
  repeat ((with_reducible refine And.intro ?_ ?_); · first | (with_reducible assumption) | omega | exact ⟨by omega, by omega⟩ | with_reducible rfl | (repeat' first | exact Keep.refl _ | refine Keep.add ?_ ?_ _ | refine Keep.set ?_ ?_ _ | exact Nat.le_refl _ | (simp only [Sg.add, Sg.set, Sg.del]; omega)))
  refine hK6 _ _ ?_
  refine vw_cond_k fun A B hA hB => ?_
  simp only [condV, ev_hit, length_putv, Nat.reduceLT, decide_eq_true_eq, decide_eq_false_iff_not, hl]
  refine ⟨fun hc8 => hA ?_, fun hc8 => hB ?_⟩
  · clear hA hB A B
    have hlt : i < idN n := by unfold idN; omega
    refine vw_skip ?_
    refine hK5 _ _ ?_
    refine vw_seq_k fun K7 hK7 => ?_
    refine vw_block ?_
    have hne : ¬ m = s1.next := by have := hgr.2.2; omega
    have hg0 := hgr.1
    refine vw_sc 0 [] ?_
    simp only [bs, dstT, srcT, Nat.reduceLeDiff, vparts, gfill, repl, Sg.frzP, ↓vopx, ↓vop, Nat.reduceBEq, thenV, blockV, Nat.reduceLT, V.cells, Sg.frzL, Sg.frz1, hl, h_i, hm3, wocs, ↓goc, ↓woc, ↓vopm0, Tryd.sl26, hg0, hne, rangeI_length, Nat.div_one]
    repeat ((with_reducible refine And.intro ?_ ?_); · first | (with_reducible assumption) | omega | exact ⟨by omega, by omega⟩ | with_reducible rfl | (repeat' first | exact Keep.refl _ | refine Keep.add ?_ ?_ _ | refine Keep.set ?_ ?_ _ | exact Nat.le_refl _ | (simp only [Sg.add, Sg.set, Sg.del]; omega)))
    refine hK7 _ _ ?_
    refine vw_sc 0 [] ?_
    simp only [bs, ↓vopx, ↓vop, Nat.reduceBEq, thenV, flat, Nat.reduceLT, opII, hl, h0, h_i, wocs, ↓goc, ↓woc, ↓vopm0]
    repeat ((with_reducible refine And.intro ?_ ?_); · first | (with_reducible assumption) | omega | exact ⟨by omega, by omega⟩ | with_reducible rfl | (repeat' first | exact Keep.refl _ | refine Keep.add ?_ ?_ _ | refine Keep.set ?_ ?_ _ | exact Nat.le_refl _ | (simp only [Sg.add, Sg.set, Sg.del]; omega)))
    refine ⟨idN n - (i + 1), by omega, i + 1, rfl, by omega, ?_⟩
    try simp only [ev_hit, ev_miss, Nat.reduceBEq, length_putv, hl, h0, h_i, hm3, if_true, if_false, Nat.reduceEqDiff, Nat.reduceLT, true_and, and_true]
    repeat ((with_reducible refine And.intro ?_ ?_); · first | trivial | assumption | omega | rfl | (push_cast; rfl) | exact ⟨by omega, by omega⟩)
    exact ⟨s1.next + 1, by simp [rangeI_length], by rw [rangeI_succ]; exact hgr.push hnx _ i, hgr.keep hkeep hnx _ _, by omega⟩
  · clear hA hB A B
    have han : idN n = i := by unfold idN at *; omega
    rw [← han] at hgr hm3
    refine vw_exit ?_
    simp only [thenV, blockV, if_true]
    refine hK3 _ _ ?_
    refine vw_seq_k fun K8 hK8 => ?_
    refine vw_sc 0 [] ?_
    simp only [bs, ↓vopx, ↓vop, Nat.reduceBEq, thenV, Nat.reduceLT, hl, hm3, wocs, ↓goc, ↓woc, ↓vopm0]
    repeat ((with_reducible refine And.intro ?_ ?_); · first | (with_reducible assumption) | omega | exact ⟨by omega, by omega⟩ | with_reducible rfl | (repeat' first | exact Keep.refl _ | refine Keep.add ?_ ?_ _ | refine Keep.set ?_ ?_ _ | exact Nat.le_refl _ | (simp only [Sg.add, Sg.set, Sg.del]; omega)))
    refine hK8 _ _ ?_
    refine vw_ret ?_
    refine hQ _ _ _ (.inr rfl) (done_loc (n := m) (len := (rangeI (idN n)).length) ?_ hgr.1 ?_ hgr.2.1 hkeep)
    all_goals try simp only [ev_hit, length_putv, hl, Nat.reduceLT]
    all_goals (try simp)
    all_goals (try rfl)

set_option maxRecDepth 20000 in
theorem refThen_ (f g : List Int) (hf : f.length < 100000000) (hg : g.length < 1000000000) : PCall Tryd.prog 58 [.t (tInts f), .t (tInts g)] (.tup [.t (tInts (thenS f g).1), Bo (thenS f g).2]) := by
  refine pcall_of_body Tryd.func58 rfl fun s Q hQ => ?_
  obtain ⟨e, he, hl, h0, h1⟩ : ∃ e : Env, ([.t (tInts f), .t (tInts g)] ++ List.replicate (Tryd.f58.ntmps - ([.t (tInts f), .t (tInts g)] : List V).length) .junk) = e ∧ e.length = 39 ∧ ev e (.tmp 0) = .t (tInts f) ∧ ev e (.tmp 1) = .t (tInts g) := ⟨_, rfl, rfl, rfl, rfl⟩
  rw [he]
  clear he
  refine vw_seq_k fun K1 hK1 => ?_
  refine vw_sc 0 [] ?_
  simp only [bs, ↓vopx, ↓vop, thenV, flat, wocs, ↓goc, ↓woc, ↓vopm0]
  repeat ((with_reducible refine And.intro ?_ ?_); · first | (with_reducible assumption) | omega | exact ⟨by omega, by omega⟩ | with_reducible rfl | (repeat' first | exact Keep.refl _ | refine Keep.add ?_ ?_ _ | refine Keep.set ?_ ?_ _ | exact Nat.le_refl _ | (simp only [Sg.add, Sg.set, Sg.del]; omega)))
  refine hK1 _ _ ?_
  refine vw_seq_k fun K2 hK2 => ?_
  refine vw_sc 0 [] ?_
  simp only [bs, ↓vopx, ↓vop, thenV, flat, wocs, ↓goc, ↓woc, ↓vopm0]
  repeat ((with_reducible refine And.intro ?_ ?_); · first | (with_reducible assumption) | omega | exact ⟨by omega, by omega⟩ | with_reducible rfl | (repeat' first | exact Keep.refl _ | refine Keep.add ?_ ?_ _ | refine Keep.set ?_ ?_ _ | exact Nat.le_refl _ | (simp only [Sg.add, Sg.set, Sg.del]; omega)))
  refine hK2 _ _ ?_
  refine vw_seq_k fun K3 hK3 => ?_
  refine vw_seq_k fun K4 hK4 => ?_
  refine VW.name 6 1 3 (by omega) (by simp only [ev_hit, length_putv, hl, Nat.reduceLT]) ?_
  refine vw_sc 0 [] ?_
  simp only [bs, ↓vopx, ↓vop, thenV, flat, wocs, ↓goc, ↓woc, ↓vopm0]
  repeat ((with_reducible refine And.intro ?_ ?_); · first | (with_reducible assumption) | omega | exact ⟨by omega, by omega⟩ | with_reducible rfl | (repeat' first | exact Keep.refl _ | refine Keep.add ?_ ?_ _ | refine Keep.set ?_ ?_ _ | exact Nat.le_refl _ | (simp only [Sg.add, Sg.set, Sg.del]; omega)))
  refine hK4 _ _ ?_
  refine vw_block ?_
  refine vw_loop (fun mm e' s' => ∃ i : Nat, mm = f.length - i ∧ i ≤ f.length ∧ e'.length = 39 ∧ ev e' (.tmp 0) = .t (tInts f) ∧ ev e' (.tmp 1) = .t (tInts g) ∧ ev e' (.tmp 7) = I i ∧ True ∧ ∃ m, ev e' (.tmp 6) = .loc m 0 ((f.take i).map (gAt g)).length ∧ GrowI s s' m ((f.take i).map (gAt g)) ∧ Keep s s' ∧ s.next ≤ s'.next ∧ (f.take i).all (gdB g) = true) (⟨0, rfl, Nat.zero_le _, ?_⟩) ?_
  · try simp only [ev_hit, ev_miss, Nat.reduceBEq, length_putv, hl, h0, h1, Nat.reduceLT, true_and]
    repeat ((with_reducible refine And.intro ?_ ?_); · first | trivial | assumption | omega | rfl | (push_cast; rfl) | exact ⟨by omega, by omega⟩)
    exact ⟨s.next, rfl, GrowI.new s, (Keep.refl s).add (Nat.le_refl _) _, by simp [Sg.add], rfl⟩
  rintro mm e s1 ⟨i, rfl, hle_i, hl, h0, h1, h_i, hst, ⟨m, hm6, hgr, hkeep, hnx, hall⟩⟩
  refine vw_seq_k fun K5 hK5 => ?_
  refine vw_seq_k fun K6 hK6 => ?_
  refine vw_sc 0 [] ?_
  simp only [bs, ↓vopx, ↓vop, Nat.reduceBEq, thenV, Nat.reduceLT, opII, hl, h0, h_i, wocs, ↓goc, ↓woc, ↓vopm0, len_tInts, Tryd.underlying26]
  repeat ((with_reducible refine And.intro ?_ ?_); · first | (with_reducible assumption) | omega | exact ⟨by omega, by omega⟩ | with_reducible rfl | (repeat' first | exact Keep.refl _ | refine Keep.add ?_ ?_ _ | refine Keep.set ?_ ?_ _ | exact Nat.le_refl _ | (simp only [Sg.add, Sg.set, Sg.del]; omega)))
  refine hK6 _ _ ?_
  refine vw_cond_k fun A B hA hB => ?_
  simp only [condV, ev_hit, length_putv, Nat.reduceLT, decide_eq_true_eq, decide_eq_false_iff_not, hl]
  refine ⟨fun hc11 => hA ?_, fun hc11 => hB ?_⟩
  · clear hA hB A B
    refine vw_skip ?_
    refine hK5 _ _ ?_
    refine vw_seq_k fun K7 hK7 => ?_
    refine vw_block ?_
    refine vw_seq_k fun K8 hK8 => ?_
    refine vw_seq_k fun K9 hK9 => ?_
    have hlt : i < f.length := by omega
    obtain ⟨y, hy⟩ : ∃ y, f[i]? = some y := ⟨_, List.getElem?_eq_getElem hlt⟩
    rcases Int.lt_or_le y 0 with hneg | hneg
    · refine vw_sc 0 [] ?_
      simp only [bs, ↓vopx, ↓vop, Nat.reduceBEq, thenV, flat, Nat.reduceLT, dLoad, vpart, opII, gtmp, hl, h0, h_i, wocs, ↓goc, ↓woc, ↓vopm0, ↓pick_tf, Tryd.ag3, Tryd.sz3, Tryd.un26, hy, hneg]
      repeat ((with_reducible refine And.intro ?_ ?_); · first | (with_reducible assumption) | omega | exact ⟨by omega, by omega⟩ | with_reducible rfl | (repeat' first | exact Keep.refl _ | refine Keep.add ?_ ?_ _ | refine Keep.set ?_ ?_ _ | exact Nat.le_refl _ | (simp only [Sg.add, Sg.set, Sg.del]; omega)))
      refine hK9 _ _ ?_
      refine vw_cond_k fun A B hA hB => ?_
      simp only [condV, ev_hit, length_putv, Nat.reduceLT, true_implies, reduceCtorEq, false_implies, and_true, hl]
      refine hA ?_
      clear hA hB A B
      refine vw_seq_k fun K10 hK10 => ?_
      refine vw_sc 0 [] ?_
      simp only [bs, ↓vopx, ↓vop, thenV, flat, wocs, ↓goc, ↓woc, ↓vopm0]
      repeat ((with_reducible refine And.intro ?_ ?_); · first | (with_reducible assumption) | omega | exact ⟨by omega, by omega⟩ | with_reducible rfl | (repeat' first | exact Keep.refl _ | refine Keep.add ?_ ?_ _ | refine Keep.set ?_ ?_ _ | exact Nat.le_refl _ | (simp only [Sg.add, Sg.set, Sg.del]; omega)))
      refine hK10 _ _ ?_
      refine vw_ret ?_
      have hbad : f.all (gdB g) = false := List.all_eq_false.2 ⟨y, List.mem_of_getElem? hy, by unfold gdB; simp; omega⟩
      have hres := thenS_bad hbad
      rw [hres] at hQ
      refine hQ _ _ _ (.inr rfl) (done_nil_pair (by omega) ?_ ?_ hkeep)
      try simp only [ev_hit, ev_miss, Nat.reduceBEq, length_putv, hl, Nat.reduceLT]
      try simp only [ev_hit, length_putv, hl, Nat.reduceLT]
    · refine vw_sc 0 [] ?_
      simp only [bs, ↓vopx, ↓vop, Nat.reduceBEq, thenV, flat, Nat.reduceLT, dLoad, vpart, opII, gtmp, hl, h0, h1, h_i, wocs, ↓goc, ↓woc, ↓vopm0, ↓pick_ff, Tryd.ag3, Tryd.sz3, Tryd.un26, len_tInts, hy, Int.not_lt.2 hneg]
      repeat ((with_reducible refine And.intro ?_ ?_); · first | (with_reducible assumption) | omega | exact ⟨by omega, by omega⟩ | with_reducible rfl | (repeat' first | exact Keep.refl _ | refine Keep.add ?_ ?_ _ | refine Keep.set ?_ ?_ _ | exact Nat.le_refl _ | (simp only [Sg.add, Sg.set, Sg.del]; omega)))
      refine hK9 _ _ ?_
      refine vw_cond_k fun A B hA hB => ?_
      simp only [condV, ev_hit, length_putv, Nat.reduceLT, decide_eq_true_eq, decide_eq_false_iff_not, hl]
      refine ⟨fun hc27 => hA ?_, fun hc27 => hB ?_⟩
      · clear hA hB A B
        refine vw_seq_k fun K11 hK11 => ?_
        refine vw_sc 0 [] ?_
        simp only [bs, ↓vopx, ↓vop, thenV, flat, wocs, ↓goc, ↓woc, ↓vopm0]
        repeat ((with_reducible refine And.intro ?_ ?_); · first | (with_reducible assumption) | omega | exact ⟨by omega, by omega⟩ | with_reducible rfl | (repeat' first | exact Keep.refl _ | refine Keep.add ?_ ?_ _ | refine Keep.set ?_ ?_ _ | exact Nat.le_refl _ | (simp only [Sg.add, Sg.set, Sg.del]; omega)))
        refine hK11 _ _ ?_
        refine vw_ret ?_
        have hbad : f.all (gdB g) = false := List.all_eq_false.2 ⟨y, List.mem_of_getElem? hy, by unfold gdB; simp; omega⟩
        have hres := thenS_bad hbad
        rw [hres] at hQ
        refine hQ _ _ _ (.inr rfl) (done_nil_pair (by omega) ?_ ?_ hkeep)
        try simp only [ev_hit, ev_miss, Nat.reduceBEq, length_putv, hl, Nat.reduceLT]
        try simp only [ev_hit, length_putv, hl, Nat.reduceLT]
      · clear hA hB A B
        refine vw_skip ?_
        refine hK8 _ _ ?_
        obtain ⟨z, hz⟩ : ∃ z, g[y.toNat]? = some z := ⟨_, List.getElem?_eq_getElem (by omega)⟩
        have hne : ¬ m = s1.next := by have := hgr.2.2; omega
        have hg0 := hgr.1
        have hmn : min i f.length = i := by omega
        refine vw_sc 0 [] ?_
        simp only [bs, dstT, srcT, Nat.reduceLeDiff, vparts, gfill, repl, Sg.frzP, ↓vopx, ↓vop, Nat.reduceBEq, thenV, blockV, Nat.reduceLT, V.cells, dLoad, vpart, Sg.frzL, Sg.frz1, hl, h0, h1, h_i, hm6, wocs, ↓goc, ↓woc, ↓vopm0, Tryd.ag3, Tryd.sl26, Tryd.sz3, Tryd.un26, hy, hz, hg0, hne, List.length_take, hmn, Nat.div_one]
        repeat ((with_reducible refine And.intro ?_ ?_); · first | (with_reducible assumption) | omega | exact ⟨by omega, by omega⟩ | with_reducible rfl | (repeat' first | exact Keep.refl _ | refine Keep.add ?_ ?_ _ | refine Keep.set ?_ ?_ _ | exact Nat.le_refl _ | (simp only [Sg.add, Sg.set, Sg.del]; omega)))
        refine hK7 _ _ ?_
        refine vw_sc 0 [] ?_
        simp only [bs, ↓vopx, ↓vop, Nat.reduceBEq, thenV, flat, Nat.reduceLT, opII, hl, h0, h1, h_i, wocs, ↓goc, ↓woc, ↓vopm0]
        repeat ((with_reducible refine And.intro ?_ ?_); · first | (with_reducible assumption) | omega | exact ⟨by omega, by omega⟩ | with_reducible rfl | (repeat' first | exact Keep.refl _ | refine Keep.add ?_ ?_ _ | refine Keep.set ?_ ?_ _ | exact Nat.le_refl _ | (simp only [Sg.add, Sg.set, Sg.del]; omega)))
        refine ⟨f.length - (i + 1), by omega, i + 1, rfl, by omega, ?_⟩
        try simp only [ev_hit, ev_miss, Nat.reduceBEq, length_putv, hl, h0, h1, h_i, hm6, if_true, if_false, Nat.reduceEqDiff, Nat.reduceLT, true_and, and_true]
        repeat ((with_reducible refine And.intro ?_ ?_); · first | trivial | assumption | omega | rfl | (push_cast; rfl) | exact ⟨by omega, by omega⟩)
        have htk : f.take (i + 1) = f.take i ++ [y] := by rw [List.take_add_one, hy]; rfl
        have htm : (f.take (i + 1)).map (gAt g) = (f.take i).map (gAt g) ++ [z] := by rw [htk, List.map_append]; simp [gAt, List.getD_eq_getElem?_getD, hz]
        exact ⟨s1.next + 1, by simp [Nat.min_eq_left (show i + 1 ≤ f.length by omega)], by rw [htm]; exact hgr.push hnx _ _, hgr.keep hkeep hnx _ _, by omega, by rw [htk, List.all_append, hall]; simp [gdB]; omega⟩
  · clear hA hB A B
    have han : i = f.length := by omega
    rw [han, List.take_length] at hm6 hgr hall
    refine vw_exit ?_
    simp only [thenV, blockV, if_true]
    refine hK3 _ _ ?_
    refine vw_seq_k fun K12 hK12 => ?_
    refine vw_sc 0 [] ?_
    simp only [bs, ↓vopx, ↓vop, Nat.reduceBEq, thenV, flat, Nat.reduceLT, hl, hm6, wocs, ↓goc, ↓woc, ↓vopm0]
    repeat ((with_reducible refine And.intro ?_ ?_); · first | (with_reducible assumption) | omega | exact ⟨by omega, by omega⟩ | with_reducible rfl | (repeat' first | exact Keep.refl _ | refine Keep.add ?_ ?_ _ | refine Keep.set ?_ ?_ _ | exact Nat.le_refl _ | (simp only [Sg.add, Sg.set, Sg.del]; omega)))
    refine hK12 _ _ ?_
    refine vw_ret ?_
    have hres := thenS_good hall
    rw [hres] at hQ
    refine hQ _ _ _ (.inr rfl) (done_loc_pair (n := m) (len := (f.map (gAt g)).length) ?_ ?_ hgr.1 ?_ hgr.2.1 hkeep)
    all_goals try simp only [ev_hit, ev_miss, Nat.reduceBEq, length_putv, hl, Nat.reduceLT]
    all_goals (try simp)

set_option maxRecDepth 20000 in
theorem once_ (f : List Int) (hf : f.length < 1000000000) : PCall Tryd.prog 63 [.t (tInts f)] (Bo (decide f.Nodup)) := by
  refine pcall_of_body Tryd.func63 rfl fun s Q hQ => ?_
  obtain ⟨e, he, hl, h0⟩ : ∃ e : Env, ([.t (tInts f)] ++ List.replicate (Tryd.f63.ntmps - ([.t (tInts f)] : List V).length) .junk) = e ∧ e.length = 25 ∧ ev e (.tmp 0) = .t (tInts f) := ⟨_, rfl, rfl, rfl⟩
  rw [he]
  clear he
  refine vw_seq_k fun K1 hK1 => ?_
  refine vw_sc 0 [] ?_
  simp only [bs, ↓vopx, ↓vop, thenV, flat, wocs, ↓goc, ↓woc, ↓vopm0]
  repeat ((with_reducible refine And.intro ?_ ?_); · first | (with_reducible assumption) | omega | exact ⟨by omega, by omega⟩ | with_reducible rfl | (repeat' first | exact Keep.refl _ | refine Keep.add ?_ ?_ _ | refine Keep.set ?_ ?_ _ | exact Nat.le_refl _ | (simp only [Sg.add, Sg.set, Sg.del]; omega)))
  refine hK1 _ _ ?_
  refine vw_seq_k fun K2 hK2 => ?_
  refine vw_seq_k fun K3 hK3 => ?_
  refine vw_sc 0 [] ?_
  simp only [bs, ↓vopx, ↓vop, thenV, flat, wocs, ↓goc, ↓woc, ↓vopm0]
  repeat ((with_reducible refine And.intro ?_ ?_); · first | (with_reducible assumption) | omega | exact ⟨by omega, by omega⟩ | with_reducible rfl | (repeat' first | exact Keep.refl _ | refine Keep.add ?_ ?_ _ | refine Keep.set ?_ ?_ _ | exact Nat.le_refl _ | (simp only [Sg.add, Sg.set, Sg.del]; omega)))
  refine hK3 _ _ ?_
  refine vw_block ?_
  refine vw_loop (fun mm e' s' => ∃ i : Nat, mm = f.length - i ∧ i ≤ f.length ∧ e'.length = 25 ∧ ev e' (.tmp 0) = .t (tInts f) ∧ ev e' (.tmp 3) = I i ∧ s = s' ∧ (f.take i).Nodup) (⟨0, rfl, Nat.zero_le _, ?_⟩) ?_
  · try simp only [ev_hit, ev_miss, Nat.reduceBEq, length_putv, hl, h0, Nat.reduceLT, true_and]
    repeat ((with_reducible refine And.intro ?_ ?_); · first | trivial | assumption | omega | rfl | (push_cast; rfl) | exact ⟨by omega, by omega⟩)
    simp
  rintro mm e _ ⟨i, rfl, hle_i, hl, h0, h_i, rfl, hnd⟩
  refine vw_seq_k fun K4 hK4 => ?_
  refine vw_seq_k fun K5 hK5 => ?_
  refine vw_sc 0 [] ?_
  simp only [bs, ↓vopx, ↓vop, Nat.reduceBEq, thenV, Nat.reduceLT, opII, hl, h0, h_i, wocs, ↓goc, ↓woc, ↓vopm0, len_tInts, Tryd.underlying26]
  repeat ((with_reducible refine And.intro ?_ ?_); · first | (with_reducible assumption) | omega | exact ⟨by omega, by omega⟩ | with_reducible rfl | (repeat' first | exact Keep.refl _ | refine Keep.add ?_ ?_ _ | refine Keep.set ?_ ?_ _ | exact Nat.le_refl _ | (simp only [Sg.add, Sg.set, Sg.del]; omega)))
  refine hK5 _ _ ?_
  refine vw_cond_k fun A B hA hB => ?_
  simp only [condV, ev_hit, length_putv, Nat.reduceLT, decide_eq_true_eq, decide_eq_false_iff_not, hl]
  refine ⟨fun hc8 => hA ?_, fun hc8 => hB ?_⟩
  · clear hA hB A B
    refine vw_skip ?_
    refine hK4 _ _ ?_
    refine vw_seq_k fun K6 hK6 => ?_
    refine vw_block ?_
    refine vw_seq_k fun K7 hK7 => ?_
    refine vw_sc 0 [] ?_
    simp only [bs, ↓vopx, ↓vop, thenV, flat, wocs, ↓goc, ↓woc, ↓vopm0]
    repeat ((with_reducible refine And.intro ?_ ?_); · first | (with_reducible assumption) | omega | exact ⟨by omega, by omega⟩ | with_reducible rfl | (repeat' first | exact Keep.refl _ | refine Keep.add ?_ ?_ _ | refine Keep.set ?_ ?_ _ | exact Nat.le_refl _ | (simp only [Sg.add, Sg.set, Sg.del]; omega)))
    refine hK7 _ _ ?_
    refine vw_block ?_
    have hlt : i < f.length := by omega
    obtain ⟨x, hx⟩ : ∃ x, f[i]? = some x := ⟨_, List.getElem?_eq_getElem hlt⟩
    refine vw_loop (fun mm e' s' => ∃ k : Nat, mm = i - k ∧ k ≤ i ∧ e'.length = 25 ∧ ev e' (.tmp 0) = .t (tInts f) ∧ ev e' (.tmp 3) = I i ∧ ev e' (.tmp 4) = I k ∧ s = s' ∧ ∀ (j : Nat) (y : Int), j < k → f[j]? = some y → x ≠ y) (⟨0, rfl, Nat.zero_le _, ?_⟩) ?_
    · try simp only [ev_hit, ev_miss, Nat.reduceBEq, length_putv, hl, h0, h_i, Nat.reduceLT, true_and]
      repeat ((with_reducible refine And.intro ?_ ?_); · first | trivial | assumption | omega | rfl | (push_cast; rfl) | exact ⟨by omega, by omega⟩)
      exact fun j y h => by omega
    rintro mm e _ ⟨k, rfl, hle_k, hl, h0, h3, h_k, rfl, hall⟩
    refine vw_seq_k fun K8 hK8 => ?_
    refine vw_seq_k fun K9 hK9 => ?_
    refine vw_sc 0 [] ?_
    simp only [bs, ↓vopx, ↓vop, Nat.reduceBEq, thenV, Nat.reduceLT, opII, hl, h3, h_k, wocs, ↓goc, ↓woc, ↓vopm0]
    repeat ((with_reducible refine And.intro ?_ ?_); · first | (with_reducible assumption) | omega | exact ⟨by omega, by omega⟩ | with_reducible rfl | (repeat' first | exact Keep.refl _ | refine Keep.add ?_ ?_ _ | refine Keep.set ?_ ?_ _ | exact Nat.le_refl _ | (simp only [Sg.add, Sg.set, Sg.del]; omega)))
    refine hK9 _ _ ?_
    refine vw_cond_k fun A B hA hB => ?_
    simp only [condV, ev_hit, length_putv, Nat.reduceLT, decide_eq_true_eq, decide_eq_false_iff_not, hl]
    refine ⟨fun hc13 => hA ?_, fun hc13 => hB ?_⟩
    · clear hA hB A B
      refine vw_skip ?_
      refine hK8 _ _ ?_
      refine vw_seq_k fun K10 hK10 => ?_
      refine vw_block ?_
      refine vw_seq_k fun K11 hK11 => ?_
      obtain ⟨y, hy⟩ : ∃ y, f[k]? = some y := ⟨_, List.getElem?_eq_getElem (by omega)⟩
      refine vw_chain Tryd.mixed 8 [0, 0, 1, 1, 0, 0, 1, 1] [] [] 0 (by decide +kernel) (by simp [length_putv, hl]) rfl ?_
      simp only [bs, ↓vopx, ↓vop, Nat.reduceBEq, thenV, Nat.reduceLT, dLoad, vpart, opII, opSS, hl, h0, h3, h_k, wocs, ↓goc, ↓woc, ↓vopm1, ↓farC, chn, ↓goq, ↓woq, List.zip_cons_cons, List.zip_nil_right, Tryd.ag3, Tryd.sz3, Tryd.un26, hx, hy]
      repeat ((with_reducible refine And.intro ?_ ?_); · first | (with_reducible assumption) | omega | exact ⟨by omega, by omega⟩ | with_reducible rfl | (repeat' first | exact Keep.refl _ | refine Keep.add ?_ ?_ _ | refine Keep.set ?_ ?_ _ | exact Nat.le_refl _ | (simp only [Sg.add, Sg.set, Sg.del]; omega)))
      refine hK11 _ _ ?_
      refine vw_cond_k fun A B hA hB => ?_
      simp only [condV, ev_hit, length_putv, Nat.reduceLT, beq_iff_eq, beq_eq_false_iff_ne, ne_eq, hl]
      refine ⟨fun hc24 => hA ?_, fun hc24 => hB ?_⟩
      · clear hA hB A B
        refine vw_seq_k fun K12 hK12 => ?_
        refine vw_sc 0 [] ?_
        simp only [bs, ↓vopx, ↓vop, thenV, flat, wocs, ↓goc, ↓woc, ↓vopm0]
        repeat ((with_reducible refine And.intro ?_ ?_); · first | (with_reducible assumption) | omega | exact ⟨by omega, by omega⟩ | with_reducible rfl | (repeat' first | exact Keep.refl _ | refine Keep.add ?_ ?_ _ | refine Keep.set ?_ ?_ _ | exact Nat.le_refl _ | (simp only [Sg.add, Sg.set, Sg.del]; omega)))
        refine hK12 _ _ ?_
        refine vw_ret ?_
        refine hQ _ _ _ (.inr rfl) (done_tmp ?_ fun n b hn h => h)
        try simp only [ev_hit, length_putv, hl, Nat.reduceLT]
        rw [decide_eq_false (not_nodup (k := k) (i := i) (by omega) hx (by rw [hy, hc24]))]
      · clear hA hB A B
        refine vw_skip ?_
        refine hK10 _ _ ?_
        refine vw_sc 0 [] ?_
        simp only [bs, ↓vopx, ↓vop, Nat.reduceBEq, thenV, flat, Nat.reduceLT, opII, hl, h0, h3, h_k, wocs, ↓goc, ↓woc, ↓vopm0]
        repeat ((with_reducible refine And.intro ?_ ?_); · first | (with_reducible assumption) | omega | exact ⟨by omega, by omega⟩ | with_reducible rfl | (repeat' first | exact Keep.refl _ | refine Keep.add ?_ ?_ _ | refine Keep.set ?_ ?_ _ | exact Nat.le_refl _ | (simp only [Sg.add, Sg.set, Sg.del]; omega)))
        refine ⟨i - (k + 1), by omega, k + 1, rfl, by omega, ?_⟩
        try simp only [ev_hit, ev_miss, Nat.reduceBEq, length_putv, hl, h0, h3, h_k, if_true, if_false, Nat.reduceEqDiff, Nat.reduceLT, true_and, and_true]
        repeat ((with_reducible refine And.intro ?_ ?_); · first | trivial | assumption | omega | rfl | (push_cast; rfl) | exact ⟨by omega, by omega⟩)
        intro j z hj h1
        rcases Nat.lt_succ_iff_lt_or_eq.1 hj with h | h
        · exact hall j z h h1
        · subst h; rw [hy] at h1; cases h1; exact hc24
    · clear hA hB A B
      have hki : k = i := by omega
      rw [hki] at hall
      refine vw_exit ?_
      simp only [thenV, blockV, if_true, if_false, Nat.reduceEqDiff, reduceCtorEq]
      refine hK6 _ _ ?_
      refine vw_sc 0 [] ?_
      simp only [bs, ↓vopx, ↓vop, Nat.reduceBEq, thenV, flat, Nat.reduceLT, opII, hl, h0, h3, wocs, ↓goc, ↓woc, ↓vopm0]
      repeat ((with_reducible refine And.intro ?_ ?_); · first | (with_reducible assumption) | omega | exact ⟨by omega, by omega⟩ | with_reducible rfl | (repeat' first | exact Keep.refl _ | refine Keep.add ?_ ?_ _ | refine Keep.set ?_ ?_ _ | exact Nat.le_refl _ | (simp only [Sg.add, Sg.set, Sg.del]; omega)))
      refine ⟨f.length - (i + 1), by omega, i + 1, rfl, by omega, ?_⟩
      try simp only [ev_hit, ev_miss, Nat.reduceBEq, length_putv, hl, h0, h_i, if_true, if_false, Nat.reduceEqDiff, Nat.reduceLT, true_and, and_true]
      repeat ((with_reducible refine And.intro ?_ ?_); · first | trivial | assumption | omega | rfl | (push_cast; rfl) | exact ⟨by omega, by omega⟩)
      exact nodup_step hnd hx hall
  · clear hA hB A B
    have han : i = f.length := by omega
    subst han
    refine vw_exit ?_
    simp only [thenV, blockV, if_true]
    refine hK2 _ _ ?_
    refine vw_seq_k fun K13 hK13 => ?_
    refine vw_sc 0 [] ?_
    simp only [bs, ↓vopx, ↓vop, thenV, flat, wocs, ↓goc, ↓woc, ↓vopm0]
    repeat ((with_reducible refine And.intro ?_ ?_); · first | (with_reducible assumption) | omega | exact ⟨by omega, by omega⟩ | with_reducible rfl | (repeat' first | exact Keep.refl _ | refine Keep.add ?_ ?_ _ | refine Keep.set ?_ ?_ _ | exact Nat.le_refl _ | (simp only [Sg.add, Sg.set, Sg.del]; omega)))
    refine hK13 _ _ ?_
    refine vw_ret ?_
    refine hQ _ _ _ (.inr rfl) (done_tmp ?_ fun n b hn h => h)
    try simp only [ev_hit, length_putv, hl, Nat.reduceLT]
    rw [List.take_length] at hnd
    rw [decide_eq_true hnd]

set_option maxRecDepth 20000 in
theorem refInverse_ (a b : Ob) (f g : List Int) (ha1 : a.labels.length < 1000000000) (ha2 : a.pairs.length < 1000000000) (hb1 : b.labels.length < 1000000000) (hb2 : b.pairs.length < 1000000000) (hf : f.length < 100000000) (hg : g.length < 100000000) : PCall Tryd.prog 60 [vObj a, vObj b, .t (tInts f), .t (tInts g)] (Bo (invR a b f g)) := by
  refine pcall_of_body Tryd.func60 rfl fun s Q hQ => ?_
  obtain ⟨e, he, hl, h0, h1, h2, h3⟩ : ∃ e : Env, ([vObj a, vObj b, .t (tInts f), .t (tInts g)] ++ List.replicate (Tryd.f60.ntmps - ([vObj a, vObj b, .t (tInts f), .t (tInts g)] : List V).length) .junk) = e ∧ e.length = 51 ∧ ev e (.tmp 0) = vObj a ∧ ev e (.tmp 1) = vObj b ∧ ev e (.tmp 2) = .t (tInts f) ∧ ev e (.tmp 3) = .t (tInts g) := ⟨_, rfl, rfl, rfl, rfl, rfl, rfl⟩
  rw [he]
  clear he
  refine vw_seq_k fun K1 hK1 => ?_
  refine vw_sc 0 [] ?_
  simp only [bs, ↓vopx, ↓vop, Nat.reduceBEq, thenV, flat, V.cells, h0, h1, wocs, ↓goc, ↓woc, ↓vopm0]
  repeat ((with_reducible refine And.intro ?_ ?_); · first | (with_reducible assumption) | omega | exact ⟨by omega, by omega⟩ | with_reducible rfl | (repeat' first | exact Keep.refl _ | refine Keep.add ?_ ?_ _ | refine Keep.set ?_ ?_ _ | exact Nat.le_refl _ | (simp only [Sg.add, Sg.set, Sg.del]; omega)))
  refine hK1 _ _ ?_
  refine vw_seq_k fun K2 hK2 => ?_
  refine vw_seq_k fun K3 hK3 => ?_
  rcases (show arrS a b f = false ∨ (arrS a b f = true ∧ arrS b a g = false) ∨ (arrS a b f = true ∧ arrS b a g = true) by cases arrS a b f <;> cases arrS b a g <;> simp) with hab | ⟨hab, hba⟩ | ⟨hab, hba⟩
  · refine vw_sc 0 [.pur (Bo (arrS a b f))] ?_
    simp only [bs, Nat.reduceAdd, ↓vopx, ↓vop, Nat.reduceBEq, thenV, flat, Nat.reduceLT, dLoad, vpart, gtmp, hl, h2, wocs, ↓goc, ↓woc, ↓vopm0, ↓callC, ↓pick_tf, calleeV, Tryd.ag25, Tryd.sz25, hab]
    repeat ((with_reducible refine And.intro ?_ ?_); · first | (with_reducible assumption) | omega | exact ⟨by omega, by omega⟩ | exact ⟨Tryd.is59, by simpa only [hab] using refArrow_ a b f ha1 ha2 hb1 hb2 (by omega)⟩ | with_reducible rfl | (repeat' first | exact Keep.refl _ | refine Keep.add ?_ ?_ _ | refine Keep.set ?_ ?_ _ | exact Nat.le_refl _ | (simp only [Sg.add, Sg.set, Sg.del]; omega)))
    refine hK3 _ _ ?_
    refine vw_cond_k fun A B hA hB => ?_
    simp only [condV, ev_hit, length_putv, Nat.reduceLT, true_implies, reduceCtorEq, false_implies, and_true, hl]
    refine hA ?_
    clear hA hB A B
    refine vw_seq_k fun K4 hK4 => ?_
    refine vw_sc 0 [] ?_
    simp only [bs, ↓vopx, ↓vop, thenV, flat, wocs, ↓goc, ↓woc, ↓vopm0]
    repeat ((with_reducible refine And.intro ?_ ?_); · first | (with_reducible assumption) | omega | exact ⟨by omega, by omega⟩ | with_reducible rfl | (repeat' first | exact Keep.refl _ | refine Keep.add ?_ ?_ _ | refine Keep.set ?_ ?_ _ | exact Nat.le_refl _ | (simp only [Sg.add, Sg.set, Sg.del]; omega)))
    refine hK4 _ _ ?_
    refine vw_ret ?_
    refine hQ _ _ _ (.inr rfl) (done_tmp ?_ fun n b hn h => by simp [Sg.add, show n ≠ s.next by omega, show n ≠ s.next + 1 by omega, h])
    try simp only [ev_hit, length_putv, hl, Nat.reduceLT]
    simp [invR, hab]
  · refine vw_sc 0 [.pur (Bo (arrS a b f)), .pur (Bo (arrS b a g))] ?_
    simp only [bs, Nat.reduceAdd, ↓vopx, ↓vop, Nat.reduceBEq, thenV, flat, Nat.reduceLT, dLoad, vpart, gtmp, hl, h2, h3, wocs, ↓goc, ↓woc, ↓vopm0, ↓callC, ↓pick_ff, calleeV, Tryd.ag25, Tryd.sz25, hab, hba]
    repeat ((with_reducible refine And.intro ?_ ?_); · first | (with_reducible assumption) | omega | exact ⟨by omega, by omega⟩ | exact ⟨Tryd.is59, by simpa only [hab] using refArrow_ a b f ha1 ha2 hb1 hb2 (by omega)⟩ | exact ⟨Tryd.is59, by simpa only [hba] using refArrow_ b a g hb1 hb2 ha1 ha2 (by omega)⟩ | with_reducible rfl | (repeat' first | exact Keep.refl _ | refine Keep.add ?_ ?_ _ | refine Keep.set ?_ ?_ _ | exact Nat.le_refl _ | (simp only [Sg.add, Sg.set, Sg.del]; omega)))
    refine hK3 _ _ ?_
    refine vw_cond_k fun A B hA hB => ?_
    simp only [condV, ev_hit, length_putv, Nat.reduceLT, true_implies, reduceCtorEq, false_implies, and_true, hl]
    refine hA ?_
    clear hA hB A B
    refine vw_seq_k fun K5 hK5 => ?_
    refine vw_sc 0 [] ?_
    simp only [bs, ↓vopx, ↓vop, thenV, flat, wocs, ↓goc, ↓woc, ↓vopm0]
    repeat ((with_reducible refine And.intro ?_ ?_); · first | (with_reducible assumption) | omega | exact ⟨by omega, by omega⟩ | with_reducible rfl | (repeat' first | exact Keep.refl _ | refine Keep.add ?_ ?_ _ | refine Keep.set ?_ ?_ _ | exact Nat.le_refl _ | (simp only [Sg.add, Sg.set, Sg.del]; omega)))
    refine hK5 _ _ ?_
    refine vw_ret ?_
    refine hQ _ _ _ (.inr rfl) (done_tmp ?_ fun n b hn h => by simp [Sg.add, show n ≠ s.next by omega, show n ≠ s.next + 1 by omega, h])
    try simp only [ev_hit, length_putv, hl, Nat.reduceLT]
    simp [invR, hba]
  · refine vw_sc 0 [.pur (Bo (arrS a b f)), .pur (Bo (arrS b a g))] ?_
    simp only [bs, Nat.reduceAdd, ↓vopx, ↓vop, Nat.reduceBEq, thenV, flat, Nat.reduceLT, dLoad, vpart, gtmp, hl, h2, h3, wocs, ↓goc, ↓woc, ↓vopm0, ↓callC, ↓pick_ff, calleeV, Tryd.ag25, Tryd.sz25, hab, hba]
    repeat ((with_reducible refine And.intro ?_ ?_); · first | (with_reducible assumption) | omega | exact ⟨by omega, by omega⟩ | exact ⟨Tryd.is59, by simpa only [hab] using refArrow_ a b f ha1 ha2 hb1 hb2 (by omega)⟩ | exact ⟨Tryd.is59, by simpa only [hba] using refArrow_ b a g hb1 hb2 ha1 ha2 (by omega)⟩ | with_reducible rfl | (repeat' first | exact Keep.refl _ | refine Keep.add ?_ ?_ _ | refine Keep.set ?_ ?_ _ | exact Nat.le_refl _ | (simp only [Sg.add, Sg.set, Sg.del]; omega)))
    refine hK3 _ _ ?_
    refine vw_cond_k fun A B hA hB => ?_
    simp only [condV, ev_hit, length_putv, Nat.reduceLT, true_implies, reduceCtorEq, false_implies, true_and, hl]
    refine hB ?_
    clear hA hB A B
    refine vw_skip ?_
    refine hK2 _ _ ?_
    refine vw_seq_k fun K6 hK6 => ?_
    refine vw_sc 0 [.pur (.tup [.t (tInts (thenS f g).1), Bo (thenS f g).2])] ?_
    simp only [bs, ↓vopx, ↓vop, Nat.reduceBEq, thenV, Nat.reduceLT, hl, h2, h3, wocs, ↓goc, ↓woc, ↓vopm0, ↓callC, calleeV]
    repeat ((with_reducible refine And.intro ?_ ?_); · first | (with_reducible assumption) | omega | exact ⟨by omega, by omega⟩ | exact ⟨Tryd.is58, refThen_ f g (by omega) (by omega)⟩ | with_reducible rfl | (repeat' first | exact Keep.refl _ | refine Keep.add ?_ ?_ _ | refine Keep.set ?_ ?_ _ | exact Nat.le_refl _ | (simp only [Sg.add, Sg.set, Sg.del]; omega)))
    refine hK6 _ _ ?_
    refine vw_seq_k fun K7 hK7 => ?_
    refine vw_sc 0 [.pur (.tup [.t (tInts (thenS g f).1), Bo (thenS g f).2])] ?_
    simp only [bs, ↓vopx, ↓vop, Nat.reduceBEq, thenV, Nat.reduceLT, hl, h2, h3, wocs, ↓goc, ↓woc, ↓vopm0, ↓callC, calleeV]
    repeat ((with_reducible refine And.intro ?_ ?_); · first | (with_reducible assumption) | omega | exact ⟨by omega, by omega⟩ | exact ⟨Tryd.is58, refThen_ g f (by omega) (by omega)⟩ | with_reducible rfl | (repeat' first | exact Keep.refl _ | refine Keep.add ?_ ?_ _ | refine Keep.set ?_ ?_ _ | exact Nat.le_refl _ | (simp only [Sg.add, Sg.set, Sg.del]; omega)))
    refine hK7 _ _ ?_
    refine vw_seq_k fun K8 hK8 => ?_
    cases hq : ((thenS f g).1 == idS a.labels.length)
    · refine vw_sc 0 [.pur (.t (tInts (idS a.labels.length))), .pur (Bo ((thenS f g).1 == idS a.labels.length))] ?_
      simp only [bs, ↓vopx, ↓vop, Nat.reduceBEq, thenV, flat, Nat.reduceLT, dLoad, vpart, gtmp, hl, wocs, ↓goc, ↓woc, ↓vopm0, ↓callC, ↓pick_ft, calleeV, Tryd.ag22, Tryd.fd25_0, Tryd.sz22, Tryd.un22, len_tStrs, hq]
      repeat ((with_reducible refine And.intro ?_ ?_); · first | (with_reducible assumption) | omega | exact ⟨by omega, by omega⟩ | exact ⟨Tryd.is61, refIdZ_ _⟩ | exact ⟨Tryd.is25, by simpa only [hq] using refAlike_ (thenS f g).1 (idS a.labels.length) (by have := thenS_le f g; omega) (by have := idS_le a.labels.length; omega)⟩ | with_reducible rfl | (repeat' first | exact Keep.refl _ | refine Keep.add ?_ ?_ _ | refine Keep.set ?_ ?_ _ | exact Nat.le_refl _ | (simp only [Sg.add, Sg.set, Sg.del]; omega)))
      refine hK8 _ _ ?_
      refine vw_ret ?_
      refine hQ _ _ _ (.inr rfl) (done_tmp ?_ fun n b hn h => by simp [Sg.add, show n ≠ s.next by omega, show n ≠ s.next + 1 by omega, h])
      try simp only [ev_hit, length_putv, hl, Nat.reduceLT]
      simp [invR, hab, hba, hq]
    · refine vw_sc 0 [.pur (.t (tInts (idS a.labels.length))), .pur (Bo ((thenS f g).1 == idS a.labels.length)), .pur (.t (tInts (idS b.labels.length))), .pur (Bo ((thenS g f).1 == idS b.labels.length))] ?_
      simp only [bs, ↓vopx, ↓vop, Nat.reduceBEq, thenV, flat, Nat.reduceLT, dLoad, vpart, gtmp, hl, wocs, ↓goc, ↓woc, ↓vopm0, ↓callC, ↓pick_tt, calleeV, Tryd.ag22, Tryd.fd25_0, Tryd.sz22, Tryd.un22, len_tStrs, hq]
      repeat ((with_reducible refine And.intro ?_ ?_); · first | (with_reducible assumption) | omega | exact ⟨by omega, by omega⟩ | exact ⟨Tryd.is61, refIdZ_ _⟩ | exact ⟨Tryd.is25, by simpa only [hq] using refAlike_ (thenS f g).1 (idS a.labels.length) (by have := thenS_le f g; omega) (by have := idS_le a.labels.length; omega)⟩ | exact ⟨Tryd.is61, refIdZ_ _⟩ | exact ⟨Tryd.is25, refAlike_ (thenS g f).1 (idS b.labels.length) (by have := thenS_le g f; omega) (by have := idS_le b.labels.length; omega)⟩ | with_reducible rfl | (repeat' first | exact Keep.refl _ | refine Keep.add ?_ ?_ _ | refine Keep.set ?_ ?_ _ | exact Nat.le_refl _ | (simp only [Sg.add, Sg.set, Sg.del]; omega)))
      refine hK8 _ _ ?_
      refine vw_ret ?_
      refine hQ _ _ _ (.inr rfl) (done_tmp ?_ fun n b hn h => by simp [Sg.add, show n ≠ s.next by omega, show n ≠ s.next + 1 by omega, h])
      try simp only [ev_hit, length_putv, hl, Nat.reduceLT]
      simp [invR, hab, hba, hq]

end Go.Proofs

open Go Go.V
namespace Go.Proofs

set_option maxRecDepth 20000 in
theorem lawArrow_ (a b : Ob) (f g : List Int) (z : Int) (ha1 : a.labels.length ≤ 9223372036854775807) (ha2 : a.pairs.length ≤ 9223372036854775807) (hb1 : b.labels.length ≤ 9223372036854775807) (hb2 : b.pairs.length ≤ 9223372036854775807) : PCall Tryd.prog 17 [vObj a, vObj b, .t (tInts f), .t (tInts g), I z] (Bo true) := by
  refine pcall_of_body Tryd.func17 rfl fun s Q hQ => ?_
  obtain ⟨e, he, hl, h0, h1, h2, h3, h4⟩ : ∃ e : Env, ([vObj a, vObj b, .t (tInts f), .t (tInts g), I z] ++ List.replicate (Tryd.f17.ntmps - ([vObj a, vObj b, .t (tInts f), .t (tInts g), I z] : List V).length) .junk) = e ∧ e.length = 102 ∧ ev e (.tmp 0) = vObj a ∧ ev e (.tmp 1) = vObj b ∧ ev e (.tmp 2) = .t (tInts f) ∧ ev e (.tmp 3) = .t (tInts g) ∧ ev e (.tmp 4) = I z := ⟨_, rfl, rfl, rfl, rfl, rfl, rfl, rfl⟩
  rw [he]
  clear he
  refine vw_seq_k fun K1 hK1 => ?_
  refine vw_sc 0 [] ?_
  simp only [bs, ↓vopx, ↓vop, Nat.reduceBEq, thenV, flat, V.cells, h0, h1, wocs, ↓goc, ↓woc, ↓vopm0]
  repeat ((with_reducible refine And.intro ?_ ?_); · first | (with_reducible assumption) | omega | exact ⟨by omega, by omega⟩ | with_reducible rfl | (repeat' first | exact Keep.refl _ | refine Keep.add ?_ ?_ _ | refine Keep.set ?_ ?_ _ | exact Nat.le_refl _ | (simp only [Sg.add, Sg.set, Sg.del]; omega)))
  refine hK1 _ _ ?_
  refine vw_seq_k fun K2 hK2 => ?_
  refine vw_seq_k fun K3 hK3 => ?_
  refine vw_sc 0 [.pur (Bo true)] ?_
  simp only [bs, ↓vopx, ↓vop, thenV, Nat.reduceLT, hl, wocs, ↓goc, ↓woc, ↓vopm0, ↓callC, calleeV]
  repeat ((with_reducible refine And.intro ?_ ?_); · first | (with_reducible assumption) | omega | exact ⟨by omega, by omega⟩ | exact ⟨Tryd.is56, known5_⟩ | with_reducible rfl | (repeat' first | exact Keep.refl _ | refine Keep.add ?_ ?_ _ | refine Keep.set ?_ ?_ _ | exact Nat.le_refl _ | (simp only [Sg.add, Sg.set, Sg.del]; omega)))
  refine hK3 _ _ ?_
  refine vw_cond_k fun A B hA hB => ?_
  simp only [condV, ev_hit, length_putv, Nat.reduceLT, true_implies, reduceCtorEq, false_implies, true_and, hl]
  refine hB ?_
  clear hA hB A B
  refine vw_skip ?_
  refine hK2 _ _ ?_
  refine vw_seq_k fun K4 hK4 => ?_
  refine vw_seq_k fun K5 hK5 => ?_
  rcases (show fewS a = false ∨ (fewS a = true ∧ (fewS b = false ∨ (fewS b = true ∧ ((f.length : Int) > 60 ∨ (¬ (f.length : Int) > 60 ∧ ((g.length : Int) > 60 ∨ ¬ (g.length : Int) > 60)))))) by cases fewS a <;> cases fewS b <;> simp <;> omega) with hfa | ⟨hfa, hfb | ⟨hfb, hlf | ⟨hlf, hlg | hlg⟩⟩⟩
  · refine vw_sc 0 [.pur (Bo (fewS a))] ?_
    simp only [bs, Nat.reduceAdd, ↓vopx, ↓vop, Nat.reduceBEq, thenV, flat, Nat.reduceLT, dLoad, vpart, gtmp, hl, wocs, ↓goc, ↓woc, ↓vopm0, ↓callC, ↓pick_tf, calleeV, Tryd.ag25, Tryd.sz25, hfa]
    repeat ((with_reducible refine And.intro ?_ ?_); · first | (with_reducible assumption) | omega | exact ⟨by omega, by omega⟩ | exact ⟨Tryd.is57, by simpa only [hfa] using few5_ a (by omega) (by omega)⟩ | with_reducible rfl | (repeat' first | exact Keep.refl _ | refine Keep.add ?_ ?_ _ | refine Keep.set ?_ ?_ _ | exact Nat.le_refl _ | (simp only [Sg.add, Sg.set, Sg.del]; omega)))
    refine hK5 _ _ ?_
    refine vw_cond_k fun A B hA hB => ?_
    simp only [condV, ev_hit, length_putv, Nat.reduceLT, true_implies, reduceCtorEq, false_implies, and_true, hl]
    refine hA ?_
    clear hA hB A B
    refine vw_seq_k fun K6 hK6 => ?_
    refine vw_sc 0 [] ?_
    simp only [bs, ↓vopx, ↓vop, thenV, flat, wocs, ↓goc, ↓woc, ↓vopm0]
    repeat ((with_reducible refine And.intro ?_ ?_); · first | (with_reducible assumption) | omega | exact ⟨by omega, by omega⟩ | with_reducible rfl | (repeat' first | exact Keep.refl _ | refine Keep.add ?_ ?_ _ | refine Keep.set ?_ ?_ _ | exact Nat.le_refl _ | (simp only [Sg.add, Sg.set, Sg.del]; omega)))
    refine hK6 _ _ ?_
    refine vw_ret ?_
    refine hQ _ _ _ (.inr rfl) (done_tmp ?_ fun n b hn h => by simp [Sg.add, show n ≠ s.next by omega, show n ≠ s.next + 1 by omega, h])
    try simp only [ev_hit, length_putv, hl, Nat.reduceLT]
  · refine vw_sc 0 [.pur (Bo (fewS a)), .pur (Bo (fewS b))] ?_
    simp only [bs, Nat.reduceAdd, ↓vopx, ↓vop, Nat.reduceBEq, thenV, flat, Nat.reduceLT, dLoad, vpart, gtmp, hl, wocs, ↓goc, ↓woc, ↓vopm0, ↓callC, ↓pick_ff, ↓pick_tf, calleeV, Tryd.ag25, Tryd.sz25, hfa, hfb]
    repeat ((with_reducible refine And.intro ?_ ?_); · first | (with_reducible assumption) | omega | exact ⟨by omega, by omega⟩ | exact ⟨Tryd.is57, by simpa only [hfa] using few5_ a (by omega) (by omega)⟩ | exact ⟨Tryd.is57, by simpa only [hfb] using few5_ b (by omega) (by omega)⟩ | with_reducible rfl | (repeat' first | exact Keep.refl _ | refine Keep.add ?_ ?_ _ | refine Keep.set ?_ ?_ _ | exact Nat.le_refl _ | (simp only [Sg.add, Sg.set, Sg.del]; omega)))
    refine hK5 _ _ ?_
    refine vw_cond_k fun A B hA hB => ?_
    simp only [condV, ev_hit, length_putv, Nat.reduceLT, true_implies, reduceCtorEq, false_implies, and_true, hl]
    refine hA ?_
    clear hA hB A B
    refine vw_seq_k fun K7 hK7 => ?_
    refine vw_sc 0 [] ?_
    simp only [bs, ↓vopx, ↓vop, thenV, flat, wocs, ↓goc, ↓woc, ↓vopm0]
    repeat ((with_reducible refine And.intro ?_ ?_); · first | (with_reducible assumption) | omega | exact ⟨by omega, by omega⟩ | with_reducible rfl | (repeat' first | exact Keep.refl _ | refine Keep.add ?_ ?_ _ | refine Keep.set ?_ ?_ _ | exact Nat.le_refl _ | (simp only [Sg.add, Sg.set, Sg.del]; omega)))
    refine hK7 _ _ ?_
    refine vw_ret ?_
    refine hQ _ _ _ (.inr rfl) (done_tmp ?_ fun n b hn h => by simp [Sg.add, show n ≠ s.next by omega, show n ≠ s.next + 1 by omega, h])
    try simp only [ev_hit, length_putv, hl, Nat.reduceLT]
  · refine vw_sc 0 [.pur (Bo (fewS a)), .pur (Bo (fewS b))] ?_
    simp only [bs, Nat.reduceAdd, ↓vopx, ↓vop, Nat.reduceBEq, thenV, flat, Nat.reduceLT, dLoad, vpart, opII, gtmp, hl, h2, wocs, ↓goc, ↓woc, ↓vopm0, ↓callC, ↓pick_ff, ↓pick_tf, calleeV, Tryd.ag25, Tryd.sz25, len_tInts, Tryd.underlying26, hfa, hfb, hlf]
    repeat ((with_reducible refine And.intro ?_ ?_); · first | (with_reducible assumption) | omega | exact ⟨by omega, by omega⟩ | exact ⟨Tryd.is57, by simpa only [hfa] using few5_ a (by omega) (by omega)⟩ | exact ⟨Tryd.is57, by simpa only [hfb] using few5_ b (by omega) (by omega)⟩ | with_reducible rfl | (repeat' first | exact Keep.refl _ | refine Keep.add ?_ ?_ _ | refine Keep.set ?_ ?_ _ | exact Nat.le_refl _ | (simp only [Sg.add, Sg.set, Sg.del]; omega)))
    refine hK5 _ _ ?_
    refine vw_cond_k fun A B hA hB => ?_
    simp only [condV, ev_hit, length_putv, Nat.reduceLT, true_implies, reduceCtorEq, false_implies, and_true, hl]
    refine hA ?_
    clear hA hB A B
    refine vw_seq_k fun K8 hK8 => ?_
    refine vw_sc 0 [] ?_
    simp only [bs, ↓vopx, ↓vop, thenV, flat, wocs, ↓goc, ↓woc, ↓vopm0]
    repeat ((with_reducible refine And.intro ?_ ?_); · first | (with_reducible assumption) | omega | exact ⟨by omega, by omega⟩ | with_reducible rfl | (repeat' first | exact Keep.refl _ | refine Keep.add ?_ ?_ _ | refine Keep.set ?_ ?_ _ | exact Nat.le_refl _ | (simp only [Sg.add, Sg.set, Sg.del]; omega)))
    refine hK8 _ _ ?_
    refine vw_ret ?_
    refine hQ _ _ _ (.inr rfl) (done_tmp ?_ fun n b hn h => by simp [Sg.add, show n ≠ s.next by omega, show n ≠ s.next + 1 by omega, h])
    try simp only [ev_hit, length_putv, hl, Nat.reduceLT]
  · refine vw_sc 0 [.pur (Bo (fewS a)), .pur (Bo (fewS b))] ?_
    simp only [bs, Nat.reduceAdd, ↓vopx, ↓vop, Nat.reduceBEq, thenV, flat, Nat.reduceLT, dLoad, vpart, opII, gtmp, hl, h2, h3, wocs, ↓goc, ↓woc, ↓vopm0, ↓callC, ↓pick_ff, calleeV, Tryd.ag25, Tryd.sz25, len_tInts, Tryd.underlying26, hfa, hfb, hlf, hlg]
    repeat ((with_reducible refine And.intro ?_ ?_); · first | (with_reducible assumption) | omega | exact ⟨by omega, by omega⟩ | exact ⟨Tryd.is57, by simpa only [hfa] using few5_ a (by omega) (by omega)⟩ | exact ⟨Tryd.is57, by simpa only [hfb] using few5_ b (by omega) (by omega)⟩ | with_reducible rfl | (repeat' first | exact Keep.refl _ | refine Keep.add ?_ ?_ _ | refine Keep.set ?_ ?_ _ | exact Nat.le_refl _ | (simp only [Sg.add, Sg.set, Sg.del]; omega)))
    refine hK5 _ _ ?_
    refine vw_cond_k fun A B hA hB => ?_
    simp only [condV, ev_hit, length_putv, Nat.reduceLT, true_implies, reduceCtorEq, false_implies, and_true, hl]
    refine hA ?_
    clear hA hB A B
    refine vw_seq_k fun K9 hK9 => ?_
    refine vw_sc 0 [] ?_
    simp only [bs, ↓vopx, ↓vop, thenV, flat, wocs, ↓goc, ↓woc, ↓vopm0]
    repeat ((with_reducible refine And.intro ?_ ?_); · first | (with_reducible assumption) | omega | exact ⟨by omega, by omega⟩ | with_reducible rfl | (repeat' first | exact Keep.refl _ | refine Keep.add ?_ ?_ _ | refine Keep.set ?_ ?_ _ | exact Nat.le_refl _ | (simp only [Sg.add, Sg.set, Sg.del]; omega)))
    refine hK9 _ _ ?_
    refine vw_ret ?_
    refine hQ _ _ _ (.inr rfl) (done_tmp ?_ fun n b hn h => by simp [Sg.add, show n ≠ s.next by omega, show n ≠ s.next + 1 by omega, h])
    try simp only [ev_hit, length_putv, hl, Nat.reduceLT]
  · refine vw_sc 0 [.pur (Bo (fewS a)), .pur (Bo (fewS b))] ?_
    simp only [bs, Nat.reduceAdd, ↓vopx, ↓vop, Nat.reduceBEq, thenV, flat, Nat.reduceLT, dLoad, vpart, opII, gtmp, hl, h2, h3, wocs, ↓goc, ↓woc, ↓vopm0, ↓callC, ↓pick_ff, calleeV, Tryd.ag25, Tryd.sz25, len_tInts, Tryd.underlying26, hfa, hfb, hlf, hlg]
    repeat ((with_reducible refine And.intro ?_ ?_); · first | (with_reducible assumption) | omega | exact ⟨by omega, by omega⟩ | exact ⟨Tryd.is57, by simpa only [hfa] using few5_ a (by omega) (by omega)⟩ | exact ⟨Tryd.is57, by simpa only [hfb] using few5_ b (by omega) (by omega)⟩ | with_reducible rfl | (repeat' first | exact Keep.refl _ | refine Keep.add ?_ ?_ _ | refine Keep.set ?_ ?_ _ | exact Nat.le_refl _ | (simp only [Sg.add, Sg.set, Sg.del]; omega)))
    refine hK5 _ _ ?_
    refine vw_cond_k fun A B hA hB => ?_
    simp only [condV, ev_hit, length_putv, Nat.reduceLT, true_implies, reduceCtorEq, false_implies, true_and, hl]
    refine hB ?_
    clear hA hB A B
    refine vw_skip ?_
    refine hK4 _ _ ?_
    refine vw_seq_k fun K10 hK10 => ?_
    have ba := few_le hfa
    have bb := few_le hfb
    refine vw_sc 0 [.pur (.tup [.t (tInts (thenS f g).1), Bo (thenS f g).2])] ?_
    simp only [bs, ↓vopx, ↓vop, Nat.reduceBEq, thenV, Nat.reduceLT, hl, h2, h3, wocs, ↓goc, ↓woc, ↓vopm0, ↓callC, calleeV]
    repeat ((with_reducible refine And.intro ?_ ?_); · first | (with_reducible assumption) | omega | exact ⟨by omega, by omega⟩ | exact ⟨Tryd.is32, then_ f g (by omega) (by omega)⟩ | with_reducible rfl | (repeat' first | exact Keep.refl _ | refine Keep.add ?_ ?_ _ | refine Keep.set ?_ ?_ _ | exact Nat.le_refl _ | (simp only [Sg.add, Sg.set, Sg.del]; omega)))
    refine hK10 _ _ ?_
    refine vw_seq_k fun K11 hK11 => ?_
    refine vw_sc 0 [.pur (.tup [.t (tInts (thenS f g).1), Bo (thenS f g).2])] ?_
    simp only [bs, ↓vopx, ↓vop, Nat.reduceBEq, thenV, Nat.reduceLT, hl, h2, h3, wocs, ↓goc, ↓woc, ↓vopm0, ↓callC, calleeV]
    repeat ((with_reducible refine And.intro ?_ ?_); · first | (with_reducible assumption) | omega | exact ⟨by omega, by omega⟩ | exact ⟨Tryd.is58, refThen_ f g (by omega) (by omega)⟩ | with_reducible rfl | (repeat' first | exact Keep.refl _ | refine Keep.add ?_ ?_ _ | refine Keep.set ?_ ?_ _ | exact Nat.le_refl _ | (simp only [Sg.add, Sg.set, Sg.del]; omega)))
    refine hK11 _ _ ?_
    refine vw_seq_k fun K12 hK12 => ?_
    refine vw_phase Tryd.mixed ?_
    refine phase_chain 0 9 10 [1, 1, 0, 0, 1, 1, 0, 0, 0] [.pur (Bo (arrS a b f)), .pur (Bo (arrS a b f)), .far (.bool true)] [] 0 (by decide +kernel) (by simp [length_putv, hl]) rfl ?_
    simp only [bs, Nat.reduceAdd, ↓vopx, ↓vop, Nat.reduceBEq, Nat.reduceLT, dLoad, vpart, hl, h2, Nat.reduceSub, wocs, ↓goc, ↓woc, ↓vopm0, ↓vopm1, calleeV, ↓farC, chn, ↓goq, ↓woq, ↓callQ, List.zip_cons_cons, List.zip_nil_right, Tryd.ag25, Tryd.sz25]
    repeat ((with_reducible refine And.intro ?_ ?_); · first | (with_reducible assumption) | omega | exact ⟨by omega, by omega⟩ | exact ⟨Tryd.is34, arrow_ a b f (by omega) (by omega) (by omega) (by omega) (by omega)⟩ | exact ⟨Tryd.is59, refArrow_ a b f (by omega) (by omega) (by omega) (by omega) (by omega)⟩ | exact far_bb _ _ _ | with_reducible rfl | (repeat' first | exact Keep.refl _ | refine Keep.add ?_ ?_ _ | refine Keep.set ?_ ?_ _ | exact Nat.le_refl _ | (simp only [Sg.add, Sg.set, Sg.del]; omega)))
    refine phase_env fun e7_0 hE => ?_
    have hl7_0 : e7_0.length = 102 := by rw [hE]; simp only [length_putv, hl]
    have k2a : ev e7_0 (.tmp 2) = .t (tInts f) := by rw [hE]; simp only [ev_miss, Nat.reduceBEq, h2]
    have k3a : ev e7_0 (.tmp 3) = .t (tInts g) := by rw [hE]; simp only [ev_miss, Nat.reduceBEq, h3]
    have k4a : ev e7_0 (.tmp 4) = I z := by rw [hE]; simp only [ev_miss, Nat.reduceBEq, h4]
    have k5a : ev e7_0 (.tmp 5) = .ptr s.next 0 := by rw [hE]; simp only [ev_hit, ev_miss, Nat.reduceBEq, hl, Nat.reduceLT]
    have k6a : ev e7_0 (.tmp 6) = .ptr (s.next + 1) 0 := by rw [hE]; simp only [ev_hit, ev_miss, Nat.reduceBEq, length_putv, hl, Nat.reduceLT]
    have k11a : ev e7_0 (.tmp 11) = .t (tInts (thenS f g).1) := by rw [hE]; simp only [ev_hit, ev_miss, Nat.reduceBEq, length_putv, hl, Nat.reduceLT]
    have k12a : ev e7_0 (.tmp 12) = Bo (thenS f g).2 := by rw [hE]; simp only [ev_hit, ev_miss, Nat.reduceBEq, length_putv, hl, Nat.reduceLT]
    have k13a : ev e7_0 (.tmp 13) = .t (tInts (thenS f g).1) := by rw [hE]; simp only [ev_hit, ev_miss, Nat.reduceBEq, length_putv, hl, Nat.reduceLT]
    have k14a : ev e7_0 (.tmp 14) = Bo (thenS f g).2 := by rw [hE]; simp only [ev_hit, ev_miss, Nat.reduceBEq, length_putv, hl, Nat.reduceLT]
    have kga : ev e7_0 (.tmp 56) = Bo true := by rw [hE]; simp only [ev_hit, length_putv, hl, Nat.reduceLT]
    clear hE
    refine phase_chain 10 22 23 [1, 1, 0, 0, 0, 1, 1, 0, 0, 0, 0, 0] [.pur (Bo (invS a b f g)), .pur (Bo (invS a b f g)), .far (.bool true)] [] 0 (by decide +kernel) (by simp [hl7_0]) rfl ?_
    simp only [bs, Nat.reduceAdd, ↓vopx, ↓vop, Nat.reduceBEq, flat, Nat.reduceLT, dLoad, vpart, gtmp, hl7_0, k2a, k3a, k5a, k6a, kga, Nat.reduceSub, wocs, ↓goc, ↓woc, ↓vopm0, ↓vopm1, ↓pick_tt, calleeV, ↓farC, chn, ↓goq, ↓woq, ↓callQ, List.zip_cons_cons, List.zip_nil_right, Tryd.ag25, Tryd.sz25]
    repeat ((with_reducible refine And.intro ?_ ?_); · first | (with_reducible assumption) | omega | exact ⟨by omega, by omega⟩ | exact ⟨Tryd.is36, inverse_ a b f g (by omega) (by omega) (by omega) (by omega) (by omega) (by omega)⟩ | exact ⟨Tryd.is60, by rw [← invR_eq]; exact refInverse_ a b f g (by omega) (by omega) (by omega) (by omega) (by omega) (by omega)⟩ | exact far_bb _ _ _ | with_reducible rfl | (repeat' first | exact Keep.refl _ | refine Keep.add ?_ ?_ _ | refine Keep.set ?_ ?_ _ | exact Nat.le_refl _ | (simp only [Sg.add, Sg.set, Sg.del]; omega)))
    refine phase_env fun e7_10 hE => ?_
    have hl7_10 : e7_10.length = 102 := by rw [hE]; simp only [length_putv, hl7_0]
    have k2b : ev e7_10 (.tmp 2) = .t (tInts f) := by rw [hE]; simp only [ev_miss, Nat.reduceBEq, k2a]
    have k3b : ev e7_10 (.tmp 3) = .t (tInts g) := by rw [hE]; simp only [ev_miss, Nat.reduceBEq, k3a]
    have k4b : ev e7_10 (.tmp 4) = I z := by rw [hE]; simp only [ev_miss, Nat.reduceBEq, k4a]
    have k5b : ev e7_10 (.tmp 5) = .ptr s.next 0 := by rw [hE]; simp only [ev_miss, Nat.reduceBEq, k5a]
    have k6b : ev e7_10 (.tmp 6) = .ptr (s.next + 1) 0 := by rw [hE]; simp only [ev_miss, Nat.reduceBEq, k6a]
    have k11b : ev e7_10 (.tmp 11) = .t (tInts (thenS f g).1) := by rw [hE]; simp only [ev_miss, Nat.reduceBEq, k11a]
    have k12b : ev e7_10 (.tmp 12) = Bo (thenS f g).2 := by rw [hE]; simp only [ev_miss, Nat.reduceBEq, k12a]
    have k13b : ev e7_10 (.tmp 13) = .t (tInts (thenS f g).1) := by rw [hE]; simp only [ev_miss, Nat.reduceBEq, k13a]
    have k14b : ev e7_10 (.tmp 14) = Bo (thenS f g).2 := by rw [hE]; simp only [ev_miss, Nat.reduceBEq, k14a]
    have kgb : ev e7_10 (.tmp 69) = Bo true := by rw [hE]; simp only [ev_hit, length_putv, hl7_0, Nat.reduceLT]
    clear hE
    refine phase_chain 23 27 28 [0, 0, 0, 0] [.far (.bool true)] [] 0 (by decide +kernel) (by simp [hl7_10]) rfl ?_
    simp only [bs, ↓vopx, ↓vop, Nat.reduceBEq, flat, Nat.reduceLT, gtmp, hl7_10, k12b, k14b, kgb, Nat.reduceSub, wocs, ↓goc, ↓woc, ↓vopm0, ↓pick_tt, ↓farC, chn, ↓goq, ↓woq, List.zip_cons_cons, List.zip_nil_right]
    repeat ((with_reducible refine And.intro ?_ ?_); · first | (with_reducible assumption) | omega | exact ⟨by omega, by omega⟩ | exact far_bb _ _ _ | with_reducible rfl | (repeat' first | exact Keep.refl _ | refine Keep.add ?_ ?_ _ | refine Keep.set ?_ ?_ _ | exact Nat.le_refl _ | (simp only [Sg.add, Sg.set, Sg.del]; omega)))
    refine phase_env fun e7_23 hE => ?_
    have hl7_23 : e7_23.length = 102 := by rw [hE]; simp only [length_putv, hl7_10]
    have k2c : ev e7_23 (.tmp 2) = .t (tInts f) := by rw [hE]; simp only [ev_miss, Nat.reduceBEq, k2b]
    have k3c : ev e7_23 (.tmp 3) = .t (tInts g) := by rw [hE]; simp only [ev_miss, Nat.reduceBEq, k3b]
    have k4c : ev e7_23 (.tmp 4) = I z := by rw [hE]; simp only [ev_miss, Nat.reduceBEq, k4b]
    have k5c : ev e7_23 (.tmp 5) = .ptr s.next 0 := by rw [hE]; simp only [ev_miss, Nat.reduceBEq, k5b]
    have k6c : ev e7_23 (.tmp 6) = .ptr (s.next + 1) 0 := by rw [hE]; simp only [ev_miss, Nat.reduceBEq, k6b]
    have k11c : ev e7_23 (.tmp 11) = .t (tInts (thenS f g).1) := by rw [hE]; simp only [ev_miss, Nat.reduceBEq, k11b]
    have k12c : ev e7_23 (.tmp 12) = Bo (thenS f g).2 := by rw [hE]; simp only [ev_miss, Nat.reduceBEq, k12b]
    have k13c : ev e7_23 (.tmp 13) = .t (tInts (thenS f g).1) := by rw [hE]; simp only [ev_miss, Nat.reduceBEq, k13b]
    have k14c : ev e7_23 (.tmp 14) = Bo (thenS f g).2 := by rw [hE]; simp only [ev_miss, Nat.reduceBEq, k14b]
    have kgc : ev e7_23 (.tmp 74) = Bo true := by rw [hE]; simp only [ev_hit, length_putv, hl7_10, Nat.reduceLT]
    clear hE
    have hle1 := thenS_le f g
    refine phase_chain 28 32 33 [0, 0, 0, 0] [.pur (Bo true)] [] 0 (by decide +kernel) (by simp [hl7_23]) rfl ?_
    simp only [bs, ↓vopx, ↓vop, Nat.reduceBEq, flat, Nat.reduceLT, gtmp, hl7_23, k11c, k13c, kgc, Nat.reduceSub, wocs, ↓goc, ↓woc, ↓vopm0, ↓pick_tt, calleeV, chn, ↓goq, ↓woq, ↓callQ, List.zip_cons_cons, List.zip_nil_right]
    repeat ((with_reducible refine And.intro ?_ ?_); · first | (with_reducible assumption) | omega | exact ⟨by omega, by omega⟩ | exact ⟨Tryd.is25, by have := refAlike_ (thenS f g).1 (thenS f g).1 (by omega) (by omega); rw [beq_self_eq_true] at this; exact this⟩ | with_reducible rfl | (repeat' first | exact Keep.refl _ | refine Keep.add ?_ ?_ _ | refine Keep.set ?_ ?_ _ | exact Nat.le_refl _ | (simp only [Sg.add, Sg.set, Sg.del]; omega)))
    refine phase_env fun e7_28 hE => ?_
    have hl7_28 : e7_28.length = 102 := by rw [hE]; simp only [length_putv, hl7_23]
    have k2d : ev e7_28 (.tmp 2) = .t (tInts f) := by rw [hE]; simp only [ev_miss, Nat.reduceBEq, k2c]
    have k3d : ev e7_28 (.tmp 3) = .t (tInts g) := by rw [hE]; simp only [ev_miss, Nat.reduceBEq, k3c]
    have k4d : ev e7_28 (.tmp 4) = I z := by rw [hE]; simp only [ev_miss, Nat.reduceBEq, k4c]
    have k5d : ev e7_28 (.tmp 5) = .ptr s.next 0 := by rw [hE]; simp only [ev_miss, Nat.reduceBEq, k5c]
    have k6d : ev e7_28 (.tmp 6) = .ptr (s.next + 1) 0 := by rw [hE]; simp only [ev_miss, Nat.reduceBEq, k6c]
    have k11d : ev e7_28 (.tmp 11) = .t (tInts (thenS f g).1) := by rw [hE]; simp only [ev_miss, Nat.reduceBEq, k11c]
    have k12d : ev e7_28 (.tmp 12) = Bo (thenS f g).2 := by rw [hE]; simp only [ev_miss, Nat.reduceBEq, k12c]
    have k13d : ev e7_28 (.tmp 13) = .t (tInts (thenS f g).1) := by rw [hE]; simp only [ev_miss, Nat.reduceBEq, k13c]
    have k14d : ev e7_28 (.tmp 14) = Bo (thenS f g).2 := by rw [hE]; simp only [ev_miss, Nat.reduceBEq, k14c]
    have kgd : ev e7_28 (.tmp 79) = Bo true := by rw [hE]; simp only [ev_hit, length_putv, hl7_23, Nat.reduceLT]
    clear hE
    have hle2 := idS_le z
    refine phase_chain 33 39 40 [0, 0, 0, 0, 0, 0] [.pur (.t (tInts (idS z))), .pur (.t (tInts (idS z))), .pur (Bo true)] [] 0 (by decide +kernel) (by simp [hl7_28]) rfl ?_
    simp only [bs, ↓vopx, ↓vop, Nat.reduceBEq, flat, Nat.reduceLT, gtmp, hl7_28, k4d, kgd, Nat.reduceSub, wocs, ↓goc, ↓woc, ↓vopm0, ↓pick_tt, calleeV, chn, ↓goq, ↓woq, ↓callQ, List.zip_cons_cons, List.zip_nil_right]
    repeat ((with_reducible refine And.intro ?_ ?_); · first | (with_reducible assumption) | omega | exact ⟨by omega, by omega⟩ | exact ⟨Tryd.is35, identity_ z⟩ | exact ⟨Tryd.is61, refIdZ_ z⟩ | exact ⟨Tryd.is25, by have := refAlike_ (idS z) (idS z) (by omega) (by omega); rw [beq_self_eq_true] at this; exact this⟩ | with_reducible rfl | (repeat' first | exact Keep.refl _ | refine Keep.add ?_ ?_ _ | refine Keep.set ?_ ?_ _ | exact Nat.le_refl _ | (simp only [Sg.add, Sg.set, Sg.del]; omega)))
    refine phase_env fun e7_33 hE => ?_
    have hl7_33 : e7_33.length = 102 := by rw [hE]; simp only [length_putv, hl7_28]
    have k2e : ev e7_33 (.tmp 2) = .t (tInts f) := by rw [hE]; simp only [ev_miss, Nat.reduceBEq, k2d]
    have k3e : ev e7_33 (.tmp 3) = .t (tInts g) := by rw [hE]; simp only [ev_miss, Nat.reduceBEq, k3d]
    have k4e : ev e7_33 (.tmp 4) = I z := by rw [hE]; simp only [ev_miss, Nat.reduceBEq, k4d]
    have k5e : ev e7_33 (.tmp 5) = .ptr s.next 0 := by rw [hE]; simp only [ev_miss, Nat.reduceBEq, k5d]
    have k6e : ev e7_33 (.tmp 6) = .ptr (s.next + 1) 0 := by rw [hE]; simp only [ev_miss, Nat.reduceBEq, k6d]
    have k11e : ev e7_33 (.tmp 11) = .t (tInts (thenS f g).1) := by rw [hE]; simp only [ev_miss, Nat.reduceBEq, k11d]
    have k12e : ev e7_33 (.tmp 12) = Bo (thenS f g).2 := by rw [hE]; simp only [ev_miss, Nat.reduceBEq, k12d]
    have k13e : ev e7_33 (.tmp 13) = .t (tInts (thenS f g).1) := by rw [hE]; simp only [ev_miss, Nat.reduceBEq, k13d]
    have k14e : ev e7_33 (.tmp 14) = Bo (thenS f g).2 := by rw [hE]; simp only [ev_miss, Nat.reduceBEq, k14d]
    have kge : ev e7_33 (.tmp 86) = Bo true := by rw [hE]; simp only [ev_hit, length_putv, hl7_28, Nat.reduceLT]
    clear hE
    refine phase_chain 40 48 49 [0, 0, 0, 0, 0, 0, 0, 0] [.pur (Bo (f == g)), .pur (Bo (f == g)), .far (.bool true)] [] 0 (by decide +kernel) (by simp [hl7_33]) rfl ?_
    simp only [bs, ↓vopx, ↓vop, Nat.reduceBEq, flat, Nat.reduceLT, gtmp, hl7_33, k2e, k3e, kge, Nat.reduceSub, wocs, ↓goc, ↓woc, ↓vopm0, ↓pick_tt, calleeV, ↓farC, chn, ↓goq, ↓woq, ↓callQ, List.zip_cons_cons, List.zip_nil_right]
    repeat ((with_reducible refine And.intro ?_ ?_); · first | (with_reducible assumption) | omega | exact ⟨by omega, by omega⟩ | exact ⟨Tryd.is33, arrowSame_ f g (by omega) (by omega)⟩ | exact ⟨Tryd.is25, refAlike_ f g (by omega) (by omega)⟩ | exact far_bb _ _ _ | with_reducible rfl | (repeat' first | exact Keep.refl _ | refine Keep.add ?_ ?_ _ | refine Keep.set ?_ ?_ _ | exact Nat.le_refl _ | (simp only [Sg.add, Sg.set, Sg.del]; omega)))
    refine phase_env fun e7_40 hE => ?_
    have hl7_40 : e7_40.length = 102 := by rw [hE]; simp only [length_putv, hl7_33]
    have k2f : ev e7_40 (.tmp 2) = .t (tInts f) := by rw [hE]; simp only [ev_miss, Nat.reduceBEq, k2e]
    have k3f : ev e7_40 (.tmp 3) = .t (tInts g) := by rw [hE]; simp only [ev_miss, Nat.reduceBEq, k3e]
    have k4f : ev e7_40 (.tmp 4) = I z := by rw [hE]; simp only [ev_miss, Nat.reduceBEq, k4e]
    have k5f : ev e7_40 (.tmp 5) = .ptr s.next 0 := by rw [hE]; simp only [ev_miss, Nat.reduceBEq, k5e]
    have k6f : ev e7_40 (.tmp 6) = .ptr (s.next + 1) 0 := by rw [hE]; simp only [ev_miss, Nat.reduceBEq, k6e]
    have k11f : ev e7_40 (.tmp 11) = .t (tInts (thenS f g).1) := by rw [hE]; simp only [ev_miss, Nat.reduceBEq, k11e]
    have k12f : ev e7_40 (.tmp 12) = Bo (thenS f g).2 := by rw [hE]; simp only [ev_miss, Nat.reduceBEq, k12e]
    have k13f : ev e7_40 (.tmp 13) = .t (tInts (thenS f g).1) := by rw [hE]; simp only [ev_miss, Nat.reduceBEq, k13e]
    have k14f : ev e7_40 (.tmp 14) = Bo (thenS f g).2 := by rw [hE]; simp only [ev_miss, Nat.reduceBEq, k14e]
    have kgf : ev e7_40 (.tmp 95) = Bo true := by rw [hE]; simp only [ev_hit, length_putv, hl7_33, Nat.reduceLT]
    clear hE
    refine phase_chain 49 55 56 [0, 0, 0, 0, 0, 0] [.pur (Bo (decide f.Nodup)), .pur (Bo (decide f.Nodup)), .far (.bool true)] [] 0 (by decide +kernel) (by simp [hl7_40]) rfl ?_
    simp only [bs, ↓vopx, ↓vop, Nat.reduceBEq, flat, Nat.reduceLT, gtmp, hl7_40, k2f, kgf, Nat.reduceSub, wocs, ↓goc, ↓woc, ↓vopm0, ↓pick_tt, calleeV, ↓farC, chn, ↓goq, ↓woq, ↓callQ, List.zip_cons_cons, List.zip_nil_right]
    repeat ((with_reducible refine And.intro ?_ ?_); · first | (with_reducible assumption) | omega | exact ⟨by omega, by omega⟩ | exact ⟨Tryd.is62, by rw [← injS_iff]; exact injective_ f (by omega)⟩ | exact ⟨Tryd.is63, once_ f (by omega)⟩ | exact far_bb _ _ _ | with_reducible rfl | (repeat' first | exact Keep.refl _ | refine Keep.add ?_ ?_ _ | refine Keep.set ?_ ?_ _ | exact Nat.le_refl _ | (simp only [Sg.add, Sg.set, Sg.del]; omega)))
    refine phase_end ?_
    try simp only [thenV]
    refine hK12 _ _ ?_
    refine vw_ret ?_
    refine hQ _ _ _ (.inr rfl) (done_tmp ?_ fun n b hn h => by simp [Sg.add, show n ≠ s.next by omega, show n ≠ s.next + 1 by omega, h])
    try simp only [ev_hit, length_putv, hl7_40, Nat.reduceLT]

end Go.Proofs
