/- Lemmas on the way to the statement of this claim; no conditions. -/
import Derived.Test.YtkdkajlgbhggdaaGreatDoorA01
import Derived.Test.YtkdkajlgbhggdaaGreatDoorA27
import Derived.Test.YtkdkajlgbhggdaaGreatDoorA28
import Derived.Test.YtkdkajlgbhggdaaGreatDoorA29
import Derived.Test.YtkdkajlgbhggdaaGreatDoorA36
import Derived.Test.YtkdkajlgbhggdaaGreatDoorA37
import Derived.Test.YtkdkajlgbhggdaaGreatDoorA38
open Go Go.V
namespace Go.Proofs
def p4q (lo : Nat) (g : Nat → Bool) : Nat → Bool := fun j => decide (lo ≤ j) && g j
theorem m7x {g : Nat → Bool} {lo : Nat} (h0 : o1q (p4q lo g) 64 ≠ 0) : lo ≤ Lib.ctz 64 (o1q (p4q lo g) 64) ∧ Lib.ctz 64 (o1q (p4q lo g) 64) < 64 ∧ g (Lib.ctz 64 (o1q (p4q lo g) 64)) = true ∧
 (∀ j, lo ≤ j → j < Lib.ctz 64 (o1q (p4q lo g) 64) → g j = false) ∧ o1q (p4q lo g) 64 &&& (o1q (p4q lo g) 64 - 1) = o1q (p4q (Lib.ctz 64 (o1q (p4q lo g) 64) + 1) g) 64 := by
 have hlt := a8z (p4q lo g) 64
 have h1 := ctz_bit h0 hlt
 obtain ⟨_, _, h2⟩ := e9z h0 hlt
 have h3 := fun j hj => ctz_low h0 hlt (j := j) hj
 have h4 := o8x h0 hlt
 generalize Lib.ctz 64 (o1q (p4q lo g) 64) = k at h1 h2 h3 h4
 rw [e0q] at h1
 simp only [p4q, Bool.and_eq_true, decide_eq_true_eq] at h1
 refine ⟨h1.2.1, h2, h1.2.2, fun j hj hjk => ?_, ?_⟩
 ·have := h3 j hjk
  rw [e0q] at this
  have h5 : j < 64 := by omega
  simpa [p4q, hj, h5] using this
 ·apply Nat.eq_of_testBit_eq
  intro j
  rw [h4 j, e0q, e0q]
  unfold p4q
  by_cases hj : j < 64
  ·simp only [hj, decide_true, Bool.true_and]
   rcases Nat.lt_trichotomy j k with hjk | hjk | hjk
   ·by_cases hlo : lo ≤ j
    ·have h5 := h3 j hjk
     rw [e0q] at h5
     have h6 : g j = false := by simpa [p4q, hlo, hj] using h5
     simp [h6]
    ·have : ¬ k + 1 ≤ j := by omega
     simp [hlo, this]
   ·subst hjk; simp; intro hh; omega
   ·have e1 : lo ≤ j := by omega
    have e2 : k + 1 ≤ j := by omega
    have e3 : j ≠ k := by omega
    simp [e1, e2, e3]
  ·simp [hj]
theorem m8x {g : Nat → Bool} {lo : Nat} (h : o1q (p4q lo g) 64 = 0) (j : Nat) (h1 : lo ≤ j) (h2 : j < 64) : g j = false := by
 have := e0q (p4q lo g) 64 j
 rw [h, Nat.zero_testBit] at this
 simpa [p4q, h1, h2] using this
theorem t3x {I : Nat → Sg → Prop} {f : Nat → Bool} {n : Nat} (hs : ∀ k s, k < n → f k = false → I k s → I (k + 1) s) {s : Sg} {a : Nat} : ∀ (b : Nat), a ≤ b → b ≤ n → (∀ j, a ≤ j → j < b → f j = false) → I a s → I b s
 | 0, h, _, _, hI => by obtain rfl : a = 0 := by omega
                        exact hI
 | b + 1, h, hb, hf, hI => by
  rcases Nat.lt_or_ge b a with h1 | h1
  ·obtain rfl : a = b + 1 := by omega
   exact hI
  ·exact hs b s (by omega) (hf b h1 (by omega)) (t3x hs b h1 (by omega) (fun j h2 h3 => hf j h2 (by omega)) hI)
theorem x4z {Iv : Nat → Sg → Prop} {f : Nat → Bool} {n : Nat} (hs : ∀ k s, k < n → f k = false → Iv k s → Iv (k + 1) s) {s : Sg} {k lo hi : Nat} (hI : Iv (min (k * 64 + lo) n) s) (hlo : lo ≤ hi)
 (hz : ∀ j, lo ≤ j → j < hi → (decide (k * 64 + j < n) && f (k * 64 + j)) = false) : Iv (min (k * 64 + hi) n) s := by
 refine t3x hs (a := min (k * 64 + lo) n) _ (by omega) (by omega) (fun j h5 h6 => ?_) hI
 have h8 : j < n := by omega
 have h7 := hz (j - k * 64) (by omega) (by omega)
 have e : k * 64 + (j - k * 64) = j := by omega
 rw [e] at h7
 simpa [h8] using h7
theorem x1x (P : Program) (t : TypeId) (x y : Operand) (a : Nat) (h0 : a ≠ 0) (ha : a < 18446744073709551616) : b6z .sub (U a) (.t (.v (.int .u64 1))) P t x y (.int .u64 ((a - 1 : Nat) : Int)) := by
 refine .inl ⟨_, _, rfl, rfl, ?_⟩
 have : IntKind.u64.wrap ((a : Int) - 1) = ((a - 1 : Nat) : Int) := by rw [IntKind.wrap_u64]; omega
 rw [← this]; rfl
theorem from0 (n : Nat) (f : Nat → Bool) (k : Nat) : h0q n f k = o1q (p4q 0 fun j => decide (k * 64 + j < n) && f (k * 64 + j)) 64 := by
 unfold h0q
 congr 1
def EachK (I : Nat → Sg → Prop) (F : Sg → Prop) (n : Nat) (_ : V) (s' : Sg) : Prop := I n s' ∨ F s'
set_option maxRecDepth 20000 in
theorem t5z (s : Sg) (p : Nat) : f8q Tryz.prog 85 [.ptr p 0] s (fun v s' => v = .clo 95 [.ptr s.next 0] ∧ s' = s.add (.box 107 [.ptr p 0])) := by
 refine b6q Tryz.func85 rfl fun Q hQ => ?_
 obtain ⟨e, he, hl, h0⟩ : ∃ e : Env, ([.ptr p 0] ++ List.replicate (Tryz.f85.ntmps - ([.ptr p 0] : List V).length) .junk) = e ∧ e.length = 4 ∧ ev e (.tmp 0) = .ptr p 0 := ⟨_, rfl, rfl, rfl⟩
 rw [he]
 clear he
 refine vsk fun K1 hK1 => ?_
 refine a3q 0 [] ?_
 simp only [bs, ↓vopx, ↓vop, a1q, flat, V.cells, h0, wocs, ↓goc, ↓woc, ↓a2q]
 refine hK1 _ _ ?_
 refine vsk fun K2 hK2 => ?_
 refine a3q 0 [] ?_
 simp only [bs, ↓vopx, ↓vop, Nat.reduceBEq, a1q, Nat.reduceLT, hl, wocs, ↓goc, ↓woc, ↓a2q, q0z, List.all_cons, List.all_nil, Bool.and_self]
 refine hK2 _ _ ?_
 refine b1q ?_
 refine hQ _ _ _ (.inr rfl) (d6q (v := .clo 95 [.ptr s.next 0]) ?_ rfl ⟨rfl, rfl⟩)
 try simp only [a0q, lpv, hl, Nat.reduceLT]
set_option maxRecDepth 20000 in
theorem n1z (n0 cb p q n : Nat) (f : Nat → Bool) (Iv : Nat → Sg → Prop) (F : Sg → Prop) (hI : ∀ k s, Iv k s → s.m cb = some (.box 107 [.ptr p 0]) ∧ RowR s p q n f) (hsk : ∀ k s, k < n → f k = false → Iv k s → Iv (k + 1) s) (hY : ∀ k s, k < n → f k = true → Iv k s → w8q Tryz.prog n0 [I k] s fun v s' => (v = Bo true ∧ Iv (k + 1) s') ∨ (v = Bo false ∧ F s')) (s : Sg) (hs0 : Iv 0 s) : f8q Tryz.prog 95 [.yl n0, .ptr cb 0] s (EachK Iv F n) := by
 refine b6q Tryz.func95 rfl fun Q hQ => ?_
 obtain ⟨e, he, hl, h0, h1⟩ : ∃ e : Env, ([.yl n0, .ptr cb 0] ++ List.replicate (Tryz.f95.ntmps - ([.yl n0, .ptr cb 0] : List V).length) .junk) = e ∧ e.length = 32 ∧ ev e (.tmp 0) = .yl n0 ∧ ev e (.tmp 1) = .ptr cb 0 := ⟨_, rfl, rfl, rfl, rfl⟩
 rw [he]
 clear he
 obtain ⟨hcb, hrow⟩ := hI 0 s hs0
 have hle := hrow.le
 refine vsk fun K1 hK1 => ?_
 refine vsk fun K2 hK2 => ?_
 refine a3q 0 [.far (.bool false)] ?_
 simp only [bs, ↓vopx, ↓vop, a1q, flat, Nat.reduceLT, a8q, b0q, hl, h1, wocs, ↓goc, ↓woc, ↓a2q, ↓farC, Tryz.ag107, Tryz.sz107, hcb]
 repeat ((with_reducible refine And.intro ?_ ?_); · exact .inr (.inr ⟨⟨_, Tryz.underlying107⟩, .inl rfl, rfl, .inl ⟨⟨_, _, rfl⟩, rfl⟩⟩))
 refine hK2 _ _ ?_
 refine vck fun A B hA hB => ?_
 simp only [b2q, a0q, lpv, Nat.reduceLT, true_implies, reduceCtorEq, false_implies, true_and, hl]
 refine hB ?_
 clear hA hB A B
 refine a9q ?_
 refine hK1 _ _ ?_
 refine vsk fun K3 hK3 => ?_
 refine a3q 0 [] ?_
 simp only [bs, f0q, ↓vopx, ↓vop, Nat.reduceBEq, a1q, flat, Nat.reduceLT, a8q, b0q, hl, h1, wocs, ↓goc, ↓woc, ↓a2q, Tryz.ag107, Tryz.ag126, Tryz.fd128_1, Tryz.sz107, Tryz.sz126, Tryz.un126, hcb, hrow.hp]
 refine hK3 _ _ ?_
 refine a5q ?_
 refine c2q (fun mm e' s' => ∃ k : Nat, mm = nW n - k ∧ k ≤ nW n ∧ e'.length = 32 ∧ ev e' (.tmp 0) = .yl n0 ∧ ev e' (.tmp 1) = .ptr cb 0 ∧ ev e' (.tmp 10) = .loc q 0 (nW n) ∧ ev e' (.tmp 11) = I (nW n) ∧ ev e' (.tmp 12) = I k ∧ Iv (min (k * 64) n) s') (⟨0, rfl, Nat.zero_le _, ?_⟩) ?_
 ·try simp only [a0q, a4q, Nat.reduceBEq, lpv, hl, h0, h1, Nat.reduceLT, true_and]
  repeat ((with_reducible refine And.intro ?_ ?_); · trivial)
  all_goals (simpa using hs0)
 rintro mm e s1 ⟨k, rfl, hle_k, hl, h0, h1, h10, h11, h_k, hI1⟩
 refine vsk fun K4 hK4 => ?_
 refine a3q 0 [] ?_
 simp only [a1q, opII, h11, h_k, wocs, ↓goc, ↓woc]
 refine hK4 _ _ ?_
 refine vsk fun K5 hK5 => ?_
 refine vck fun A B hA hB => ?_
 simp only [b2q, a0q, Nat.reduceLT, decide_eq_true_eq, decide_eq_false_iff_not, hl]
 refine ⟨fun hc13 => hA ?_, fun hc13 => hB ?_⟩
 ·clear hA hB A B
  refine a9q ?_
  refine hK5 _ _ ?_
  refine vsk fun K6 hK6 => ?_
  refine a5q ?_
  refine vsk fun K7 hK7 => ?_
  obtain ⟨hcb1, hrow1⟩ := hI _ s1 hI1
  have hq1 := hrow1.hq
  have hlt : k < nW n := by omega
  have hw := w6q (n := n) (f := f) hlt
  refine a3q 0 [] ?_
  simp only [bs, ↓vopx, ↓vop, Nat.reduceBEq, a1q, Nat.reduceLT, a8q, b0q, hl, h10, h_k, wocs, ↓goc, ↓woc, ↓a2q, Tryz.ag130, Tryz.sz130, Tryz.un126, hq1, hw]
  repeat ((with_reducible refine And.intro ?_ ?_); · (with_reducible assumption))
  refine hK7 _ _ ?_
  refine a5q ?_
  refine c2q (fun mm e' s' => ∃ lo : Nat, mm = 64 - lo ∧ lo ≤ 64 ∧ e'.length = 32 ∧ ev e' (.tmp 0) = .yl n0 ∧ ev e' (.tmp 1) = .ptr cb 0 ∧ ev e' (.tmp 10) = .loc q 0 (nW n) ∧ ev e' (.tmp 11) = I (nW n) ∧ ev e' (.tmp 12) = I k ∧ ev e' (.tmp 3) = I k ∧ ev e' (.tmp 4) = U (o1q (p4q lo fun j => decide (k * 64 + j < n) && f (k * 64 + j)) 64) ∧ Iv (min (k * 64 + lo) n) s') (⟨0, rfl, Nat.zero_le _, ?_⟩) ?_
  ·try simp only [a0q, a4q, Nat.reduceBEq, lpv, hl, h0, h1, h10, h11, h_k, Nat.reduceLT, true_and]
   repeat ((with_reducible refine And.intro ?_ ?_); · trivial)
   all_goals first | exact hI1 | exact ⟨by rw [from0], hI1⟩
  rintro mm e s1 ⟨lo, rfl, hle_lo, hl, h0, h1, h10, h11, h_k, h3, h4, hI1⟩
  refine vsk fun K8 hK8 => ?_
  refine vsk fun K9 hK9 => ?_
  refine a3q 0 [.far (.bool (((o1q (p4q lo fun j => decide (k * 64 + j < n) && f (k * 64 + j)) 64 : Nat) : Int) != 0))] ?_
  simp only [bs, ↓vopx, ↓vop, a1q, flat, Nat.reduceLT, hl, h4, wocs, ↓goc, ↓woc, ↓a2q, ↓farC]
  repeat ((with_reducible refine And.intro ?_ ?_); · exact far_une _ _ _ _ _ _)
  refine hK9 _ _ ?_
  refine vck fun A B hA hB => ?_
  simp only [b2q, a0q, lpv, Nat.reduceLT, bne_iff_ne, bne_eq_false_iff_eq, ne_eq, hl]
  refine ⟨fun hc18 => hA ?_, fun hc18 => hB ?_⟩
  ·clear hA hB A B
   refine a9q ?_
   refine hK8 _ _ ?_
   refine vsk fun K10 hK10 => ?_
   refine a5q ?_
   refine vsk fun K11 hK11 => ?_
   obtain ⟨hcb1, hrow1⟩ := hI _ s1 hI1
   obtain ⟨w, hwd⟩ : ∃ w, w = o1q (p4q lo fun j => decide (k * 64 + j < n) && f (k * 64 + j)) 64 := ⟨_, rfl⟩
   rw [← hwd] at h4 hc18
   have hw0 : w ≠ 0 := by intro h; apply hc18; rw [h]; rfl
   have hwlt : w < 18446744073709551616 := by rw [hwd]; exact a8z _ 64
   obtain ⟨f1, f2, f3, f4, f5⟩ := m7x (by rw [← hwd]; exact hw0)
   rw [← hwd] at f1 f2 f3 f4 f5
   simp only [Bool.and_eq_true, decide_eq_true_eq] at f3
   have hkn := f3.1
   have hnw : k < nW n := by omega
   have hn16 : nW n ≤ 16 := by unfold nW; omega
   have hIc := x4z hsk hI1 f1 f4
   rw [show min (k * 64 + Lib.ctz 64 w) n = k * 64 + Lib.ctz 64 w from by omega] at hIc
   have hcast : (k : Int) * 64 + (Lib.ctz 64 w : Nat) = ((k * 64 + Lib.ctz 64 w : Nat) : Int) := by push_cast; rfl
   refine a3q 0 [.pur (I (Lib.ctz 64 w)), .stop] ?_
   simp only [bs, ↓vopx, ↓vop, Nat.reduceBEq, a1q, flat, Nat.reduceLT, opII, hl, h0, h3, h4, wocs, ↓goc, ↓woc, ↓a2q, ↓b8q, a6q, ↓m2q, hcast]
   refine ⟨by constructor <;> omega, ⟨Tryz.is96, tz_ w hwlt⟩, by constructor <;> omega, w8q.mono (hY _ s1 hkn f3.2 hIc) fun v s2 hv => ?_⟩
   obtain ⟨b, rfl, hb⟩ := v0x hv
   try simp only [bs, Nat.reduceBEq, Nat.reduceLT, hl, h0, h3, h4, hcast, Hold]
   refine hK11 _ _ ?_
   refine vck fun A B hA hB => ?_
   simp only [b2q, a0q, lpv, Nat.reduceLT, Bool.not_eq_true', Bool.not_eq_false', hl]
   refine ⟨fun hc30 => hA ?_, fun hc30 => hB ?_⟩
   ·clear hA hB A B
    refine b1q ?_
    rcases hb with ⟨rfl, _⟩ | ⟨_, hF⟩
    ·simp at hc30
    ·exact hQ _ _ _ (.inr rfl) ⟨[], rfl, rfl, .inr hF⟩
   ·clear hA hB A B
    have hI2 : Iv (k * 64 + Lib.ctz 64 w + 1) s2 := by rcases hb with ⟨_, h⟩ | ⟨rfl, _⟩; exact h; simp at hc30
    refine a9q ?_
    refine hK10 _ _ ?_
    refine a3q 0 [.far (.int .u64 ((w - 1 : Nat) : Int)), .far (.int .u64 ((w &&& (w - 1) : Nat) : Int))] ?_
    simp only [bs, ↓vopx, ↓vop, Nat.reduceBEq, a1q, flat, Nat.reduceLT, hl, h0, h1, h10, h11, h_k, h3, h4, wocs, ↓goc, ↓woc, ↓a2q, ↓farC]
    repeat ((with_reducible refine And.intro ?_ ?_); · first | exact x1x _ _ _ _ _ hw0 hwlt | exact m2x _ _ _ _ _ _ hwlt (by omega))
    refine ⟨64 - (Lib.ctz 64 w + 1), by omega, Lib.ctz 64 w + 1, rfl, by omega, ?_⟩
    try simp only [a0q, a4q, Nat.reduceBEq, lpv, hl, h0, h1, h10, h11, h_k, h3, if_true, if_false, Nat.reduceEqDiff, Nat.reduceLT, true_and, and_true]
    exact ⟨by rw [f5], by rw [show min (k * 64 + (Lib.ctz 64 w + 1)) n = k * 64 + Lib.ctz 64 w + 1 from by omega]; exact hI2⟩
  ·clear hA hB A B
   refine c1q ?_
   simp only [a1q, b5q, if_true, if_false, Nat.reduceEqDiff, reduceCtorEq]
   refine hK6 _ _ ?_
   refine a3q 0 [] ?_
   simp only [bs, ↓vopx, ↓vop, Nat.reduceBEq, a1q, flat, Nat.reduceLT, opII, hl, h0, h1, h10, h11, h_k, wocs, ↓goc, ↓woc, ↓a2q]
   repeat ((with_reducible refine And.intro ?_ ?_); · (repeat' first | exact Keep.refl _ | refine Keep.add ?_ ?_ _ | refine Keep.set ?_ ?_ _ | exact Nat.le_refl _ | (simp only [Sg.add, Sg.set, Sg.del]; omega)))
   refine ⟨by constructor <;> (have : nW n ≤ 16 := by unfold nW; omega) <;> omega, nW n - (k + 1), by omega, k + 1, rfl, by omega, by push_cast; rfl, ?_⟩
   have hz := m8x (g := fun j => decide (k * 64 + j < n) && f (k * 64 + j)) (lo := lo) (by have := hc18; omega)
   rw [show (k + 1) * 64 = k * 64 + 64 from by omega]
   exact x4z hsk hI1 hle_lo hz
 ·clear hA hB A B
  have hkn : k = nW n := by omega
  refine c1q ?_
  simp only [a1q, b5q, if_true]
  have hfin : min (k * 64) n = n := by unfold nW at hkn; omega
  rw [hfin] at hI1
  exact hQ _ _ _ (.inl rfl) ⟨[], rfl, rfl, .inl hI1⟩
end Go.Proofs

open Go Go.V
namespace Go.Proofs
def orB (f g : Nat → Bool) (k : Nat) : Nat → Bool := fun j => f j || (decide (j < k) && g j)
def anyK (f g : Nat → Bool) (k : Nat) : Bool := (List.range k).any fun j => g j && !f j
theorem z8x (f g : Nat → Bool) : orB f g 0 = f := by funext j; simp [orB]
theorem z7x {f g : Nat → Bool} {k : Nat} (h : g k = false ∨ f k = true) : orB f g (k + 1) = orB f g k := by
 funext j
 unfold orB
 by_cases hj : j = k
 ·subst hj; rcases h with h | h <;> simp [h]
 ·have : (j < k + 1) ↔ (j < k) := by omega
  simp only [this]
theorem orB_put {f g : Nat → Bool} {k : Nat} (h : g k = true) : updB (orB f g k) k true = orB f g (k + 1) := by
 funext j
 unfold updB orB
 by_cases hj : j = k
 ·subst hj; simp [h]
 ·have : (j < k + 1) ↔ (j < k) := by omega
  simp only [if_neg hj, this]
theorem f9z (f g : Nat → Bool) (k : Nat) : orB f g k k = f k := by simp [orB]
theorem z6x (f : Nat → Bool) (k : Nat) : orB f f k = f := by funext j; unfold orB; cases f j <;> simp
theorem k3x {f g : Nat → Bool} {k : Nat} (h : g k = false ∨ f k = true) : anyK f g (k + 1) = anyK f g k := by
 unfold anyK; rw [List.range_succ, List.any_append]
 rcases h with h | h <;> simp [h]
theorem v6x {f g : Nat → Bool} {k : Nat} (h : g k = true) (hf : f k = false) : anyK f g (k + 1) = true := by
 unfold anyK; rw [List.range_succ, List.any_append]; simp [h, hf]
structure OrI (s4 : Sg) (q v n : Nat) (f g : Nat → Bool) (k : Nat) (s' : Sg) : Prop where
 nx : s'.next = s4.next
 fr : ∀ m, m ≠ q → m ≠ v → s'.m m = s4.m m
 hq : s'.m q = some (.arr 1 130 (rowW n (orB f g k)))
 hv : s'.m v = some (.box 4 [Bo (anyK f g k)])
theorem OrI.skip {s4 : Sg} {q v n : Nat} {f g : Nat → Bool} {k : Nat} {s' : Sg} (h : OrI s4 q v n f g k s') (hk : g k = false ∨ f k = true) : OrI s4 q v n f g (k + 1) s' :=
 ⟨h.nx, h.fr, by rw [z7x hk]; exact h.hq, by rw [k3x hk]; exact h.hv⟩
theorem OrI.put {s4 : Sg} {q v n : Nat} {f g : Nat → Bool} {k : Nat} {s5 : Sg} {nl : Nat} {rec : Blk} (h : OrI s4 q v n f g k s5) (hl : s4.m nl = some rec) (hg : g k = true) (hf : f k = false) (hqn : q ≠ nl) (hvn : v ≠ nl) (hqv : q ≠ v) (b1 : Blk) :
 OrI s4 q v n f g (k + 1) ((((s5.set nl b1).set q (.arr 1 130 (rowW n (updB (orB f g k) k true)))).set v (.box 4 [Bo true])).set nl rec) := by
 refine ⟨h.nx, fun m h1 h2 => ?_, ?_, ?_⟩
 ·by_cases hm : m = nl
  ·subst hm; simp [Sg.set, hl]
  ·simp [Sg.set, hm, h1, h2, h.fr m h1 h2]
 ·rw [← orB_put hg]; simp [Sg.set, hqn, hqv]
 ·rw [v6x hg hf]; simp [Sg.set, hvn]
theorem w9x {s s' : Sg} {q k t : Nat} {el : TypeId} {cs : List T} {e' : Env} {res : T} (hv : ev e' (.tmp t) = .t res) (hq : q < s.next) (hq' : s'.m q = some (.arr k el cs)) (hm : ∀ n, n < s.next → n ≠ q → s'.m n = s.m n) :
 g1x Tryz.prog s [.tmp t] (.t res) (s.set q (.arr k el cs)) e' s' := by
 refine m1x hv rfl (fun n b hb => ?_) fun n b hn hb => ?_
 ·simp only [Sg.set] at hb
  split at hb
  ·rename_i h; subst h; exact .inl hq
  ·exact .inr hb
 ·simp only [Sg.set] at hb
  split at hb
  ·rename_i h; subst h; cases hb; exact ⟨hq', .inr trivial⟩
  ·rename_i h; exact ⟨(hm n hn h).trans hb, .inl hb⟩
set_option maxRecDepth 20000 in
theorem l0x (s : Sg) (p q n : Nat) (f : Nat → Bool) (h : RowR s p q n f) (p1 q1 : Nat) (g : Nat → Bool) (hg1 : RowR s p1 q1 n g) (hpl : p < s.next) (hql : q < s.next) (hpl1 : p1 < s.next) (hql1 : q1 < s.next) (hal : q1 = q → g = f) : k0q Tryz.prog 66 [.ptr p 0, .ptr p1 0] s (Bo (anyK f g n)) (s.set q (.arr 1 130 (rowW n (orB f g n)))) := by
 refine d0q Tryz.func66 rfl fun Q hQ => ?_
 obtain ⟨e, he, hl, h0, h1⟩ : ∃ e : Env, ([.ptr p 0, .ptr p1 0] ++ List.replicate (Tryz.f66.ntmps - ([.ptr p 0, .ptr p1 0] : List V).length) .junk) = e ∧ e.length = 23 ∧ ev e (.tmp 0) = .ptr p 0 ∧ ev e (.tmp 1) = .ptr p1 0 := ⟨_, rfl, rfl, rfl, rfl⟩
 rw [he]
 clear he
 have hle := h.le
 refine vsk fun K1 hK1 => ?_
 refine a3q 0 [] ?_
 simp only [bs, ↓vopx, ↓vop, a1q, flat, V.cells, h0, wocs, ↓goc, ↓woc, ↓a2q]
 refine hK1 _ _ ?_
 refine vsk fun K2 hK2 => ?_
 refine a3q 0 [] ?_
 simp only [bs, ↓vopx, ↓vop, a1q, flat, Nat.reduceLT, V.cells, hl, wocs, ↓goc, ↓woc, ↓a2q, Tryz.sz4, Tryz.zv4]
 refine hK2 _ _ ?_
 refine vsk fun K3 hK3 => ?_
 refine vsk fun K4 hK4 => ?_
 refine a3q 0 [.stop] ?_
 simp only [bs, ↓vopx, ↓vop, Nat.reduceBEq, a1q, Nat.reduceLT, hl, h1, wocs, ↓goc, ↓woc, ↓a2q, ↓b8q, a6q]
 refine ⟨Tryz.is85, (t5z _ p1).mono fun v s2 hv => ?_⟩
 obtain ⟨rfl, rfl⟩ := hv
 try simp only [bs, Nat.reduceBEq, h1, Hold]
 refine hK4 _ _ ?_
 refine a5q ?_
 refine d4q fun e1 s3 hE hS => ?_
 have hlE : e1.length = 23 := by rw [hE]; simp only [lpv, hl]
 have h2E : ev e1 (.tmp 2) = .ptr s.next 0 := by rw [hE]; simp only [a0q, a4q, Nat.reduceBEq, hl, Nat.reduceLT]
 have h5E : ev e1 (.tmp 5) = .ptr (s.next + 1) 0 := by rw [hE]; simp only [a0q, a4q, Nat.reduceBEq, lpv, hl, Nat.reduceLT]
 have h8E : ev e1 (.tmp 8) = .clo 95 [.ptr (s.next + 2) 0] := by rw [hE]; simp only [a0q, lpv, hl, Nat.reduceLT]
 clear hE
 have h3n : s3.next = s.next + 3 := by rw [hS]; rfl
 have h3a : s3.m s.next = some (.box 107 [.ptr p 0]) := by rw [hS]; simp [Sg.add, Sg.set] <;> omega
 have h3b : s3.m (s.next + 1) = some (.box 4 [Bo false]) := by rw [hS]; simp [Sg.add, Sg.set] <;> omega
 have h3c : s3.m (s.next + 2) = some (.box 107 [.ptr p1 0]) := by rw [hS]; simp [Sg.add, Sg.set] <;> omega
 have h3m : ∀ m, m < s.next → s3.m m = s.m m := fun m hm => by rw [hS]; simp [Sg.add, Sg.set, show m ≠ s.next by omega, show m ≠ s.next + 1 by omega, show m ≠ s.next + 2 by omega]
 clear hS
 refine o0q (g := 95) (caps := [.ptr (s.next + 2) 0]) h8E Tryz.func95 rfl (by decide) fun s4 h4e h4n h4m h4l => ?_
 have hpq : p ≠ q := fun e => by have := h.hp; rw [e, h.hq] at this; cases this
 have hp1q : p1 ≠ q := fun e => by have := hg1.hp; rw [e, h.hq] at this; cases this
 have hI : ∀ k s5, OrI s4 q (s.next + 1) n f g k s5 → s5.m (s.next + 2) = some (.box 107 [.ptr p1 0]) ∧ RowR s5 p1 q1 n g := by
  intro k s5 hk
  refine ⟨by rw [hk.fr _ (by omega) (by omega), h4m _ (by omega), h3c], by rw [hk.fr _ hp1q (by omega), h4m _ (by omega), h3m _ hpl1]; exact hg1.hp, ?_, hle⟩
  by_cases hqq : q1 = q
  ·rw [hqq, hk.hq, hal hqq, z6x]
  ·rw [hk.fr _ hqq (by omega), h4m _ (by omega), h3m _ hql1]; exact hg1.hq
 have hst : OrI s4 q (s.next + 1) n f g 0 s4 := ⟨rfl, fun m _ _ => rfl, by rw [h4m _ (by omega), h3m _ hql, z8x]; exact h.hq, by rw [h4m _ (by omega), h3b]; simp [anyK]⟩
 refine (n1z s3.next (s.next + 2) p1 q1 n g (OrI s4 q (s.next + 1) n f g) (fun _ => False) hI (fun k s5 hkn hg hk => hk.skip (.inl hg)) (fun k s5 hkn hg hk => ?_) s4 hst).mono fun v s6 h6 => ?_
 rotate_left
 ·rcases h6 with h6 | h6
  rotate_left
  ·exact h6.elim
  refine ⟨none, .ready, by rw [h6.fr _ (by omega) (by omega)]; exact h4l, by simp, ?_⟩
  have hvn : ¬ s.next + 1 = s3.next := by omega
  simp only []
  refine hK3 _ _ ?_
  refine vsk fun K5 hK5 => ?_
  refine a3q 0 [] ?_
  simp only [bs, ↓vopx, ↓vop, a1q, Nat.reduceLT, a8q, b0q, hlE, h5E, wocs, ↓goc, ↓woc, ↓a2q, Tryz.ag4, Tryz.sz4, hvn, h6.hv]
  refine hK5 _ _ ?_
  refine b1q ?_
  refine hQ _ _ _ (.inr rfl) (w9x ?_ hql (by simp [Sg.del, show q ≠ s3.next by omega, h6.hq]) fun m hm hmq => ?_)
  try simp only [a0q, lpv, hlE, Nat.reduceLT]
  simp only [Sg.del, show ¬ m = s3.next from by omega, if_false]
  rw [h6.fr m hmq (by omega), h4m _ (by omega), h3m _ hm]
 have hlpk := (hk.fr s3.next (by omega) (by omega)).trans h4l
 refine o2q hlpk rfl fun KA hKA => ?_
 rw [show (#[9] : Array Tmp).toList = [9] from rfl, n4q]
 refine a3q 0 [] ?_
 simp only [bs, ↓vopx, ↓vop, a1q, Nat.reduceLT, hlE, wocs, ↓goc, ↓woc, ↓a2q]
 refine hKA _ _ hlpk ?_
 have hkr : 0 ≤ (k : Int) ∧ (k : Int) < n := by omega
 have hbr0 : s5.m s.next = some (.box 107 [.ptr p 0]) := by rw [hk.fr _ (by omega) (by omega), h4m _ (by omega), h3a]
 have hpp : s5.m p = some (.box 128 [I n, .loc q 0 (nW n)]) := by rw [hk.fr _ hpq (by omega), h4m _ (by omega), h3m _ hpl]; exact h.hp
 have hn0q : s3.next ≠ q := by omega
 have hn0p : p ≠ s3.next := by omega
 have hn0s : s.next ≠ s3.next := by omega
 have hn0v : s.next + 1 ≠ s3.next := by omega
 have hvq : ¬ s.next + 1 = q := by omega
 refine d4q fun e2 sb hE2 hSb => ?_
 subst hE2
 have hrb : RowR sb p q n (orB f g k) := ⟨by rw [hSb]; simp [Sg.set, hn0p, hpp], by rw [hSb]; simp [Sg.set, hn0q.symm, hk.hq], hle⟩
 have hbr : sb.m s.next = some (.box 107 [.ptr p 0]) := by rw [hSb]; simp [Sg.set, hn0s, hbr0]
 have hvb : sb.m (s.next + 1) = some (.box 4 [Bo (anyK f g k)]) := by rw [hSb]; simp [Sg.set, hn0v, hk.hv]
 have hnb : sb.next = s5.next := by rw [hSb]; rfl
 have hk1 := hk.nx
 refine a5q ?_
 refine vsk fun K6 hK6 => ?_
 rcases Bool.eq_false_or_eq_true (f k) with hfk | hfk
 ·refine a3q 0 [.det (Bo (decide (0 ≤ (k : Int) ∧ (k : Int) < n))) sb, .det (Bo (decide (0 ≤ (k : Int) ∧ (k : Int) < n) && orB f g k (k : Int).toNat)) sb] ?_
  simp only [bs, ↓vopx, ↓vop, Nat.reduceBEq, a1q, flat, Nat.reduceLT, a8q, b0q, gtmp, hlE, h2E, wocs, ↓goc, ↓woc, ↓a2q, ↓b8q, ↓h3q, a6q, Tryz.ag107, Tryz.sz107, f9z, Bool.and_true, hbr, hkr, hfk]
  repeat ((with_reducible refine And.intro ?_ ?_); · first | exact ⟨Tryz.is84, by simpa only [hkr, and_self, decide_true] using r0q sb p n _ hrb.hp k⟩ | exact ⟨Tryz.is76, by simpa [hkr, f9z, hfk] using y7q sb p q n _ hrb k⟩)
  refine hK6 _ _ ?_
  refine vck fun A B hA hB => ?_
  simp only [b2q, a0q, lpv, Nat.reduceLT, true_implies, reduceCtorEq, false_implies, true_and, hlE]
  refine hB ?_
  clear hA hB A B
  refine a9q ?_
  refine And.intro (by rw [hSb]; simp [Sg.set]) (Or.inl (And.intro rfl ?_))
  rw [hSb]
  first
  | (rw [t1x, set_self hlpk]; exact hk.skip (.inr hfk))
  | exact hk.put h4l hg hfk (by omega) (by omega) (by omega) _
 ·refine a3q 0 [.det (Bo (decide (0 ≤ (k : Int) ∧ (k : Int) < n))) sb, .det (Bo (decide (0 ≤ (k : Int) ∧ (k : Int) < n) && orB f g k (k : Int).toNat)) sb] ?_
  simp only [bs, ↓vopx, ↓vop, Nat.reduceBEq, a1q, flat, Nat.reduceLT, a8q, b0q, gtmp, hlE, h2E, wocs, ↓goc, ↓woc, ↓a2q, ↓b8q, ↓h3q, a6q, Tryz.ag107, Tryz.sz107, f9z, Bool.and_false, hbr, hkr, hfk]
  repeat ((with_reducible refine And.intro ?_ ?_); · first | exact ⟨Tryz.is84, by simpa only [hkr, and_self, decide_true] using r0q sb p n _ hrb.hp k⟩ | exact ⟨Tryz.is76, by simpa [hkr, f9z, hfk] using y7q sb p q n _ hrb k⟩)
  refine hK6 _ _ ?_
  refine vck fun A B hA hB => ?_
  simp only [b2q, a0q, lpv, Nat.reduceLT, true_implies, reduceCtorEq, false_implies, and_true, hlE]
  refine hA ?_
  clear hA hB A B
  refine vsk fun K7 hK7 => ?_
  refine a3q 0 [.det (.tup []) (sb.set q (.arr 1 130 (rowW n (updB (orB f g k) k true))))] ?_
  simp only [bs, ↓vopx, ↓vop, Nat.reduceBEq, a1q, flat, Nat.reduceLT, a8q, b0q, hlE, h2E, wocs, ↓goc, ↓woc, ↓a2q, ↓b8q, a6q, Tryz.ag107, Tryz.sz107, hbr]
  repeat ((with_reducible refine And.intro ?_ ?_); · exact ⟨Tryz.is64, p9z sb p q n _ hrb (by omega) k hkn⟩)
  refine hK7 _ _ ?_
  refine a3q 0 [] ?_
  simp only [bs, ↓vopx, ↓vop, Nat.reduceBEq, b5q, flat, V.cells, h5E, wocs, ↓goc, ↓woc, ↓a2q, Tryz.sz4, hvq, hvb]
  refine And.intro (by rw [hSb]; simp [Sg.set, hn0q, hn0v.symm]) (Or.inl (And.intro rfl ?_))
  rw [hSb]
  first
  | (rw [t1x, set_self hlpk]; exact hk.skip (.inr hfk))
  | exact hk.put h4l hg hfk (by omega) (by omega) (by omega) _
end Go.Proofs

open Go Go.V
namespace Go.Proofs
structure RelP (s : Sg) (p n : Nat) (M : Mx) (na : Nat) (rp rq : Nat → Nat) : Prop where
 hp : s.m p = some (.box 106 [.loc na 0 n])
 ha : s.m na = some (.box 107 ((List.range n).map fun i => .ptr (rp i) 0))
 hr : ∀ i, i < n → s.m (rp i) = some (.box 128 [I n, .loc (rq i) 0 (nW n)])
 hw : ∀ i, i < n → s.m (rq i) = some (.arr 1 130 (rowW n (M i)))
 inj : ∀ i j, i < n → j < n → rq i = rq j → i = j
 le : n ≤ 200
 lp : p < s.next
 la : na < s.next
 lr : ∀ i, i < n → rp i < s.next
 lq : ∀ i, i < n → rq i < s.next
theorem RelP.row {s : Sg} {p n : Nat} {M : Mx} {na : Nat} {rp rq : Nat → Nat} (h : RelP s p n M na rp rq) {i : Nat} (hi : i < n) : RowR s (rp i) (rq i) n (M i) := ⟨h.hr i hi, h.hw i hi, by have := h.le; omega⟩
theorem i3x {n : Nat} {f g : Nat → Bool} (h : ∀ j, j < n → f j = g j) : rowW n f = rowW n g := by
 have key : ∀ k, h0q n f k = h0q n g k := by
  intro k
  have : (fun j => decide (k * 64 + j < n) && f (k * 64 + j)) = (fun j => decide (k * 64 + j < n) && g (k * 64 + j)) := by
   funext j
   by_cases hj : k * 64 + j < n
   ·rw [h _ hj]
   ·simp [hj]
  simp only [h0q, this]
 simp only [rowW, key]
theorem RelP.congr {s : Sg} {p n : Nat} {M M' : Mx} {na : Nat} {rp rq : Nat → Nat} (h : RelP s p n M na rp rq) (hm : ∀ x y, x < n → y < n → M x y = M' x y) : RelP s p n M' na rp rq :=
 ⟨h.hp, h.ha, h.hr, fun i hi => by rw [h.hw i hi, i3x fun j hj => hm i j hi hj], h.inj, h.le, h.lp, h.la, h.lr, h.lq⟩
theorem RelP.keep {s s' : Sg} {p n : Nat} {M : Mx} {na : Nat} {rp rq : Nat → Nat} (h : RelP s p n M na rp rq) (hk : Keep s s') (hn : s.next ≤ s'.next) : RelP s' p n M na rp rq :=
 ⟨hk _ _ h.lp h.hp, hk _ _ h.la h.ha, fun i hi => hk _ _ (h.lr i hi) (h.hr i hi), fun i hi => hk _ _ (h.lq i hi) (h.hw i hi), h.inj, h.le, Nat.lt_of_lt_of_le h.lp hn, Nat.lt_of_lt_of_le h.la hn, fun i hi => Nat.lt_of_lt_of_le (h.lr i hi) hn, fun i hi => Nat.lt_of_lt_of_le (h.lq i hi) hn⟩
theorem RelP.put {s : Sg} {p n : Nat} {M : Mx} {na : Nat} {rp rq : Nat → Nat} (h : RelP s p n M na rp rq) {a : Nat} (ha : a < n) (g : Nat → Bool) :
 RelP (s.set (rq a) (.arr 1 130 (rowW n g))) p n (fun x => if x = a then g else M x) na rp rq := by
 have h1 : p ≠ rq a := fun e => by have := h.hp; rw [e, h.hw a ha] at this; cases this
 have h2 : na ≠ rq a := fun e => by have := h.ha; rw [e, h.hw a ha] at this; cases this
 refine ⟨by simp [Sg.set, h1, h.hp], by simp [Sg.set, h2, h.ha], fun i hi => ?_, fun i hi => ?_, h.inj, h.le, h.lp, h.la, h.lr, h.lq⟩
 ·have h3 : rp i ≠ rq a := fun e => by have := h.hr i hi; rw [e, h.hw a ha] at this; cases this
  simp [Sg.set, h3, h.hr i hi]
 ·by_cases hia : i = a
  ·subst hia; simp [Sg.set]
  ·have h3 : rq i ≠ rq a := fun e => hia (h.inj i a hi ha e)
   simp [Sg.set, h3, hia, h.hw i hi]
def d4z (n : Nat) (f g : Nat → Bool) : Bool := (List.range n).all fun b => f b == g b
theorem s1x {n : Nat} {f g : Nat → Bool} {b : Nat} (hb : b < n) (h : f b ≠ g b) : d4z n f g = false := by
 rw [Bool.eq_false_iff]; intro hh
 simp only [d4z, List.all_eq_true, List.mem_range, beq_iff_eq] at hh
 exact h (hh b hb)
theorem i2x {n : Nat} {f g : Nat → Bool} (h : ∀ b, b < n → f b = g b) : d4z n f g = true := by
 simp only [d4z, List.all_eq_true, List.mem_range, beq_iff_eq]; exact h
theorem n3z (P : Program) (t : TypeId) (x y : Operand) (el : TypeId) (hu : P.underlying t = some (.pointer el)) (n off : Nat) : b6z .eql (.ptr n off) (.t (.v (.pointer none))) P t x y (.bool false) := .inr (.inr ⟨⟨el, hu⟩, .inl rfl, rfl, .inl ⟨⟨_, _, rfl⟩, rfl⟩⟩)
set_option maxRecDepth 20000 in
theorem l1x (s : Sg) (p q n : Nat) (f : Nat → Bool) (h : RowR s p q n f) (p1 q1 : Nat) (g : Nat → Bool) (hg : RowR s p1 q1 n g) : k0q Tryz.prog 99 [.ptr p 0, .ptr p1 0] s (Bo (d4z n f g)) (s) := by
 refine d0q Tryz.func99 rfl fun Q hQ => ?_
 obtain ⟨e, he, hl, h0, h1⟩ : ∃ e : Env, ([.ptr p 0, .ptr p1 0] ++ List.replicate (Tryz.f99.ntmps - ([.ptr p 0, .ptr p1 0] : List V).length) .junk) = e ∧ e.length = 24 ∧ ev e (.tmp 0) = .ptr p 0 ∧ ev e (.tmp 1) = .ptr p1 0 := ⟨_, rfl, rfl, rfl, rfl⟩
 rw [he]
 clear he
 have hle := h.le
 refine vsk fun K1 hK1 => ?_
 refine a3q 0 [] ?_
 simp only [bs, ↓vopx, ↓vop, a1q, flat, wocs, ↓goc, ↓woc, ↓a2q]
 refine hK1 _ _ ?_
 refine vsk fun K2 hK2 => ?_
 refine vsk fun K3 hK3 => ?_
 refine a3q 0 [.det (I n) s, .det (I n) s] ?_
 simp only [bs, ↓vopx, ↓vop, Nat.reduceBEq, a1q, Nat.reduceLT, opII, hl, h0, h1, wocs, ↓goc, ↓woc, ↓a2q, ↓b8q, a6q, bne_self_eq_false]
 repeat ((with_reducible refine And.intro ?_ ?_); · first | exact ⟨Tryz.is94, e7z s p n _ h.hp⟩ | exact ⟨Tryz.is94, e7z s p1 n _ hg.hp⟩)
 refine hK3 _ _ ?_
 refine vck fun A B hA hB => ?_
 simp only [b2q, a0q, lpv, Nat.reduceLT, true_implies, reduceCtorEq, false_implies, true_and, hl]
 refine hB ?_
 clear hA hB A B
 refine a9q ?_
 refine hK2 _ _ ?_
 refine vsk fun K4 hK4 => ?_
 refine vsk fun K5 hK5 => ?_
 refine a3q 0 [.det (I n) s] ?_
 simp only [bs, ↓vopx, ↓vop, Nat.reduceBEq, a1q, flat, Nat.reduceLT, hl, h0, wocs, ↓goc, ↓woc, ↓a2q, ↓b8q, a6q]
 repeat ((with_reducible refine And.intro ?_ ?_); · exact ⟨Tryz.is94, e7z s p n _ h.hp⟩)
 refine hK5 _ _ ?_
 refine a5q ?_
 refine c2q (fun mm e' s' => ∃ i : Nat, mm = n - i ∧ i ≤ n ∧ e'.length = 24 ∧ ev e' (.tmp 0) = .ptr p 0 ∧ ev e' (.tmp 1) = .ptr p1 0 ∧ ev e' (.tmp 12) = I n ∧ ev e' (.tmp 13) = I i ∧ s = s' ∧ ∀ b, b < i → f b = g b) (⟨0, rfl, Nat.zero_le _, ?_⟩) ?_
 ·try simp only [a0q, a4q, Nat.reduceBEq, lpv, hl, h0, h1, Nat.reduceLT, true_and]
  repeat ((with_reducible refine And.intro ?_ ?_); · trivial)
  all_goals (exact fun b hb => by omega)
 rintro mm e _ ⟨i, rfl, hle_i, hl, h0, h1, h12, h_i, rfl, hal⟩
 refine vsk fun K6 hK6 => ?_
 refine a3q 0 [] ?_
 simp only [a1q, opII, h12, h_i, wocs, ↓goc, ↓woc]
 refine hK6 _ _ ?_
 refine vsk fun K7 hK7 => ?_
 refine vck fun A B hA hB => ?_
 simp only [b2q, a0q, Nat.reduceLT, decide_eq_true_eq, decide_eq_false_iff_not, hl]
 refine ⟨fun hc14 => hA ?_, fun hc14 => hB ?_⟩
 ·clear hA hB A B
  refine a9q ?_
  refine hK7 _ _ ?_
  refine vsk fun K8 hK8 => ?_
  refine a5q ?_
  refine vsk fun K9 hK9 => ?_
  refine a3q 0 [] ?_
  simp only [bs, ↓vopx, ↓vop, Nat.reduceBEq, a1q, Nat.reduceLT, hl, h_i, wocs, ↓goc, ↓woc, ↓a2q]
  refine hK9 _ _ ?_
  refine vsk fun K10 hK10 => ?_
  have hir : 0 ≤ (i : Int) ∧ (i : Int) < n := by omega
  refine a3q 0 [.det (Bo (decide (0 ≤ (i : Int) ∧ (i : Int) < n) && f (i : Int).toNat)) s, .det (Bo (decide (0 ≤ (i : Int) ∧ (i : Int) < n) && g (i : Int).toNat)) s, .far (.bool (f i != g i))] ?_
  simp only [bs, ↓vopx, ↓vop, Nat.reduceBEq, a1q, Nat.reduceLT, hl, h0, h1, wocs, ↓goc, ↓woc, ↓a2q, ↓b8q, a6q, ↓farC, hir, and_self, Bool.true_and]
  repeat ((with_reducible refine And.intro ?_ ?_); · first | exact ⟨Tryz.is76, by simpa only [hir, and_self, decide_true, Bool.true_and, Int.toNat_natCast] using y7q s p q n f h i⟩ | exact ⟨Tryz.is76, by simpa only [hir, and_self, decide_true, Bool.true_and, Int.toNat_natCast] using y7q s p1 q1 n g hg i⟩ | exact d2x _ _ _ _)
  refine hK10 _ _ ?_
  refine vck fun A B hA hB => ?_
  simp only [b2q, a0q, lpv, Nat.reduceLT, bne_iff_ne, bne_eq_false_iff_eq, ne_eq, hl]
  refine ⟨fun hc22 => hA ?_, fun hc22 => hB ?_⟩
  ·clear hA hB A B
   refine vsk fun K11 hK11 => ?_
   refine a3q 0 [] ?_
   simp only [bs, ↓vopx, ↓vop, a1q, flat, wocs, ↓goc, ↓woc, ↓a2q]
   refine hK11 _ _ ?_
   refine b1q ?_
   refine hQ _ _ _ (.inr rfl) (Done.toS (a7q ?_ fun n b hn h => h))
   try simp only [a0q, lpv, hl, Nat.reduceLT]
   rw [s1x (b := i) (by omega) hc22]
  ·clear hA hB A B
   refine a9q ?_
   refine hK8 _ _ ?_
   refine a3q 0 [] ?_
   simp only [bs, ↓vopx, ↓vop, Nat.reduceBEq, a1q, flat, Nat.reduceLT, opII, hl, h0, h1, h12, h_i, wocs, ↓goc, ↓woc, ↓a2q]
   repeat ((with_reducible refine And.intro ?_ ?_); · exact ⟨by omega, by omega⟩)
   refine ⟨n - (i + 1), by omega, i + 1, rfl, by omega, ?_⟩
   try simp only [a0q, a4q, Nat.reduceBEq, lpv, hl, h0, h1, h12, h_i, if_true, if_false, Nat.reduceEqDiff, Nat.reduceLT, true_and, and_true]
   repeat ((with_reducible refine And.intro ?_ ?_); · trivial)
   intro b hb
   rcases Nat.lt_succ_iff_lt_or_eq.1 hb with hb | rfl
   ·exact hal b hb
   ·exact hc22
 ·clear hA hB A B
  have han : n = i := by omega
  refine c1q ?_
  simp only [a1q, b5q, if_true]
  refine hK4 _ _ ?_
  refine vsk fun K12 hK12 => ?_
  refine a3q 0 [] ?_
  simp only [bs, ↓vopx, ↓vop, a1q, flat, wocs, ↓goc, ↓woc, ↓a2q]
  refine hK12 _ _ ?_
  refine b1q ?_
  refine hQ _ _ _ (.inr rfl) (Done.toS (a7q ?_ fun n b hn h => h))
  try simp only [a0q, lpv, hl, Nat.reduceLT]
  rw [i2x fun b hb => hal b (by omega)]
set_option maxRecDepth 20000 in
theorem b4x (s : Sg) (p n : Nat) (na : Nat) (hp : s.m p = some (.box 106 [.loc na 0 n])) : k0q Tryz.prog 83 [.ptr p 0] s (I n) (s) := by
 refine d0q Tryz.func83 rfl fun Q hQ => ?_
 obtain ⟨e, he, hl, h0⟩ : ∃ e : Env, ([.ptr p 0] ++ List.replicate (Tryz.f83.ntmps - ([.ptr p 0] : List V).length) .junk) = e ∧ e.length = 10 ∧ ev e (.tmp 0) = .ptr p 0 := ⟨_, rfl, rfl, rfl⟩
 rw [he]
 clear he
 refine vsk fun K1 hK1 => ?_
 refine a3q 0 [] ?_
 simp only [bs, ↓vopx, ↓vop, a1q, flat, wocs, ↓goc, ↓woc, ↓a2q]
 refine hK1 _ _ ?_
 refine vsk fun K2 hK2 => ?_
 refine vsk fun K3 hK3 => ?_
 refine a3q 0 [.far (.bool false)] ?_
 simp only [bs, ↓vopx, ↓vop, Nat.reduceBEq, a1q, flat, Nat.reduceLT, hl, h0, wocs, ↓goc, ↓woc, ↓a2q, ↓farC]
 repeat ((with_reducible refine And.intro ?_ ?_); · exact n3z _ _ _ _ _ Tryz.underlying79 _ _)
 refine hK3 _ _ ?_
 refine vck fun A B hA hB => ?_
 simp only [b2q, a0q, lpv, Nat.reduceLT, true_implies, reduceCtorEq, false_implies, true_and, hl]
 refine hB ?_
 clear hA hB A B
 refine a9q ?_
 refine hK2 _ _ ?_
 refine vsk fun K4 hK4 => ?_
 refine a3q 0 [] ?_
 simp only [bs, f0q, ↓vopx, ↓vop, Nat.reduceBEq, a1q, Nat.reduceLT, a8q, b0q, hl, h0, wocs, ↓goc, ↓woc, ↓a2q, Tryz.ag104, Tryz.fd106_0, Tryz.sz104, Tryz.un104, hp]
 refine hK4 _ _ ?_
 refine b1q ?_
 refine hQ _ _ _ (.inr rfl) (Done.toS (a7q ?_ fun n b hn h => h))
 try simp only [a0q, lpv, hl, Nat.reduceLT]
set_option maxRecDepth 20000 in
theorem j5q (s : Sg) (p n : Nat) (na : Nat) (hp : s.m p = some (.box 106 [.loc na 0 n])) (i : Int) : k0q Tryz.prog 63 [.ptr p 0, I i] s (Bo (decide (0 ≤ i ∧ i < n))) (s) := by
 refine d0q Tryz.func63 rfl fun Q hQ => ?_
 obtain ⟨e, he, hl, h0, h1⟩ : ∃ e : Env, ([.ptr p 0, I i] ++ List.replicate (Tryz.f63.ntmps - ([.ptr p 0, I i] : List V).length) .junk) = e ∧ e.length = 13 ∧ ev e (.tmp 0) = .ptr p 0 ∧ ev e (.tmp 1) = I i := ⟨_, rfl, rfl, rfl, rfl⟩
 rw [he]
 clear he
 refine vsk fun K1 hK1 => ?_
 refine a3q 0 [] ?_
 simp only [bs, ↓vopx, ↓vop, a1q, flat, wocs, ↓goc, ↓woc, ↓a2q]
 refine hK1 _ _ ?_
 refine vsk fun K2 hK2 => ?_
 rcases Decidable.em (0 ≤ i) with hi | hi
 ·refine a3q 0 [.det (I n) s] ?_
  simp only [bs, ↓vopx, ↓vop, Nat.reduceBEq, a1q, flat, Nat.reduceLT, opII, gtmp, hl, h0, h1, wocs, ↓goc, ↓woc, ↓a2q, ↓b8q, ↓h3q, a6q, hi]
  repeat ((with_reducible refine And.intro ?_ ?_); · exact ⟨Tryz.is83, b4x s p n na hp⟩)
  refine hK2 _ _ ?_
  refine b1q ?_
  refine hQ _ _ _ (.inr rfl) (Done.toS (a7q ?_ fun n b hn h => h))
  try simp only [a0q, lpv, hl, Nat.reduceLT]
  simp [hi]
 ·refine a3q 0 [] ?_
  simp only [bs, ↓vopx, ↓vop, Nat.reduceBEq, a1q, flat, Nat.reduceLT, opII, gtmp, hl, h1, wocs, ↓goc, ↓woc, ↓a2q, ↓m5q, hi]
  refine hK2 _ _ ?_
  refine b1q ?_
  refine hQ _ _ _ (.inr rfl) (Done.toS (a7q ?_ fun n b hn h => h))
  try simp only [a0q, lpv, hl, Nat.reduceLT]
  simp [hi]
set_option maxRecDepth 20000 in
theorem s1z (s : Sg) (p n : Nat) (M : Mx) (na : Nat) (rp rq : Nat → Nat) (h : RelP s p n M na rp rq) (a b : Int) : k0q Tryz.prog 54 [.ptr p 0, I a, I b] s (Bo (decide (0 ≤ a ∧ a < n) && (decide (0 ≤ b ∧ b < n) && M a.toNat b.toNat))) (s) := by
 refine d0q Tryz.func54 rfl fun Q hQ => ?_
 obtain ⟨e, he, hl, h0, h1, h2⟩ : ∃ e : Env, ([.ptr p 0, I a, I b] ++ List.replicate (Tryz.f54.ntmps - ([.ptr p 0, I a, I b] : List V).length) .junk) = e ∧ e.length = 21 ∧ ev e (.tmp 0) = .ptr p 0 ∧ ev e (.tmp 1) = I a ∧ ev e (.tmp 2) = I b := ⟨_, rfl, rfl, rfl, rfl, rfl⟩
 rw [he]
 clear he
 refine vsk fun K1 hK1 => ?_
 refine a3q 0 [] ?_
 simp only [bs, ↓vopx, ↓vop, a1q, flat, wocs, ↓goc, ↓woc, ↓a2q]
 refine hK1 _ _ ?_
 refine vsk fun K2 hK2 => ?_
 rcases Decidable.em (0 ≤ a ∧ a < n) with ha | ha
 ·have hha := h.ha
  have ga : (List.range n)[a.toNat]? = some a.toNat := List.getElem?_range (by omega)
  refine a3q 0 [.det (Bo (decide (0 ≤ a ∧ a < n))) s, .det (Bo (decide (0 ≤ b ∧ b < n) && M a.toNat b.toNat)) s] ?_
  simp only [bs, f0q, ↓vopx, ↓vop, Nat.reduceBEq, a1q, flat, Nat.reduceLT, a8q, b0q, gtmp, hl, h0, h1, h2, wocs, ↓goc, ↓woc, ↓a2q, ↓b8q, ↓h3q, a6q, Tryz.ag107, Tryz.ag104, Tryz.fd106_0, Tryz.sz107, Tryz.sz104, Tryz.un104, h.hp, ha, hha, ga]
  repeat ((with_reducible refine And.intro ?_ ?_); · first | exact ⟨Tryz.is63, by simpa only [ha, and_self, decide_true] using j5q s p n na h.hp a⟩ | exact ⟨Tryz.is76, y7q s _ _ n _ (h.row (i := a.toNat) (by omega)) b⟩)
  refine hK2 _ _ ?_
  refine b1q ?_
  refine hQ _ _ _ (.inr rfl) (Done.toS (a7q ?_ fun n b hn h => h))
  try simp only [a0q, lpv, hl, Nat.reduceLT]
  simp [ha]
 ·refine a3q 0 [.det (Bo (decide (0 ≤ a ∧ a < n))) s] ?_
  simp only [bs, ↓vopx, ↓vop, Nat.reduceBEq, a1q, flat, Nat.reduceLT, gtmp, hl, h0, h1, wocs, ↓goc, ↓woc, ↓a2q, ↓b8q, ↓m5q, a6q, ha]
  repeat ((with_reducible refine And.intro ?_ ?_); · exact ⟨Tryz.is63, by simpa only [ha, decide_false] using j5q s p n na h.hp a⟩)
  refine hK2 _ _ ?_
  refine b1q ?_
  refine hQ _ _ _ (.inr rfl) (Done.toS (a7q ?_ fun n b hn h => h))
  try simp only [a0q, lpv, hl, Nat.reduceLT]
  simp [ha]
end Go.Proofs

open Go Go.V
namespace Go.Proofs
structure FreshP (s : Sg) (p n na : Nat) (rp rq : Nat → Nat) : Prop where
 hp : s.next ≤ p
 ha : s.next ≤ na
 hr : ∀ i, i < n → s.next ≤ rp i
 hq : ∀ i, i < n → s.next ≤ rq i
def NewP (s : Sg) (n : Nat) (M : Mx) (v : V) (s' : Sg) : Prop := ∃ p na rp rq, v = .ptr p 0 ∧ RelP s' p n M na rp rq ∧ FreshP s p n na rp rq ∧ Keep s s' ∧ s.next ≤ s'.next
def r1q (n i : Nat) (rp : Nat → Nat) : List V := (List.range n).map fun j => if j < i then .ptr (rp j) 0 else .t (.v (.pointer none))
theorem l8q (n i : Nat) (rp : Nat → Nat) : (r1q n i rp).length = n := by simp [r1q]
theorem z2z (n : Nat) (rp : Nat → Nat) : (repl [T.v (Value.pointer none)] n).map V.t = r1q n 0 rp := by
 rw [l9q]
 apply List.ext_getElem?
 intro j
 by_cases hj : j < n
 ·simp [r1q, hj]
 ·rw [List.getElem?_eq_none (by simp; omega), List.getElem?_eq_none (by simp [r1q]; omega)]
theorem g6x {n i : Nat} {rp : Nat → Nat} (hi : i < n) (x : Nat) : setAll (r1q n i rp) i [.ptr x 0] = r1q n (i + 1) (fun j => if j = i then x else rp j) := by
 rw [h4q _ _ _ (by rw [l8q]; exact hi)]
 apply List.ext_getElem?
 intro j
 by_cases hj : j < n
 ·rw [List.getElem?_set, l8q]
  have g1 : (r1q n i rp)[j]? = some (if j < i then .ptr (rp j) 0 else .t (.v (.pointer none))) := i3z _ hj
  have g2 : (r1q n (i + 1) (fun j => if j = i then x else rp j))[j]? = some (if j < i + 1 then .ptr (if j = i then x else rp j) 0 else .t (.v (.pointer none))) := i3z _ hj
  rw [g1, g2]
  by_cases e : i = j
  ·subst e; simp [hi]
  ·have e2 : ¬ j = i := fun h => e h.symm
   have e3 : (j < i + 1) ↔ (j < i) := by omega
   simp [e, e2, e3]
 ·rw [List.getElem?_eq_none (by rw [List.length_set, l8q]; omega), List.getElem?_eq_none (by rw [l8q]; omega)]
theorem z5q {s : Sg} {n m : Nat} (h : m < s.next) : (n6q s n).m m = s.m m := by
 have h1 : m ≠ s.next := by omega
 have h2 : m ≠ s.next + 1 := by omega
 simp [n6q, Sg.add, h1, h2]
theorem j0z (s : Sg) (n : Nat) : Keep s (n6q s n) := fun m b hm hb => by rw [z5q hm]; exact hb
structure PartP (s : Sg) (N p n i na : Nat) (rp rq : Nat → Nat) : Prop where
 hp : s.m p = some (.box 106 [.loc na 0 n])
 ha : s.m na = some (.box 107 (r1q n i rp))
 hr : ∀ j, j < i → s.m (rp j) = some (.box 128 [I n, .loc (rq j) 0 (nW n)])
 hw : ∀ j, j < i → s.m (rq j) = some (.arr 1 130 (rowW n fun _ => false))
 inj : ∀ j k, j < i → k < i → rq j = rq k → j = k
 lp : p < s.next
 la : na < s.next
 lr : ∀ j, j < i → rp j < s.next
 lq : ∀ j, j < i → rq j < s.next
 fp : N ≤ p
 fa : N ≤ na
 fr : ∀ j, j < i → N ≤ rp j
 fq : ∀ j, j < i → N ≤ rq j
theorem PartP.step {s : Sg} {N p n i na : Nat} {rp rq : Nat → Nat} (h : PartP s N p n i na rp rq) (hi : i < n) :
 PartP ((n6q s n).set na (.box 107 (setAll (r1q n i rp) i [.ptr (s.next + 1) 0]))) N p n (i + 1) na (fun j => if j = i then s.next + 1 else rp j) (fun j => if j = i then s.next else rq j) := by
 have hlp := h.lp
 have hla := h.la
 have hfa := h.fa
 have hpa : p ≠ na := fun e => by have := h.hp; rw [e, h.ha] at this; cases this
 have e1 : s.next ≠ na := by omega
 have e2 : s.next + 1 ≠ na := by omega
 refine ⟨by simp [Sg.set, hpa, z5q h.lp, h.hp], by simp [Sg.set, g6x hi], fun j hj => ?_, fun j hj => ?_, fun j k hj hk e => ?_, by simp [Sg.set, n6q, Sg.add]; omega, by simp [Sg.set, n6q, Sg.add]; omega, fun j hj => ?_, fun j hj => ?_, h.fp, h.fa, fun j hj => ?_, fun j hj => ?_⟩
 ·by_cases hji : j = i
  ·subst hji; simp [Sg.set, n6q, Sg.add, e2]
  ·have h1 := h.lr j (by omega)
   have h2 : rp j ≠ na := fun e => by have := h.hr j (by omega); rw [e, h.ha] at this; cases this
   simp [Sg.set, hji, h2, z5q h1, h.hr j (by omega)]
 ·by_cases hji : j = i
  ·subst hji; simp [Sg.set, n6q, Sg.add, e1]
  ·have h1 := h.lq j (by omega)
   have h2 : rq j ≠ na := fun e => by have := h.hw j (by omega); rw [e, h.ha] at this; cases this
   simp [Sg.set, hji, h2, z5q h1, h.hw j (by omega)]
 ·by_cases hji : j = i <;> by_cases hki : k = i
  ·omega
  ·have := h.lq k (by omega); simp only [hji, hki, if_true, if_false] at e; omega
  ·have := h.lq j (by omega); simp only [hji, hki, if_true, if_false] at e; omega
  ·simp only [hji, hki, if_false] at e; exact h.inj j k (by omega) (by omega) e
 ·by_cases hji : j = i
  ·simp [hji, Sg.set, n6q, Sg.add]
  ·have := h.lr j (by omega); simp [hji, Sg.set, n6q, Sg.add]; omega
 ·by_cases hji : j = i
  ·simp [hji, Sg.set, n6q, Sg.add]; omega
  ·have := h.lq j (by omega); simp [hji, Sg.set, n6q, Sg.add]; omega
 ·by_cases hji : j = i
  ·simp [hji]; omega
  ·simp [hji, h.fr j (by omega)]
 ·by_cases hji : j = i
  ·simp [hji]; omega
  ·simp [hji, h.fq j (by omega)]
theorem PartP.done {s : Sg} {N p n na : Nat} {rp rq : Nat → Nat} (h : PartP s N p n n na rp rq) (hn : n ≤ 200) : RelP s p n (fun _ _ => false) na rp rq :=
 ⟨h.hp, by rw [h.ha]; congr 2; unfold r1q; apply List.map_congr_left; intro j hj; rw [if_pos (List.mem_range.1 hj)], h.hr, h.hw, h.inj, hn, h.lp, h.la, h.lr, h.lq⟩
def AddP (s : Sg) (p n : Nat) (M : Mx) (na : Nat) (rp rq : Nat → Nat) (v : V) (s' : Sg) : Prop := (∃ b, v = Bo b) ∧ RelP s' p n M na rp rq ∧ (∀ m, (∀ i, i < n → m ≠ rq i) → s'.m m = s.m m) ∧ s'.next = s.next
theorem AddP.keep {s0 s : Sg} {p n : Nat} {M : Mx} {na : Nat} {rp rq : Nat → Nat} {v : V} {s' : Sg} (h : AddP s p n M na rp rq v s') (hf : ∀ i, i < n → s0.next ≤ rq i) (hk : Keep s0 s) : Keep s0 s' := fun m b hm hb => by
 rw [h.2.2.1 m fun i hi => by have := hf i hi; omega]; exact hk m b hm hb
set_option maxRecDepth 20000 in
theorem s2z (s : Sg) (n : Nat) (hn : n ≤ 200) : f8q Tryz.prog 42 [I n] s (NewP s n (fun _ _ => false)) := by
 refine b6q Tryz.func42 rfl fun Q hQ => ?_
 obtain ⟨e, he, hl, h0⟩ : ∃ e : Env, ([I n] ++ List.replicate (Tryz.f42.ntmps - ([I n] : List V).length) .junk) = e ∧ e.length = 33 ∧ ev e (.tmp 0) = I n := ⟨_, rfl, rfl, rfl⟩
 rw [he]
 clear he
 have hmx : max (n : Int) 0 = n := by omega
 have hmn : min (n : Int) 200 = n := by omega
 refine vsk fun K1 hK1 => ?_
 refine a3q 0 [] ?_
 simp only [bs, ↓vopx, ↓vop, a1q, flat, wocs, ↓goc, ↓woc, ↓a2q]
 refine hK1 _ _ ?_
 refine vsk fun K2 hK2 => ?_
 refine a3q 0 [] ?_
 simp only [bs, d9q, g7q, ↓vopx, ↓vop, Nat.reduceBEq, a1q, flat, Nat.reduceLT, V.cells, hl, h0, wocs, ↓goc, ↓woc, ↓a2q, Tryz.sl104, Tryz.st106, hmx, hmn]
 repeat ((with_reducible refine And.intro ?_ ?_); · omega)
 refine hK2 _ _ ?_
 refine vsk fun K3 hK3 => ?_
 refine vsk fun K4 hK4 => ?_
 refine VW.toBox s.next (ty := 107) (cs := repl [T.v (Value.pointer none)] n) (by simp [Sg.add]) ?_
 refine a3q 0 [] ?_
 simp only [bs, f0q, ↓vopx, ↓vop, a1q, flat, Nat.reduceLT, a8q, b0q, hl, wocs, ↓goc, ↓woc, ↓a2q, Tryz.ag104, Tryz.fd106_0, Tryz.sz104, Tryz.un104]
 refine hK4 _ _ ?_
 refine a5q ?_
 refine c2q (fun mm e' s' => ∃ i : Nat, mm = n - i ∧ i ≤ n ∧ e'.length = 33 ∧ ev e' (.tmp 3) = .ptr (s.next + 1) 0 ∧ ev e' (.tmp 15) = I n ∧ ev e' (.tmp 16) = I i ∧ True ∧ ∃ rp rq, PartP s' s.next (s.next + 1) n i s.next rp rq ∧ Keep s s' ∧ s.next ≤ s'.next) (⟨0, rfl, Nat.zero_le _, ?_⟩) ?_
 ·try simp only [a0q, a4q, Nat.reduceBEq, lpv, hl, Nat.reduceLT, true_and]
  repeat ((with_reducible refine And.intro ?_ ?_); · trivial)
  exact ⟨fun _ => 0, fun _ => 0, ⟨by simp [Sg.set, Sg.add], by rw [b9q, if_pos rfl, z2z], fun j h => by omega, fun j h => by omega, fun j k h => by omega, by simp [Sg.set, Sg.add], by simp [Sg.set, Sg.add]; omega, fun j h => by omega, fun j h => by omega, by omega, Nat.le_refl _, fun j h => by omega, fun j h => by omega⟩, (((Keep.refl s).add (Nat.le_refl _) _).add (by simp [Sg.add]) _).set (Nat.le_refl _) _, by simp [Sg.set, Sg.add]; omega⟩
 rintro mm e s1 ⟨i, rfl, hle_i, hl, h3, h15, h_i, hst, ⟨rp, rq, hpart, hkeep, hnx⟩⟩
 refine vsk fun K5 hK5 => ?_
 refine a3q 0 [] ?_
 simp only [a1q, opII, h15, h_i, wocs, ↓goc, ↓woc]
 refine hK5 _ _ ?_
 refine vsk fun K6 hK6 => ?_
 refine vck fun A B hA hB => ?_
 simp only [b2q, a0q, Nat.reduceLT, decide_eq_true_eq, decide_eq_false_iff_not, hl]
 refine ⟨fun hc17 => hA ?_, fun hc17 => hB ?_⟩
 ·clear hA hB A B
  refine a9q ?_
  refine hK6 _ _ ?_
  refine vsk fun K7 hK7 => ?_
  refine a5q ?_
  refine vsk fun K8 hK8 => ?_
  refine a3q 0 [] ?_
  simp only [bs, ↓vopx, ↓vop, Nat.reduceBEq, a1q, Nat.reduceLT, hl, h_i, wocs, ↓goc, ↓woc, ↓a2q]
  refine hK8 _ _ ?_
  have hlp := hpart.lp
  have hla := hpart.la
  have hna2 : (n6q s1 n).m s.next = some (.box 107 (r1q n i rp)) := by rw [z5q hla]; exact hpart.ha
  refine c5q Tryz.mixed 11 [0, 0, 0, 2, 0, 0, 0, 0, 1, 0, 3] [.det (.ptr (s1.next + 1) 0) (n6q s1 n)] [] 0 (by decide +kernel) (by simp [lpv, hl]) rfl ?_
  simp only [bs, f0q, ↓vopx, ↓vop, Nat.reduceBEq, a1q, b5q, Nat.reduceLT, V.cells, a8q, b0q, hl, h3, wocs, ↓goc, ↓woc, ↓a2q, ↓e3q, ↓b8q, a6q, chn, ↓goq, ↓woq, List.zip_cons_cons, List.zip_nil_right, Tryz.ag104, Tryz.fd106_0, Tryz.sz107, Tryz.sz104, Tryz.un104, hpart.hp, hna2, l8q]
  repeat ((with_reducible refine And.intro ?_ ?_); · first | (with_reducible assumption) | omega | exact ⟨Tryz.is62, w2x s1 n (by omega)⟩ | exact j0z _ _)
  refine hK7 _ _ ?_
  refine a3q 0 [] ?_
  simp only [bs, ↓vopx, ↓vop, Nat.reduceBEq, a1q, flat, Nat.reduceLT, opII, hl, h3, h15, h_i, wocs, ↓goc, ↓woc, ↓a2q]
  repeat ((with_reducible refine And.intro ?_ ?_); · exact ⟨by omega, by omega⟩)
  refine ⟨n - (i + 1), by omega, i + 1, rfl, by omega, ?_⟩
  try simp only [a0q, a4q, Nat.reduceBEq, lpv, hl, h3, h15, h_i, if_true, if_false, Nat.reduceEqDiff, Nat.reduceLT, true_and, and_true]
  repeat ((with_reducible refine And.intro ?_ ?_); · trivial)
  exact ⟨_, _, hpart.step (by omega), (hkeep.trans hnx (j0z s1 n)).set (Nat.le_refl _) _, by simp [n6q, Sg.add]; omega⟩
 ·clear hA hB A B
  have han : n = i := by omega
  subst han
  refine c1q ?_
  simp only [a1q, b5q, if_true]
  refine hK3 _ _ ?_
  refine vsk fun K9 hK9 => ?_
  refine a3q 0 [] ?_
  simp only [bs, ↓vopx, ↓vop, Nat.reduceBEq, a1q, Nat.reduceLT, hl, h3, wocs, ↓goc, ↓woc, ↓a2q]
  refine hK9 _ _ ?_
  refine b1q ?_
  refine hQ _ _ _ (.inr rfl) (d6q (v := .ptr (s.next + 1) 0) ?_ rfl ⟨_, _, rp, rq, rfl, hpart.done hn, ⟨hpart.fp, hpart.fa, hpart.fr, hpart.fq⟩, hkeep, hnx⟩)
  try simp only [a0q, lpv, hl, Nat.reduceLT]
set_option maxRecDepth 20000 in
theorem r6x (s : Sg) (p n : Nat) (M : Mx) (na : Nat) (rp rq : Nat → Nat) (h : RelP s p n M na rp rq) (a b : Nat) (ha : a < n) (hb : b < n) : f8q Tryz.prog 43 [.ptr p 0, I a, I b] s (AddP s p n (updM M a b true) na rp rq) := by
 refine b6q Tryz.func43 rfl fun Q hQ => ?_
 obtain ⟨e, he, hl, h0, h1, h2⟩ : ∃ e : Env, ([.ptr p 0, I a, I b] ++ List.replicate (Tryz.f43.ntmps - ([.ptr p 0, I a, I b] : List V).length) .junk) = e ∧ e.length = 32 ∧ ev e (.tmp 0) = .ptr p 0 ∧ ev e (.tmp 1) = I a ∧ ev e (.tmp 2) = I b := ⟨_, rfl, rfl, rfl, rfl, rfl⟩
 rw [he]
 clear he
 have har : 0 ≤ (a : Int) ∧ (a : Int) < n := by omega
 have hbr : 0 ≤ (b : Int) ∧ (b : Int) < n := by omega
 have hpp := h.hp
 have hha := h.ha
 have ga : (List.range n)[a]? = some a := List.getElem?_range ha
 refine vsk fun K1 hK1 => ?_
 refine a3q 0 [] ?_
 simp only [bs, ↓vopx, ↓vop, a1q, flat, wocs, ↓goc, ↓woc, ↓a2q]
 refine hK1 _ _ ?_
 refine vsk fun K2 hK2 => ?_
 refine vsk fun K3 hK3 => ?_
 rcases Bool.eq_false_or_eq_true (M a b) with hM | hM
 ·refine a3q 0 [.det (Bo (decide (0 ≤ (a : Int) ∧ (a : Int) < n))) s, .det (Bo (decide (0 ≤ (b : Int) ∧ (b : Int) < n))) s, .det (Bo (M a b)) s] ?_
  simp only [bs, ↓vopx, ↓vop, Nat.reduceBEq, a1q, flat, Nat.reduceLT, gtmp, hl, h0, h1, h2, wocs, ↓goc, ↓woc, ↓a2q, ↓b8q, ↓c8q, a6q, har, hbr, and_self, hM]
  repeat ((with_reducible refine And.intro ?_ ?_); · first | exact ⟨Tryz.is63, by simpa only [har, and_self, decide_true] using j5q s p n na h.hp a⟩ | exact ⟨Tryz.is63, by simpa only [hbr, and_self, decide_true] using j5q s p n na h.hp b⟩ | exact ⟨Tryz.is54, by simpa [har, hbr, hM] using s1z s p n M na rp rq h a b⟩)
  refine hK3 _ _ ?_
  refine vck fun A B hA hB => ?_
  simp only [b2q, a0q, lpv, Nat.reduceLT, true_implies, reduceCtorEq, false_implies, and_true, hl]
  refine hA ?_
  clear hA hB A B
  refine vsk fun K4 hK4 => ?_
  refine a3q 0 [] ?_
  simp only [bs, ↓vopx, ↓vop, a1q, flat, wocs, ↓goc, ↓woc, ↓a2q]
  refine hK4 _ _ ?_
  refine b1q ?_
  refine hQ _ _ _ (.inr rfl) (d6q (v := Bo false) ?_ rfl ⟨⟨_, rfl⟩, h.congr fun x y hx hy => by unfold updM; split; (rename_i hxy; rw [hxy.1, hxy.2, hM]); rfl, fun m hm => rfl, rfl⟩)
  try simp only [a0q, lpv, hl, Nat.reduceLT]
 ·refine a3q 0 [.det (Bo (decide (0 ≤ (a : Int) ∧ (a : Int) < n))) s, .det (Bo (decide (0 ≤ (b : Int) ∧ (b : Int) < n))) s, .det (Bo (M a b)) s] ?_
  simp only [bs, ↓vopx, ↓vop, Nat.reduceBEq, a1q, flat, Nat.reduceLT, gtmp, hl, h0, h1, h2, wocs, ↓goc, ↓woc, ↓a2q, ↓b8q, ↓c8q, a6q, har, hbr, and_self, hM]
  repeat ((with_reducible refine And.intro ?_ ?_); · first | exact ⟨Tryz.is63, by simpa only [har, and_self, decide_true] using j5q s p n na h.hp a⟩ | exact ⟨Tryz.is63, by simpa only [hbr, and_self, decide_true] using j5q s p n na h.hp b⟩ | exact ⟨Tryz.is54, by simpa [har, hbr, hM] using s1z s p n M na rp rq h a b⟩)
  refine hK3 _ _ ?_
  refine vck fun A B hA hB => ?_
  simp only [b2q, a0q, lpv, Nat.reduceLT, true_implies, reduceCtorEq, false_implies, true_and, hl]
  refine hB ?_
  clear hA hB A B
  refine a9q ?_
  refine hK2 _ _ ?_
  refine vsk fun K5 hK5 => ?_
  refine a3q 0 [.det (.tup []) (s.set (rq a) (.arr 1 130 (rowW n (updB (M a) b true))))] ?_
  simp only [bs, f0q, ↓vopx, ↓vop, Nat.reduceBEq, a1q, flat, Nat.reduceLT, a8q, b0q, hl, h0, h1, h2, wocs, ↓goc, ↓woc, ↓a2q, ↓b8q, a6q, Tryz.ag107, Tryz.ag104, Tryz.fd106_0, Tryz.sz107, Tryz.sz104, Tryz.un104, hpp, hha, ga]
  repeat ((with_reducible refine And.intro ?_ ?_); · first | omega | exact ⟨Tryz.is64, p9z s (rp a) (rq a) n (M a) (h.row ha) (h.lq a ha) b hb⟩)
  refine hK5 _ _ ?_
  refine vsk fun K6 hK6 => ?_
  refine a3q 0 [] ?_
  simp only [bs, ↓vopx, ↓vop, a1q, flat, wocs, ↓goc, ↓woc, ↓a2q]
  refine hK6 _ _ ?_
  refine b1q ?_
  have hR := (h.put ha (updB (M a) b true)).congr (M' := updM M a b true) fun x y hx hy => by unfold updM updB; by_cases hxa : x = a <;> by_cases hyb : y = b <;> simp [hxa, hyb]
  refine hQ _ _ _ (.inr rfl) (d6q (v := Bo true) ?_ rfl ⟨⟨_, rfl⟩, hR, fun m hm => by simp [Sg.set, hm a ha], rfl⟩)
  try simp only [a0q, lpv, hl, Nat.reduceLT]
end Go.Proofs

open Go Go.V
namespace Go.Proofs
def cpP (M : Mx) (i : Nat) : Mx := fun x y => decide (x < i) && M x y
theorem w8x {M : Mx} {i n : Nat} (x y : Nat) (hy : y < n) : (if x = i then orB (cpP M i i) (M i) n else cpP M i x) y = cpP M (i + 1) x y := by
 unfold cpP orB
 by_cases h : x = i
 ·subst h; simp [hy]
 ·have : (x < i + 1) ↔ (x < i) := by omega
  simp [h, this]
theorem x8x (M : Mx) (k a y : Nat) : fwB M k a 0 k y = M k y := by
 unfold fwB
 split
 ·unfold fwk; cases M k y <;> simp
 ·rfl
theorem d4j {M : Mx} {k a n : Nat} (h : M a k = true) (x y : Nat) (hy : y < n) : (if x = a then orB (fwB M k a 0 a) (fwB M k a 0 k) n else fwB M k a 0 x) y = fwB M k (a + 1) 0 x y := by
 by_cases hx : x = a
 ·subst hx
  rw [if_pos rfl]
  unfold orB
  rw [x8x]
  simp [fwB, fwk, h, hy]
 ·rw [if_neg hx]
  unfold fwB
  have : (x < a ∨ (x = a ∧ y < 0)) ↔ (x < a + 1 ∨ (x = a + 1 ∧ y < 0)) := by omega
  simp only [this]
set_option maxRecDepth 20000 in
theorem a8j (s : Sg) (p n : Nat) (M : Mx) (na : Nat) (rp rq : Nat → Nat) (h : RelP s p n M na rp rq) : f8q Tryz.prog 65 [.ptr p 0] s (NewP s n M) := by
 refine b6q Tryz.func65 rfl fun Q hQ => ?_
 obtain ⟨e, he, hl, h0⟩ : ∃ e : Env, ([.ptr p 0] ++ List.replicate (Tryz.f65.ntmps - ([.ptr p 0] : List V).length) .junk) = e ∧ e.length = 33 ∧ ev e (.tmp 0) = .ptr p 0 := ⟨_, rfl, rfl, rfl⟩
 rw [he]
 clear he
 have hle := h.le
 refine vsk fun K1 hK1 => ?_
 refine a3q 0 [] ?_
 simp only [bs, ↓vopx, ↓vop, a1q, flat, wocs, ↓goc, ↓woc, ↓a2q]
 refine hK1 _ _ ?_
 refine vsk fun K2 hK2 => ?_
 refine a3q 0 [.det (I n) s, .stop] ?_
 simp only [bs, ↓vopx, ↓vop, Nat.reduceBEq, a1q, Nat.reduceLT, hl, h0, wocs, ↓goc, ↓woc, ↓a2q, ↓b8q, a6q]
 refine ⟨⟨Tryz.is83, b4x s p n na h.hp⟩, Tryz.is42, (s2z s n hle).mono fun v s2 hv => ?_⟩
 obtain ⟨c, na1, rp1, rq1, rfl, hR, hF, hk, hnx⟩ := hv
 try simp only [bs, Nat.reduceBEq, Nat.reduceLT, hl, h0, Hold]
 refine hK2 _ _ ?_
 refine vsk fun K3 hK3 => ?_
 refine vsk fun K4 hK4 => ?_
 have hRp := hR.hp
 refine a3q 0 [] ?_
 simp only [bs, f0q, ↓vopx, ↓vop, a1q, flat, Nat.reduceLT, a8q, b0q, hl, wocs, ↓goc, ↓woc, ↓a2q, Tryz.ag104, Tryz.fd106_0, Tryz.sz104, Tryz.un104, hRp]
 refine hK4 _ _ ?_
 refine a5q ?_
 refine c2q (fun mm e' s' => ∃ i : Nat, mm = n - i ∧ i ≤ n ∧ e'.length = 33 ∧ ev e' (.tmp 0) = .ptr p 0 ∧ ev e' (.tmp 3) = .ptr c 0 ∧ ev e' (.tmp 12) = I n ∧ ev e' (.tmp 13) = I i ∧ True ∧ RelP s' c n (cpP M i) na1 rp1 rq1 ∧ Keep s s' ∧ s.next ≤ s'.next) (⟨0, rfl, Nat.zero_le _, ?_⟩) ?_
 ·try simp only [a0q, a4q, Nat.reduceBEq, lpv, hl, h0, Nat.reduceLT, true_and]
  repeat ((with_reducible refine And.intro ?_ ?_); · trivial)
  all_goals (first | exact hnx | exact ⟨hR.congr fun x y hx hy => by simp [cpP], hk, hnx⟩)
 rintro mm e s1 ⟨i, rfl, hle_i, hl, h0, h3, h12, h_i, hst, ⟨hd, hkeep, hnx⟩⟩
 refine vsk fun K5 hK5 => ?_
 refine a3q 0 [] ?_
 simp only [a1q, opII, h12, h_i, wocs, ↓goc, ↓woc]
 refine hK5 _ _ ?_
 refine vsk fun K6 hK6 => ?_
 refine vck fun A B hA hB => ?_
 simp only [b2q, a0q, Nat.reduceLT, decide_eq_true_eq, decide_eq_false_iff_not, hl]
 refine ⟨fun hc14 => hA ?_, fun hc14 => hB ?_⟩
 ·clear hA hB A B
  refine a9q ?_
  refine hK6 _ _ ?_
  refine vsk fun K7 hK7 => ?_
  refine a5q ?_
  refine vsk fun K8 hK8 => ?_
  refine a3q 0 [] ?_
  simp only [bs, ↓vopx, ↓vop, Nat.reduceBEq, a1q, Nat.reduceLT, hl, h_i, wocs, ↓goc, ↓woc, ↓a2q]
  refine hK8 _ _ ?_
  have hs := h.keep hkeep hnx
  have xp := hd.hp
  have xa := hd.ha
  have xg : (List.range n)[i]? = some i := List.getElem?_range (by omega)
  have yp := hs.hp
  have ya := hs.ha
  have yg : (List.range n)[i]? = some i := List.getElem?_range (by omega)
  have hlq := h.lq i (by omega)
  have hfq := hF.hq i (by omega)
  refine c5q Tryz.mixed 14 [0, 0, 0, 1, 0, 1, 1, 0, 0, 0, 1, 0, 1, 1] [.det (Bo (anyK (cpP M i i) (M i) n)) (s1.set (rq1 i) (.arr 1 130 (rowW n (orB (cpP M i i) (M i) n))))] [] 0 (by decide +kernel) (by simp [lpv, hl]) rfl ?_
  simp only [bs, f0q, ↓vopx, ↓vop, Nat.reduceBEq, a1q, b5q, Nat.reduceLT, a8q, b0q, hl, h0, h3, wocs, ↓goc, ↓woc, ↓e3q, ↓b8q, a6q, chn, ↓goq, ↓woq, List.zip_cons_cons, List.zip_nil_right, Tryz.ag107, Tryz.ag104, Tryz.fd106_0, Tryz.sz107, Tryz.sz104, Tryz.un104, xp, xa, xg, yp, ya]
  repeat ((with_reducible refine And.intro ?_ ?_); · first | (with_reducible assumption) | exact ⟨Tryz.is66, l0x s1 (rp1 i) (rq1 i) n _ (hd.row (by omega)) (rp i) (rq i) _ (hs.row (by omega)) (hd.lr i (by omega)) (hd.lq i (by omega)) (hs.lr i (by omega)) (hs.lq i (by omega)) (fun e => by omega)⟩)
  refine hK7 _ _ ?_
  refine a3q 0 [] ?_
  simp only [bs, ↓vopx, ↓vop, Nat.reduceBEq, a1q, flat, Nat.reduceLT, opII, hl, h0, h3, h12, h_i, wocs, ↓goc, ↓woc, ↓a2q]
  repeat ((with_reducible refine And.intro ?_ ?_); · exact ⟨by omega, by omega⟩)
  refine ⟨n - (i + 1), by omega, i + 1, rfl, by omega, ?_⟩
  try simp only [a0q, a4q, Nat.reduceBEq, lpv, hl, h0, h3, h12, h_i, if_true, if_false, Nat.reduceEqDiff, Nat.reduceLT, true_and, and_true]
  repeat ((with_reducible refine And.intro ?_ ?_); · trivial)
  exact ⟨(hd.put (by omega) _).congr fun x y hx hy => w8x x y hy, hkeep.set (hF.hq i (by omega)) _, hnx⟩
 ·clear hA hB A B
  have han : n = i := by omega
  subst han
  refine c1q ?_
  simp only [a1q, b5q, if_true]
  refine hK3 _ _ ?_
  refine vsk fun K9 hK9 => ?_
  refine a3q 0 [] ?_
  simp only [bs, ↓vopx, ↓vop, Nat.reduceBEq, a1q, Nat.reduceLT, hl, h3, wocs, ↓goc, ↓woc, ↓a2q]
  refine hK9 _ _ ?_
  refine b1q ?_
  refine hQ _ _ _ (.inr rfl) (d6q (v := .ptr c 0) ?_ rfl ⟨c, na1, rp1, rq1, rfl, hd.congr fun x y hx hy => by simp [cpP, hx], hF, hkeep, hnx⟩)
  try simp only [a0q, lpv, hl, Nat.reduceLT]
set_option maxRecDepth 20000 in
theorem j9z (s : Sg) (p n : Nat) (M : Mx) (na : Nat) (rp rq : Nat → Nat) (h : RelP s p n M na rp rq) : f8q Tryz.prog 44 [.ptr p 0] s (NewP s n (cloK M n)) := by
 refine b6q Tryz.func44 rfl fun Q hQ => ?_
 obtain ⟨e, he, hl, h0⟩ : ∃ e : Env, ([.ptr p 0] ++ List.replicate (Tryz.f44.ntmps - ([.ptr p 0] : List V).length) .junk) = e ∧ e.length = 46 ∧ ev e (.tmp 0) = .ptr p 0 := ⟨_, rfl, rfl, rfl⟩
 rw [he]
 clear he
 have hle := h.le
 refine vsk fun K1 hK1 => ?_
 refine a3q 0 [] ?_
 simp only [bs, ↓vopx, ↓vop, a1q, flat, wocs, ↓goc, ↓woc, ↓a2q]
 refine hK1 _ _ ?_
 refine vsk fun K2 hK2 => ?_
 refine a3q 0 [.stop] ?_
 simp only [bs, ↓vopx, ↓vop, Nat.reduceBEq, a1q, Nat.reduceLT, hl, h0, wocs, ↓goc, ↓woc, ↓a2q, ↓b8q, a6q]
 refine ⟨Tryz.is65, (a8j s p n M na rp rq h).mono fun v s2 hv => ?_⟩
 obtain ⟨c, na1, rp1, rq1, rfl, hR, hF, hk, hnx⟩ := hv
 try simp only [bs, Nat.reduceBEq, Nat.reduceLT, hl, h0, Hold]
 refine hK2 _ _ ?_
 refine vsk fun K3 hK3 => ?_
 refine vsk fun K4 hK4 => ?_
 have hRp := hR.hp
 refine a3q 0 [] ?_
 simp only [bs, f0q, ↓vopx, ↓vop, a1q, flat, Nat.reduceLT, a8q, b0q, hl, wocs, ↓goc, ↓woc, ↓a2q, Tryz.ag104, Tryz.fd106_0, Tryz.sz104, Tryz.un104, hRp]
 refine hK4 _ _ ?_
 refine a5q ?_
 refine c2q (fun mm e' s' => ∃ k : Nat, mm = n - k ∧ k ≤ n ∧ e'.length = 46 ∧ ev e' (.tmp 3) = .ptr c 0 ∧ ev e' (.tmp 12) = I n ∧ ev e' (.tmp 13) = I k ∧ True ∧ RelP s' c n (cloK M k) na1 rp1 rq1 ∧ Keep s s' ∧ s.next ≤ s'.next) (⟨0, rfl, Nat.zero_le _, ?_⟩) ?_
 ·try simp only [a0q, a4q, Nat.reduceBEq, lpv, hl, Nat.reduceLT, true_and]
  repeat ((with_reducible refine And.intro ?_ ?_); · trivial)
  all_goals (first | exact hnx | exact ⟨hd, hkeep, hnx⟩ | exact ⟨hR, hk, hnx⟩)
 rintro mm e s1 ⟨k, rfl, hle_k, hl, h3, h12, h_k, hst, ⟨hd, hkeep, hnx⟩⟩
 refine vsk fun K5 hK5 => ?_
 refine a3q 0 [] ?_
 simp only [a1q, opII, h12, h_k, wocs, ↓goc, ↓woc]
 refine hK5 _ _ ?_
 refine vsk fun K6 hK6 => ?_
 refine vck fun A B hA hB => ?_
 simp only [b2q, a0q, Nat.reduceLT, decide_eq_true_eq, decide_eq_false_iff_not, hl]
 refine ⟨fun hc14 => hA ?_, fun hc14 => hB ?_⟩
 ·clear hA hB A B
  refine a9q ?_
  refine hK6 _ _ ?_
  refine vsk fun K7 hK7 => ?_
  refine a5q ?_
  refine vsk fun K8 hK8 => ?_
  refine a3q 0 [] ?_
  simp only [bs, ↓vopx, ↓vop, Nat.reduceBEq, a1q, Nat.reduceLT, hl, h_k, wocs, ↓goc, ↓woc, ↓a2q]
  refine hK8 _ _ ?_
  refine vsk fun K9 hK9 => ?_
  have hdp := hd.hp
  refine a3q 0 [] ?_
  simp only [bs, f0q, ↓vopx, ↓vop, Nat.reduceBEq, a1q, flat, Nat.reduceLT, a8q, b0q, hl, h3, wocs, ↓goc, ↓woc, ↓a2q, Tryz.ag104, Tryz.fd106_0, Tryz.sz104, Tryz.un104, hdp]
  refine hK9 _ _ ?_
  refine a5q ?_
  refine c2q (fun mm e' s' => ∃ a : Nat, mm = n - a ∧ a ≤ n ∧ e'.length = 46 ∧ ev e' (.tmp 3) = .ptr c 0 ∧ ev e' (.tmp 12) = I n ∧ ev e' (.tmp 13) = I k ∧ ev e' (.tmp 4) = I k ∧ ev e' (.tmp 20) = I n ∧ ev e' (.tmp 21) = I a ∧ True ∧ RelP s' c n (fwB (cloK M k) k a 0) na1 rp1 rq1 ∧ Keep s s' ∧ s.next ≤ s'.next) (⟨0, rfl, Nat.zero_le _, ?_⟩) ?_
  ·try simp only [a0q, a4q, Nat.reduceBEq, lpv, hl, h3, h12, h_k, Nat.reduceLT, true_and]
   repeat ((with_reducible refine And.intro ?_ ?_); · trivial)
   all_goals (first | exact hnx | exact ⟨hd.congr fun x y hx hy => d5x _ _ x y, hkeep, hnx⟩)
  rintro mm e s1 ⟨a, rfl, hle_a, hl, h3, h12, h13, h4, h20, h_a, hst, ⟨hd, hkeep, hnx⟩⟩
  refine vsk fun K10 hK10 => ?_
  refine a3q 0 [] ?_
  simp only [a1q, opII, h20, h_a, wocs, ↓goc, ↓woc]
  refine hK10 _ _ ?_
  refine vsk fun K11 hK11 => ?_
  refine vck fun A B hA hB => ?_
  simp only [b2q, a0q, Nat.reduceLT, decide_eq_true_eq, decide_eq_false_iff_not, hl]
  refine ⟨fun hc22 => hA ?_, fun hc22 => hB ?_⟩
  ·clear hA hB A B
   refine a9q ?_
   refine hK11 _ _ ?_
   refine vsk fun K12 hK12 => ?_
   refine a5q ?_
   refine vsk fun K13 hK13 => ?_
   refine a3q 0 [] ?_
   simp only [bs, ↓vopx, ↓vop, Nat.reduceBEq, a1q, Nat.reduceLT, hl, h_a, wocs, ↓goc, ↓woc, ↓a2q]
   refine hK13 _ _ ?_
   refine vsk fun K14 hK14 => ?_
   refine a3q 0 [.det (Bo (cloK M k a k)) s1] ?_
   simp only [bs, ↓vopx, ↓vop, Nat.reduceBEq, a1q, Nat.reduceLT, hl, h3, h4, wocs, ↓goc, ↓woc, ↓a2q, ↓b8q, a6q]
   repeat ((with_reducible refine And.intro ?_ ?_); · exact ⟨Tryz.is54, by simpa [show 0 ≤ (a : Int) ∧ (a : Int) < n from by omega, show 0 ≤ (k : Int) ∧ (k : Int) < n from by omega, f2z] using s1z s1 c n _ na1 rp1 rq1 hd a k⟩)
   refine hK14 _ _ ?_
   refine vck fun A B hA hB => ?_
   simp only [b2q, a0q, lpv, Nat.reduceLT, hl]
   refine ⟨fun hc27 => hA ?_, fun hc27 => hB ?_⟩
   ·clear hA hB A B
    have xp := hd.hp
    have xa := hd.ha
    have xg : (List.range n)[a]? = some a := List.getElem?_range (by omega)
    have yp := hd.hp
    have ya := hd.ha
    have yg : (List.range n)[k]? = some k := List.getElem?_range (by omega)
    refine c5q Tryz.mixed 14 [0, 0, 0, 1, 0, 1, 1, 0, 0, 0, 1, 0, 1, 1] [.det (Bo (anyK (fwB (cloK M k) k a 0 a) (fwB (cloK M k) k a 0 k) n)) (s1.set (rq1 a) (.arr 1 130 (rowW n (orB (fwB (cloK M k) k a 0 a) (fwB (cloK M k) k a 0 k) n))))] [] 0 (by decide +kernel) (by simp [lpv, hl]) rfl ?_
    simp only [bs, f0q, ↓vopx, ↓vop, Nat.reduceBEq, a1q, b5q, Nat.reduceLT, a8q, b0q, hl, h3, h4, wocs, ↓goc, ↓woc, ↓e3q, ↓b8q, a6q, chn, ↓goq, ↓woq, List.zip_cons_cons, List.zip_nil_right, Tryz.ag107, Tryz.ag104, Tryz.fd106_0, Tryz.sz107, Tryz.sz104, Tryz.un104, xp, xa, xg, yg]
    repeat ((with_reducible refine And.intro ?_ ?_); · first | (with_reducible assumption) | exact ⟨Tryz.is66, l0x s1 (rp1 a) (rq1 a) n _ (hd.row (by omega)) (rp1 k) (rq1 k) _ (hd.row (by omega)) (hd.lr a (by omega)) (hd.lq a (by omega)) (hd.lr k (by omega)) (hd.lq k (by omega)) (fun e => by rw [hd.inj k a (by omega) (by omega) e])⟩)
    refine hK12 _ _ ?_
    refine a3q 0 [] ?_
    simp only [bs, ↓vopx, ↓vop, Nat.reduceBEq, a1q, flat, Nat.reduceLT, opII, hl, h3, h12, h13, h4, h20, h_a, wocs, ↓goc, ↓woc, ↓a2q]
    repeat ((with_reducible refine And.intro ?_ ?_); · exact ⟨by omega, by omega⟩)
    refine ⟨n - (a + 1), by omega, a + 1, rfl, by omega, ?_⟩
    try simp only [a0q, a4q, Nat.reduceBEq, lpv, hl, h3, h12, h13, h4, h20, h_a, if_true, if_false, Nat.reduceEqDiff, Nat.reduceLT, true_and, and_true]
    repeat ((with_reducible refine And.intro ?_ ?_); · trivial)
    first
    | exact ⟨(hd.put (by omega) _).congr fun x y hx hy => d4j hc27 x y hy, hkeep.set (hF.hq a (by omega)) _, hnx⟩
    | exact ⟨hd.congr fun x y hx hy => f3z hc27 x y, hkeep, hnx⟩
   ·clear hA hB A B
    refine a9q ?_
    refine hK12 _ _ ?_
    refine a3q 0 [] ?_
    simp only [bs, ↓vopx, ↓vop, Nat.reduceBEq, a1q, flat, Nat.reduceLT, opII, hl, h3, h12, h13, h4, h20, h_a, wocs, ↓goc, ↓woc, ↓a2q]
    repeat ((with_reducible refine And.intro ?_ ?_); · exact ⟨by omega, by omega⟩)
    refine ⟨n - (a + 1), by omega, a + 1, rfl, by omega, ?_⟩
    try simp only [a0q, a4q, Nat.reduceBEq, lpv, hl, h3, h12, h13, h4, h20, h_a, if_true, if_false, Nat.reduceEqDiff, Nat.reduceLT, true_and, and_true]
    repeat ((with_reducible refine And.intro ?_ ?_); · trivial)
    first
    | exact ⟨(hd.put (by omega) _).congr fun x y hx hy => d4j hc27 x y hy, hkeep.set (hF.hq a (by omega)) _, hnx⟩
    | exact ⟨hd.congr fun x y hx hy => f3z hc27 x y, hkeep, hnx⟩
  ·clear hA hB A B
   have han : n = a := by omega
   subst han
   refine c1q ?_
   simp only [a1q, b5q, if_true, if_false, Nat.reduceEqDiff, reduceCtorEq]
   refine hK7 _ _ ?_
   refine a3q 0 [] ?_
   simp only [bs, ↓vopx, ↓vop, Nat.reduceBEq, a1q, flat, Nat.reduceLT, opII, hl, h3, h12, h13, wocs, ↓goc, ↓woc, ↓a2q]
   repeat ((with_reducible refine And.intro ?_ ?_); · exact ⟨by omega, by omega⟩)
   refine ⟨n - (k + 1), by omega, k + 1, rfl, by omega, ?_⟩
   try simp only [a0q, a4q, Nat.reduceBEq, lpv, hl, h3, h12, h_k, if_true, if_false, Nat.reduceEqDiff, Nat.reduceLT, true_and, and_true]
   repeat ((with_reducible refine And.intro ?_ ?_); · trivial)
   exact ⟨hd.congr fun x y hx hy => d4x x y hx, hkeep, hnx⟩
 ·clear hA hB A B
  have han : n = k := by omega
  subst han
  refine c1q ?_
  simp only [a1q, b5q, if_true]
  refine hK3 _ _ ?_
  refine vsk fun K15 hK15 => ?_
  refine a3q 0 [] ?_
  simp only [bs, ↓vopx, ↓vop, Nat.reduceBEq, a1q, Nat.reduceLT, hl, h3, wocs, ↓goc, ↓woc, ↓a2q]
  refine hK15 _ _ ?_
  refine b1q ?_
  refine hQ _ _ _ (.inr rfl) (d6q (v := .ptr c 0) ?_ rfl ⟨c, na1, rp1, rq1, rfl, hd, hF, hkeep, hnx⟩)
  try simp only [a0q, lpv, hl, Nat.reduceLT]
end Go.Proofs

open Go Go.V
namespace Go.Proofs
def OfP (s : Sg) (n : Nat) (l : List (Int × Int)) (v : V) (s' : Sg) : Prop :=
 (l.all (inB n) = true ∧ ∃ p na rp rq, v = .tup [.ptr p 0, I 0] ∧ RelP s' p n (mxOf l) na rp rq ∧ FreshP s p n na rp rq ∧ Keep s s' ∧ s.next ≤ s'.next) ∨
 (l.all (inB n) = false ∧ v = .tup [.t (.v (.pointer none)), I 10] ∧ Keep s s' ∧ s.next ≤ s'.next)
theorem upd_row (M : Mx) (a b x y : Nat) : (if x = a then updB (M a) b true else M x) y = updM M a b true x y := by
 unfold updM updB
 by_cases hxa : x = a <;> by_cases hyb : y = b <;> simp [hxa, hyb]
set_option maxRecDepth 20000 in
theorem b0j (s : Sg) (p n : Nat) (M : Mx) (na : Nat) (rp rq : Nat → Nat) (h : RelP s p n M na rp rq) (p1 : Nat) (M1 : Mx) (na1 : Nat) (rp1 rq1 : Nat → Nat) (h' : RelP s p1 n M1 na1 rp1 rq1) : k0q Tryz.prog 92 [.ptr p 0, .ptr p1 0] s (Bo (m2z n M M1)) (s) := by
 refine d0q Tryz.func92 rfl fun Q hQ => ?_
 obtain ⟨e, he, hl, h0, h1⟩ : ∃ e : Env, ([.ptr p 0, .ptr p1 0] ++ List.replicate (Tryz.f92.ntmps - ([.ptr p 0, .ptr p1 0] : List V).length) .junk) = e ∧ e.length = 31 ∧ ev e (.tmp 0) = .ptr p 0 ∧ ev e (.tmp 1) = .ptr p1 0 := ⟨_, rfl, rfl, rfl, rfl⟩
 rw [he]
 clear he
 have hle := h.le
 have hpp := h.hp
 refine vsk fun K1 hK1 => ?_
 refine a3q 0 [] ?_
 simp only [bs, ↓vopx, ↓vop, a1q, flat, wocs, ↓goc, ↓woc, ↓a2q]
 refine hK1 _ _ ?_
 refine vsk fun K2 hK2 => ?_
 refine vsk fun K3 hK3 => ?_
 refine a3q 0 [] ?_
 simp only [bs, f0q, ↓vopx, ↓vop, Nat.reduceBEq, a1q, flat, Nat.reduceLT, a8q, b0q, hl, h0, wocs, ↓goc, ↓woc, ↓a2q, Tryz.ag104, Tryz.fd106_0, Tryz.sz104, Tryz.un104, hpp]
 refine hK3 _ _ ?_
 refine a5q ?_
 refine c2q (fun mm e' s' => ∃ i : Nat, mm = n - i ∧ i ≤ n ∧ e'.length = 31 ∧ ev e' (.tmp 0) = .ptr p 0 ∧ ev e' (.tmp 1) = .ptr p1 0 ∧ ev e' (.tmp 10) = I n ∧ ev e' (.tmp 11) = I i ∧ s = s' ∧ ∀ x, x < i → d4z n (M x) (M1 x) = true) (⟨0, rfl, Nat.zero_le _, ?_⟩) ?_
 ·try simp only [a0q, a4q, Nat.reduceBEq, lpv, hl, h0, h1, Nat.reduceLT, true_and]
  repeat ((with_reducible refine And.intro ?_ ?_); · trivial)
  all_goals (exact fun x hx => by omega)
 rintro mm e _ ⟨i, rfl, hle_i, hl, h0, h1, h10, h_i, rfl, hal⟩
 refine vsk fun K4 hK4 => ?_
 refine a3q 0 [] ?_
 simp only [a1q, opII, h10, h_i, wocs, ↓goc, ↓woc]
 refine hK4 _ _ ?_
 refine vsk fun K5 hK5 => ?_
 refine vck fun A B hA hB => ?_
 simp only [b2q, a0q, Nat.reduceLT, decide_eq_true_eq, decide_eq_false_iff_not, hl]
 refine ⟨fun hc12 => hA ?_, fun hc12 => hB ?_⟩
 ·clear hA hB A B
  refine a9q ?_
  refine hK5 _ _ ?_
  refine vsk fun K6 hK6 => ?_
  refine a5q ?_
  refine vsk fun K7 hK7 => ?_
  refine a3q 0 [] ?_
  simp only [bs, ↓vopx, ↓vop, Nat.reduceBEq, a1q, Nat.reduceLT, hl, h_i, wocs, ↓goc, ↓woc, ↓a2q]
  refine hK7 _ _ ?_
  refine vsk fun K8 hK8 => ?_
  have xp := h.hp
  have xa := h.ha
  have xg : (List.range n)[i]? = some i := List.getElem?_range (by omega)
  have yp := h'.hp
  have ya := h'.ha
  have yg : (List.range n)[i]? = some i := List.getElem?_range (by omega)
  refine c5q Tryz.mixed 14 [0, 0, 0, 1, 0, 1, 1, 0, 0, 0, 1, 0, 1, 1] [.det (Bo (d4z n (M i) (M1 i))) s] [] 0 (by decide +kernel) (by simp [lpv, hl]) rfl ?_
  simp only [bs, f0q, ↓vopx, ↓vop, Nat.reduceBEq, a1q, Nat.reduceLT, a8q, b0q, hl, h0, h1, wocs, ↓goc, ↓woc, ↓a2q, ↓e3q, ↓b8q, a6q, chn, ↓goq, ↓woq, List.zip_cons_cons, List.zip_nil_right, Tryz.ag107, Tryz.ag104, Tryz.fd106_0, Tryz.sz107, Tryz.sz104, Tryz.un104, xp, xa, xg, yp, ya]
  repeat ((with_reducible refine And.intro ?_ ?_); · first | (with_reducible assumption) | exact ⟨Tryz.is99, l1x s (rp i) (rq i) n (M i) (h.row (by omega)) (rp1 i) (rq1 i) (M1 i) (h'.row (by omega))⟩)
  refine hK8 _ _ ?_
  refine vck fun A B hA hB => ?_
  simp only [b2q, a0q, lpv, Nat.reduceLT, Bool.not_eq_true', Bool.not_eq_false', hl]
  refine ⟨fun hc29 => hA ?_, fun hc29 => hB ?_⟩
  ·clear hA hB A B
   refine vsk fun K9 hK9 => ?_
   refine a3q 0 [] ?_
   simp only [bs, ↓vopx, ↓vop, a1q, flat, wocs, ↓goc, ↓woc, ↓a2q]
   refine hK9 _ _ ?_
   refine b1q ?_
   refine hQ _ _ _ (.inr rfl) (Done.toS (a7q ?_ fun n b hn h => h))
   try simp only [a0q, lpv, hl, Nat.reduceLT]
   rw [show m2z n M M1 = false from by unfold m2z; rw [List.all_eq_false]; exact ⟨i, by simp; omega, by have := hc29; unfold d4z at this; simp only [this]; simp⟩]
  ·clear hA hB A B
   refine a9q ?_
   refine hK6 _ _ ?_
   refine a3q 0 [] ?_
   simp only [bs, ↓vopx, ↓vop, Nat.reduceBEq, a1q, flat, Nat.reduceLT, opII, hl, h0, h1, h10, h_i, wocs, ↓goc, ↓woc, ↓a2q]
   repeat ((with_reducible refine And.intro ?_ ?_); · exact ⟨by omega, by omega⟩)
   refine ⟨n - (i + 1), by omega, i + 1, rfl, by omega, ?_⟩
   try simp only [a0q, a4q, Nat.reduceBEq, lpv, hl, h0, h1, h10, h_i, if_true, if_false, Nat.reduceEqDiff, Nat.reduceLT, true_and, and_true]
   repeat ((with_reducible refine And.intro ?_ ?_); · trivial)
   intro x hx
   rcases Nat.lt_succ_iff_lt_or_eq.1 hx with hx | rfl
   ·exact hal x hx
   ·exact hc29
 ·clear hA hB A B
  have han : n = i := by omega
  refine c1q ?_
  simp only [a1q, b5q, if_true]
  refine hK2 _ _ ?_
  refine vsk fun K10 hK10 => ?_
  refine a3q 0 [] ?_
  simp only [bs, ↓vopx, ↓vop, a1q, flat, wocs, ↓goc, ↓woc, ↓a2q]
  refine hK10 _ _ ?_
  refine b1q ?_
  refine hQ _ _ _ (.inr rfl) (Done.toS (a7q ?_ fun n b hn h => h))
  try simp only [a0q, lpv, hl, Nat.reduceLT]
  rw [show m2z n M M1 = true from by unfold m2z; rw [List.all_eq_true]; exact fun x hx => hal x (by have := List.mem_range.1 hx; omega)]
set_option maxRecDepth 20000 in
theorem r9x (s : Sg) (p n : Nat) (M : Mx) (na : Nat) (rp rq : Nat → Nat) (h : RelP s p n M na rp rq) : k0q Tryz.prog 74 [.ptr p 0] s (Bo (t0z n M)) (s) := by
 refine d0q Tryz.func74 rfl fun Q hQ => ?_
 obtain ⟨e, he, hl, h0⟩ : ∃ e : Env, ([.ptr p 0] ++ List.replicate (Tryz.f74.ntmps - ([.ptr p 0] : List V).length) .junk) = e ∧ e.length = 11 ∧ ev e (.tmp 0) = .ptr p 0 := ⟨_, rfl, rfl, rfl⟩
 rw [he]
 clear he
 refine vsk fun K1 hK1 => ?_
 refine a3q 0 [] ?_
 simp only [bs, ↓vopx, ↓vop, a1q, flat, wocs, ↓goc, ↓woc, ↓a2q]
 refine hK1 _ _ ?_
 refine vsk fun K2 hK2 => ?_
 refine a3q 0 [.far (.bool false), .stop, .stop] ?_
 simp only [bs, ↓vopx, ↓vop, Nat.reduceBEq, a1q, flat, Nat.reduceLT, gtmp, hl, h0, wocs, ↓goc, ↓woc, ↓a2q, ↓b8q, ↓c8q, a6q, ↓m2q, ↓farC]
 refine ⟨n3z _ _ _ _ _ Tryz.underlying79 _ _, Tryz.is44, (j9z s p n M na rp rq h).mono fun v s2 hv => ?_⟩
 obtain ⟨c, na1, rp1, rq1, rfl, hR, hF, hk, hnx⟩ := hv
 try simp only [bs, Nat.reduceBEq, flat, Nat.reduceLT, hl, h0, ↓c8q, Hold]
 refine ⟨Tryz.is92, (b0j s2 p n M na rp rq (h.keep hk hnx) c _ na1 rp1 rq1 hR).v ?_⟩
 try simp only [bs, dstT, srcT, Nat.reduceLeDiff, Nat.reduceAdd, d9q, g7q, repl, Sg.frzP, f0q, wops, ↓gow, ↓wop, vops, ↓gop, ↓vopx, ↓vop, Nat.reduceBEq, a1q, b5q, flat, Nat.reduceEqDiff, Nat.reduceLT, V.cells, a8q, b0q, opII, opSS, gtmp, Sg.frzL, Sg.frz1, reduceCtorEq, hl, h0, wocs, ↓goc, ↓woc, ↓a2q, ↓e3q, ↓j6x, ↓b8q, ↓h3q, ↓c8q, ↓e5q, ↓m5q, a6q, ↓m2q, ↓farC, List.append_nil, Hold]
 refine hK2 _ _ ?_
 refine b1q ?_
 refine hQ _ _ _ (.inr rfl) (Done.toS (a7q ?_ hk))
 try simp only [a0q, lpv, hl, Nat.reduceLT]
 rfl
set_option maxRecDepth 20000 in
theorem relOf_ (s : Sg) (n : Nat) (hn : n ≤ 200) (l : List (Int × Int)) (hl0 : l.length < 1000000000) : f8q Tryz.prog 73 [I n, .t (b3q l)] s (OfP s n l) := by
 refine b6q Tryz.func73 rfl fun Q hQ => ?_
 obtain ⟨e, he, hl, h0, h1⟩ : ∃ e : Env, ([I n, .t (b3q l)] ++ List.replicate (Tryz.f73.ntmps - ([I n, .t (b3q l)] : List V).length) .junk) = e ∧ e.length = 48 ∧ ev e (.tmp 0) = I n ∧ ev e (.tmp 1) = .t (b3q l) := ⟨_, rfl, rfl, rfl, rfl⟩
 rw [he]
 clear he
 have hn1 : ¬ ((n : Int) < 0) := by omega
 have hn2 : ¬ ((n : Int) > 200) := by omega
 refine vsk fun K1 hK1 => ?_
 refine a3q 0 [] ?_
 simp only [bs, ↓vopx, ↓vop, a1q, flat, wocs, ↓goc, ↓woc, ↓a2q]
 refine hK1 _ _ ?_
 refine vsk fun K2 hK2 => ?_
 refine vsk fun K3 hK3 => ?_
 refine a3q 0 [] ?_
 simp only [bs, ↓vopx, ↓vop, Nat.reduceBEq, a1q, flat, Nat.reduceLT, opII, gtmp, hl, h0, wocs, ↓goc, ↓woc, ↓a2q, ↓c8q, hn1, hn2]
 refine hK3 _ _ ?_
 refine vck fun A B hA hB => ?_
 simp only [b2q, a0q, lpv, Nat.reduceLT, true_implies, reduceCtorEq, false_implies, true_and, hl]
 refine hB ?_
 clear hA hB A B
 refine a9q ?_
 refine hK2 _ _ ?_
 refine vsk fun K4 hK4 => ?_
 refine a3q 0 [.stop] ?_
 simp only [bs, ↓vopx, ↓vop, Nat.reduceBEq, a1q, Nat.reduceLT, hl, h0, wocs, ↓goc, ↓woc, ↓a2q, ↓b8q, a6q]
 refine ⟨Tryz.is42, (s2z s n hn).mono fun v s2 hv => ?_⟩
 obtain ⟨c, na1, rp1, rq1, rfl, hR, hF, hk, hnx⟩ := hv
 try simp only [bs, Nat.reduceBEq, Nat.reduceLT, hl, h0, Hold]
 refine hK4 _ _ ?_
 refine vsk fun K5 hK5 => ?_
 refine vsk fun K6 hK6 => ?_
 refine a3q 0 [] ?_
 simp only [bs, ↓vopx, ↓vop, Nat.reduceBEq, a1q, flat, Nat.reduceLT, hl, h1, wocs, ↓goc, ↓woc, ↓a2q, g2q]
 refine hK6 _ _ ?_
 refine a5q ?_
 refine c2q (fun mm e' s' => ∃ i : Nat, mm = l.length - i ∧ i ≤ l.length ∧ e'.length = 48 ∧ ev e' (.tmp 17) = .t (b3q l) ∧ ev e' (.tmp 6) = .ptr c 0 ∧ ev e' (.tmp 18) = I l.length ∧ ev e' (.tmp 19) = I i ∧ True ∧ RelP s' c n (mxOf (l.take i)) na1 rp1 rq1 ∧ (l.take i).all (inB n) = true ∧ Keep s s' ∧ s.next ≤ s'.next) (⟨0, rfl, Nat.zero_le _, ?_⟩) ?_
 ·try simp only [a0q, a4q, Nat.reduceBEq, lpv, hl, Nat.reduceLT, true_and]
  repeat ((with_reducible refine And.intro ?_ ?_); · trivial)
  all_goals (first | exact hnx | exact ⟨hR.congr fun x y hx hy => by simp [mxOf], by simp, hk, hnx⟩)
 rintro mm e s1 ⟨i, rfl, hle_i, hl, h17, h6, h18, h_i, hst, ⟨hd, hall, hkeep, hnx⟩⟩
 refine vsk fun K7 hK7 => ?_
 refine a3q 0 [] ?_
 simp only [a1q, opII, h18, h_i, wocs, ↓goc, ↓woc]
 refine hK7 _ _ ?_
 refine vsk fun K8 hK8 => ?_
 refine vck fun A B hA hB => ?_
 simp only [b2q, a0q, Nat.reduceLT, decide_eq_true_eq, decide_eq_false_iff_not, hl]
 refine ⟨fun hc20 => hA ?_, fun hc20 => hB ?_⟩
 ·clear hA hB A B
  refine a9q ?_
  refine hK8 _ _ ?_
  refine vsk fun K9 hK9 => ?_
  refine a5q ?_
  refine vsk fun K10 hK10 => ?_
  have hlt : i < l.length := by omega
  obtain ⟨p, hp⟩ : ∃ p, l[i]? = some p := ⟨_, List.getElem?_eq_getElem hlt⟩
  have g0 := z7z hp
  have hfl := d7q l
  have hi2 : i * 2 < l.length * 2 := by omega
  refine a3q 0 [] ?_
  simp only [bs, Nat.reduceAdd, ↓vopx, ↓vop, Nat.reduceBEq, a1q, Nat.reduceLT, V.cells, a8q, b0q, hl, h17, h_i, wocs, ↓goc, ↓woc, ↓a2q, Tryz.ag65, Tryz.sz65, Tryz.un27, Tryz.zv65, g0, hfl, hi2]
  refine hK10 _ _ ?_
  refine vsk fun K11 hK11 => ?_
  refine vsk fun K12 hK12 => ?_
  refine d4q fun e2 sb hE2 hSb => ?_
  subst hE2
  have hbx : sb.m s1.next = some (.box 65 [I p.1, I p.2]) := by rw [hSb]; simp [Sg.set, Sg.add]
  have hd2 : RelP sb c n (mxOf (l.take i)) na1 rp1 rq1 := by rw [hSb]; exact hd.keep (((Keep.refl s1).add (Nat.le_refl _) _).set (Nat.le_refl _) _) (by simp [Sg.set, Sg.add])
  rcases (show (¬ (0 ≤ p.1 ∧ p.1 < n)) ∨ ((0 ≤ p.1 ∧ p.1 < n) ∧ ¬ (0 ≤ p.2 ∧ p.2 < n)) ∨ ((0 ≤ p.1 ∧ p.1 < n) ∧ (0 ≤ p.2 ∧ p.2 < n)) by omega) with ha | ⟨ha, hb⟩ | hin
  ·have hbad : inB n p = false := by simp only [inB, ha, decide_false, Bool.false_and]
   refine a3q 0 [.det (Bo (decide (0 ≤ p.1 ∧ p.1 < n))) sb] ?_
   simp only [bs, ↓vopx, ↓vop, Nat.reduceBEq, a1q, flat, Nat.reduceLT, a8q, b0q, gtmp, hl, h6, wocs, ↓goc, ↓woc, ↓a2q, ↓b8q, ↓e5q, a6q, Tryz.ag3, Tryz.fd65_0, Tryz.sz3, hbx, ha]
   repeat ((with_reducible refine And.intro ?_ ?_); · exact ⟨Tryz.is63, by simpa only [*, and_self, decide_true, decide_false] using j5q sb c n na1 hd2.hp p.1⟩)
   refine hK12 _ _ ?_
   refine vck fun A B hA hB => ?_
   simp only [b2q, a0q, lpv, Nat.reduceLT, true_implies, reduceCtorEq, false_implies, and_true, hl]
   refine hA ?_
   clear hA hB A B
   refine vsk fun K13 hK13 => ?_
   refine a3q 0 [] ?_
   simp only [bs, ↓vopx, ↓vop, a1q, flat, wocs, ↓goc, ↓woc, ↓a2q]
   refine hK13 _ _ ?_
   refine b1q ?_
   refine hQ _ _ _ (.inr rfl) (o3q (v := .t (.v (.pointer none))) (v' := I 10) ?_ ?_ rfl rfl (.inr ⟨b0z hp hbad, rfl, by rw [hSb]; exact ((hkeep.add hnx _).set (by omega) _), by rw [hSb]; simp [Sg.set, Sg.add]; omega⟩))
   try simp only [a0q, a4q, Nat.reduceBEq, lpv, hl, Nat.reduceLT]
   try simp only [a0q, lpv, hl, Nat.reduceLT]
  ·have hbad : inB n p = false := by simp only [inB, hb, decide_false, Bool.and_false]
   refine a3q 0 [.det (Bo (decide (0 ≤ p.1 ∧ p.1 < n))) sb, .det (Bo (decide (0 ≤ p.2 ∧ p.2 < n))) sb] ?_
   simp only [bs, ↓vopx, ↓vop, Nat.reduceBEq, a1q, flat, Nat.reduceLT, a8q, b0q, gtmp, hl, h6, wocs, ↓goc, ↓woc, ↓a2q, ↓b8q, ↓c8q, a6q, Tryz.ag3, Tryz.fd65_0, Tryz.fd65_1, Tryz.sz3, hbx, ha, hb, and_self]
   repeat ((with_reducible refine And.intro ?_ ?_); · first | exact ⟨Tryz.is63, by simpa only [*, and_self, decide_true, decide_false] using j5q sb c n na1 hd2.hp p.1⟩ | exact ⟨Tryz.is63, by simpa only [*, and_self, decide_true, decide_false] using j5q sb c n na1 hd2.hp p.2⟩)
   refine hK12 _ _ ?_
   refine vck fun A B hA hB => ?_
   simp only [b2q, a0q, lpv, Nat.reduceLT, true_implies, reduceCtorEq, false_implies, and_true, hl]
   refine hA ?_
   clear hA hB A B
   refine vsk fun K14 hK14 => ?_
   refine a3q 0 [] ?_
   simp only [bs, ↓vopx, ↓vop, a1q, flat, wocs, ↓goc, ↓woc, ↓a2q]
   refine hK14 _ _ ?_
   refine b1q ?_
   refine hQ _ _ _ (.inr rfl) (o3q (v := .t (.v (.pointer none))) (v' := I 10) ?_ ?_ rfl rfl (.inr ⟨b0z hp hbad, rfl, by rw [hSb]; exact ((hkeep.add hnx _).set (by omega) _), by rw [hSb]; simp [Sg.set, Sg.add]; omega⟩))
   try simp only [a0q, a4q, Nat.reduceBEq, lpv, hl, Nat.reduceLT]
   try simp only [a0q, lpv, hl, Nat.reduceLT]
  ·refine a3q 0 [.det (Bo (decide (0 ≤ p.1 ∧ p.1 < n))) sb, .det (Bo (decide (0 ≤ p.2 ∧ p.2 < n))) sb] ?_
   simp only [bs, ↓vopx, ↓vop, Nat.reduceBEq, a1q, flat, Nat.reduceLT, a8q, b0q, gtmp, hl, h6, wocs, ↓goc, ↓woc, ↓a2q, ↓b8q, ↓c8q, a6q, Tryz.ag3, Tryz.fd65_0, Tryz.fd65_1, Tryz.sz3, hbx, hin, and_self]
   repeat ((with_reducible refine And.intro ?_ ?_); · first | exact ⟨Tryz.is63, by simpa only [*, and_self, decide_true, decide_false] using j5q sb c n na1 hd2.hp p.1⟩ | exact ⟨Tryz.is63, by simpa only [*, and_self, decide_true, decide_false] using j5q sb c n na1 hd2.hp p.2⟩)
   refine hK12 _ _ ?_
   refine vck fun A B hA hB => ?_
   simp only [b2q, a0q, lpv, Nat.reduceLT, true_implies, reduceCtorEq, false_implies, true_and, hl]
   refine hB ?_
   clear hA hB A B
   refine a9q ?_
   refine hK11 _ _ ?_
   obtain ⟨a, ha⟩ : ∃ a : Nat, p.1 = (a : Int) := ⟨p.1.toNat, by omega⟩
   obtain ⟨b, hb⟩ : ∃ b : Nat, p.2 = (b : Int) := ⟨p.2.toNat, by omega⟩
   have x1 := hd2.hp
   have x2 := hd2.ha
   have x3 : (List.range n)[a]? = some a := List.getElem?_range (by omega)
   refine c5q Tryz.mixed 10 [0, 0, 0, 1, 0, 1, 1, 1, 0, 1] [.det (.tup []) (sb.set (rq1 a) (.arr 1 130 (rowW n (updB (mxOf (l.take i) a) b true))))] [] 0 (by decide +kernel) (by simp [lpv, hl]) rfl ?_
   simp only [bs, f0q, ↓vopx, ↓vop, Nat.reduceBEq, a1q, b5q, flat, Nat.reduceLT, a8q, b0q, hl, h6, wocs, ↓goc, ↓woc, ↓e3q, ↓b8q, a6q, chn, ↓goq, ↓woq, List.zip_cons_cons, List.zip_nil_right, Tryz.ag107, Tryz.ag104, Tryz.ag3, Tryz.fd106_0, Tryz.fd65_0, Tryz.fd65_1, Tryz.sz107, Tryz.sz104, Tryz.sz3, Tryz.un104, hbx, ha, hb, x1, x2, x3]
   repeat ((with_reducible refine And.intro ?_ ?_); · first | omega | exact ⟨Tryz.is64, p9z sb (rp1 a) (rq1 a) n _ (hd2.row (by omega)) (hd2.lq a (by omega)) b (by omega)⟩)
   refine hK9 _ _ ?_
   refine a3q 0 [] ?_
   simp only [bs, ↓vopx, ↓vop, Nat.reduceBEq, a1q, flat, Nat.reduceLT, opII, hl, h17, h6, h18, h_i, wocs, ↓goc, ↓woc, ↓a2q]
   repeat ((with_reducible refine And.intro ?_ ?_); · exact ⟨by omega, by omega⟩)
   refine ⟨l.length - (i + 1), by omega, i + 1, rfl, by omega, ?_⟩
   try simp only [a0q, a4q, Nat.reduceBEq, lpv, hl, h17, h6, h18, h_i, if_true, if_false, Nat.reduceEqDiff, Nat.reduceLT, true_and, and_true]
   repeat ((with_reducible refine And.intro ?_ ?_); · trivial)
   refine ⟨?_, e5z hp hall (by simp [inB, hin.1, hin.2]), ?_, ?_⟩
   ·rw [r4q hp, c7z]; rw [show p.1.toNat = a from by omega, show p.2.toNat = b from by omega]; exact (hd2.put (by omega) _).congr fun x y hx hy => upd_row _ _ _ _ _
   ·rw [hSb]; exact ((hkeep.add hnx _).set (by omega) _).set (hF.hq a (by omega)) _
   ·rw [hSb]; simp [Sg.set, Sg.add]; omega
 ·clear hA hB A B
  have han : i = l.length := by omega
  rw [han, List.take_length] at hall hd
  refine c1q ?_
  simp only [a1q, b5q, if_true]
  refine hK5 _ _ ?_
  refine vsk fun K15 hK15 => ?_
  refine a3q 0 [] ?_
  simp only [bs, ↓vopx, ↓vop, Nat.reduceBEq, a1q, flat, Nat.reduceLT, hl, h6, wocs, ↓goc, ↓woc, ↓a2q]
  refine hK15 _ _ ?_
  refine b1q ?_
  refine hQ _ _ _ (.inr rfl) (o3q (v := .ptr c 0) (v' := I 0) ?_ ?_ rfl rfl (.inl ⟨hall, c, na1, rp1, rq1, rfl, hd, hF, hkeep, hnx⟩))
  try simp only [a0q, a4q, Nat.reduceBEq, lpv, hl, Nat.reduceLT]
  try simp only [a0q, lpv, hl, Nat.reduceLT]
end Go.Proofs

open Go Go.V
namespace Go.Proofs
structure EachI (n0 cb p n : Nat) (M : Mx) (na : Nat) (rp rq : Nat → Nat) (Iv : (Nat → Prop) → Nat → Nat → Sg → Prop) : Prop where
 hI : ∀ X a b s, Iv X a b s → s.m cb = some (.box 79 [.ptr p 0]) ∧ RelP s p n M na rp rq ∧ ∀ x, X x → x < s.next
 hadd : ∀ X a b s k, Iv X a b s → Iv (fun m => X m ∨ m = s.next) a b (s.add k)
 hset : ∀ X a b s x k, Iv X a b s → X x → Iv X a b (s.set x k)
 hdel : ∀ X a b s x, Iv X a b s → X x → Iv X a b (s.del x)
 hsk : ∀ X a b s, a < n → b < n → M a b = false → Iv X a b s → Iv X a (b + 1) s
 hrow : ∀ X a s, a < n → Iv X a n s → Iv X (a + 1) 0 s
 hY : ∀ X a b s, a < n → b < n → M a b = true → Iv X a b s → w8q Tryz.prog n0 [I a, I b] s fun v s' => v = Bo true ∧ Iv X a (b + 1) s' ∧ ∀ x, X x → s'.m x = s.m x
structure RowI (Iv : (Nat → Prop) → Nat → Nat → Sg → Prop) (X : Nat → Prop) (n0 yb ab cb2 nl a : Nat) (rpa : Nat) (lp : Blk) (k : Nat) (s : Sg) : Prop where
 iv : Iv X a k s
 y : s.m yb = some (.box 54 [.yl n0])
 a : s.m ab = some (.box 3 [I a])
 c : s.m cb2 = some (.box 107 [.ptr rpa 0])
 l : s.m nl = some lp
def YielE (n0 yb : Nat) (Iv : (Nat → Prop) → Nat → Nat → Sg → Prop) (a : Nat) (s : Sg) : Prop := ∃ X, Iv X a 0 s ∧ X yb ∧ s.m yb = some (.box 54 [.yl n0])
set_option maxRecDepth 20000 in
theorem a9j (s : Sg) (p : Nat) : f8q Tryz.prog 67 [.ptr p 0] s (fun v s' => v = .clo 86 [.ptr s.next 0] ∧ s' = s.add (.box 79 [.ptr p 0])) := by
 refine b6q Tryz.func67 rfl fun Q hQ => ?_
 obtain ⟨e, he, hl, h0⟩ : ∃ e : Env, ([.ptr p 0] ++ List.replicate (Tryz.f67.ntmps - ([.ptr p 0] : List V).length) .junk) = e ∧ e.length = 4 ∧ ev e (.tmp 0) = .ptr p 0 := ⟨_, rfl, rfl, rfl⟩
 rw [he]
 clear he
 refine vsk fun K1 hK1 => ?_
 refine a3q 0 [] ?_
 simp only [bs, ↓vopx, ↓vop, a1q, flat, V.cells, h0, wocs, ↓goc, ↓woc, ↓a2q]
 refine hK1 _ _ ?_
 refine vsk fun K2 hK2 => ?_
 refine a3q 0 [] ?_
 simp only [bs, ↓vopx, ↓vop, Nat.reduceBEq, a1q, Nat.reduceLT, hl, wocs, ↓goc, ↓woc, ↓a2q, q0z, List.all_cons, List.all_nil, Bool.and_self]
 refine hK2 _ _ ?_
 refine b1q ?_
 refine hQ _ _ _ (.inr rfl) (d6q (v := .clo 86 [.ptr s.next 0]) ?_ rfl ⟨rfl, rfl⟩)
 try simp only [a0q, lpv, hl, Nat.reduceLT]
set_option maxRecDepth 20000 in
theorem r7x (n0 cb p n : Nat) (M : Mx) (na : Nat) (rp rq : Nat → Nat) (Iv : (Nat → Prop) → Nat → Nat → Sg → Prop) (E : EachI n0 cb p n M na rp rq Iv) (s : Sg) (hs0 : Iv (fun _ => False) 0 0 s) : f8q Tryz.prog 86 [.yl n0, .ptr cb 0] s (fun _ s' => ∃ X, Iv X n 0 s') := by
 refine b6q Tryz.func86 rfl fun Q hQ => ?_
 obtain ⟨e, he, hl, h0, h1⟩ : ∃ e : Env, ([.yl n0, .ptr cb 0] ++ List.replicate (Tryz.f86.ntmps - ([.yl n0, .ptr cb 0] : List V).length) .junk) = e ∧ e.length = 25 ∧ ev e (.tmp 0) = .yl n0 ∧ ev e (.tmp 1) = .ptr cb 0 := ⟨_, rfl, rfl, rfl, rfl⟩
 rw [he]
 clear he
 obtain ⟨hcb, hrel, _⟩ := E.hI _ _ _ s hs0
 have hle := hrel.le
 have hcbl : ¬ cb = s.next := fun e => by obtain ⟨h1, _, _⟩ := E.hI _ _ _ _ (E.hadd _ _ _ s (.box 54 [.yl n0]) hs0); rw [e] at h1; simp [Sg.add] at h1
 refine vsk fun K1 hK1 => ?_
 refine a3q 0 [] ?_
 simp only [↓vopx, ↓vop, a1q, V.cells, h0, wocs, ↓goc, ↓woc, ↓a2q]
 refine hK1 _ _ ?_
 refine vsk fun K2 hK2 => ?_
 refine a3q 0 [.det (I n) (s.add (.box 54 [.yl n0]))] ?_
 simp only [bs, ↓vopx, ↓vop, Nat.reduceBEq, a1q, flat, Nat.reduceLT, a8q, b0q, hl, h1, wocs, ↓goc, ↓woc, ↓a2q, ↓b8q, a6q, Tryz.ag79, Tryz.sz79, hcb, hcbl]
 repeat ((with_reducible refine And.intro ?_ ?_); · exact ⟨Tryz.is83, b4x _ p n na (by have := (E.hI _ _ _ _ (E.hadd _ _ _ s (.box 54 [.yl n0]) hs0)).2.1.hp; exact this)⟩)
 refine hK2 _ _ ?_
 refine a5q ?_
 refine c2q (fun mm e' s' => ∃ a : Nat, mm = n - a ∧ a ≤ n ∧ e'.length = 25 ∧ ev e' (.tmp 1) = .ptr cb 0 ∧ ev e' (.tmp 2) = .ptr s.next 0 ∧ ev e' (.tmp 6) = I n ∧ ev e' (.tmp 7) = I a ∧ True ∧ YielE n0 s.next Iv a s') (⟨0, rfl, Nat.zero_le _, ?_⟩) ?_
 ·try simp only [a0q, a4q, Nat.reduceBEq, lpv, hl, h1, Nat.reduceLT, true_and]
  repeat ((with_reducible refine And.intro ?_ ?_); · trivial)
  exact ⟨_, E.hadd _ _ _ s _ hs0, .inr rfl, by simp [Sg.add]⟩
 rintro mm e s1 ⟨a, rfl, hle_a, hl, h1, h2, h6, h_a, hst, ⟨X, hiv, hyX, hyb⟩⟩
 refine vsk fun K3 hK3 => ?_
 refine a3q 0 [] ?_
 simp only [a1q, opII, h6, h_a, wocs, ↓goc, ↓woc]
 refine hK3 _ _ ?_
 refine vsk fun K4 hK4 => ?_
 refine vck fun A B hA hB => ?_
 simp only [b2q, a0q, Nat.reduceLT, decide_eq_true_eq, decide_eq_false_iff_not, hl]
 refine ⟨fun hc8 => hA ?_, fun hc8 => hB ?_⟩
 ·clear hA hB A B
  refine a9q ?_
  refine hK4 _ _ ?_
  refine vsk fun K5 hK5 => ?_
  refine a5q ?_
  refine vsk fun K6 hK6 => ?_
  obtain ⟨hcb1, hr1, hXX⟩ := E.hI _ _ _ _ hiv
  refine a3q 0 [] ?_
  simp only [bs, ↓vopx, ↓vop, Nat.reduceBEq, a1q, Nat.reduceLT, V.cells, hl, h_a, wocs, ↓goc, ↓woc, ↓a2q, Tryz.sz3, Tryz.zv3]
  refine hK6 _ _ ?_
  refine vsk fun K7 hK7 => ?_
  refine d4q fun e2 sb hE2 hSb => ?_
  subst hE2
  have hivb : Iv (fun m => X m ∨ m = s1.next) a 0 sb := by rw [hSb]; exact E.hset _ _ _ _ _ _ (E.hadd _ _ _ s1 _ hiv) (.inr rfl)
  obtain ⟨hcbb, hrb, hXb⟩ := E.hI _ _ _ _ hivb
  have xp := hrb.hp
  have xa := hrb.ha
  have xg : (List.range n)[a]? = some a := List.getElem?_range (by omega)
  have hab : sb.m s1.next = some (.box 3 [I a]) := by rw [hSb]; simp [Sg.set]
  have hybn : s.next < s1.next := hXX _ hyX
  have hyb2 : sb.m s.next = some (.box 54 [.yl n0]) := by rw [hSb]; simp [Sg.set, Sg.add, show s.next ≠ s1.next by omega, hyb]
  refine c5q Tryz.mixed 5 [1, 0, 0, 1, 1] [] [.stop] 0 (by decide +kernel) (by simp [lpv, hl]) rfl ?_
  simp only [bs, Nat.reduceAdd, f0q, ↓vopx, ↓vop, Nat.reduceBEq, a1q, Nat.reduceLT, a8q, b0q, hl, h1, wocs, ↓goc, ↓woc, ↓a2q, ↓e3q, ↓b8q, a6q, chn, ↓goq, ↓woq, List.zip_cons_cons, List.zip_nil_right, Tryz.ag107, Tryz.ag104, Tryz.ag3, Tryz.ag79, Tryz.fd106_0, Tryz.sz107, Tryz.sz104, Tryz.sz3, Tryz.sz79, Tryz.un104, hcbb, xp, xa, xg, hab]
  refine ⟨by omega, Tryz.is85, (t5z sb (rp a)).mono fun v s2 hv => ?_⟩
  obtain ⟨rfl, rfl⟩ := hv
  try simp only [bs, Nat.reduceLT, hl, Hold]
  refine hK7 _ _ ?_
  refine a5q ?_
  refine d4q fun e1 s3 hE hS => ?_
  have hlE : e1.length = 25 := by rw [hE]; simp only [lpv, hl]
  have h1E : ev e1 (.tmp 1) = .ptr cb 0 := by rw [hE]; simp only [a4q, Nat.reduceBEq, h1]
  have h2E : ev e1 (.tmp 2) = .ptr s.next 0 := by rw [hE]; simp only [a4q, Nat.reduceBEq, h2]
  have h3E : ev e1 (.tmp 3) = .ptr s1.next 0 := by rw [hE]; simp only [a0q, a4q, Nat.reduceBEq, lpv, hl, Nat.reduceLT]
  have h6E : ev e1 (.tmp 6) = I n := by rw [hE]; simp only [a4q, Nat.reduceBEq, h6]
  have h_aE : ev e1 (.tmp 7) = I a := by rw [hE]; simp only [a4q, Nat.reduceBEq, h_a]
  have h17E : ev e1 (.tmp 17) = .clo 95 [.ptr sb.next 0] := by rw [hE]; simp only [a0q, lpv, hl, Nat.reduceLT]
  clear hE
  have h3n : s3.next = sb.next + 1 := by rw [hS]; rfl
  have hsbn : sb.next = s1.next + 1 := by rw [hSb]; rfl
  have hiv3 : Iv (fun m => (X m ∨ m = s1.next) ∨ m = sb.next) a 0 s3 := by rw [hS]; exact E.hadd _ _ _ sb _ hivb
  have h3y : s3.m s.next = some (.box 54 [.yl n0]) := by rw [hS]; simp [Sg.add, show s.next ≠ sb.next by omega, hyb2]
  have h3a : s3.m s1.next = some (.box 3 [I a]) := by rw [hS]; simp [Sg.add, show s1.next ≠ sb.next by omega, hab]
  have h3c : s3.m sb.next = some (.box 107 [.ptr (rp a) 0]) := by rw [hS]; simp [Sg.add]
  clear hS
  refine o0q (g := 95) (caps := [.ptr sb.next 0]) h17E Tryz.func95 rfl (by decide) fun s4 h4e h4n h4m h4l => ?_
  have hiv4 : Iv (fun m => ((X m ∨ m = s1.next) ∨ m = sb.next) ∨ m = s3.next) a 0 s4 := by rw [h4e]; exact E.hadd _ _ _ s3 _ hiv3
  refine (n1z s3.next sb.next (rp a) (rq a) n (M a) (RowI Iv (fun m => ((X m ∨ m = s1.next) ∨ m = sb.next) ∨ m = s3.next) n0 s.next s1.next sb.next s3.next a (rp a) _) (fun _ => False) (fun k s5 hk => ⟨hk.c, (E.hI _ _ _ _ hk.iv).2.1.row (by omega)⟩) (fun k s5 hkn hg hk => ⟨E.hsk _ _ _ _ (by omega) hkn hg hk.iv, hk.y, hk.a, hk.c, hk.l⟩) (fun k s5 hkn hg hk => ?_) s4 ⟨hiv4, by rw [h4m _ (by omega)]; exact h3y, by rw [h4m _ (by omega)]; exact h3a, by rw [h4m _ (by omega)]; exact h3c, h4l⟩).mono fun v s6 h6 => ?_
  rotate_left
  ·rcases h6 with h6 | h6
   rotate_left
   ·exact h6.elim
   refine ⟨none, .ready, h6.l, by simp, ?_⟩
   simp only []
   refine hK5 _ _ ?_
   refine a3q 0 [] ?_
   simp only [bs, ↓vopx, ↓vop, Nat.reduceBEq, a1q, flat, Nat.reduceLT, opII, hlE, h1E, h2E, h6E, h_aE, wocs, ↓goc, ↓woc, ↓a2q]
   repeat ((with_reducible refine And.intro ?_ ?_); · exact ⟨by omega, by omega⟩)
   refine ⟨n - (a + 1), by omega, a + 1, rfl, by omega, ?_⟩
   try simp only [a0q, a4q, Nat.reduceBEq, lpv, hl, h1, h2, h6, h_a, if_true, if_false, Nat.reduceEqDiff, Nat.reduceLT, true_and, and_true]
   repeat ((with_reducible refine And.intro ?_ ?_); · trivial)
   exact ⟨_, E.hrow _ _ _ (by omega) (E.hdel _ _ _ _ _ h6.iv (.inr rfl)), .inl (.inl (.inl hyX)), by simp [Sg.del, show s.next ≠ s3.next by omega, h6.y]⟩
  refine o2q hk.l rfl fun KA hKA => ?_
  rw [show (#[18] : Array Tmp).toList = [18] from rfl, n4q]
  refine a3q 0 [] ?_
  simp only [bs, ↓vopx, ↓vop, a1q, Nat.reduceLT, hlE, wocs, ↓goc, ↓woc, ↓a2q]
  refine hKA _ _ hk.l ?_
  refine d4q fun e2 sc hE2 hSc => ?_
  subst hE2
  have hcy : sc.m s.next = some (.box 54 [.yl n0]) := by rw [hSc]; simp [Sg.set, show s.next ≠ s3.next by omega, hk.y]
  have hca : sc.m s1.next = some (.box 3 [I a]) := by rw [hSc]; simp [Sg.set, show s1.next ≠ s3.next by omega, hk.a]
  have hcc : sc.m sb.next = some (.box 107 [.ptr (rp a) 0]) := by rw [hSc]; simp [Sg.set, show sb.next ≠ s3.next by omega, hk.c]
  have hivc : Iv (fun m => ((X m ∨ m = s1.next) ∨ m = sb.next) ∨ m = s3.next) a k sc := by rw [hSc]; exact E.hset _ _ _ _ _ _ hk.iv (.inr rfl)
  refine a5q ?_
  refine vsk fun K8 hK8 => ?_
  refine a3q 0 [.stop] ?_
  simp only [bs, ↓vopx, ↓vop, Nat.reduceBEq, a1q, Nat.reduceLT, a8q, b0q, hlE, h2E, h3E, wocs, ↓goc, ↓woc, ↓a2q, a6q, ↓m2q, Tryz.ag3, Tryz.ag54, Tryz.sz3, Tryz.sz54, hcy, hca]
  refine w8q.mono (E.hY _ a k sc (by omega) hkn hg hivc) fun v s2 hv => ?_
  obtain ⟨rfl, hiv2, hfr⟩ := hv
  try simp only [bs, Nat.reduceBEq, Nat.reduceLT, hlE, Hold]
  refine hK8 _ _ ?_
  refine vck fun A B hA hB => ?_
  simp only [b2q, a0q, lpv, Nat.reduceLT, true_implies, reduceCtorEq, false_implies, true_and, hlE]
  refine hB ?_
  clear hA hB A B
  refine a9q ?_
  refine And.intro (by rw [hfr s3.next (.inr rfl), hSc]; simp [Sg.set]) (Or.inl (And.intro rfl ⟨E.hset _ _ _ _ _ _ hiv2 (.inr rfl), ?_, ?_, ?_, by simp [Sg.set]⟩))
  ·simp [Sg.set, show s.next ≠ s3.next by omega, hfr s.next (.inl (.inl (.inl hyX))), hcy]
  ·simp [Sg.set, show s1.next ≠ s3.next by omega, hfr s1.next (.inl (.inl (.inr rfl))), hca]
  ·simp [Sg.set, show sb.next ≠ s3.next by omega, hfr sb.next (.inl (.inr rfl)), hcc]
 ·clear hA hB A B
  have han : n = a := by omega
  subst han
  refine c1q ?_
  simp only [a1q, b5q, if_true]
  exact hQ _ _ _ (.inl rfl) ⟨[], rfl, rfl, X, hiv⟩
end Go.Proofs

open Go Go.V
namespace Go.Proofs
structure PairI (s : Sg) (lp : Blk) (v cb n0 p n : Nat) (M : Mx) (X : Nat → Prop) (a b : Nat) (s' : Sg) (m : Nat) : Prop where
 hv : s'.m v = some (.box 27 [.loc m 0 (prB n M a b).length])
 hm : s'.m m = some (.arr 2 65 ((prB n M a b).flatMap l2q))
 hc : s'.m cb = some (.box 79 [.ptr p 0])
 hl : s'.m n0 = some lp
 hk : Keep s s'
 nx : s.next ≤ s'.next
 bv : s.next ≤ v ∧ v < s'.next
 bm : s.next ≤ m ∧ m < s'.next
 bc : s.next ≤ cb ∧ cb < s'.next
 bl : s.next ≤ n0 ∧ n0 < s'.next
 d : v ≠ m ∧ v ≠ n0 ∧ m ≠ n0 ∧ cb ≠ v ∧ cb ≠ m ∧ cb ≠ n0
 hX : ∀ x, X x → s.next ≤ x ∧ x < s'.next ∧ x ≠ v ∧ x ≠ m ∧ x ≠ cb ∧ x ≠ n0
def PairIv (s : Sg) (lp : Blk) (v cb n0 p n : Nat) (M : Mx) (X : Nat → Prop) (a b : Nat) (s' : Sg) : Prop := ∃ m, PairI s lp v cb n0 p n M X a b s' m
variable {s : Sg} {lp : Blk} {v cb n0 p n : Nat} {M : Mx} {X : Nat → Prop} {a b : Nat} {s' : Sg} {m : Nat}
theorem PairI.add (h : PairI s lp v cb n0 p n M X a b s' m) (k : Blk) : PairI s lp v cb n0 p n M (fun x => X x ∨ x = s'.next) a b (s'.add k) m := by
 have h1 := h.bv; have h2 := h.bm; have h3 := h.bc; have h4 := h.bl; have h5 := h.nx
 have n1 : v ≠ s'.next := by omega
 have n2 : m ≠ s'.next := by omega
 have n3 : cb ≠ s'.next := by omega
 have n4 : n0 ≠ s'.next := by omega
 refine ⟨by simp [Sg.add, n1, h.hv], by simp [Sg.add, n2, h.hm], by simp [Sg.add, n3, h.hc], by simp [Sg.add, n4, h.hl], h.hk.add h.nx k, by simp [Sg.add]; omega, by simp [Sg.add]; omega, by simp [Sg.add]; omega, by simp [Sg.add]; omega, by simp [Sg.add]; omega, h.d, fun x hx => ?_⟩
 rcases hx with hx | rfl
 ·obtain ⟨q1, q2, q3⟩ := h.hX x hx; exact ⟨q1, by simp [Sg.add]; omega, q3⟩
 ·exact ⟨h5, by simp [Sg.add], Ne.symm n1, Ne.symm n2, Ne.symm n3, Ne.symm n4⟩
theorem PairI.set (h : PairI s lp v cb n0 p n M X a b s' m) {x : Nat} (hx : X x) (k : Blk) : PairI s lp v cb n0 p n M X a b (s'.set x k) m := by
 obtain ⟨q1, q2, q3, q4, q5, q6⟩ := h.hX x hx
 refine ⟨by simp [Sg.set, Ne.symm q3, h.hv], by simp [Sg.set, Ne.symm q4, h.hm], by simp [Sg.set, Ne.symm q5, h.hc], by simp [Sg.set, Ne.symm q6, h.hl], h.hk.set q1 k, h.nx, h.bv, h.bm, h.bc, h.bl, h.d, h.hX⟩
theorem PairI.del (h : PairI s lp v cb n0 p n M X a b s' m) {x : Nat} (hx : X x) : PairI s lp v cb n0 p n M X a b (s'.del x) m := by
 obtain ⟨q1, q2, q3, q4, q5, q6⟩ := h.hX x hx
 refine ⟨by simp [Sg.del, Ne.symm q3, h.hv], by simp [Sg.del, Ne.symm q4, h.hm], by simp [Sg.del, Ne.symm q5, h.hc], by simp [Sg.del, Ne.symm q6, h.hl], h.hk.del q1, h.nx, h.bv, h.bm, h.bc, h.bl, h.d, h.hX⟩
theorem PairI.to {a' b' : Nat} (h : PairI s lp v cb n0 p n M X a b s' m) (e : prB n M a b = prB n M a' b') : PairI s lp v cb n0 p n M X a' b' s' m :=
 ⟨by rw [← e]; exact h.hv, by rw [← e]; exact h.hm, h.hc, h.hl, h.hk, h.nx, h.bv, h.bm, h.bc, h.bl, h.d, h.hX⟩
theorem PairI.push (h : PairI s lp v cb n0 p n M X a b s' m) (hM : M a b = true) (b1 B : Blk) :
 PairI s lp v cb n0 p n M X a (b + 1) ((((((s'.set n0 b1).add B).del m).add (.arr 2 65 ((prB n M a b).flatMap l2q ++ [TI a, TI b]))).set v (.box 27 [.loc (s'.next + 1) 0 ((prB n M a b).length + 1)])).set n0 lp) (s'.next + 1) ∧
 ∀ x, X x → ((((((s'.set n0 b1).add B).del m).add (.arr 2 65 ((prB n M a b).flatMap l2q ++ [TI a, TI b]))).set v (.box 27 [.loc (s'.next + 1) 0 ((prB n M a b).length + 1)])).set n0 lp).m x = s'.m x := by
 have h1 := h.bv; have h2 := h.bm; have h3 := h.bc; have h4 := h.bl; have h5 := h.nx
 obtain ⟨d1, d2, d3, d4, d5, d6⟩ := h.d
 have n1 : v ≠ s'.next := by omega
 have n2 : m ≠ s'.next := by omega
 have n3 : cb ≠ s'.next := by omega
 have n4 : n0 ≠ s'.next := by omega
 have m1 : v ≠ s'.next + 1 := by omega
 have m2 : m ≠ s'.next + 1 := by omega
 have m3 : cb ≠ s'.next + 1 := by omega
 have m4 : n0 ≠ s'.next + 1 := by omega
 refine ⟨⟨?_, ?_, ?_, by simp [Sg.set], ?_, by simp [Sg.set, Sg.add, Sg.del]; omega, by simp [Sg.set, Sg.add, Sg.del]; omega, by simp [Sg.set, Sg.add, Sg.del]; omega, by simp [Sg.set, Sg.add, Sg.del]; omega, by simp [Sg.set, Sg.add, Sg.del]; omega, ⟨m1, d2, Ne.symm m4, d4, m3, d6⟩, fun x hx => ?_⟩, fun x hx => ?_⟩
 ·rw [c0z hM]; simp [Sg.set, d2]
 ·rw [c0z hM]; simp [Sg.set, Sg.add, Ne.symm m1, Ne.symm m4, List.flatMap_append, Sg.del]
 ·simp [Sg.set, Sg.add, Sg.del, d4, d5, d6, n3, m3, h.hc]
 ·exact (((((h.hk.set h4.1 b1).add (by simp only [h9q]; omega) B).del h2.1).add (by simp only [c6q, e9q, h9q]; omega) _).set h1.1 _).set h4.1 _
 ·obtain ⟨q1, q2, q3, q4, q5, q6⟩ := h.hX x hx
  exact ⟨q1, by simp [Sg.set, Sg.add, Sg.del]; omega, q3, by omega, q5, q6⟩
 ·obtain ⟨q1, q2, q3, q4, q5, q6⟩ := h.hX x hx
  have e1 : x ≠ s'.next := by omega
  have e2 : x ≠ s'.next + 1 := by omega
  simp [Sg.set, Sg.add, Sg.del, q3, q4, q6, e1, e2]
set_option maxRecDepth 20000 in
theorem r8x (s : Sg) (p n : Nat) (M : Mx) (na : Nat) (rp rq : Nat → Nat) (h : RelP s p n M na rp rq) : k0q Tryz.prog 45 [.ptr p 0] s (.t (b3q (g0q n M))) (s) := by
 refine d0q Tryz.func45 rfl fun Q hQ => ?_
 obtain ⟨e, he, hl, h0⟩ : ∃ e : Env, ([.ptr p 0] ++ List.replicate (Tryz.f45.ntmps - ([.ptr p 0] : List V).length) .junk) = e ∧ e.length = 17 ∧ ev e (.tmp 0) = .ptr p 0 := ⟨_, rfl, rfl, rfl⟩
 rw [he]
 clear he
 have hle := h.le
 refine vsk fun K1 hK1 => ?_
 refine a3q 0 [] ?_
 simp only [bs, ↓vopx, ↓vop, a1q, flat, wocs, ↓goc, ↓woc, ↓a2q]
 refine hK1 _ _ ?_
 refine vsk fun K2 hK2 => ?_
 refine a3q 0 [] ?_
 simp only [bs, ↓vopx, ↓vop, a1q, wocs, ↓goc, ↓woc, ↓a2q, Tryz.zv27]
 refine hK2 _ _ ?_
 refine vsk fun K3 hK3 => ?_
 refine vsk fun K4 hK4 => ?_
 refine VW.nameBox s.next 0 2 65 (by omega) (ty := 27) (cs := [.t (.v (.slice none 0 0))]) (by simp [Sg.add]) rfl ?_
 refine a3q 0 [.stop] ?_
 simp only [bs, ↓vopx, ↓vop, Nat.reduceBEq, a1q, Nat.reduceLT, hl, h0, wocs, ↓goc, ↓woc, ↓a2q, ↓b8q, a6q]
 refine ⟨Tryz.is67, (a9j _ p).mono fun v s2 hv => ?_⟩
 obtain ⟨rfl, rfl⟩ := hv
 try simp only [bs, Nat.reduceBEq, h0, Hold]
 refine hK4 _ _ ?_
 refine a5q ?_
 refine d4q fun e1 s3 hE hS => ?_
 have hlE : e1.length = 17 := by rw [hE]; simp only [lpv, hl]
 have h3E : ev e1 (.tmp 3) = .ptr s.next 0 := by rw [hE]; simp only [a0q, a4q, Nat.reduceBEq, lpv, hl, Nat.reduceLT]
 have h7E : ev e1 (.tmp 7) = .clo 86 [.ptr (s.next + 2) 0] := by rw [hE]; simp only [a0q, lpv, hl, Nat.reduceLT]
 clear hE
 have h3n : s3.next = s.next + 3 := by rw [hS]; rfl
 have h3a : s3.m s.next = some (.box 27 [.loc (s.next + 1) 0 0]) := by rw [hS]; simp [Sg.add, Sg.set] <;> omega
 have h3b : s3.m (s.next + 1) = some (.arr 2 65 []) := by rw [hS]; simp [Sg.add, Sg.set] <;> omega
 have h3c : s3.m (s.next + 2) = some (.box 79 [.ptr p 0]) := by rw [hS]; simp [Sg.add, Sg.set] <;> omega
 have h3k : Keep s s3 := by rw [hS]; exact ((((Keep.refl s).add (Nat.le_refl _) _).add (by simp only [c6q]; omega) _).set (Nat.le_refl _) _).add (by simp only [c6q, h9q]; omega) _
 clear hS
 refine o0q (g := 86) (caps := [.ptr (s.next + 2) 0]) h7E Tryz.func86 rfl (by decide) fun s4 h4e h4n h4m h4l => ?_
 have hst : PairIv s _ s.next (s.next + 2) s3.next p n M (fun _ => False) 0 0 s4 := ⟨s.next + 1, by rw [h4m _ (by omega)]; exact h3a, by rw [h4m _ (by omega)]; exact h3b, by rw [h4m _ (by omega)]; exact h3c, h4l, fun m b hm hb => by rw [h4m m (by omega)]; exact h3k m b hm hb, by omega, ⟨by omega, by omega⟩, ⟨by omega, by omega⟩, ⟨by omega, by omega⟩, ⟨by omega, by omega⟩, ⟨by omega, by omega, by omega, by omega, by omega, by omega⟩, fun x hx => hx.elim⟩
 refine (r7x s3.next (s.next + 2) p n M na rp rq _ ⟨fun X a b s5 hp => ?_, fun X a b s5 k hp => ?_, fun X a b s5 x k hp hx => ?_, fun X a b s5 x hp hx => ?_, fun X a b s5 ha hb hM hp => ?_, fun X a s5 ha hp => ?_, fun X a b s5 ha hb hM hp => ?_⟩ s4 hst).mono fun v s6 h6 => ?_
 ·obtain ⟨m, hp⟩ := hp; exact ⟨hp.hc, h.keep hp.hk hp.nx, fun x hx => (hp.hX x hx).2.1⟩
 ·obtain ⟨m, hp⟩ := hp; exact ⟨m, hp.add k⟩
 ·obtain ⟨m, hp⟩ := hp; exact ⟨m, hp.set hx k⟩
 ·obtain ⟨m, hp⟩ := hp; exact ⟨m, hp.del hx⟩
 ·obtain ⟨m, hp⟩ := hp; exact ⟨m, hp.to (j6z hM).symm⟩
 ·obtain ⟨m, hp⟩ := hp; exact ⟨m, hp.to (b3x n M a)⟩
 rotate_left
 ·obtain ⟨X, m, hp6⟩ := h6
  refine ⟨none, .ready, hp6.hl, by simp, ?_⟩
  have hp1 := hp6.bv
  have hp2 := hp6.bm
  have hp3 := hp6.d
  have hsn : ¬ s.next = s3.next := by omega
  have hfv := hp6.hv
  simp only []
  refine hK3 _ _ ?_
  refine vsk fun K5 hK5 => ?_
  refine a3q 0 [] ?_
  simp only [bs, ↓vopx, ↓vop, a1q, Nat.reduceLT, a8q, b0q, hlE, h3E, wocs, ↓goc, ↓woc, ↓a2q, Tryz.ag27, Tryz.sz27, hfv, hsn]
  refine hK5 _ _ ?_
  refine b1q ?_
  rw [r8z] at *
  refine hQ _ _ _ (.inr rfl) (Done.toS (f0z (n := m) (len := (g0q n M).length) ?_ (by have := hp6.hm; rw [r8z] at this; simpa [Sg.del, hp3.2.2.1] using this) (by rw [d7q]) hp2.1 (hp6.hk.del (by omega))))
  try simp only [a0q, lpv, hlE, Nat.reduceLT]
 obtain ⟨m, hp5⟩ := hp
 refine o2q hp5.hl rfl fun KA hKA => ?_
 rw [show (#[8, 9] : Array Tmp).toList = [8, 9] from rfl, t2x]
 refine vsk fun K6 hK6 => ?_
 refine a3q 0 [] ?_
 simp only [bs, ↓vopx, ↓vop, Nat.reduceBEq, a1q, Nat.reduceLT, hlE, wocs, ↓goc, ↓woc, ↓a2q]
 refine hK6 _ _ ?_
 refine a3q 0 [] ?_
 simp only [bs, ↓vopx, ↓vop, Nat.reduceBEq, a1q, Nat.reduceLT, hlE, wocs, ↓goc, ↓woc, ↓a2q]
 refine hKA _ _ hp5.hl ?_
 refine d4q fun e2 sb hE2 hSb => ?_
 subst hE2
 have hnb : sb.next = s5.next := by rw [hSb]; rfl
 have hnx1 : ¬ s.next = sb.next := by have := hp5.bv; omega
 have hnx2 : ¬ s.next = sb.next + 1 := by have := hp5.bv; omega
 have hnx3 : ¬ m = sb.next := by have := hp5.bm; omega
 have hnx4 : ¬ s.next = m := hp5.d.1
 have hcv : sb.m s.next = some (.box 27 [.loc m 0 (prB n M a b).length]) := by rw [hSb]; simp [Sg.set, hp5.d.2.1, hp5.hv]
 have hcm : sb.m m = some (.arr 2 65 ((prB n M a b).flatMap l2q)) := by rw [hSb]; simp [Sg.set, hp5.d.2.2.1, hp5.hm]
 have hl1 : ¬ s3.next = s.next := by omega
 have hl2 : ¬ s3.next = sb.next := by have := hp5.bl; omega
 have hl3 : ¬ s3.next = sb.next + 1 := by have := hp5.bl; omega
 have hl4 : ¬ s3.next = m := fun e => hp5.d.2.2.1 e.symm
 refine a5q ?_
 have hbd := b9z n M a b
 have hsq : a * n ≤ 200 * 200 := Nat.mul_le_mul (by omega) hle
 have hpv := hp5.bv
 have hpm := hp5.bm
 have hpl := hp5.bl
 refine a3q 0 [] ?_
 simp only [bs, dstT, srcT, Nat.reduceLeDiff, Nat.reduceAdd, d9q, g7q, repl, Sg.frzP, ↓vopx, ↓vop, Nat.reduceBEq, b5q, Nat.reduceLT, V.cells, a8q, b0q, Sg.frzL, Sg.frz1, hlE, h3E, wocs, ↓goc, ↓woc, ↓a2q, Tryz.ag27, Tryz.sl27, Tryz.st65, Tryz.sz27, hcv, hcm, hnx1, hnx2, hnx3, hnx4, d7q]
 repeat ((with_reducible refine And.intro ?_ ?_); · omega)
 rw [show ((prB n M a b).length * 2 + 2) / 2 = (prB n M a b).length + 1 from by omega]
 refine And.intro (by simp only [b9q, b7q, e4q, c6q, e9q, hl1, hl2, hl3, hl4, if_false]; rw [hSb]; exact if_pos rfl) (And.intro rfl ?_)
 rw [hSb]
 exact (hp5.push hM _ _).elim fun h1 h2 => ⟨⟨_, h1⟩, h2⟩
end Go.Proofs

open Go Go.V
namespace Go.Proofs
def w9q {α : Type} (p : α → Bool) : List α → Nat → Int
 | [], _ => -1
 | x :: l, k => if p x then k else w9q p l (k + 1)
theorem u6z {α : Type} {p : α → Bool} : ∀ {l : List α} {i : Nat} {x : α} (k : Nat), l[i]? = some x → p x = true → (∀ (j : Nat) (y : α), j < i → l[j]? = some y → p y = false) → w9q p l k = ((k + i : Nat) : Int)
 | [], i, x, k, h, _, _ => by simp at h
 | a :: l, 0, x, k, h, hp, _ => by simp at h; subst h; simp [w9q, hp]
 | a :: l, i + 1, x, k, h, hp, hn => by
  have ha : p a = false := hn 0 a (by omega) rfl
  have := u6z (l := l) (i := i) (k + 1) (by simpa using h) hp fun j y hj hy => hn (j + 1) y (by omega) (by simpa using hy)
  simp only [w9q, ha, Bool.false_eq_true, if_false, this]
  congr 1; omega
theorem n5z {α : Type} {p : α → Bool} : ∀ {l : List α} (k : Nat), (∀ (j : Nat) (y : α), l[j]? = some y → p y = false) → w9q p l k = -1
 | [], k, _ => rfl
 | a :: l, k, hn => by
  have ha : p a = false := hn 0 a rfl
  simp only [w9q, ha, Bool.false_eq_true, if_false]
  exact n5z (k + 1) fun j y hy => hn (j + 1) y (by simpa using hy)
theorem u7z {α : Type} {p : α → Bool} : ∀ (l : List α) (k : Nat), 0 ≤ w9q p l k ↔ l.any p = true
 | [], k => by simp [w9q]
 | a :: l, k => by
  by_cases h : p a = true
  ·rw [show w9q p (a :: l) k = k from by simp [w9q, h]]; simp [h]
  ·rw [show w9q p (a :: l) k = w9q p l (k + 1) from by simp [w9q, h], u7z l (k + 1)]; simp [h]
theorem m6x {α : Type} {p : α → Bool} (l : List α) (k : Nat) : decide (w9q p l k ≥ 0) = l.any p := by
 rw [Bool.eq_iff_iff, decide_eq_true_eq]; exact u7z l k
def bigB (b : ByteArray) : Bool := decide ((b.size : Int) > 60)
def labS (l : List ByteArray) : Int := if 40 < l.length then 11 else if l.any bigB then 10 else 0
def cmpI (a b : Int) : Int := if a < b then -1 else if a > b then 1 else 0
def orI : List Int → Int
 | [] => 0
 | x :: l => if x ≠ 0 then x else orI l
theorem p9x : ∀ {l : List Int} {i : Nat} {x : Int}, l[i]? = some x → x ≠ 0 → (∀ (j : Nat) (y : Int), j < i → l[j]? = some y → y = 0) → orI l = x
 | [], i, x, h, _, _ => by simp at h
 | a :: l, 0, x, h, hp, _ => by simp at h; subst h; simp [orI, hp]
 | a :: l, i + 1, x, h, hp, hn => by
  have ha : a = 0 := hn 0 a (by omega) rfl
  have := p9x (l := l) (i := i) (by simpa using h) hp fun j y hj hy => hn (j + 1) y (by omega) (by simpa using hy)
  simp [orI, ha, this]
theorem e3x : ∀ {l : List Int}, (∀ (j : Nat) (y : Int), l[j]? = some y → y = 0) → orI l = 0
 | [], _ => rfl
 | a :: l, hn => by
  have ha : a = 0 := hn 0 a rfl
  have := e3x (l := l) fun j y hy => hn (j + 1) y (by simpa using hy)
  simp [orI, ha, this]
def cmpP (p q : Int × Int) : Int := orI [cmpI p.1 q.1, cmpI p.2 q.2]
theorem l6x (p q : Int × Int) : decide (cmpP p q ≥ 0) = !pltB p q := by
 unfold cmpP orI orI orI cmpI pltB
 rcases Int.lt_trichotomy p.1 q.1 with h | h | h
 ·have : ¬ q.1 < p.1 := by omega
  simp [h]
 ·rcases Int.lt_trichotomy p.2 q.2 with h2 | h2 | h2
  ·simp [h, h2]
  ·simp [h, h2]
  ·have : ¬ p.2 < q.2 := by omega
   simp [h, h2, this]
 ·have h1 : ¬ p.1 < q.1 := by omega
  have h2 : ¬ p.1 = q.1 := by omega
  simp [h, h1, h2]
abbrev FN (g : Nat) : V := .t (.v (.func (.func g) #[] #[]))
set_option maxRecDepth 20000 in
theorem labBig_ (b : ByteArray) : f7q Tryz.prog 89 [Str b] (Bo (bigB b)) := by
 refine b4q Tryz.func89 rfl fun s Q hQ => ?_
 obtain ⟨e, he, hl, h0⟩ : ∃ e : Env, ([Str b] ++ List.replicate (Tryz.f89.ntmps - ([Str b] : List V).length) .junk) = e ∧ e.length = 6 ∧ ev e (.tmp 0) = Str b := ⟨_, rfl, rfl, rfl⟩
 rw [he]
 clear he
 refine vsk fun K1 hK1 => ?_
 refine a3q 0 [] ?_
 simp only [bs, ↓vopx, ↓vop, a1q, flat, wocs, ↓goc, ↓woc, ↓a2q]
 refine hK1 _ _ ?_
 refine vsk fun K2 hK2 => ?_
 refine a3q 0 [] ?_
 simp only [bs, ↓vopx, ↓vop, Nat.reduceBEq, a1q, flat, Nat.reduceLT, opII, hl, h0, wocs, ↓goc, ↓woc, ↓a2q, Tryz.underlying9]
 refine hK2 _ _ ?_
 refine b1q ?_
 refine hQ _ _ _ (.inr rfl) (a7q ?_ fun n b hn h => h)
 try simp only [a0q, lpv, hl, Nat.reduceLT]
 rfl
set_option maxRecDepth 20000 in
theorem n8x (l : List ByteArray) (hl0 : l.length < 1000000000) : f7q Tryz.prog 97 [.t (d1q l), FN 89] (I (w9q bigB l 0)) := by
 refine b4q Tryz.func97 rfl fun s Q hQ => ?_
 obtain ⟨e, he, hl, h0, h1⟩ : ∃ e : Env, ([.t (d1q l), FN 89] ++ List.replicate (Tryz.f97.ntmps - ([.t (d1q l), FN 89] : List V).length) .junk) = e ∧ e.length = 19 ∧ ev e (.tmp 0) = .t (d1q l) ∧ ev e (.tmp 1) = FN 89 := ⟨_, rfl, rfl, rfl, rfl⟩
 rw [he]
 clear he
 refine vsk fun K1 hK1 => ?_
 refine a3q 0 [] ?_
 simp only [bs, ↓vopx, ↓vop, a1q, flat, wocs, ↓goc, ↓woc, ↓a2q]
 refine hK1 _ _ ?_
 refine vsk fun K2 hK2 => ?_
 refine vsk fun K3 hK3 => ?_
 refine a3q 0 [] ?_
 simp only [bs, ↓vopx, ↓vop, Nat.reduceBEq, a1q, flat, Nat.reduceLT, hl, h0, wocs, ↓goc, ↓woc, ↓a2q, c9q]
 refine hK3 _ _ ?_
 refine a5q ?_
 refine c2q (fun mm e' s' => ∃ i : Nat, mm = l.length - i ∧ i ≤ l.length ∧ e'.length = 19 ∧ ev e' (.tmp 0) = .t (d1q l) ∧ ev e' (.tmp 1) = FN 89 ∧ ev e' (.tmp 7) = I l.length ∧ ev e' (.tmp 8) = I i ∧ s = s' ∧ ∀ (j : Nat) (y : ByteArray), j < i → l[j]? = some y → bigB y = false) (⟨0, rfl, Nat.zero_le _, ?_⟩) ?_
 ·try simp only [a0q, a4q, Nat.reduceBEq, lpv, hl, h0, h1, Nat.reduceLT, true_and]
  repeat ((with_reducible refine And.intro ?_ ?_); · trivial)
  all_goals (exact fun j y h => by omega)
 rintro mm e _ ⟨i, rfl, hle_i, hl, h0, h1, h7, h_i, rfl, hal⟩
 refine vsk fun K4 hK4 => ?_
 refine a3q 0 [] ?_
 simp only [a1q, opII, h7, h_i, wocs, ↓goc, ↓woc]
 refine hK4 _ _ ?_
 refine vsk fun K5 hK5 => ?_
 refine vck fun A B hA hB => ?_
 simp only [b2q, a0q, Nat.reduceLT, decide_eq_true_eq, decide_eq_false_iff_not, hl]
 refine ⟨fun hc9 => hA ?_, fun hc9 => hB ?_⟩
 ·clear hA hB A B
  refine a9q ?_
  refine hK5 _ _ ?_
  refine vsk fun K6 hK6 => ?_
  refine a5q ?_
  refine vsk fun K7 hK7 => ?_
  refine a3q 0 [] ?_
  simp only [bs, ↓vopx, ↓vop, Nat.reduceBEq, a1q, Nat.reduceLT, hl, h_i, wocs, ↓goc, ↓woc, ↓a2q]
  refine hK7 _ _ ?_
  refine vsk fun K8 hK8 => ?_
  have hlt : i < l.length := by omega
  obtain ⟨b, hb⟩ : ∃ b, l[i]? = some b := ⟨_, List.getElem?_eq_getElem hlt⟩
  refine a3q 0 [.pur (Bo (bigB b))] ?_
  simp only [bs, ↓vopx, ↓vop, Nat.reduceBEq, a1q, Nat.reduceLT, a8q, b0q, hl, h0, h1, wocs, ↓goc, ↓woc, ↓a2q, ↓b8q, a6q, Tryz.ag9, Tryz.sz9, Tryz.un26, hb]
  repeat ((with_reducible refine And.intro ?_ ?_); · first | (with_reducible assumption) | exact ⟨Tryz.is89, labBig_ b⟩)
  refine hK8 _ _ ?_
  refine vck fun A B hA hB => ?_
  simp only [b2q, a0q, lpv, Nat.reduceLT, hl]
  refine ⟨fun hc16 => hA ?_, fun hc16 => hB ?_⟩
  ·clear hA hB A B
   refine vsk fun K9 hK9 => ?_
   refine a3q 0 [] ?_
   simp only [bs, ↓vopx, ↓vop, Nat.reduceBEq, a1q, Nat.reduceLT, hl, wocs, ↓goc, ↓woc, ↓a2q]
   refine hK9 _ _ ?_
   refine b1q ?_
   refine hQ _ _ _ (.inr rfl) (a7q ?_ fun n b hn h => h)
   try simp only [a0q, lpv, hl, Nat.reduceLT]
   rw [u6z 0 hb hc16 hal, Nat.zero_add]
  ·clear hA hB A B
   refine a9q ?_
   refine hK6 _ _ ?_
   refine a3q 0 [] ?_
   simp only [bs, ↓vopx, ↓vop, Nat.reduceBEq, a1q, flat, Nat.reduceLT, opII, hl, h0, h1, h7, h_i, wocs, ↓goc, ↓woc, ↓a2q]
   repeat ((with_reducible refine And.intro ?_ ?_); · exact ⟨by omega, by omega⟩)
   refine ⟨l.length - (i + 1), by omega, i + 1, rfl, by omega, ?_⟩
   try simp only [a0q, a4q, Nat.reduceBEq, lpv, hl, h0, h1, h7, h_i, if_true, if_false, Nat.reduceEqDiff, Nat.reduceLT, true_and, and_true]
   repeat ((with_reducible refine And.intro ?_ ?_); · trivial)
   intro j y hj hy
   rcases Nat.lt_succ_iff_lt_or_eq.1 hj with hj | rfl
   ·exact hal j y hj hy
   ·rw [hb] at hy; cases hy; exact hc16
 ·clear hA hB A B
  have han : l.length = i := by omega
  refine c1q ?_
  simp only [a1q, b5q, if_true]
  refine hK2 _ _ ?_
  refine vsk fun K10 hK10 => ?_
  refine a3q 0 [] ?_
  simp only [bs, ↓vopx, ↓vop, a1q, flat, wocs, ↓goc, ↓woc, ↓a2q]
  refine hK10 _ _ ?_
  refine b1q ?_
  refine hQ _ _ _ (.inr rfl) (a7q ?_ fun n b hn h => h)
  try simp only [a0q, lpv, hl, Nat.reduceLT]
  rw [n5z 0 fun j y hy => hal j y (by have := (List.getElem?_eq_some_iff.1 hy).1; omega) hy]
set_option maxRecDepth 20000 in
theorem u2z (l : List ByteArray) (hl0 : l.length < 1000000000) : f7q Tryz.prog 88 [.t (d1q l), FN 89] (Bo (l.any bigB)) := by
 refine b4q Tryz.func88 rfl fun s Q hQ => ?_
 obtain ⟨e, he, hl, h0, h1⟩ : ∃ e : Env, ([.t (d1q l), FN 89] ++ List.replicate (Tryz.f88.ntmps - ([.t (d1q l), FN 89] : List V).length) .junk) = e ∧ e.length = 9 ∧ ev e (.tmp 0) = .t (d1q l) ∧ ev e (.tmp 1) = FN 89 := ⟨_, rfl, rfl, rfl, rfl⟩
 rw [he]
 clear he
 refine vsk fun K1 hK1 => ?_
 refine a3q 0 [] ?_
 simp only [bs, ↓vopx, ↓vop, a1q, flat, wocs, ↓goc, ↓woc, ↓a2q]
 refine hK1 _ _ ?_
 refine vsk fun K2 hK2 => ?_
 refine a3q 0 [.pur (I (w9q bigB l 0))] ?_
 simp only [bs, ↓vopx, ↓vop, Nat.reduceBEq, a1q, flat, Nat.reduceLT, opII, hl, h0, h1, wocs, ↓goc, ↓woc, ↓a2q, ↓b8q, a6q]
 repeat ((with_reducible refine And.intro ?_ ?_); · exact ⟨Tryz.is97, n8x l hl0⟩)
 refine hK2 _ _ ?_
 refine b1q ?_
 refine hQ _ _ _ (.inr rfl) (a7q ?_ fun n b hn h => h)
 try simp only [a0q, lpv, hl, Nat.reduceLT]
 rw [m6x]
set_option maxRecDepth 20000 in
theorem labels_ (l : List ByteArray) (hl0 : l.length < 1000000000) : f7q Tryz.prog 71 [.t (d1q l)] (I (labS l)) := by
 refine b4q Tryz.func71 rfl fun s Q hQ => ?_
 obtain ⟨e, he, hl, h0⟩ : ∃ e : Env, ([.t (d1q l)] ++ List.replicate (Tryz.f71.ntmps - ([.t (d1q l)] : List V).length) .junk) = e ∧ e.length = 10 ∧ ev e (.tmp 0) = .t (d1q l) := ⟨_, rfl, rfl, rfl⟩
 rw [he]
 clear he
 refine vsk fun K1 hK1 => ?_
 refine a3q 0 [] ?_
 simp only [bs, ↓vopx, ↓vop, a1q, flat, wocs, ↓goc, ↓woc, ↓a2q]
 refine hK1 _ _ ?_
 refine vsk fun K2 hK2 => ?_
 refine a5q ?_
 refine vsk fun K3 hK3 => ?_
 refine a3q 0 [] ?_
 simp only [bs, ↓vopx, ↓vop, Nat.reduceBEq, a1q, flat, Nat.reduceLT, opII, hl, h0, wocs, ↓goc, ↓woc, ↓a2q, c9q]
 refine hK3 _ _ ?_
 refine vck fun A B hA hB => ?_
 simp only [b2q, a0q, lpv, Nat.reduceLT, decide_eq_true_eq, decide_eq_false_iff_not, hl]
 refine ⟨fun hc3 => hA ?_, fun hc3 => hB ?_⟩
 ·clear hA hB A B
  refine vsk fun K4 hK4 => ?_
  refine a3q 0 [] ?_
  simp only [bs, ↓vopx, ↓vop, a1q, flat, wocs, ↓goc, ↓woc, ↓a2q]
  refine hK4 _ _ ?_
  refine b1q ?_
  refine hQ _ _ _ (.inr rfl) (a7q ?_ fun n b hn h => h)
  try simp only [a0q, lpv, hl, Nat.reduceLT]
  rw [show labS l = 11 from by unfold labS; rw [if_pos (by omega)]]
 ·clear hA hB A B
  refine vsk fun K5 hK5 => ?_
  refine a3q 0 [.pur (Bo (l.any bigB))] ?_
  simp only [bs, ↓vopx, ↓vop, Nat.reduceBEq, a1q, Nat.reduceLT, hl, h0, wocs, ↓goc, ↓woc, ↓a2q, ↓b8q, a6q]
  repeat ((with_reducible refine And.intro ?_ ?_); · exact ⟨Tryz.is88, u2z l hl0⟩)
  refine hK5 _ _ ?_
  refine vck fun A B hA hB => ?_
  simp only [b2q, a0q, lpv, Nat.reduceLT, hl]
  refine ⟨fun hc7 => hA ?_, fun hc7 => hB ?_⟩
  ·clear hA hB A B
   refine vsk fun K6 hK6 => ?_
   refine a3q 0 [] ?_
   simp only [bs, ↓vopx, ↓vop, a1q, flat, wocs, ↓goc, ↓woc, ↓a2q]
   refine hK6 _ _ ?_
   refine b1q ?_
   refine hQ _ _ _ (.inr rfl) (a7q ?_ fun n b hn h => h)
   try simp only [a0q, lpv, hl, Nat.reduceLT]
   rw [show labS l = 10 from by unfold labS; rw [if_neg (by omega), if_pos hc7]]
  ·clear hA hB A B
   refine a9q ?_
   refine hK2 _ _ ?_
   refine vsk fun K7 hK7 => ?_
   refine a3q 0 [] ?_
   simp only [bs, ↓vopx, ↓vop, a1q, flat, wocs, ↓goc, ↓woc, ↓a2q]
   refine hK7 _ _ ?_
   refine b1q ?_
   refine hQ _ _ _ (.inr rfl) (a7q ?_ fun n b hn h => h)
   try simp only [a0q, lpv, hl, Nat.reduceLT]
   rw [show labS l = 0 from by unfold labS; rw [if_neg (by omega), if_neg (by rw [hc7]; simp)]]
set_option maxRecDepth 20000 in
theorem d6j (z : Int) : f7q Tryz.prog 98 [I z] (Bo false) := by
 refine b4q Tryz.func98 rfl fun s Q hQ => ?_
 obtain ⟨e, he, hl, h0⟩ : ∃ e : Env, ([I z] ++ List.replicate (Tryz.f98.ntmps - ([I z] : List V).length) .junk) = e ∧ e.length = 6 ∧ ev e (.tmp 0) = I z := ⟨_, rfl, rfl, rfl⟩
 rw [he]
 clear he
 refine vsk fun K1 hK1 => ?_
 refine a3q 0 [] ?_
 simp only [bs, ↓vopx, ↓vop, a1q, flat, wocs, ↓goc, ↓woc, ↓a2q]
 refine hK1 _ _ ?_
 refine vsk fun K2 hK2 => ?_
 refine a3q 0 [] ?_
 simp only [bs, ↓vopx, ↓vop, Nat.reduceBEq, a1q, Nat.reduceLT, opII, hl, h0, wocs, ↓goc, ↓woc, ↓a2q, bne_self_eq_false]
 refine hK2 _ _ ?_
 refine b1q ?_
 refine hQ _ _ _ (.inr rfl) (a7q ?_ fun n b hn h => h)
 try simp only [a0q, lpv, hl, Nat.reduceLT]
set_option maxRecDepth 20000 in
theorem cmpInt_ (a b : Int) : f7q Tryz.prog 91 [I a, I b] (I (cmpI a b)) := by
 refine b4q Tryz.func91 rfl fun s Q hQ => ?_
 obtain ⟨e, he, hl, h0, h1⟩ : ∃ e : Env, ([I a, I b] ++ List.replicate (Tryz.f91.ntmps - ([I a, I b] : List V).length) .junk) = e ∧ e.length = 20 ∧ ev e (.tmp 0) = I a ∧ ev e (.tmp 1) = I b := ⟨_, rfl, rfl, rfl, rfl⟩
 rw [he]
 clear he
 refine vsk fun K1 hK1 => ?_
 refine a3q 0 [] ?_
 simp only [bs, ↓vopx, ↓vop, a1q, flat, wocs, ↓goc, ↓woc, ↓a2q]
 refine hK1 _ _ ?_
 refine vsk fun K2 hK2 => ?_
 refine a3q 0 [.pur (Bo false)] ?_
 simp only [bs, ↓vopx, ↓vop, Nat.reduceBEq, a1q, Nat.reduceLT, hl, h0, wocs, ↓goc, ↓woc, ↓a2q, ↓b8q, a6q]
 repeat ((with_reducible refine And.intro ?_ ?_); · exact ⟨Tryz.is98, d6j a⟩)
 refine hK2 _ _ ?_
 refine vsk fun K3 hK3 => ?_
 refine a3q 0 [.pur (Bo false)] ?_
 simp only [bs, ↓vopx, ↓vop, Nat.reduceBEq, a1q, Nat.reduceLT, hl, h1, wocs, ↓goc, ↓woc, ↓a2q, ↓b8q, a6q]
 repeat ((with_reducible refine And.intro ?_ ?_); · exact ⟨Tryz.is98, d6j b⟩)
 refine hK3 _ _ ?_
 refine vsk fun K4 hK4 => ?_
 refine vsk fun K5 hK5 => ?_
 refine a3q 0 [] ?_
 simp only [bs, ↓vopx, ↓vop, Nat.reduceBEq, a1q, Nat.reduceLT, hl, wocs, ↓goc, ↓woc, ↓a2q]
 refine hK5 _ _ ?_
 refine vck fun A B hA hB => ?_
 simp only [b2q, a0q, lpv, Nat.reduceLT, true_implies, reduceCtorEq, false_implies, true_and, hl]
 refine hB ?_
 clear hA hB A B
 refine a9q ?_
 refine hK4 _ _ ?_
 refine vsk fun K6 hK6 => ?_
 refine vsk fun K7 hK7 => ?_
 refine a3q 0 [] ?_
 simp only [bs, ↓vopx, ↓vop, Nat.reduceBEq, a1q, Nat.reduceLT, hl, wocs, ↓goc, ↓woc, ↓a2q]
 refine hK7 _ _ ?_
 refine vck fun A B hA hB => ?_
 simp only [b2q, a0q, lpv, Nat.reduceLT, true_implies, reduceCtorEq, false_implies, true_and, hl]
 refine hB ?_
 clear hA hB A B
 refine a9q ?_
 refine hK6 _ _ ?_
 refine vsk fun K8 hK8 => ?_
 refine vsk fun K9 hK9 => ?_
 refine a3q 0 [] ?_
 simp only [bs, ↓vopx, ↓vop, Nat.reduceBEq, a1q, Nat.reduceLT, opII, hl, h0, h1, wocs, ↓goc, ↓woc, ↓a2q]
 refine hK9 _ _ ?_
 refine vck fun A B hA hB => ?_
 simp only [b2q, a0q, lpv, Nat.reduceLT, decide_eq_true_eq, decide_eq_false_iff_not, hl]
 refine ⟨fun hc16 => hA ?_, fun hc16 => hB ?_⟩
 ·clear hA hB A B
  refine vsk fun K10 hK10 => ?_
  refine a3q 0 [] ?_
  simp only [bs, ↓vopx, ↓vop, a1q, flat, wocs, ↓goc, ↓woc, ↓a2q]
  refine hK10 _ _ ?_
  refine b1q ?_
  refine hQ _ _ _ (.inr rfl) (a7q ?_ fun n b hn h => h)
  try simp only [a0q, lpv, hl, Nat.reduceLT]
  rw [show cmpI a b = -1 from by unfold cmpI; rw [if_pos (by omega)]]
 ·clear hA hB A B
  refine a9q ?_
  refine hK8 _ _ ?_
  refine vsk fun K11 hK11 => ?_
  refine vsk fun K12 hK12 => ?_
  refine a3q 0 [] ?_
  simp only [bs, ↓vopx, ↓vop, Nat.reduceBEq, a1q, Nat.reduceLT, opII, hl, h0, h1, wocs, ↓goc, ↓woc, ↓a2q]
  refine hK12 _ _ ?_
  refine vck fun A B hA hB => ?_
  simp only [b2q, a0q, lpv, Nat.reduceLT, decide_eq_true_eq, decide_eq_false_iff_not, hl]
  refine ⟨fun hc19 => hA ?_, fun hc19 => hB ?_⟩
  ·clear hA hB A B
   refine vsk fun K13 hK13 => ?_
   refine a3q 0 [] ?_
   simp only [bs, ↓vopx, ↓vop, a1q, flat, wocs, ↓goc, ↓woc, ↓a2q]
   refine hK13 _ _ ?_
   refine b1q ?_
   refine hQ _ _ _ (.inr rfl) (a7q ?_ fun n b hn h => h)
   try simp only [a0q, lpv, hl, Nat.reduceLT]
   rw [show cmpI a b = 1 from by unfold cmpI; rw [if_neg (by omega), if_pos (by omega)]]
  ·clear hA hB A B
   refine a9q ?_
   refine hK11 _ _ ?_
   refine vsk fun K14 hK14 => ?_
   refine a3q 0 [] ?_
   simp only [bs, ↓vopx, ↓vop, a1q, flat, wocs, ↓goc, ↓woc, ↓a2q]
   refine hK14 _ _ ?_
   refine b1q ?_
   refine hQ _ _ _ (.inr rfl) (a7q ?_ fun n b hn h => h)
   try simp only [a0q, lpv, hl, Nat.reduceLT]
   rw [show cmpI a b = 0 from by unfold cmpI; rw [if_neg (by omega), if_neg (by omega)]]
set_option maxRecDepth 20000 in
theorem cmpOr_ (l : List Int) (hl0 : l.length < 1000000000) : f7q Tryz.prog 90 [.t (c0q l)] (I (orI l)) := by
 refine b4q Tryz.func90 rfl fun s Q hQ => ?_
 obtain ⟨e, he, hl, h0⟩ : ∃ e : Env, ([.t (c0q l)] ++ List.replicate (Tryz.f90.ntmps - ([.t (c0q l)] : List V).length) .junk) = e ∧ e.length = 18 ∧ ev e (.tmp 0) = .t (c0q l) := ⟨_, rfl, rfl, rfl⟩
 rw [he]
 clear he
 refine vsk fun K1 hK1 => ?_
 refine a3q 0 [] ?_
 simp only [bs, ↓vopx, ↓vop, a1q, flat, wocs, ↓goc, ↓woc, ↓a2q]
 refine hK1 _ _ ?_
 refine vsk fun K2 hK2 => ?_
 refine a3q 0 [] ?_
 simp only [bs, ↓vopx, ↓vop, a1q, flat, wocs, ↓goc, ↓woc, ↓a2q]
 refine hK2 _ _ ?_
 refine vsk fun K3 hK3 => ?_
 refine vsk fun K4 hK4 => ?_
 refine a3q 0 [] ?_
 simp only [bs, ↓vopx, ↓vop, Nat.reduceBEq, a1q, flat, Nat.reduceLT, hl, h0, wocs, ↓goc, ↓woc, ↓a2q, e2q]
 refine hK4 _ _ ?_
 refine a5q ?_
 refine c2q (fun mm e' s' => ∃ i : Nat, mm = l.length - i ∧ i ≤ l.length ∧ e'.length = 18 ∧ ev e' (.tmp 3) = I 0 ∧ ev e' (.tmp 6) = .t (c0q l) ∧ ev e' (.tmp 7) = I l.length ∧ ev e' (.tmp 8) = I i ∧ s = s' ∧ ∀ (j : Nat) (y : Int), j < i → l[j]? = some y → y = 0) (⟨0, rfl, Nat.zero_le _, ?_⟩) ?_
 ·try simp only [a0q, a4q, Nat.reduceBEq, lpv, hl, Nat.reduceLT, true_and]
  repeat ((with_reducible refine And.intro ?_ ?_); · trivial)
  all_goals (exact fun j y h => by omega)
 rintro mm e _ ⟨i, rfl, hle_i, hl, h3, h6, h7, h_i, rfl, hal⟩
 refine vsk fun K5 hK5 => ?_
 refine a3q 0 [] ?_
 simp only [a1q, opII, h7, h_i, wocs, ↓goc, ↓woc]
 refine hK5 _ _ ?_
 refine vsk fun K6 hK6 => ?_
 refine vck fun A B hA hB => ?_
 simp only [b2q, a0q, Nat.reduceLT, decide_eq_true_eq, decide_eq_false_iff_not, hl]
 refine ⟨fun hc9 => hA ?_, fun hc9 => hB ?_⟩
 ·clear hA hB A B
  refine a9q ?_
  refine hK6 _ _ ?_
  refine vsk fun K7 hK7 => ?_
  refine a5q ?_
  refine vsk fun K8 hK8 => ?_
  have hlt : i < l.length := by omega
  obtain ⟨x, hx⟩ : ∃ b, l[i]? = some b := ⟨_, List.getElem?_eq_getElem hlt⟩
  refine a3q 0 [] ?_
  simp only [bs, ↓vopx, ↓vop, Nat.reduceBEq, a1q, Nat.reduceLT, a8q, b0q, hl, h6, h_i, wocs, ↓goc, ↓woc, ↓a2q, Tryz.ag3, Tryz.sz3, Tryz.un40, hx]
  repeat ((with_reducible refine And.intro ?_ ?_); · (with_reducible assumption))
  refine hK8 _ _ ?_
  refine vsk fun K9 hK9 => ?_
  refine a3q 0 [] ?_
  simp only [bs, ↓vopx, ↓vop, Nat.reduceBEq, a1q, Nat.reduceLT, opII, hl, h3, wocs, ↓goc, ↓woc, ↓a2q]
  refine hK9 _ _ ?_
  refine vck fun A B hA hB => ?_
  simp only [b2q, a0q, lpv, Nat.reduceLT, bne_iff_ne, bne_eq_false_iff_eq, ne_eq, hl]
  refine ⟨fun hc14 => hA ?_, fun hc14 => hB ?_⟩
  ·clear hA hB A B
   refine vsk fun K10 hK10 => ?_
   refine a3q 0 [] ?_
   simp only [bs, ↓vopx, ↓vop, Nat.reduceBEq, a1q, Nat.reduceLT, hl, wocs, ↓goc, ↓woc, ↓a2q]
   refine hK10 _ _ ?_
   refine b1q ?_
   refine hQ _ _ _ (.inr rfl) (a7q ?_ fun n b hn h => h)
   try simp only [a0q, lpv, hl, Nat.reduceLT]
   rw [p9x hx hc14 hal]
  ·clear hA hB A B
   refine a9q ?_
   refine hK7 _ _ ?_
   refine a3q 0 [] ?_
   simp only [bs, ↓vopx, ↓vop, Nat.reduceBEq, a1q, flat, Nat.reduceLT, opII, hl, h3, h6, h7, h_i, wocs, ↓goc, ↓woc, ↓a2q]
   repeat ((with_reducible refine And.intro ?_ ?_); · exact ⟨by omega, by omega⟩)
   refine ⟨l.length - (i + 1), by omega, i + 1, rfl, by omega, ?_⟩
   try simp only [a0q, a4q, Nat.reduceBEq, lpv, hl, h3, h6, h7, h_i, if_true, if_false, Nat.reduceEqDiff, Nat.reduceLT, true_and, and_true]
   repeat ((with_reducible refine And.intro ?_ ?_); · trivial)
   intro j y hj hy
   rcases Nat.lt_succ_iff_lt_or_eq.1 hj with hj | rfl
   ·exact hal j y hj hy
   ·rw [hx] at hy; cases hy; exact hc14
 ·clear hA hB A B
  have han : l.length = i := by omega
  refine c1q ?_
  simp only [a1q, b5q, if_true]
  refine hK3 _ _ ?_
  refine vsk fun K11 hK11 => ?_
  refine a3q 0 [] ?_
  simp only [bs, ↓vopx, ↓vop, Nat.reduceBEq, a1q, Nat.reduceLT, hl, h3, wocs, ↓goc, ↓woc, ↓a2q]
  refine hK11 _ _ ?_
  refine b1q ?_
  refine hQ _ _ _ (.inr rfl) (a7q ?_ fun n b hn h => h)
  try simp only [a0q, lpv, hl, Nat.reduceLT]
  rw [e3x fun j y hy => hal j y (by have := (List.getElem?_eq_some_iff.1 hy).1; omega) hy]
set_option maxRecDepth 20000 in
theorem w7x (p q : Int × Int) : f7q Tryz.prog 72 [.agg [I p.1, I p.2], .agg [I q.1, I q.2]] (I (cmpP p q)) := by
 refine b4q Tryz.func72 rfl fun s Q hQ => ?_
 obtain ⟨e, he, hl, h0, h1⟩ : ∃ e : Env, ([.agg [I p.1, I p.2], .agg [I q.1, I q.2]] ++ List.replicate (Tryz.f72.ntmps - ([.agg [I p.1, I p.2], .agg [I q.1, I q.2]] : List V).length) .junk) = e ∧ e.length = 17 ∧ ev e (.tmp 0) = .agg [I p.1, I p.2] ∧ ev e (.tmp 1) = .agg [I q.1, I q.2] := ⟨_, rfl, rfl, rfl, rfl⟩
 rw [he]
 clear he
 have hne1 : ¬ s.next = s.next + 1 := by omega
 refine vsk fun K1 hK1 => ?_
 refine a3q 0 [] ?_
 simp only [bs, ↓vopx, ↓vop, Nat.reduceBEq, a1q, flat, V.cells, h0, h1, wocs, ↓goc, ↓woc, ↓a2q]
 refine hK1 _ _ ?_
 refine vsk fun K2 hK2 => ?_
 refine c5q Tryz.mixed 9 [0, 1, 0, 1, 0, 0, 1, 0, 1] [.pur (I (cmpI p.1 q.1)), .pur (I (cmpI p.2 q.2))] [.pur (I (orI [cmpI p.1 q.1, cmpI p.2 q.2]))] 1 (by decide +kernel) (by simp [lpv, hl]) rfl ?_
 simp only [bs, Nat.reduceLeDiff, Nat.reduceAdd, d9q, g7q, repl, Sg.frzP, ↓vopx, ↓vop, Nat.reduceBEq, a1q, Nat.reduceLT, V.cells, a8q, b0q, Sg.frzL, Sg.frz1, hl, wocs, ↓goc, ↓woc, ↓e3q, ↓b8q, a6q, ↓m2q, chn, ↓goq, ↓woq, ↓h6z, List.zip_cons_cons, List.zip_nil_right, Tryz.ag3, Tryz.fd65_0, Tryz.fd65_1, Tryz.sl40, Tryz.sz3, hne1]
 repeat ((with_reducible refine And.intro ?_ ?_); · first | exact ⟨Tryz.is91, cmpInt_ _ _⟩ | exact ⟨Tryz.is90, cmpOr_ [_, _] (by simp)⟩)
 refine hK2 _ _ ?_
 refine b1q ?_
 refine hQ _ _ _ (.inr rfl) (a7q ?_ fun n b hn h => k4q s _ _ hn h)
 try simp only [a0q, lpv, hl, Nat.reduceLT]
 rfl
end Go.Proofs

open Go Go.V
namespace Go.Proofs
theorem k8x (l : List ByteArray) : (l.all fun b => decide (b.size ≤ 60)) = !(l.any bigB) := by
 induction l with
 | nil => rfl
 | cons b l ih =>
  simp only [List.all_cons, List.any_cons, ih, Bool.not_or]
  congr 1
  unfold bigB
  by_cases h : b.size ≤ 60
  ·have : ¬ ((b.size : Int) > 60) := by omega
   simp [h, this]
  ·have : ((b.size : Int) > 60) := by omega
   simp [h, this]
theorem labS_ne {o : Ob} (h : labS o.labels ≠ 0) : c4q o = labS o.labels := by
 unfold labS at h ⊢
 unfold c4q
 by_cases h1 : 40 < o.labels.length
 ·rw [if_pos h1, if_pos h1]
 ·rw [if_neg h1] at h ⊢
  rw [if_neg h1]
  have hany : o.labels.any bigB = true := by
   cases h2 : o.labels.any bigB
   ·rw [h2] at h; exact absurd rfl h
   ·rfl
  rw [k8x, hany]; rfl
theorem labS_eq {o : Ob} (h : labS o.labels = 0) : o.labels.length ≤ 40 ∧ (o.labels.all fun b => decide (b.size ≤ 60)) = true := by
 unfold labS at h
 split at h
 ·cases h
 ·rename_i h1
  split at h
  ·cases h
  ·rename_i h2; exact ⟨by omega, by rw [k8x]; simpa using h2⟩
theorem OfP.split {s : Sg} {n : Nat} {l : List (Int × Int)} {v : V} {s' : Sg} (h : OfP s n l v s') : ∃ (pv : V) (ec : Int), v = .tup [pv, I ec] ∧ Keep s s' ∧ s.next ≤ s'.next ∧
 ((l.all (inB n) = true ∧ ec = 0 ∧ ∃ p na rp rq, pv = .ptr p 0 ∧ RelP s' p n (mxOf l) na rp rq) ∨ (l.all (inB n) = false ∧ ec = 10)) := by
 rcases h with ⟨h1, p, na, rp, rq, rfl, h2, _, h3, h4⟩ | ⟨h1, rfl, h3, h4⟩
 ·exact ⟨_, _, rfl, h3, h4, .inl ⟨h1, rfl, p, na, rp, rq, rfl, h2⟩⟩
 ·exact ⟨_, _, rfl, h3, h4, .inr ⟨h1, rfl⟩⟩
set_option maxRecDepth 20000 in
theorem check_ (o : Ob) (hs1 : o.labels.length < 1000000000) (hs2 : o.pairs.length < 1000000000) : f7q Tryz.prog 50 [vObj o] (I (c4q o)) := by
 refine b4q Tryz.func50 rfl fun s Q hQ => ?_
 obtain ⟨e, he, hl, h0⟩ : ∃ e : Env, ([vObj o] ++ List.replicate (Tryz.f50.ntmps - ([vObj o] : List V).length) .junk) = e ∧ e.length = 49 ∧ ev e (.tmp 0) = vObj o := ⟨_, rfl, rfl, rfl⟩
 rw [he]
 clear he
 refine vsk fun K1 hK1 => ?_
 refine a3q 0 [] ?_
 simp only [bs, ↓vopx, ↓vop, a1q, flat, V.cells, h0, wocs, ↓goc, ↓woc, ↓a2q]
 refine hK1 _ _ ?_
 refine vsk fun K2 hK2 => ?_
 refine vsk fun K3 hK3 => ?_
 refine a3q 0 [.pur (I (labS o.labels))] ?_
 simp only [bs, ↓vopx, ↓vop, Nat.reduceBEq, a1q, Nat.reduceLT, a8q, b0q, hl, wocs, ↓goc, ↓woc, ↓a2q, ↓b8q, a6q, Tryz.ag26, Tryz.fd29_0, Tryz.sz26]
 repeat ((with_reducible refine And.intro ?_ ?_); · exact ⟨Tryz.is71, labels_ o.labels hs1⟩)
 refine hK3 _ _ ?_
 refine vsk fun K4 hK4 => ?_
 refine a3q 0 [] ?_
 simp only [bs, ↓vopx, ↓vop, a1q, flat, Nat.reduceLT, opII, hl, wocs, ↓goc, ↓woc, ↓a2q]
 refine hK4 _ _ ?_
 refine vck fun A B hA hB => ?_
 simp only [b2q, a0q, lpv, Nat.reduceLT, bne_iff_ne, bne_eq_false_iff_eq, ne_eq, hl]
 refine ⟨fun hc11 => hA ?_, fun hc11 => hB ?_⟩
 ·clear hA hB A B
  refine vsk fun K5 hK5 => ?_
  refine a3q 0 [] ?_
  simp only [bs, ↓vopx, ↓vop, Nat.reduceBEq, a1q, Nat.reduceLT, hl, wocs, ↓goc, ↓woc, ↓a2q]
  refine hK5 _ _ ?_
  refine b1q ?_
  refine hQ _ _ _ (.inr rfl) (a7q ?_ fun n b hn h => l6q s _ hn h)
  try simp only [a0q, lpv, hl, Nat.reduceLT]
  rw [labS_ne hc11]
 ·clear hA hB A B
  obtain ⟨hle40, hsz⟩ := labS_eq hc11
  refine a9q ?_
  refine hK2 _ _ ?_
  refine vsk fun K6 hK6 => ?_
  refine vsk fun K7 hK7 => ?_
  refine a3q 0 [] ?_
  simp only [bs, ↓vopx, ↓vop, a1q, flat, wocs, ↓goc, ↓woc, ↓a2q]
  refine hK7 _ _ ?_
  refine a5q ?_
  refine c2q (fun mm e' s' => ∃ i : Nat, mm = o.pairs.length - i ∧ i ≤ o.pairs.length ∧ e'.length = 49 ∧ ev e' (.tmp 1) = .ptr s.next 0 ∧ ev e' (.tmp 4) = I ((i : Int) + 1) ∧ s' = s.add (.box 29 [.t (d1q o.labels), .t (b3q o.pairs)]) ∧ ∀ (j : Nat) (p q : Int × Int), j < i → o.pairs[j]? = some p → o.pairs[j + 1]? = some q → pltB p q = true) (⟨0, rfl, Nat.zero_le _, ?_⟩) ?_
  ·try simp only [a0q, a4q, Nat.reduceBEq, lpv, hl, Nat.reduceLT, true_and]
   repeat ((with_reducible refine And.intro ?_ ?_); · trivial)
   all_goals (first | rfl | exact fun j p q h => by omega)
  rintro mm e _ ⟨i, rfl, hle_i, hl, hb1, h_i, rfl, hall⟩
  refine vsk fun K8 hK8 => ?_
  refine vsk fun K9 hK9 => ?_
  refine a3q 0 [] ?_
  simp only [bs, ↓vopx, ↓vop, Nat.reduceBEq, a1q, Nat.reduceLT, a8q, b0q, opII, hl, hb1, h_i, wocs, ↓goc, ↓woc, ↓a2q, Tryz.ag27, Tryz.fd29_1, Tryz.sz27, Tryz.un27, g2q]
  refine hK9 _ _ ?_
  refine vck fun A B hA hB => ?_
  simp only [b2q, a0q, lpv, Nat.reduceLT, decide_eq_true_eq, decide_eq_false_iff_not, hl]
  refine ⟨fun hc17 => hA ?_, fun hc17 => hB ?_⟩
  ·clear hA hB A B
   refine a9q ?_
   refine hK8 _ _ ?_
   refine vsk fun K10 hK10 => ?_
   refine a5q ?_
   refine vsk fun K11 hK11 => ?_
   have hlt : i + 1 < o.pairs.length := by omega
   obtain ⟨p, hp⟩ : ∃ p, o.pairs[i]? = some p := ⟨_, List.getElem?_eq_getElem (by omega)⟩
   obtain ⟨q, hq⟩ : ∃ q, o.pairs[i + 1]? = some q := ⟨_, List.getElem?_eq_getElem hlt⟩
   have g0 := z7z hp
   have g2 := z7z hq
   have hfl := d7q o.pairs
   have ht : ((i : Int) + 1).toNat = i + 1 := by omega
   have hz1 : (i : Int) + 1 - 1 = i := by omega
   have hz2 : (0 : Int) ≤ (i : Int) + 1 := by omega
   have hz3 : (i + 1) * 2 < o.pairs.length * 2 := by omega
   have hz4 : i * 2 < o.pairs.length * 2 := by omega
   refine c5q Tryz.mixed 11 [0, 1, 0, 0, 1, 1, 0, 1, 0, 1, 1] [.pur (I (cmpP p q))] [] 0 (by decide +kernel) (by simp [lpv, hl]) rfl ?_
   simp only [bs, Nat.reduceAdd, ↓vopx, ↓vop, Nat.reduceBEq, a1q, flat, Nat.reduceLT, a8q, b0q, opII, opSS, hl, hb1, h_i, wocs, ↓goc, ↓woc, ↓e3q, ↓b8q, a6q, ↓farC, chn, ↓goq, ↓woq, List.zip_cons_cons, List.zip_nil_right, Tryz.ag27, Tryz.ag65, Tryz.fd29_1, Tryz.sz27, Tryz.sz65, Tryz.un27, g0, g2, hfl, ht, hz1, hz2, hz3, hz4]
   repeat ((with_reducible refine And.intro ?_ ?_); · first | exact ⟨by omega, by omega⟩ | exact ⟨Tryz.is72, w7x p q⟩)
   refine hK11 _ _ ?_
   refine vck fun A B hA hB => ?_
   simp only [b2q, a0q, lpv, Nat.reduceLT, decide_eq_true_eq, decide_eq_false_iff_not, hl]
   refine ⟨fun hc32 => hA ?_, fun hc32 => hB ?_⟩
   ·clear hA hB A B
    refine vsk fun K12 hK12 => ?_
    refine a3q 0 [] ?_
    simp only [bs, ↓vopx, ↓vop, a1q, flat, wocs, ↓goc, ↓woc, ↓a2q]
    refine hK12 _ _ ?_
    refine b1q ?_
    refine hQ _ _ _ (.inr rfl) (a7q ?_ fun n b hn h => l6q s _ hn h)
    try simp only [a0q, lpv, hl, Nat.reduceLT]
    have hbad : pltB p q = false := by have h5 := l6x p q; rw [Bool.eq_iff_iff] at h5; simp only [decide_eq_true_eq, Bool.not_eq_true'] at h5; exact h5.1 hc32
    rw [show c4q o = 10 from by unfold c4q; rw [if_neg (by omega), r8q hp hq hbad]; simp]
   ·clear hA hB A B
    refine a9q ?_
    refine hK10 _ _ ?_
    refine a3q 0 [] ?_
    simp only [bs, ↓vopx, ↓vop, Nat.reduceBEq, a1q, flat, Nat.reduceLT, opII, hl, hb1, h_i, wocs, ↓goc, ↓woc, ↓a2q]
    repeat ((with_reducible refine And.intro ?_ ?_); · exact ⟨by omega, by omega⟩)
    refine ⟨o.pairs.length - (i + 1), by omega, i + 1, rfl, by omega, ?_⟩
    try simp only [a0q, a4q, Nat.reduceBEq, lpv, hl, hb1, h_i, if_true, if_false, Nat.reduceEqDiff, Nat.reduceLT, true_and, and_true]
    repeat ((with_reducible refine And.intro ?_ ?_); · trivial)
    intro j x y hj h1 h2
    rcases Nat.lt_succ_iff_lt_or_eq.1 hj with hj | rfl
    ·exact hall j x y hj h1 h2
    ·rw [hp] at h1; rw [hq] at h2; cases h1; cases h2; have h5 := l6x p q; rw [Bool.eq_iff_iff] at h5; simp only [decide_eq_true_eq, Bool.not_eq_true'] at h5; cases h6 : pltB p q; exact absurd (h5.2 h6) (by omega); rfl
  ·clear hA hB A B
   refine c1q ?_
   simp only [a1q, b5q, if_true]
   refine hK6 _ _ ?_
   refine vsk fun K13 hK13 => ?_
   refine a3q 0 [.stop] ?_
   simp only [bs, Nat.reduceAdd, ↓vopx, ↓vop, Nat.reduceBEq, a1q, Nat.reduceLT, a8q, b0q, hl, hb1, wocs, ↓goc, ↓woc, ↓a2q, ↓b8q, a6q, Tryz.ag26, Tryz.ag27, Tryz.fd29_0, Tryz.fd29_1, Tryz.sz26, Tryz.sz27, Tryz.un26, c9q]
   refine ⟨Tryz.is73, (relOf_ _ o.labels.length (by omega) o.pairs hs2).mono fun v s2 hv => ?_⟩
   obtain ⟨pv, ec, rfl, hk, hnx, hcase⟩ := hv.split
   try simp only [bs, Nat.reduceBEq, Nat.reduceLT, hl, Hold]
   refine hK13 _ _ ?_
   refine vsk fun K14 hK14 => ?_
   refine vsk fun K15 hK15 => ?_
   have hks : Keep s s2 := ((Keep.refl s).add (Nat.le_refl _) _).trans (by simp [Sg.add]) hk
   have hris : i9q o.pairs = true := t4q fun j x y h1 h2 => hall j x y (by have := (List.getElem?_eq_some_iff.1 h2).1; omega) h1 h2
   rcases hcase with ⟨hin, rfl, c, na1, rp1, rq1, rfl, hR⟩ | ⟨hin, rfl⟩
   ·refine a3q 0 [.det (Bo (t0z o.labels.length (mxOf o.pairs))) s2] ?_
    simp only [bs, ↓vopx, ↓vop, Nat.reduceBEq, a1q, flat, Nat.reduceLT, opII, gtmp, hl, wocs, ↓goc, ↓woc, ↓a2q, ↓b8q, ↓c8q, a6q, bne_self_eq_false]
    repeat ((with_reducible refine And.intro ?_ ?_); · exact ⟨Tryz.is74, r9x _ _ _ _ _ _ _ hR⟩)
    refine hK15 _ _ ?_
    refine vck fun A B hA hB => ?_
    simp only [b2q, a0q, lpv, Nat.reduceLT, Bool.not_eq_true', Bool.not_eq_false', hl]
    refine ⟨fun hc48 => hA ?_, fun hc48 => hB ?_⟩
    ·clear hA hB A B
     refine vsk fun K16 hK16 => ?_
     refine a3q 0 [] ?_
     simp only [bs, ↓vopx, ↓vop, a1q, flat, wocs, ↓goc, ↓woc, ↓a2q]
     refine hK16 _ _ ?_
     refine b1q ?_
     refine hQ _ _ _ (.inr rfl) (a7q ?_ hks)
     try simp only [a0q, lpv, hl, Nat.reduceLT]
     rw [show c4q o = 10 from by unfold c4q; rw [if_neg (by omega), hc48]; simp]
    ·clear hA hB A B
     refine a9q ?_
     refine hK14 _ _ ?_
     refine vsk fun K17 hK17 => ?_
     refine a3q 0 [] ?_
     simp only [bs, ↓vopx, ↓vop, a1q, flat, wocs, ↓goc, ↓woc, ↓a2q]
     refine hK17 _ _ ?_
     refine b1q ?_
     refine hQ _ _ _ (.inr rfl) (a7q ?_ hks)
     try simp only [a0q, lpv, hl, Nat.reduceLT]
     rw [show c4q o = 0 from by unfold c4q; rw [if_neg (by omega), hsz, hin, hris, hc48]; rfl]
   ·refine a3q 0 [] ?_
    simp only [bs, ↓vopx, ↓vop, Nat.reduceBEq, a1q, flat, Nat.reduceLT, opII, gtmp, hl, wocs, ↓goc, ↓woc, ↓a2q, ↓e5q, Int.reduceBNe]
    refine hK15 _ _ ?_
    refine vck fun A B hA hB => ?_
    simp only [b2q, a0q, lpv, Nat.reduceLT, true_implies, reduceCtorEq, false_implies, and_true, hl]
    refine hA ?_
    clear hA hB A B
    refine vsk fun K18 hK18 => ?_
    refine a3q 0 [] ?_
    simp only [bs, ↓vopx, ↓vop, a1q, flat, wocs, ↓goc, ↓woc, ↓a2q]
    refine hK18 _ _ ?_
    refine b1q ?_
    refine hQ _ _ _ (.inr rfl) (a7q ?_ hks)
    try simp only [a0q, lpv, hl, Nat.reduceLT]
    rw [show c4q o = 10 from by unfold c4q; rw [if_neg (by omega), hin]; simp]
set_option maxRecDepth 20000 in
theorem d9z (o : Ob) (hs1 : o.labels.length < 1000000000) (hs2 : o.pairs.length < 1000000000) : f7q Tryz.prog 30 [vObj o] (Bo (c4q o == 0)) := by
 refine b4q Tryz.func30 rfl fun s Q hQ => ?_
 obtain ⟨e, he, hl, h0⟩ : ∃ e : Env, ([vObj o] ++ List.replicate (Tryz.f30.ntmps - ([vObj o] : List V).length) .junk) = e ∧ e.length = 6 ∧ ev e (.tmp 0) = vObj o := ⟨_, rfl, rfl, rfl⟩
 rw [he]
 clear he
 refine vsk fun K1 hK1 => ?_
 refine a3q 0 [] ?_
 simp only [bs, ↓vopx, ↓vop, a1q, flat, V.cells, h0, wocs, ↓goc, ↓woc, ↓a2q]
 refine hK1 _ _ ?_
 refine vsk fun K2 hK2 => ?_
 refine a3q 0 [.pur (I (c4q o))] ?_
 simp only [bs, Nat.reduceAdd, ↓vopx, ↓vop, Nat.reduceBEq, a1q, flat, Nat.reduceLT, a8q, b0q, opII, hl, wocs, ↓goc, ↓woc, ↓a2q, ↓b8q, a6q, Tryz.ag29, Tryz.sz29]
 repeat ((with_reducible refine And.intro ?_ ?_); · exact ⟨Tryz.is50, check_ o hs1 hs2⟩)
 refine hK2 _ _ ?_
 refine b1q ?_
 refine hQ _ _ _ (.inr rfl) (a7q ?_ fun n b hn h => l6q s _ hn h)
 try simp only [a0q, lpv, hl, Nat.reduceLT]
end Go.Proofs

open Go Go.V
namespace Go.Proofs
structure ValI (n0 : Nat) (C : Sg → Prop) (vals : Nat → List V) (len : Nat) (Iv : (Nat → Prop) → Nat → Sg → Prop) : Prop where
 hI : ∀ X k s, Iv X k s → C s ∧ ∀ x, X x → x < s.next
 hadd : ∀ X k s b, Iv X k s → Iv (fun m => X m ∨ m = s.next) k (s.add b)
 hset : ∀ X k s x b, Iv X k s → X x → Iv X k (s.set x b)
 hY : ∀ X k s, k < len → Iv X k s → w8q Tryz.prog n0 (vals k) s fun v s' => v = Bo true ∧ Iv X (k + 1) s' ∧ ∀ x, X x → s'.m x = s.m x
def r7z (l : List (Int × Int)) (k : Nat) : List V := match l[k]? with | some p => [.agg [I p.1, I p.2]] | none => []
set_option maxRecDepth 20000 in
theorem l2z (s : Sg) (l : List (Int × Int)) : f8q Tryz.prog 38 [.t (b3q l)] s (fun v s' => v = .clo 60 [.ptr s.next 0] ∧ s' = s.add (.box 27 [.t (b3q l)])) := by
 refine b6q Tryz.func38 rfl fun Q hQ => ?_
 obtain ⟨e, he, hl, h0⟩ : ∃ e : Env, ([.t (b3q l)] ++ List.replicate (Tryz.f38.ntmps - ([.t (b3q l)] : List V).length) .junk) = e ∧ e.length = 4 ∧ ev e (.tmp 0) = .t (b3q l) := ⟨_, rfl, rfl, rfl⟩
 rw [he]
 clear he
 refine vsk fun K1 hK1 => ?_
 refine a3q 0 [] ?_
 simp only [bs, ↓vopx, ↓vop, a1q, flat, V.cells, h0, wocs, ↓goc, ↓woc, ↓a2q]
 refine hK1 _ _ ?_
 refine vsk fun K2 hK2 => ?_
 refine a3q 0 [] ?_
 simp only [bs, ↓vopx, ↓vop, Nat.reduceBEq, a1q, Nat.reduceLT, hl, wocs, ↓goc, ↓woc, ↓a2q, q0z, List.all_cons, List.all_nil, Bool.and_self]
 refine hK2 _ _ ?_
 refine b1q ?_
 refine hQ _ _ _ (.inr rfl) (d6q (v := .clo 60 [.ptr s.next 0]) ?_ rfl ⟨rfl, rfl⟩)
 try simp only [a0q, lpv, hl, Nat.reduceLT]
set_option maxRecDepth 20000 in
theorem c8z (n0 cb : Nat) (l : List (Int × Int)) (hl0 : l.length < 1000000000) (Iv : (Nat → Prop) → Nat → Sg → Prop) (E : ValI n0 (fun s => s.m cb = some (.box 27 [.t (b3q l)])) (r7z l) l.length Iv) (s : Sg) (hs0 : Iv (fun _ => False) 0 s) : f8q Tryz.prog 60 [.yl n0, .ptr cb 0] s (fun _ s' => ∃ X, Iv X l.length s') := by
 refine b6q Tryz.func60 rfl fun Q hQ => ?_
 obtain ⟨e, he, hl, h0, h1⟩ : ∃ e : Env, ([.yl n0, .ptr cb 0] ++ List.replicate (Tryz.f60.ntmps - ([.yl n0, .ptr cb 0] : List V).length) .junk) = e ∧ e.length = 16 ∧ ev e (.tmp 0) = .yl n0 ∧ ev e (.tmp 1) = .ptr cb 0 := ⟨_, rfl, rfl, rfl, rfl⟩
 rw [he]
 clear he
 have hcb := (E.hI _ _ s hs0).1
 refine vsk fun K1 hK1 => ?_
 refine a3q 0 [] ?_
 simp only [bs, ↓vopx, ↓vop, a1q, flat, Nat.reduceLT, a8q, b0q, hl, h1, wocs, ↓goc, ↓woc, ↓a2q, Tryz.ag27, Tryz.sz27, Tryz.un27, g2q, hcb]
 refine hK1 _ _ ?_
 refine a5q ?_
 refine c2q (fun mm e' s' => ∃ k : Nat, mm = l.length - k ∧ k ≤ l.length ∧ e'.length = 16 ∧ ev e' (.tmp 0) = .yl n0 ∧ ev e' (.tmp 1) = .ptr cb 0 ∧ ev e' (.tmp 5) = .t (b3q l) ∧ ev e' (.tmp 6) = I l.length ∧ ev e' (.tmp 7) = I k ∧ True ∧ ∃ X, Iv X k s') (⟨0, rfl, Nat.zero_le _, ?_⟩) ?_
 ·try simp only [a0q, a4q, Nat.reduceBEq, lpv, hl, h0, h1, Nat.reduceLT, true_and]
  repeat ((with_reducible refine And.intro ?_ ?_); · trivial)
  all_goals (exact ⟨_, hs0⟩)
 rintro mm e s1 ⟨k, rfl, hle_k, hl, h0, h1, h5, h6, h_k, hst, ⟨X, hiv⟩⟩
 refine vsk fun K2 hK2 => ?_
 refine a3q 0 [] ?_
 simp only [a1q, opII, h6, h_k, wocs, ↓goc, ↓woc]
 refine hK2 _ _ ?_
 refine vsk fun K3 hK3 => ?_
 refine vck fun A B hA hB => ?_
 simp only [b2q, a0q, Nat.reduceLT, decide_eq_true_eq, decide_eq_false_iff_not, hl]
 refine ⟨fun hc8 => hA ?_, fun hc8 => hB ?_⟩
 ·clear hA hB A B
  refine a9q ?_
  refine hK3 _ _ ?_
  refine vsk fun K4 hK4 => ?_
  refine a5q ?_
  refine vsk fun K5 hK5 => ?_
  have hlt : k < l.length := by omega
  obtain ⟨p, hp⟩ : ∃ p, l[k]? = some p := ⟨_, List.getElem?_eq_getElem hlt⟩
  have g0 := z7z hp
  have hfl := d7q l
  have hi2 : k * 2 < l.length * 2 := by omega
  refine a3q 0 [] ?_
  simp only [bs, Nat.reduceAdd, ↓vopx, ↓vop, Nat.reduceBEq, a1q, Nat.reduceLT, V.cells, a8q, b0q, hl, h5, h_k, wocs, ↓goc, ↓woc, ↓a2q, Tryz.ag65, Tryz.sz65, Tryz.un27, Tryz.zv65, g0, hfl, hi2]
  refine hK5 _ _ ?_
  refine vsk fun K6 hK6 => ?_
  refine d4q fun e2 sb hE2 hSb => ?_
  subst hE2
  have hivb : Iv (fun m => X m ∨ m = s1.next) k sb := by rw [hSb]; exact E.hset _ _ _ _ _ (E.hadd _ _ s1 _ hiv) (.inr rfl)
  have hbx : sb.m s1.next = some (.box 65 [I p.1, I p.2]) := by rw [hSb]; simp [Sg.set]
  have hY := E.hY _ k sb hlt hivb
  have hpv : r7z l k = [.agg [I p.1, I p.2]] := by unfold r7z; rw [hp]
  rw [hpv] at hY
  refine a3q 0 [.stop] ?_
  simp only [bs, Nat.reduceAdd, ↓vopx, ↓vop, Nat.reduceBEq, a1q, Nat.reduceLT, a8q, b0q, hl, h0, wocs, ↓goc, ↓woc, ↓a2q, a6q, ↓m2q, Tryz.ag65, Tryz.sz65, hbx]
  refine w8q.mono hY fun v s2 hv => ?_
  obtain ⟨rfl, hiv2, _⟩ := hv
  try simp only [bs, Nat.reduceBEq, Nat.reduceLT, hl, h0, Hold]
  refine hK6 _ _ ?_
  refine vck fun A B hA hB => ?_
  simp only [b2q, a0q, lpv, Nat.reduceLT, true_implies, reduceCtorEq, false_implies, true_and, hl]
  refine hB ?_
  clear hA hB A B
  refine a9q ?_
  refine hK4 _ _ ?_
  refine a3q 0 [] ?_
  simp only [bs, ↓vopx, ↓vop, Nat.reduceBEq, a1q, flat, Nat.reduceLT, opII, hl, h0, h1, h5, h6, h_k, wocs, ↓goc, ↓woc, ↓a2q]
  repeat ((with_reducible refine And.intro ?_ ?_); · exact ⟨by omega, by omega⟩)
  refine ⟨l.length - (k + 1), by omega, k + 1, rfl, by omega, ?_⟩
  try simp only [a0q, a4q, Nat.reduceBEq, lpv, hl, h0, h1, h5, h6, h_k, if_true, if_false, Nat.reduceEqDiff, Nat.reduceLT, true_and, and_true]
  repeat ((with_reducible refine And.intro ?_ ?_); · trivial)
  exact ⟨_, hiv2⟩
 ·clear hA hB A B
  have han : l.length = k := by omega
  refine c1q ?_
  simp only [a1q, b5q, if_true]
  rw [← han] at hiv
  exact hQ _ _ _ (.inl rfl) ⟨[], rfl, rfl, X, hiv⟩
end Go.Proofs

open Go Go.V
namespace Go.Proofs
theorem NewP.of_keep {s s1 : Sg} (hk : Keep s s1) (hn : s.next ≤ s1.next) {n : Nat} {M : Mx} {v : V} {s' : Sg} (h : NewP s1 n M v s') : NewP s n M v s' := by
 obtain ⟨p, na, rp, rq, rfl, h1, h2, h3, h4⟩ := h
 exact ⟨p, na, rp, rq, rfl, h1, ⟨Nat.le_trans hn h2.hp, Nat.le_trans hn h2.ha, fun i hi => Nat.le_trans hn (h2.hr i hi), fun i hi => Nat.le_trans hn (h2.hq i hi)⟩, hk.trans hn h3, Nat.le_trans hn h4⟩
theorem RelP.setO {s : Sg} {p n : Nat} {M : Mx} {na : Nat} {rp rq : Nat → Nat} (h : RelP s p n M na rp rq) {N x : Nat} (hN : p < N ∧ na < N ∧ (∀ i, i < n → rp i < N) ∧ ∀ i, i < n → rq i < N) (hx : N ≤ x) (b : Blk) : RelP (s.set x b) p n M na rp rq := by
 obtain ⟨q1, q2, q3, q4⟩ := hN
 refine ⟨by simp [Sg.set, show p ≠ x by omega, h.hp], by simp [Sg.set, show na ≠ x by omega, h.ha], fun i hi => ?_, fun i hi => ?_, h.inj, h.le, h.lp, h.la, h.lr, h.lq⟩
 ·have := q3 i hi; simp [Sg.set, show rp i ≠ x by omega, h.hr i hi]
 ·have := q4 i hi; simp [Sg.set, show rq i ≠ x by omega, h.hw i hi]
structure RelI (s : Sg) (lp : Blk) (t3 cb n0 c n : Nat) (l : List (Int × Int)) (na : Nat) (rp rq : Nat → Nat) (X : Nat → Prop) (k : Nat) (s' : Sg) : Prop where
 rel : RelP s' c n (mxOf (l.take k)) na rp rq
 bt : s'.m t3 = some (.box 79 [.ptr c 0])
 bc : s'.m cb = some (.box 27 [.t (b3q l)])
 hl : s'.m n0 = some lp
 hk : Keep s s'
 nx : n0 < s'.next
 hX : ∀ x, X x → n0 < x ∧ x < s'.next
variable {s : Sg} {lp : Blk} {t3 cb n0 c n : Nat} {l : List (Int × Int)} {na : Nat} {rp rq : Nat → Nat} {X : Nat → Prop} {k : Nat} {s' : Sg}
theorem RelI.add (h : RelI s lp t3 cb n0 c n l na rp rq X k s') (h3 : t3 < n0) (hc : cb < n0) (hs : s.next ≤ n0) (b : Blk) : RelI s lp t3 cb n0 c n l na rp rq (fun x => X x ∨ x = s'.next) k (s'.add b) := by
 have hn := h.nx
 refine ⟨h.rel.keep ((Keep.refl s').add (Nat.le_refl _) b) (by simp [Sg.add]), by simp [Sg.add, show t3 ≠ s'.next by omega, h.bt], by simp [Sg.add, show cb ≠ s'.next by omega, h.bc], by simp [Sg.add, show n0 ≠ s'.next by omega, h.hl], h.hk.add (by omega) b, by simp [Sg.add]; omega, fun x hx => ?_⟩
 rcases hx with hx | rfl
 ·have := h.hX x hx; exact ⟨this.1, by simp [Sg.add]; omega⟩
 ·exact ⟨hn, by simp [Sg.add]⟩
theorem RelI.set (h : RelI s lp t3 cb n0 c n l na rp rq X k s') (h3 : t3 < n0) (hc : cb < n0) (hs : s.next ≤ n0) (hN : c < n0 ∧ na < n0 ∧ (∀ i, i < n → rp i < n0) ∧ ∀ i, i < n → rq i < n0) {x : Nat} (hx : X x) (b : Blk) : RelI s lp t3 cb n0 c n l na rp rq X k (s'.set x b) := by
 have h1 := h.hX x hx
 exact ⟨h.rel.setO hN (by omega) b, by simp [Sg.set, show t3 ≠ x by omega, h.bt], by simp [Sg.set, show cb ≠ x by omega, h.bc], by simp [Sg.set, show n0 ≠ x by omega, h.hl], h.hk.set (by omega) b, h.nx, h.hX⟩
set_option maxRecDepth 20000 in
theorem objRel_ (s : Sg) (o : Ob) (hs1 : o.labels.length < 1000000000) (hs2 : o.pairs.length < 1000000000) (ho : IsOb o) : f8q Tryz.prog 51 [vObj o] s (NewP s o.labels.length (mxOf o.pairs)) := by
 refine b6q Tryz.func51 rfl fun Q hQ => ?_
 obtain ⟨e, he, hl, h0⟩ : ∃ e : Env, ([vObj o] ++ List.replicate (Tryz.f51.ntmps - ([vObj o] : List V).length) .junk) = e ∧ e.length = 24 ∧ ev e (.tmp 0) = vObj o := ⟨_, rfl, rfl, rfl⟩
 rw [he]
 clear he
 have hcb : (c4q o == 0) = true := by simp [k8q.2 ho]
 have hle := ho.le
 refine vsk fun K1 hK1 => ?_
 refine a3q 0 [] ?_
 simp only [bs, ↓vopx, ↓vop, a1q, flat, V.cells, h0, wocs, ↓goc, ↓woc, ↓a2q]
 refine hK1 _ _ ?_
 refine vsk fun K2 hK2 => ?_
 refine vsk fun K3 hK3 => ?_
 refine a3q 0 [.pur (Bo (c4q o == 0))] ?_
 simp only [bs, Nat.reduceAdd, ↓vopx, ↓vop, Nat.reduceBEq, a1q, Nat.reduceLT, a8q, b0q, hl, wocs, ↓goc, ↓woc, ↓a2q, ↓b8q, a6q, Tryz.ag29, Tryz.sz29, hcb]
 repeat ((with_reducible refine And.intro ?_ ?_); · exact ⟨Tryz.is30, by simpa only [hcb] using d9z o hs1 hs2⟩)
 refine hK3 _ _ ?_
 refine vck fun A B hA hB => ?_
 simp only [b2q, a0q, lpv, Nat.reduceLT, true_implies, reduceCtorEq, false_implies, true_and, hl]
 refine hB ?_
 clear hA hB A B
 refine a9q ?_
 refine hK2 _ _ ?_
 refine vsk fun K4 hK4 => ?_
 refine a3q 0 [.stop] ?_
 simp only [bs, Nat.reduceAdd, ↓vopx, ↓vop, Nat.reduceBEq, a1q, Nat.reduceLT, V.cells, a8q, b0q, hl, wocs, ↓goc, ↓woc, ↓a2q, ↓b8q, a6q, Tryz.ag26, Tryz.fd29_0, Tryz.sz26, Tryz.un26, c9q]
 refine ⟨Tryz.is42, (s2z _ o.labels.length (by omega)).mono fun v s2 hv => ?_⟩
 obtain ⟨c, na1, rp1, rq1, rfl, hR, hF0, hk0, hnx0⟩ := hv
 have hle1 : s.next ≤ (s.add (.box 29 [.t (d1q o.labels), .t (b3q o.pairs)])).next := by simp [Sg.add]
 have hv0 : s2.m s.next = some (.box 29 [.t (d1q o.labels), .t (b3q o.pairs)]) ∧ s.next < s2.next := ⟨hk0 _ _ (by simp [Sg.add]) (p5q _ _), by simp [Sg.add] at hnx0; omega⟩
 have hk : Keep s s2 := ((Keep.refl s).add (Nat.le_refl _) _).trans (by simp [Sg.add]) hk0
 have hnx : s.next ≤ s2.next := by omega
 have hF : FreshP s c o.labels.length na1 rp1 rq1 := ⟨Nat.le_trans hle1 hF0.hp, Nat.le_trans hle1 hF0.ha, fun i hi => Nat.le_trans hle1 (hF0.hr i hi), fun i hi => Nat.le_trans hle1 (hF0.hq i hi)⟩
 try simp only [bs, Nat.reduceBEq, Nat.reduceLT, hl, Tryz.sz79, Tryz.zv79, Hold]
 refine hK4 _ _ ?_
 refine vsk fun K5 hK5 => ?_
 refine vsk fun K6 hK6 => ?_
 refine d4q fun e2 sb hE2 hSb => ?_
 subst hE2
 have hbo : sb.m s.next = some (.box 29 [.t (d1q o.labels), .t (b3q o.pairs)]) := by rw [hSb]; simp [Sg.set, Sg.add, show s.next ≠ s2.next by omega, hv0.1]
 have hb3 : sb.m s2.next = some (.box 79 [.ptr c 0]) := by rw [hSb]; simp [Sg.set]
 have hsbn : sb.next = s2.next + 1 := by rw [hSb]; rfl
 have hkb : Keep s2 sb := by rw [hSb]; exact ((Keep.refl s2).add (Nat.le_refl _) _).set (Nat.le_refl _) _
 refine a3q 0 [.stop] ?_
 simp only [bs, Nat.reduceAdd, ↓vopx, ↓vop, Nat.reduceBEq, a1q, Nat.reduceLT, a8q, b0q, hl, wocs, ↓goc, ↓woc, ↓a2q, ↓b8q, a6q, Tryz.ag27, Tryz.fd29_1, Tryz.sz27, hbo]
 refine ⟨Tryz.is38, (l2z sb o.pairs).mono fun v s5 hv => ?_⟩
 obtain ⟨rfl, rfl⟩ := hv
 try simp only [Hold]
 refine hK6 _ _ ?_
 refine a5q ?_
 refine d4q fun e1 s3 hE hS => ?_
 have hlE : e1.length = 24 := by rw [hE]; simp only [lpv, hl]
 have h3E : ev e1 (.tmp 3) = .ptr s2.next 0 := by rw [hE]; simp only [a0q, a4q, Nat.reduceBEq, lpv, hl, Nat.reduceLT]
 have h15E : ev e1 (.tmp 15) = .clo 60 [.ptr sb.next 0] := by rw [hE]; simp only [a0q, lpv, hl, Nat.reduceLT]
 clear hE
 have h3n : s3.next = sb.next + 1 := by rw [hS]; rfl
 have h3k : Keep sb s3 := by rw [hS]; exact (Keep.refl sb).add (Nat.le_refl _) _
 have h3c : s3.m sb.next = some (.box 27 [.t (b3q o.pairs)]) := by rw [hS]; simp [Sg.add]
 clear hS
 refine o0q (g := 60) (caps := [.ptr sb.next 0]) h15E Tryz.func60 rfl (by decide) fun s4 h4e h4n h4m h4l => ?_
 have hNB : c < s3.next ∧ na1 < s3.next ∧ (∀ i, i < o.labels.length → rp1 i < s3.next) ∧ ∀ i, i < o.labels.length → rq1 i < s3.next := ⟨by have := hR.lp; omega, by have := hR.la; omega, fun i hi => by have := hR.lr i hi; omega, fun i hi => by have := hR.lq i hi; omega⟩
 have hk4 : Keep sb s4 := fun m b hm hb => by rw [h4m m (by omega)]; exact h3k m b hm hb
 have hst : RelI s _ s2.next sb.next s3.next c o.labels.length o.pairs na1 rp1 rq1 (fun _ => False) 0 s4 := ⟨(hR.keep (hkb.trans (by omega) hk4) (by omega)).congr fun x y hx hy => by simp [mxOf], hk4 _ _ (by omega) hb3, by rw [h4m _ (by omega)]; exact h3c, h4l, hk.trans hnx (hkb.trans (by omega) hk4), by omega, fun x hx => hx.elim⟩
 refine (c8z s3.next sb.next o.pairs hs2 _ ⟨fun X k s5 hp => ⟨hp.bc, fun x hx => (hp.hX x hx).2⟩, fun X k s5 b hp => hp.add (by omega) (by omega) (by omega) b, fun X k s5 x b hp hx => hp.set (by omega) (by omega) (by omega) hNB hx b, fun X k s5 hkl hp5 => ?_⟩ s4 hst).mono fun v s6 h6 => ?_
 rotate_left
 ·obtain ⟨X, hp6⟩ := h6
  refine ⟨none, .ready, hp6.hl, by simp, ?_⟩
  have hsn : ¬ s2.next = s3.next := by omega
  simp only []
  refine hK5 _ _ ?_
  refine vsk fun K7 hK7 => ?_
  refine a3q 0 [] ?_
  simp only [bs, ↓vopx, ↓vop, a1q, Nat.reduceLT, a8q, b0q, hlE, h3E, wocs, ↓goc, ↓woc, ↓a2q, Tryz.ag79, Tryz.sz79, hsn, hp6.bt]
  refine hK7 _ _ ?_
  refine b1q ?_
  have hkf : Keep s (s6.del s3.next) := hp6.hk.del (by omega)
  refine hQ _ _ _ (.inr rfl) (d6q (v := .ptr c 0) ?_ rfl ⟨c, na1, rp1, rq1, rfl, ?_, hF, hkf, by simp [Sg.del]; have := hp6.nx; omega⟩)
  try simp only [a0q, lpv, hlE, Nat.reduceLT]
  have hrf := hp6.rel
  rw [List.take_length] at hrf
  exact ⟨by simp [Sg.del, show c ≠ s3.next by have := hNB.1; omega, hrf.hp], by simp [Sg.del, show na1 ≠ s3.next by have := hNB.2.1; omega, hrf.ha], fun i hi => by simp [Sg.del, show rp1 i ≠ s3.next by have := hNB.2.2.1 i hi; omega, hrf.hr i hi], fun i hi => by simp [Sg.del, show rq1 i ≠ s3.next by have := hNB.2.2.2 i hi; omega, hrf.hw i hi], hrf.inj, hrf.le, hrf.lp, hrf.la, hrf.lr, hrf.lq⟩
 obtain ⟨p, hp⟩ : ∃ p, o.pairs[k]? = some p := ⟨_, List.getElem?_eq_getElem hkl⟩
 have hpv : r7z o.pairs k = [.agg [I p.1, I p.2]] := by unfold r7z; rw [hp]
 rw [hpv]
 have hin : (0 ≤ p.1 ∧ p.1 < o.labels.length) ∧ (0 ≤ p.2 ∧ p.2 < o.labels.length) := by have := (List.all_eq_true.1 ho.inb) p (List.mem_of_getElem? hp); simpa only [inB, Bool.and_eq_true, decide_eq_true_eq] using this
 obtain ⟨a, ha⟩ : ∃ a : Nat, p.1 = (a : Int) := ⟨p.1.toNat, by omega⟩
 obtain ⟨b, hb⟩ : ∃ b : Nat, p.2 = (b : Int) := ⟨p.2.toNat, by omega⟩
 have hnx5 := hp5.nx
 have hn35 : s3.next ≠ s5.next := by omega
 have hn25 : s2.next ≠ s5.next := by omega
 refine o2q hp5.hl rfl fun KA hKA => ?_
 rw [show (#[16] : Array Tmp).toList = [16] from rfl, n4q]
 refine a3q 0 [] ?_
 simp only [bs, Nat.reduceAdd, ↓vopx, ↓vop, Nat.reduceBEq, a1q, Nat.reduceLT, V.cells, hlE, wocs, ↓goc, ↓woc, ↓a2q, Tryz.sz65, Tryz.zv65]
 refine hKA _ _ (by simp [Sg.set, Sg.add, hn35, hp5.hl]) ?_
 refine d4q fun e2 sd hE2 hSd => ?_
 subst hE2
 have hsdn : sd.next = s5.next + 1 := by rw [hSd]; rfl
 have hbt : sd.m s2.next = some (.box 79 [.ptr c 0]) := by rw [hSd]; simp [Sg.set, Sg.add, show s2.next ≠ s3.next by omega, hn25, hp5.bt]
 have hbx : sd.m s5.next = some (.box 65 [I p.1, I p.2]) := by rw [hSd]; simp [Sg.set, Sg.add, hn35.symm]
 have hkd : Keep s sd := by rw [hSd]; exact (((hp5.hk.add (by omega) _).set (by omega) _)).set (by omega) _
 have hrd : RelP sd c o.labels.length (mxOf (o.pairs.take k)) na1 rp1 rq1 := by rw [hSd]; exact (hp5.rel.keep (((Keep.refl s5).add (Nat.le_refl _) _).set (Nat.le_refl _) _) (by simp [Sg.set, Sg.add])).setO hNB (Nat.le_refl _) _
 have hdo : ∀ m, m ≠ s3.next → m ≠ s5.next → sd.m m = s5.m m := fun m h1 h2 => by rw [hSd]; simp [Sg.set, Sg.add, h1, h2]
 have hal : a < o.labels.length ∧ b < o.labels.length := by omega
 refine a5q ?_
 refine a3q 0 [.stop] ?_
 simp only [bs, Nat.reduceAdd, ↓vopx, ↓vop, Nat.reduceBEq, b5q, Nat.reduceLT, a8q, b0q, hlE, h3E, wocs, ↓goc, ↓woc, ↓a2q, ↓b8q, a6q, Tryz.ag3, Tryz.ag79, Tryz.fd65_0, Tryz.fd65_1, Tryz.sz3, Tryz.sz79, hbt, hbx, ha, hb]
 refine ⟨Tryz.is43, (r6x sd c _ _ na1 rp1 rq1 hrd a b hal.1 hal.2).mono fun v s6 hv => ?_⟩
 try simp only [ha, hb, Hold]
 obtain ⟨⟨bb, rfl⟩, hr6, hm6, hn6⟩ := hv
 have hq : ∀ m, s2.next ≤ m → s6.m m = sd.m m := fun m hm => hm6 m fun i hi => by have := hR.lq i hi; omega
 refine And.intro (by rw [hq _ (by omega), hSd]; exact if_pos rfl) (And.intro rfl ⟨⟨?_, ?_, ?_, by simp [Sg.set], ?_, by simp [Sg.set]; omega, fun x hx => ?_⟩, fun x hx => ?_⟩)
 ·rw [r4q hp, c7z, show p.1.toNat = a from by omega, show p.2.toNat = b from by omega]; exact hr6.setO hNB (Nat.le_refl _) _
 ·simp [Sg.set, show s2.next ≠ s3.next by omega, hq s2.next (Nat.le_refl _), hbt]
 ·simp [Sg.set, show sb.next ≠ s3.next by omega, hq sb.next (by omega), hdo sb.next (by omega) (by omega), hp5.bc]
 ·exact (AddP.keep (v := Bo bb) ⟨⟨_, rfl⟩, hr6, hm6, hn6⟩ (fun i hi => hF.hq i hi) hkd).set (by omega) _
 ·have := hp5.hX x hx; exact ⟨this.1, by simp [Sg.set]; omega⟩
 ·have := hp5.hX x hx; simp [Sg.set, show x ≠ s3.next by omega, hq x (by omega), hdo x (by omega) (by omega)]
end Go.Proofs

open Go Go.V
namespace Go.Proofs
theorem v7x {α : Type} {P : α → Bool} {l : List α} {i : Nat} {p : α} (hp : l[i]? = some p) (h : (l.take i).any P = false) (hn : P p = false) : (l.take (i + 1)).any P = false := by
 rw [List.take_add_one, hp]; simp [List.any_append, h, hn]
theorem any_at {α : Type} {P : α → Bool} {l : List α} {i : Nat} {p : α} (hp : l[i]? = some p) (h : P p = true) : l.any P = true :=
 List.any_eq_true.2 ⟨p, List.mem_of_getElem? hp, h⟩
theorem g4x {α : Type} (P : α → Bool) (l : List α) : l.all P = !(l.any fun p => !(P p)) := by
 induction l with
 | nil => rfl
 | cons a l ih => simp only [List.all_cons, List.any_cons, ih]; cases P a <;> rfl
set_option maxRecDepth 20000 in
theorem v8x (s : Sg) (rb fb c n : Nat) (M : Mx) (na : Nat) (rp rq : Nat → Nat) (h : RelP s c n M na rp rq) (f : List Int) (hrb : s.m rb = some (.box 79 [.ptr c 0])) (hfb : s.m fb = some (.box 40 [.t (c0q f)])) (hlr : rb < s.next) (hlf : fb < s.next) (p : Int × Int) (x y : Int) (hp0 : 0 ≤ p.1 ∧ 0 ≤ p.2) (hx : f[p.1.toNat]? = some x) (hy : f[p.2.toNat]? = some y) (hxr : 0 ≤ x ∧ x < n) (hyr : 0 ≤ y ∧ y < n) : k0q Tryz.prog 53 [.agg [I p.1, I p.2], .ptr rb 0, .ptr fb 0] s (Bo (!(M x.toNat y.toNat))) (s) := by
 refine d0q Tryz.func53 rfl fun Q hQ => ?_
 obtain ⟨e, he, hl, h0, h1, h2⟩ : ∃ e : Env, ([.agg [I p.1, I p.2], .ptr rb 0, .ptr fb 0] ++ List.replicate (Tryz.f53.ntmps - ([.agg [I p.1, I p.2], .ptr rb 0, .ptr fb 0] : List V).length) .junk) = e ∧ e.length = 18 ∧ ev e (.tmp 0) = .agg [I p.1, I p.2] ∧ ev e (.tmp 1) = .ptr rb 0 ∧ ev e (.tmp 2) = .ptr fb 0 := ⟨_, rfl, rfl, rfl, rfl, rfl⟩
 rw [he]
 clear he
 have hn1 : ¬ rb = s.next := by omega
 have hn2 : ¬ fb = s.next := by omega
 have hp1 : p.1.toNat < f.length := (List.getElem?_eq_some_iff.1 hx).1
 have hp2 : p.2.toNat < f.length := (List.getElem?_eq_some_iff.1 hy).1
 refine vsk fun K1 hK1 => ?_
 refine a3q 0 [] ?_
 simp only [bs, ↓vopx, ↓vop, a1q, flat, V.cells, h0, wocs, ↓goc, ↓woc, ↓a2q]
 refine hK1 _ _ ?_
 refine vsk fun K2 hK2 => ?_
 refine c5q Tryz.mixed 11 [1, 1, 0, 1, 1, 1, 1, 0, 1, 1, 1] [.det (Bo (M x.toNat y.toNat)) (s.add (.box 65 [I p.1, I p.2]))] [] 0 (by decide +kernel) (by simp [lpv, hl]) rfl ?_
 simp only [bs, ↓vopx, ↓vop, Nat.reduceBEq, a1q, Nat.reduceLT, a8q, b0q, hl, h1, h2, wocs, ↓goc, ↓woc, ↓a2q, ↓e3q, ↓b8q, a6q, chn, ↓goq, ↓woq, List.zip_cons_cons, List.zip_nil_right, Tryz.ag40, Tryz.ag3, Tryz.ag79, Tryz.fd65_0, Tryz.fd65_1, Tryz.sz40, Tryz.sz3, Tryz.sz79, Tryz.un40, hn1, hn2, hrb, hfb, hp0, hx, hy, hp1, hp2]
 repeat ((with_reducible refine And.intro ?_ ?_); · exact ⟨Tryz.is54, by simpa [hxr, hyr] using s1z (s.add (.box 65 [I p.1, I p.2])) c n M na rp rq (h.keep ((Keep.refl s).add (Nat.le_refl _) _) (by simp [Sg.add])) x y⟩)
 refine hK2 _ _ ?_
 refine b1q ?_
 refine hQ _ _ _ (.inr rfl) (Done.toS (a7q ?_ fun n b hn h => by simp [Sg.add, show n ≠ s.next by omega, h]))
 try simp only [a0q, lpv, hl, Nat.reduceLT]
set_option maxRecDepth 20000 in
theorem n7x (s : Sg) (l : List (Int × Int)) (hl0 : l.length < 1000000000) (g : Nat) (caps : List V) (hg : isFn Tryz.prog g) (P : Int × Int → Bool) (hP : ∀ p, p ∈ l → k0q Tryz.prog g ([.agg [I p.1, I p.2]] ++ caps) s (Bo (P p)) s) : f8q Tryz.prog 75 [.t (b3q l), .clo g caps] s (fun v s' => s' = s ∧ ∃ z : Int, v = I z ∧ decide (z ≥ 0) = l.any P) := by
 refine b6q Tryz.func75 rfl fun Q hQ => ?_
 obtain ⟨e, he, hl, h0, h1⟩ : ∃ e : Env, ([.t (b3q l), .clo g caps] ++ List.replicate (Tryz.f75.ntmps - ([.t (b3q l), .clo g caps] : List V).length) .junk) = e ∧ e.length = 19 ∧ ev e (.tmp 0) = .t (b3q l) ∧ ev e (.tmp 1) = .clo g caps := ⟨_, rfl, rfl, rfl, rfl⟩
 rw [he]
 clear he
 refine vsk fun K1 hK1 => ?_
 refine a3q 0 [] ?_
 simp only [bs, ↓vopx, ↓vop, a1q, flat, wocs, ↓goc, ↓woc, ↓a2q]
 refine hK1 _ _ ?_
 refine vsk fun K2 hK2 => ?_
 refine vsk fun K3 hK3 => ?_
 refine a3q 0 [] ?_
 simp only [bs, ↓vopx, ↓vop, Nat.reduceBEq, a1q, flat, Nat.reduceLT, hl, h0, wocs, ↓goc, ↓woc, ↓a2q, g2q]
 refine hK3 _ _ ?_
 refine a5q ?_
 refine c2q (fun mm e' s' => ∃ i : Nat, mm = l.length - i ∧ i ≤ l.length ∧ e'.length = 19 ∧ ev e' (.tmp 0) = .t (b3q l) ∧ ev e' (.tmp 1) = .clo g caps ∧ ev e' (.tmp 7) = I l.length ∧ ev e' (.tmp 8) = I i ∧ s = s' ∧ (l.take i).any P = false) (⟨0, rfl, Nat.zero_le _, ?_⟩) ?_
 ·try simp only [a0q, a4q, Nat.reduceBEq, lpv, hl, h0, h1, Nat.reduceLT, true_and]
  repeat ((with_reducible refine And.intro ?_ ?_); · trivial)
  first | trivial | simp
 rintro mm e _ ⟨i, rfl, hle_i, hl, h0, h1, h7, h_i, rfl, hno⟩
 refine vsk fun K4 hK4 => ?_
 refine a3q 0 [] ?_
 simp only [a1q, opII, h7, h_i, wocs, ↓goc, ↓woc]
 refine hK4 _ _ ?_
 refine vsk fun K5 hK5 => ?_
 refine vck fun A B hA hB => ?_
 simp only [b2q, a0q, Nat.reduceLT, decide_eq_true_eq, decide_eq_false_iff_not, hl]
 refine ⟨fun hc9 => hA ?_, fun hc9 => hB ?_⟩
 ·clear hA hB A B
  refine a9q ?_
  refine hK5 _ _ ?_
  refine vsk fun K6 hK6 => ?_
  refine a5q ?_
  refine vsk fun K7 hK7 => ?_
  refine a3q 0 [] ?_
  simp only [bs, ↓vopx, ↓vop, Nat.reduceBEq, a1q, Nat.reduceLT, hl, h_i, wocs, ↓goc, ↓woc, ↓a2q]
  refine hK7 _ _ ?_
  refine vsk fun K8 hK8 => ?_
  have hlt : i < l.length := by omega
  obtain ⟨p, hp⟩ : ∃ p, l[i]? = some p := ⟨_, List.getElem?_eq_getElem hlt⟩
  have g0 := z7z hp
  have hfl := d7q l
  have hi2 : i * 2 < l.length * 2 := by omega
  refine a3q 0 [.det (Bo (P p)) s] ?_
  simp only [bs, Nat.reduceAdd, ↓vopx, ↓vop, Nat.reduceBEq, a1q, Nat.reduceLT, a8q, b0q, hl, h0, h1, wocs, ↓goc, ↓woc, ↓a2q, ↓b8q, a6q, Tryz.ag65, Tryz.sz65, Tryz.un27, g0, hfl, hi2]
  repeat ((with_reducible refine And.intro ?_ ?_); · exact ⟨hg, hP p (List.mem_of_getElem? hp)⟩)
  refine hK8 _ _ ?_
  refine vck fun A B hA hB => ?_
  simp only [b2q, a0q, lpv, Nat.reduceLT, hl]
  refine ⟨fun hc16 => hA ?_, fun hc16 => hB ?_⟩
  ·clear hA hB A B
   refine vsk fun K9 hK9 => ?_
   refine a3q 0 [] ?_
   simp only [bs, ↓vopx, ↓vop, Nat.reduceBEq, a1q, Nat.reduceLT, hl, wocs, ↓goc, ↓woc, ↓a2q]
   refine hK9 _ _ ?_
   refine b1q ?_
   refine hQ _ _ _ (.inr rfl) (d6q (v := I i) ?_ rfl ⟨rfl, i, rfl, ?_⟩)
   try simp only [a0q, lpv, hl, Nat.reduceLT]
   rw [any_at hp hc16]; simp
  ·clear hA hB A B
   refine a9q ?_
   refine hK6 _ _ ?_
   refine a3q 0 [] ?_
   simp only [bs, ↓vopx, ↓vop, Nat.reduceBEq, a1q, flat, Nat.reduceLT, opII, hl, h0, h1, h7, h_i, wocs, ↓goc, ↓woc, ↓a2q]
   repeat ((with_reducible refine And.intro ?_ ?_); · exact ⟨by omega, by omega⟩)
   refine ⟨l.length - (i + 1), by omega, i + 1, rfl, by omega, ?_⟩
   try simp only [a0q, a4q, Nat.reduceBEq, lpv, hl, h0, h1, h7, h_i, if_true, if_false, Nat.reduceEqDiff, Nat.reduceLT, true_and, and_true]
   repeat ((with_reducible refine And.intro ?_ ?_); · trivial)
   exact v7x hp hno hc16
 ·clear hA hB A B
  have han : i = l.length := by omega
  subst han
  refine c1q ?_
  simp only [a1q, b5q, if_true]
  refine hK2 _ _ ?_
  refine vsk fun K10 hK10 => ?_
  refine a3q 0 [] ?_
  simp only [bs, ↓vopx, ↓vop, a1q, flat, wocs, ↓goc, ↓woc, ↓a2q]
  refine hK10 _ _ ?_
  refine b1q ?_
  rw [List.take_length] at hno
  refine hQ _ _ _ (.inr rfl) (d6q (v := I (-1)) ?_ rfl ⟨rfl, -1, rfl, ?_⟩)
  try simp only [a0q, lpv, hl, Nat.reduceLT]
  rw [hno]; rfl
set_option maxRecDepth 20000 in
theorem l9z (s : Sg) (l : List (Int × Int)) (hl0 : l.length < 1000000000) (g : Nat) (caps : List V) (hg : isFn Tryz.prog g) (P : Int × Int → Bool) (hP : ∀ p, p ∈ l → k0q Tryz.prog g ([.agg [I p.1, I p.2]] ++ caps) s (Bo (P p)) s) : k0q Tryz.prog 52 [.t (b3q l), .clo g caps] s (Bo (l.any P)) (s) := by
 refine d0q Tryz.func52 rfl fun Q hQ => ?_
 obtain ⟨e, he, hl, h0, h1⟩ : ∃ e : Env, ([.t (b3q l), .clo g caps] ++ List.replicate (Tryz.f52.ntmps - ([.t (b3q l), .clo g caps] : List V).length) .junk) = e ∧ e.length = 9 ∧ ev e (.tmp 0) = .t (b3q l) ∧ ev e (.tmp 1) = .clo g caps := ⟨_, rfl, rfl, rfl, rfl⟩
 rw [he]
 clear he
 refine vsk fun K1 hK1 => ?_
 refine a3q 0 [] ?_
 simp only [bs, ↓vopx, ↓vop, a1q, flat, wocs, ↓goc, ↓woc, ↓a2q]
 refine hK1 _ _ ?_
 refine vsk fun K2 hK2 => ?_
 refine a3q 0 [.stop] ?_
 simp only [bs, ↓vopx, ↓vop, Nat.reduceBEq, a1q, Nat.reduceLT, opII, opSS, hl, h0, h1, wocs, ↓goc, ↓woc, ↓a2q, ↓b8q, a6q, ↓farC]
 refine ⟨Tryz.is75, (n7x s l hl0 g caps hg P hP).mono fun v s2 hv => ?_⟩
 obtain ⟨rfl, z, rfl, hz⟩ := hv
 try simp only [bs, Nat.reduceBEq, flat, Nat.reduceLT, hl, h0, h1, Hold]
 refine hK2 _ _ ?_
 refine b1q ?_
 refine hQ _ _ _ (.inr rfl) (Done.toS (a7q ?_ fun n b hn h => h))
 try simp only [a0q, lpv, hl, hz, Nat.reduceLT]
set_option maxRecDepth 20000 in
theorem c6j (a b : Ob) (f : List Int) (ha1 : a.labels.length < 1000000000) (ha2 : a.pairs.length < 1000000000) (hb1 : b.labels.length < 1000000000) (hb2 : b.pairs.length < 1000000000) (_hfl : f.length < 1000000000) : f7q Tryz.prog 32 [vObj a, vObj b, .t (c0q f)] (Bo (arrS a b f)) := by
 refine b4q Tryz.func32 rfl fun s Q hQ => ?_
 obtain ⟨e, he, hl, h0, h1, h2⟩ : ∃ e : Env, ([vObj a, vObj b, .t (c0q f)] ++ List.replicate (Tryz.f32.ntmps - ([vObj a, vObj b, .t (c0q f)] : List V).length) .junk) = e ∧ e.length = 63 ∧ ev e (.tmp 0) = vObj a ∧ ev e (.tmp 1) = vObj b ∧ ev e (.tmp 2) = .t (c0q f) := ⟨_, rfl, rfl, rfl, rfl, rfl⟩
 rw [he]
 clear he
 have hne1 : ¬ s.next = s.next + 1 := by omega
 have hne2 : ¬ s.next = s.next + 1 + 1 := by omega
 have hne3 : ¬ s.next + 1 = s.next + 1 + 1 := by omega
 refine vsk fun K1 hK1 => ?_
 refine a3q 0 [] ?_
 simp only [bs, ↓vopx, ↓vop, Nat.reduceBEq, a1q, flat, V.cells, h0, h1, h2, wocs, ↓goc, ↓woc, ↓a2q]
 refine hK1 _ _ ?_
 refine vsk fun K2 hK2 => ?_
 refine vsk fun K3 hK3 => ?_
 rcases (show (c4q a == 0) = false ∨ ((c4q a == 0) = true ∧ (c4q b == 0) = false) ∨ ((c4q a == 0) = true ∧ (c4q b == 0) = true ∧ f.length ≠ a.labels.length) ∨ ((c4q a == 0) = true ∧ (c4q b == 0) = true ∧ f.length = a.labels.length) by cases (c4q a == 0) <;> cases (c4q b == 0) <;> simp; omega) with hca | ⟨hca, hcb⟩ | ⟨hca, hcb, hlen⟩ | ⟨hca, hcb, hlen⟩
 ·refine a3q 0 [.pur (Bo (c4q a == 0))] ?_
  simp only [bs, Nat.reduceAdd, ↓vopx, ↓vop, Nat.reduceBEq, a1q, flat, Nat.reduceLT, a8q, b0q, gtmp, hl, wocs, ↓goc, ↓woc, ↓a2q, ↓b8q, ↓e5q, a6q, Tryz.ag29, Tryz.sz29, hne1, hne2, hca]
  repeat ((with_reducible refine And.intro ?_ ?_); · exact ⟨Tryz.is30, by simpa only [hca] using d9z a ha1 ha2⟩)
  refine hK3 _ _ ?_
  refine vck fun A B hA hB => ?_
  simp only [b2q, a0q, lpv, Nat.reduceLT, true_implies, reduceCtorEq, false_implies, and_true, hl]
  refine hA ?_
  clear hA hB A B
  refine vsk fun K4 hK4 => ?_
  refine a3q 0 [] ?_
  simp only [bs, ↓vopx, ↓vop, a1q, flat, wocs, ↓goc, ↓woc, ↓a2q]
  refine hK4 _ _ ?_
  refine b1q ?_
  refine hQ _ _ _ (.inr rfl) (a7q ?_ fun n b hn h => by simp [Sg.add, show n ≠ s.next by omega, show n ≠ s.next + 1 by omega, show n ≠ s.next + 1 + 1 by omega, h])
  try simp only [a0q, lpv, hl, Nat.reduceLT]
  rw [show arrS a b f = false from by simp [arrS, hca]]
 ·refine a3q 0 [.pur (Bo (c4q a == 0)), .pur (Bo (c4q b == 0))] ?_
  simp only [bs, Nat.reduceAdd, ↓vopx, ↓vop, Nat.reduceBEq, a1q, flat, Nat.reduceLT, a8q, b0q, gtmp, hl, wocs, ↓goc, ↓woc, ↓a2q, ↓b8q, ↓c8q, ↓e5q, a6q, Tryz.ag29, Tryz.sz29, hne1, hne2, hne3, hca, hcb]
  repeat ((with_reducible refine And.intro ?_ ?_); · first | exact ⟨Tryz.is30, by simpa only [hca] using d9z a ha1 ha2⟩ | exact ⟨Tryz.is30, by simpa only [hcb] using d9z b hb1 hb2⟩)
  refine hK3 _ _ ?_
  refine vck fun A B hA hB => ?_
  simp only [b2q, a0q, lpv, Nat.reduceLT, true_implies, reduceCtorEq, false_implies, and_true, hl]
  refine hA ?_
  clear hA hB A B
  refine vsk fun K5 hK5 => ?_
  refine a3q 0 [] ?_
  simp only [bs, ↓vopx, ↓vop, a1q, flat, wocs, ↓goc, ↓woc, ↓a2q]
  refine hK5 _ _ ?_
  refine b1q ?_
  refine hQ _ _ _ (.inr rfl) (a7q ?_ fun n b hn h => by simp [Sg.add, show n ≠ s.next by omega, show n ≠ s.next + 1 by omega, show n ≠ s.next + 1 + 1 by omega, h])
  try simp only [a0q, lpv, hl, Nat.reduceLT]
  rw [show arrS a b f = false from by simp [arrS, hcb]]
 ·have hlb : ((f.length : Int) != (a.labels.length : Int)) = true := by simp; omega
  refine a3q 0 [.pur (Bo (c4q a == 0)), .pur (Bo (c4q b == 0))] ?_
  simp only [bs, Nat.reduceAdd, ↓vopx, ↓vop, Nat.reduceBEq, a1q, flat, Nat.reduceLT, a8q, b0q, opII, gtmp, hl, wocs, ↓goc, ↓woc, ↓a2q, ↓b8q, ↓c8q, a6q, Tryz.ag26, Tryz.ag29, Tryz.ag40, Tryz.fd29_0, Tryz.sz26, Tryz.sz29, Tryz.sz40, Tryz.un26, Tryz.un40, c9q, e2q, hne1, hne2, hne3, hca, hcb, hlb]
  repeat ((with_reducible refine And.intro ?_ ?_); · first | exact ⟨Tryz.is30, by simpa only [hca] using d9z a ha1 ha2⟩ | exact ⟨Tryz.is30, by simpa only [hcb] using d9z b hb1 hb2⟩)
  refine hK3 _ _ ?_
  refine vck fun A B hA hB => ?_
  simp only [b2q, a0q, lpv, Nat.reduceLT, true_implies, reduceCtorEq, false_implies, and_true, hl]
  refine hA ?_
  clear hA hB A B
  refine vsk fun K6 hK6 => ?_
  refine a3q 0 [] ?_
  simp only [bs, ↓vopx, ↓vop, a1q, flat, wocs, ↓goc, ↓woc, ↓a2q]
  refine hK6 _ _ ?_
  refine b1q ?_
  refine hQ _ _ _ (.inr rfl) (a7q ?_ fun n b hn h => by simp [Sg.add, show n ≠ s.next by omega, show n ≠ s.next + 1 by omega, show n ≠ s.next + 1 + 1 by omega, h])
  try simp only [a0q, lpv, hl, Nat.reduceLT]
  rw [show arrS a b f = false from by simp [arrS, e4z hlen]]
 ·have hlb : ((f.length : Int) != (a.labels.length : Int)) = false := by simp [hlen]
  refine a3q 0 [.pur (Bo (c4q a == 0)), .pur (Bo (c4q b == 0))] ?_
  simp only [bs, Nat.reduceAdd, ↓vopx, ↓vop, Nat.reduceBEq, a1q, flat, Nat.reduceLT, a8q, b0q, opII, gtmp, hl, wocs, ↓goc, ↓woc, ↓a2q, ↓b8q, ↓c8q, a6q, Tryz.ag26, Tryz.ag29, Tryz.ag40, Tryz.fd29_0, Tryz.sz26, Tryz.sz29, Tryz.sz40, Tryz.un26, Tryz.un40, c9q, e2q, hne1, hne2, hne3, hca, hcb, hlb]
  repeat ((with_reducible refine And.intro ?_ ?_); · first | exact ⟨Tryz.is30, by simpa only [hca] using d9z a ha1 ha2⟩ | exact ⟨Tryz.is30, by simpa only [hcb] using d9z b hb1 hb2⟩)
  refine hK3 _ _ ?_
  refine vck fun A B hA hB => ?_
  simp only [b2q, a0q, lpv, Nat.reduceLT, true_implies, reduceCtorEq, false_implies, true_and, hl]
  refine hB ?_
  clear hA hB A B
  refine a9q ?_
  refine hK2 _ _ ?_
  refine vsk fun K7 hK7 => ?_
  refine vsk fun K8 hK8 => ?_
  refine a3q 0 [] ?_
  simp only [bs, ↓vopx, ↓vop, Nat.reduceBEq, a1q, flat, Nat.reduceLT, a8q, b0q, hl, wocs, ↓goc, ↓woc, ↓a2q, Tryz.ag40, Tryz.sz40, Tryz.un40, e2q]
  refine hK8 _ _ ?_
  refine a5q ?_
  refine c2q (fun mm e' s' => ∃ i : Nat, mm = f.length - i ∧ i ≤ f.length ∧ e'.length = 63 ∧ ev e' (.tmp 3) = .ptr s.next 0 ∧ ev e' (.tmp 4) = .ptr (s.next + 1) 0 ∧ ev e' (.tmp 5) = .ptr (s.next + 1 + 1) 0 ∧ ev e' (.tmp 26) = .t (c0q f) ∧ ev e' (.tmp 27) = I f.length ∧ ev e' (.tmp 28) = I i ∧ s' = ((s.add (.box 29 [.t (d1q a.labels), .t (b3q a.pairs)])).add (.box 29 [.t (d1q b.labels), .t (b3q b.pairs)])).add (.box 40 [.t (c0q f)]) ∧ ∀ (j : Nat) (y : Int) (la : ByteArray), j < i → f[j]? = some y → a.labels[j]? = some la → n7q b y la = true) (⟨0, rfl, Nat.zero_le _, ?_⟩) ?_
  ·try simp only [a0q, a4q, Nat.reduceBEq, lpv, hl, Nat.reduceLT, true_and]
   repeat ((with_reducible refine And.intro ?_ ?_); · trivial)
   exact fun j y la h => by omega
  rintro mm e _ ⟨i, rfl, hle_i, hl, hb3, hb4, hb5, hf26, hf27, h_i, rfl, hall⟩
  refine vsk fun K9 hK9 => ?_
  refine a3q 0 [] ?_
  simp only [a1q, opII, hf27, h_i, wocs, ↓goc, ↓woc]
  refine hK9 _ _ ?_
  refine vsk fun K10 hK10 => ?_
  refine vck fun A B hA hB => ?_
  simp only [b2q, a0q, Nat.reduceLT, decide_eq_true_eq, decide_eq_false_iff_not, hl]
  refine ⟨fun hc29 => hA ?_, fun hc29 => hB ?_⟩
  ·clear hA hB A B
   refine a9q ?_
   refine hK10 _ _ ?_
   refine vsk fun K11 hK11 => ?_
   refine a5q ?_
   refine vsk fun K12 hK12 => ?_
   have hlt : i < f.length := by omega
   obtain ⟨y, hy⟩ : ∃ y, f[i]? = some y := ⟨_, List.getElem?_eq_getElem hlt⟩
   obtain ⟨la, hla⟩ : ∃ x, a.labels[i]? = some x := ⟨_, List.getElem?_eq_getElem (by omega)⟩
   refine a3q 0 [] ?_
   simp only [bs, ↓vopx, ↓vop, Nat.reduceBEq, a1q, Nat.reduceLT, a8q, b0q, hl, hf26, h_i, wocs, ↓goc, ↓woc, ↓a2q, Tryz.ag3, Tryz.sz3, Tryz.un40, hy]
   repeat ((with_reducible refine And.intro ?_ ?_); · (with_reducible assumption))
   refine hK12 _ _ ?_
   refine vsk fun K13 hK13 => ?_
   rcases (show y < 0 ∨ (¬ y < 0 ∧ y ≥ b.labels.length) ∨ (¬ y < 0 ∧ ¬ y ≥ b.labels.length) by omega) with hy1 | ⟨hy1, hy2⟩ | ⟨hy1, hy2⟩
   ·refine c5q Tryz.mixed 20 [0, 0, 0, 0, 0, 1, 0, 0, 0, 0, 0, 1, 0, 1, 1, 0, 1, 0, 1, 1] [] [] 0 (by decide +kernel) (by simp [lpv, hl]) rfl ?_
    simp only [bs, ↓vopx, ↓vop, Nat.reduceBEq, a1q, flat, Nat.reduceLT, opII, opSS, gtmp, hl, wocs, ↓goc, ↓woc, ↓a2q, ↓e5q, ↓farC, chn, ↓goq, ↓woq, List.zip_cons_cons, List.zip_nil_right, hy1]
    refine hK13 _ _ ?_
    refine vck fun A B hA hB => ?_
    simp only [b2q, a0q, lpv, Nat.reduceLT, true_implies, reduceCtorEq, false_implies, and_true, hl]
    refine hA ?_
    clear hA hB A B
    refine vsk fun K14 hK14 => ?_
    refine a3q 0 [] ?_
    simp only [bs, ↓vopx, ↓vop, a1q, flat, wocs, ↓goc, ↓woc, ↓a2q]
    refine hK14 _ _ ?_
    refine b1q ?_
    refine hQ _ _ _ (.inr rfl) (a7q ?_ fun n b hn h => by simp [Sg.add, show n ≠ s.next by omega, show n ≠ s.next + 1 by omega, show n ≠ s.next + 1 + 1 by omega, h])
    try simp only [a0q, lpv, hl, Nat.reduceLT]
    rw [show arrS a b f = false from by unfold arrS; rw [s5q hy hla (by unfold n7q; simp; omega)]; simp]
   ·refine c5q Tryz.mixed 20 [0, 0, 0, 0, 0, 1, 0, 0, 0, 0, 0, 1, 0, 1, 1, 0, 1, 0, 1, 1] [] [] 0 (by decide +kernel) (by simp [lpv, hl]) rfl ?_
    simp only [bs, ↓vopx, ↓vop, Nat.reduceBEq, a1q, flat, Nat.reduceLT, a8q, b0q, opII, opSS, gtmp, hl, hb4, wocs, ↓goc, ↓woc, ↓a2q, ↓e3q, ↓c8q, ↓e5q, ↓farC, chn, ↓goq, ↓woq, List.zip_cons_cons, List.zip_nil_right, Tryz.ag26, Tryz.fd29_0, Tryz.sz26, Tryz.un26, c9q, hne3, hy1, hy2]
    refine hK13 _ _ ?_
    refine vck fun A B hA hB => ?_
    simp only [b2q, a0q, lpv, Nat.reduceLT, true_implies, reduceCtorEq, false_implies, and_true, hl]
    refine hA ?_
    clear hA hB A B
    refine vsk fun K15 hK15 => ?_
    refine a3q 0 [] ?_
    simp only [bs, ↓vopx, ↓vop, a1q, flat, wocs, ↓goc, ↓woc, ↓a2q]
    refine hK15 _ _ ?_
    refine b1q ?_
    refine hQ _ _ _ (.inr rfl) (a7q ?_ fun n b hn h => by simp [Sg.add, show n ≠ s.next by omega, show n ≠ s.next + 1 by omega, show n ≠ s.next + 1 + 1 by omega, h])
    try simp only [a0q, lpv, hl, Nat.reduceLT]
    rw [show arrS a b f = false from by unfold arrS; rw [s5q hy hla (by unfold n7q; simp; omega)]; simp]
   ·have hyr : 0 ≤ y := by omega
    obtain ⟨lb, hlb2⟩ : ∃ x, b.labels[y.toNat]? = some x := ⟨_, List.getElem?_eq_getElem (by omega)⟩
    refine c5q Tryz.mixed 20 [0, 0, 0, 0, 0, 1, 0, 0, 0, 0, 0, 1, 0, 1, 1, 0, 1, 0, 1, 1] [] [] 0 (by decide +kernel) (by simp [lpv, hl]) rfl ?_
    simp only [bs, ↓vopx, ↓vop, Nat.reduceBEq, a1q, flat, Nat.reduceLT, a8q, b0q, opII, opSS, gtmp, hl, hb3, hb4, wocs, ↓goc, ↓woc, ↓a2q, ↓e3q, ↓c8q, ↓farC, chn, ↓goq, ↓woq, List.zip_cons_cons, List.zip_nil_right, Tryz.ag26, Tryz.ag9, Tryz.fd29_0, Tryz.sz26, Tryz.sz9, Tryz.un26, c9q, hne1, hne2, hne3, hla, hy1, hy2, hlb2]
    repeat ((with_reducible refine And.intro ?_ ?_); · first | (with_reducible assumption) | omega)
    refine hK13 _ _ ?_
    refine vck fun A B hA hB => ?_
    simp only [b2q, a0q, lpv, Nat.reduceLT, Bool.not_eq_true', Bool.not_eq_false', beq_iff_eq, beq_eq_false_iff_ne, ne_eq, hl]
    refine ⟨fun hc54 => hA ?_, fun hc54 => hB ?_⟩
    ·clear hA hB A B
     refine vsk fun K16 hK16 => ?_
     refine a3q 0 [] ?_
     simp only [bs, ↓vopx, ↓vop, a1q, flat, wocs, ↓goc, ↓woc, ↓a2q]
     refine hK16 _ _ ?_
     refine b1q ?_
     refine hQ _ _ _ (.inr rfl) (a7q ?_ fun n b hn h => by simp [Sg.add, show n ≠ s.next by omega, show n ≠ s.next + 1 by omega, show n ≠ s.next + 1 + 1 by omega, h])
     try simp only [a0q, lpv, hl, Nat.reduceLT]
     rw [show arrS a b f = false from by unfold arrS; rw [s5q hy hla (by unfold n7q; rw [hlb2]; simp [seqB, hc54])]; simp]
    ·clear hA hB A B
     have hgood : n7q b y la = true := by unfold n7q; rw [hlb2]; simp [seqB, hc54]; omega
     refine a9q ?_
     refine hK11 _ _ ?_
     refine a3q 0 [] ?_
     simp only [bs, ↓vopx, ↓vop, Nat.reduceBEq, a1q, flat, Nat.reduceLT, opII, hl, hb3, hb4, hb5, hf26, hf27, h_i, wocs, ↓goc, ↓woc, ↓a2q]
     repeat ((with_reducible refine And.intro ?_ ?_); · exact ⟨by omega, by omega⟩)
     refine ⟨f.length - (i + 1), by omega, i + 1, rfl, by omega, ?_⟩
     try simp only [a0q, a4q, Nat.reduceBEq, lpv, hl, hb3, hb4, hb5, hf26, hf27, h_i, if_true, if_false, Nat.reduceEqDiff, Nat.reduceLT, true_and, and_true]
     repeat ((with_reducible refine And.intro ?_ ?_); · trivial)
     intro j x z hj h1 h2
     rcases Nat.lt_succ_iff_lt_or_eq.1 hj with hj | rfl
     ·exact hall j x z hj h1 h2
     ·rw [hy] at h1; rw [hla] at h2; cases h1; cases h2; exact hgood
  ·clear hA hB A B
   have han : i = f.length := by omega
   subst han
   refine c1q ?_
   simp only [a1q, b5q, if_true]
   refine hK7 _ _ ?_
   refine vsk fun K17 hK17 => ?_
   have hmap : allY (n7q b) f a.labels = true := y6q hlen fun j y la h1 h2 => hall j y la (by have := (List.getElem?_eq_some_iff.1 h1).1; omega) h1 h2
   have hoa := k8q.1 (by simpa using hca)
   have hob := k8q.1 (by simpa using hcb)
   refine a3q 0 [.stop] ?_
   simp only [bs, Nat.reduceAdd, ↓vopx, ↓vop, Nat.reduceBEq, a1q, Nat.reduceLT, V.cells, a8q, b0q, hl, hb4, wocs, ↓goc, ↓woc, ↓a2q, ↓b8q, a6q, Tryz.ag29, Tryz.sz29, hne3]
   refine ⟨Tryz.is51, (objRel_ _ b hb1 hb2 hob).mono fun v s2 hv => ?_⟩
   obtain ⟨c, na1, rp1, rq1, rfl, hR, hF, hk, hnx⟩ := hv
   have hmA : s2.m s.next = some (.box 29 [.t (d1q a.labels), .t (b3q a.pairs)]) := hk _ _ (by simp [Sg.add]; omega) (by simp [Sg.add]; omega)
   have hmF : s2.m (s.next + 1 + 1) = some (.box 40 [.t (c0q f)]) := hk _ _ (by simp [Sg.add]) (by simp [Sg.add])
   have hks : Keep s s2 := ((((Keep.refl s).add (Nat.le_refl _) _).add (by simp [Sg.add]) _).add (by simp [Sg.add]; omega) _).trans (by simp [Sg.add]; omega) hk
   have hnx2 : s.next + 1 + 1 + 1 ≤ s2.next := by simpa [Sg.add] using hnx
   try simp only [bs, Nat.reduceBEq, Nat.reduceLT, hl, Tryz.sz79, Tryz.zv79, Hold]
   refine hK17 _ _ ?_
   refine vsk fun K18 hK18 => ?_
   refine d4q fun e2 sb hE2 hSb => ?_
   subst hE2
   have hn0 : ¬ s.next = s2.next := by omega
   have hbA : sb.m s.next = some (.box 29 [.t (d1q a.labels), .t (b3q a.pairs)]) := by rw [hSb]; simp [Sg.set, Sg.add, hn0, hmA]
   have hbF : sb.m (s.next + 1 + 1) = some (.box 40 [.t (c0q f)]) := by rw [hSb]; simp [Sg.set, Sg.add, show ¬ s.next + 1 + 1 = s2.next by omega, hmF]
   have hbb3 : sb.m s2.next = some (.box 79 [.ptr c 0]) := by rw [hSb]; simp [Sg.set]
   have hsbn : sb.next = s2.next + 1 := by rw [hSb]; rfl
   have hkb : Keep s2 sb := by rw [hSb]; exact ((Keep.refl s2).add (Nat.le_refl _) _).set (Nat.le_refl _) _
   have hRb := hR.keep hkb (by omega)
   clear hSb
   refine a3q 0 [.det (Bo (a.pairs.any fun p => !(mxOf b.pairs (fAt f p.1) (fAt f p.2)))) sb] ?_
   simp only [bs, ↓vopx, ↓vop, Nat.reduceBEq, a1q, Nat.reduceLT, a8q, b0q, hl, hb3, hb5, wocs, ↓goc, ↓woc, ↓a2q, ↓b8q, a6q, Tryz.ag27, Tryz.fd29_1, Tryz.sz27, hbA, q0z, List.all_cons, List.all_nil, Bool.and_self]
   repeat ((with_reducible refine And.intro ?_ ?_); · first | (with_reducible assumption) | omega | exact ⟨by omega, by omega⟩ | exact ⟨Tryz.is52, l9z sb a.pairs ha2 53 _ Tryz.is53 _ fun p hpm => by
  have hin : (0 ≤ p.1 ∧ p.1 < a.labels.length) ∧ (0 ≤ p.2 ∧ p.2 < a.labels.length) := by have := (List.all_eq_true.1 hoa.inb) p hpm; simpa only [inB, Bool.and_eq_true, decide_eq_true_eq] using this
  obtain ⟨x, hx⟩ : ∃ x, f[p.1.toNat]? = some x := ⟨_, List.getElem?_eq_getElem (by omega)⟩
  obtain ⟨y, hy⟩ : ∃ x, f[p.2.toNat]? = some x := ⟨_, List.getElem?_eq_getElem (by omega)⟩
  have hxr : 0 ≤ x ∧ x < b.labels.length := by have := s2q hmap hx (List.getElem?_eq_getElem (show p.1.toNat < a.labels.length by omega)); simp only [n7q, Bool.and_eq_true, decide_eq_true_eq] at this; exact this.1
  have hyr : 0 ≤ y ∧ y < b.labels.length := by have := s2q hmap hy (List.getElem?_eq_getElem (show p.2.toNat < a.labels.length by omega)); simp only [n7q, Bool.and_eq_true, decide_eq_true_eq] at this; exact this.1
  have hfx : fAt f p.1 = x.toNat := by simp [fAt, hx]
  have hfy : fAt f p.2 = y.toNat := by simp [fAt, hy]
  rw [hfx, hfy]
  exact v8x sb s2.next (s.next + 1 + 1) c _ _ na1 rp1 rq1 hRb f hbb3 hbF (by omega) (by omega) p x y ⟨hin.1.1, hin.2.1⟩ hx hy hxr hyr⟩ | with_reducible rfl | (repeat' first | exact Keep.refl _ | refine Keep.add ?_ ?_ _ | refine Keep.set ?_ ?_ _ | exact Nat.le_refl _ | (simp only [Sg.add, Sg.set, Sg.del]; omega)))
   refine hK18 _ _ ?_
   refine b1q ?_
   refine hQ _ _ _ (.inr rfl) (a7q ?_ (hks.trans (by omega) hkb))
   try simp only [a0q, lpv, hl, Nat.reduceLT]
   rw [show arrS a b f = !(a.pairs.any fun p => !(mxOf b.pairs (fAt f p.1) (fAt f p.2))) from by unfold arrS; rw [hca, hcb, hmap, g4x]; rfl]
end Go.Proofs

open Go Go.V
namespace Go.Proofs
structure ProU (s : Sg) (p m : Nat) (l : List Int) : Prop where
 hp : s.m p = some (.box 75 [.loc m 0 l.length])
 hm : s.m m = some (.arr 1 3 (l.map TI))
 lp : p < s.next
 lm : m < s.next
theorem ProU.ne {s : Sg} {p m : Nat} {l : List Int} (h : ProU s p m l) : p ≠ m := fun e => by have := h.hp; rw [e, h.hm] at this; cases this
theorem ProU.keep {s s' : Sg} {p m : Nat} {l : List Int} (h : ProU s p m l) (hk : Keep s s') (hn : s.next ≤ s'.next) : ProU s' p m l :=
 ⟨hk _ _ h.lp h.hp, hk _ _ h.lm h.hm, Nat.lt_of_lt_of_le h.lp hn, Nat.lt_of_lt_of_le h.lm hn⟩
theorem ProU.put {s : Sg} {p m : Nat} {l : List Int} (h : ProU s p m l) {i : Nat} (hi : i < l.length) (x : Int) : ProU (s.set m (.arr 1 3 (setAll (l.map TI) i [TI x]))) p m (l.set i x) := by
 refine ⟨by simp [Sg.set, h.ne, h.hp], ?_, h.lp, h.lm⟩
 rw [h4q _ _ _ (by simpa using hi)]
 simp [Sg.set, List.map_set]
theorem ProU.setO {s : Sg} {p m : Nat} {l : List Int} (h : ProU s p m l) {x : Nat} (h1 : x ≠ p) (h2 : x ≠ m) (b : Blk) : ProU (s.set x b) p m l :=
 ⟨by simp [Sg.set, Ne.symm h1, h.hp], by simp [Sg.set, Ne.symm h2, h.hm], h.lp, h.lm⟩
theorem ProU.delO {s : Sg} {p m : Nat} {l : List Int} (h : ProU s p m l) {x : Nat} (h1 : x ≠ p) (h2 : x ≠ m) : ProU (s.del x) p m l :=
 ⟨by simp [Sg.del, Ne.symm h1, h.hp], by simp [Sg.del, Ne.symm h2, h.hm], h.lp, h.lm⟩
structure UF (l R : List Int) : Prop where
 len : R.length = l.length
 wf : wfU l
 root : ∀ (i : Nat), l[i]? = some (i : Int) → R[i]? = some (i : Int)
 step : ∀ (i : Nat) (z : Int), l[i]? = some z → z ≠ i → R[i]? = R[z.toNat]?
theorem UF.le {l R : List Int} (h : UF l R) : ∀ (i : Nat) (r : Int), R[i]? = some r → (0 ≤ r ∧ r ≤ i) ∧ R[r.toNat]? = some r := by
 intro i
 induction i using Nat.strongRecOn with
 | _ i ih =>
  intro r hr
  have hi : i < l.length := by rw [← h.len]; exact (List.getElem?_eq_some_iff.1 hr).1
  obtain ⟨z, hz⟩ : ∃ z, l[i]? = some z := ⟨_, List.getElem?_eq_getElem hi⟩
  have hw := h.wf i z hz
  by_cases hzi : z = i
  ·subst hzi
   have := h.root i hz
   rw [this] at hr; cases hr
   exact ⟨by omega, by simpa using this⟩
  ·have hs := h.step i z hz hzi
   obtain ⟨h1, h2⟩ := ih z.toNat (by omega) r (by rw [← hs]; exact hr)
   exact ⟨by omega, h2⟩
theorem UF.compress {l R : List Int} (h : UF l R) {a : Nat} {r : Int} (hr : R[a]? = some r) : UF (l.set a r) R := by
 obtain ⟨h1, h2⟩ := h.le a r hr
 have ha : a < l.length := by rw [← h.len]; exact (List.getElem?_eq_some_iff.1 hr).1
 refine ⟨by simp [h.len], fun i z hz => ?_, fun i hz => ?_, fun i z hz hzi => ?_⟩
 ·by_cases hia : a = i
  ·subst hia; rw [List.getElem?_set_self ha] at hz; cases hz; exact h1
  ·rw [List.getElem?_set_ne hia] at hz; exact h.wf i z hz
 ·by_cases hia : a = i
  ·subst hia; rw [List.getElem?_set_self ha] at hz; cases hz; exact hr
  ·rw [List.getElem?_set_ne hia] at hz; exact h.root i hz
 ·by_cases hia : a = i
  ·subst hia; rw [List.getElem?_set_self ha] at hz; cases hz; rw [hr, h2]
  ·rw [List.getElem?_set_ne hia] at hz; exact h.step i z hz hzi
theorem UF.join {l R : List Int} (h : UF l R) {a b : Nat} {x y : Int} (hx : R[a]? = some x) (hy : R[b]? = some y) (hxy : x ≠ y) : UF (l.set (max x y).toNat (min x y)) (joinL R a b) := by
 obtain ⟨x1, x2⟩ := h.le a x hx
 obtain ⟨y1, y2⟩ := h.le b y hy
 have ga : R.getD a 0 = x := by rw [List.getD_eq_getElem?_getD, hx]; rfl
 have gb : R.getD b 0 = y := by rw [List.getD_eq_getElem?_getD, hy]; rfl
 unfold joinL
 rw [ga, gb]
 obtain ⟨M, hM⟩ : ∃ M : Nat, (max x y) = (M : Int) := ⟨(max x y).toNat, by omega⟩
 obtain ⟨N, hN⟩ : ∃ N : Nat, (min x y) = (N : Int) := ⟨(min x y).toNat, by omega⟩
 have hMR : R[M]? = some (M : Int) := by
  rcases Int.le_total x y with hle | hle
  ·have : y = (M : Int) := by omega
   rw [this] at y2; simpa using y2
  ·have : x = (M : Int) := by omega
   rw [this] at x2; simpa using x2
 have hNR : R[N]? = some (N : Int) := by
  rcases Int.le_total x y with hle | hle
  ·have : x = (N : Int) := by omega
   rw [this] at x2; simpa using x2
  ·have : y = (N : Int) := by omega
   rw [this] at y2; simpa using y2
 have hNM : N < M := by omega
 rw [hM, hN, Int.toNat_natCast]
 have hMl : M < l.length := by rw [← h.len]; exact (List.getElem?_eq_some_iff.1 hMR).1
 refine ⟨by simp [h.len], fun i z hz => ?_, fun i hz => ?_, fun i z hz hzi => ?_⟩
 ·by_cases hia : M = i
  ·subst hia; rw [List.getElem?_set_self hMl] at hz; cases hz; omega
  ·rw [List.getElem?_set_ne hia] at hz; exact h.wf i z hz
 ·by_cases hia : M = i
  ·subst hia; rw [List.getElem?_set_self hMl] at hz; cases hz; omega
  ·rw [List.getElem?_set_ne hia] at hz
   have := h.root i hz
   rw [List.getElem?_map, this]
   simp only [Option.map_some]
   rw [if_neg (by omega)]
 ·by_cases hia : M = i
  ·subst hia
   rw [List.getElem?_set_self hMl] at hz; cases hz
   rw [List.getElem?_map, List.getElem?_map, hMR, Int.toNat_natCast, hNR]
   simp only [Option.map_some, if_true]
   rw [if_neg (by omega)]
  ·rw [List.getElem?_set_ne hia] at hz
   rw [List.getElem?_map, List.getElem?_map, h.step i z hz hzi]
theorem UF.range (n : Nat) : UF (e8q n) (e8q n) := by
 have hz : ∀ (i : Nat) (z : Int), (e8q n)[i]? = some z → z = i := fun i z h => by
  unfold e8q at h
  rw [List.getElem?_map] at h
  have hi : i < n := by
   rcases Nat.lt_or_ge i n with h1 | h1
   ·exact h1
   ·rw [List.getElem?_eq_none (by simpa using h1)] at h; cases h
  rw [List.getElem?_range hi] at h; cases h; rfl
 exact ⟨rfl, fun i z h => by rw [hz i z h]; omega, fun i h => h, fun i z h hn => absurd (hz i z h) hn⟩
def ProR (s : Sg) (p m : Nat) (R : List Int) : Prop := ∃ l, ProU s p m l ∧ UF l R
theorem ProR.keep {s s' : Sg} {p m : Nat} {R : List Int} (h : ProR s p m R) (hk : Keep s s') (hn : s.next ≤ s'.next) : ProR s' p m R := let ⟨l, h1, h2⟩ := h; ⟨l, h1.keep hk hn, h2⟩
def NewQ (s : Sg) (n : Nat) (v : V) (s' : Sg) : Prop := ∃ p m, v = .ptr p 0 ∧ ProR s' p m (e8q n) ∧ s.next ≤ p ∧ s.next ≤ m ∧ Keep s s' ∧ s.next ≤ s'.next
def But (s : Sg) (m : Nat) (s' : Sg) : Prop := (∀ j, j < s.next → j ≠ m → s'.m j = s.m j) ∧ s.next ≤ s'.next
def rgO (n i : Nat) : List Int := e8q i ++ List.replicate (n - i) 0
theorem o5z {n i : Nat} (h : i ≤ n) : (rgO n i).length = n := by simp [rgO, g4q]; omega
theorem b4j (n : Nat) : rgO n 0 = List.replicate n 0 := by simp [rgO, e8q]
theorem rgO_end (n : Nat) : rgO n n = e8q n := by simp [rgO]
theorem rgO_set {n i : Nat} (h : i < n) : (rgO n i).set i (i : Int) = rgO n (i + 1) := by
 unfold rgO
 rw [List.set_append_right _ _ (by simp [g4q]), g4q, Nat.sub_self, show n - i = (n - (i + 1)) + 1 by omega, List.replicate_succ, List.set_cons_zero, j7z]
 simp
theorem v3x (s : Sg) (A A' B : Blk) : ((s.add A).add B).set s.next A' = (s.add A').add B := by
 unfold Sg.set Sg.add
 simp only [Sg.mk.injEq, true_and]
 funext j
 by_cases h1 : j = s.next
 ·subst h1; simp
 ·simp [h1]
structure WayI (n0 cb ub p m : Nat) (l : List Int) (Iv Jv : Nat → Sg → Prop) : Prop where
 hI : ∀ a s, Iv a s → a < l.length ∧ s.m cb = some (.box 3 [I a])
 hJ : ∀ a s, Jv a s → a < l.length ∧ s.m cb = some (.box 3 [I a]) ∧ s.m ub = some (.box 52 [.ptr p 0]) ∧ s.m p = some (.box 75 [.loc m 0 l.length]) ∧ s.m m = some (.arr 1 3 (l.map TI))
 hset : ∀ a s (b : Nat), Jv a s → l[a]? = some (b : Int) → b ≠ a → Iv b (s.set cb (.box 3 [I b]))
 hY : ∀ a s, Iv a s → w8q Tryz.prog n0 [I a] s fun v s' => v = Bo true ∧ Jv a s'
set_option maxRecDepth 20000 in
theorem unNew_ (s : Sg) (n : Nat) (hn : n ≤ 1000) : f8q Tryz.prog 20 [I n] s (NewQ s n) := by
 refine b6q Tryz.func20 rfl fun Q hQ => ?_
 obtain ⟨e, he, hl, h0⟩ : ∃ e : Env, ([I n] ++ List.replicate (Tryz.f20.ntmps - ([I n] : List V).length) .junk) = e ∧ e.length = 28 ∧ ev e (.tmp 0) = I n := ⟨_, rfl, rfl, rfl⟩
 rw [he]
 clear he
 have hmax : max (n : Int) 0 = n := by omega
 have hmin : min (n : Int) 1000 = n := by omega
 have hrep : repl [TI 0] n = (List.replicate n (0 : Int)).map TI := by rw [l9q]; simp
 have hnn : s.next + 1 ≠ s.next := by omega
 have hnn2 : s.next ≠ s.next + 1 := by omega
 refine vsk fun K1 hK1 => ?_
 refine a3q 0 [] ?_
 simp only [bs, ↓vopx, ↓vop, a1q, flat, wocs, ↓goc, ↓woc, ↓a2q]
 refine hK1 _ _ ?_
 refine vsk fun K2 hK2 => ?_
 refine a3q 0 [] ?_
 simp only [bs, d9q, g7q, ↓vopx, ↓vop, Nat.reduceBEq, a1q, flat, Nat.reduceLT, V.cells, hl, h0, wocs, ↓goc, ↓woc, ↓a2q, Tryz.sl40, Tryz.st75, hmin, hmax]
 repeat ((with_reducible refine And.intro ?_ ?_); · omega)
 refine hK2 _ _ ?_
 refine vsk fun K3 hK3 => ?_
 refine vsk fun K4 hK4 => ?_
 refine a3q 0 [] ?_
 simp only [bs, f0q, ↓vopx, ↓vop, a1q, flat, Nat.reduceLT, a8q, b0q, hl, wocs, ↓goc, ↓woc, ↓a2q, Tryz.ag40, Tryz.fd75_0, Tryz.sz40, Tryz.un40]
 refine hK4 _ _ ?_
 refine a5q ?_
 refine c2q (fun mm e' s' => ∃ i : Nat, mm = n - i ∧ i ≤ n ∧ e'.length = 28 ∧ ev e' (.tmp 3) = .ptr (s.next + 1) 0 ∧ ev e' (.tmp 15) = I n ∧ ev e' (.tmp 16) = I i ∧ s' = (s.add (.arr 1 3 ((rgO n i).map TI))).add (.box 75 [.loc s.next 0 n]) ∧ True) (⟨0, rfl, Nat.zero_le _, ?_⟩) ?_
 ·try simp only [a0q, a4q, Nat.reduceBEq, lpv, hl, Nat.reduceLT, true_and, and_true]
  repeat ((with_reducible refine And.intro ?_ ?_); · trivial)
  rw [b4j, ← hrep]
 rintro mm e _ ⟨i, rfl, hle_i, hl, h3, h15, h_i, rfl, _⟩
 refine vsk fun K5 hK5 => ?_
 refine a3q 0 [] ?_
 simp only [a1q, opII, h15, h_i, wocs, ↓goc, ↓woc]
 refine hK5 _ _ ?_
 refine vsk fun K6 hK6 => ?_
 refine vck fun A B hA hB => ?_
 simp only [b2q, a0q, Nat.reduceLT, decide_eq_true_eq, decide_eq_false_iff_not, hl]
 refine ⟨fun hc17 => hA ?_, fun hc17 => hB ?_⟩
 ·clear hA hB A B
  refine a9q ?_
  refine hK6 _ _ ?_
  refine vsk fun K7 hK7 => ?_
  refine a5q ?_
  refine vsk fun K8 hK8 => ?_
  refine a3q 0 [] ?_
  simp only [bs, ↓vopx, ↓vop, Nat.reduceBEq, a1q, Nat.reduceLT, hl, h_i, wocs, ↓goc, ↓woc, ↓a2q]
  refine hK8 _ _ ?_
  have hlo := o5z (n := n) (i := i) (by omega)
  refine a3q 0 [] ?_
  simp only [bs, f0q, ↓vopx, ↓vop, Nat.reduceBEq, a1q, b5q, Nat.reduceLT, V.cells, a8q, b0q, Sg.frzL, Sg.frz1, hl, h3, wocs, ↓goc, ↓woc, ↓a2q, Tryz.ag40, Tryz.fd75_0, Tryz.sz40, Tryz.sz3, Tryz.un40, hlo, hnn, hnn2]
  repeat ((with_reducible refine And.intro ?_ ?_); · first | (with_reducible assumption) | omega)
  refine hK7 _ _ ?_
  refine a3q 0 [] ?_
  simp only [bs, ↓vopx, ↓vop, Nat.reduceBEq, a1q, flat, Nat.reduceLT, opII, hl, h3, h15, h_i, wocs, ↓goc, ↓woc, ↓a2q]
  repeat ((with_reducible refine And.intro ?_ ?_); · exact ⟨by omega, by omega⟩)
  refine ⟨n - (i + 1), by omega, i + 1, rfl, by omega, ?_⟩
  try simp only [a0q, a4q, Nat.reduceBEq, lpv, hl, h3, h15, h_i, if_true, if_false, Nat.reduceEqDiff, Nat.reduceLT, true_and, and_true]
  repeat ((with_reducible refine And.intro ?_ ?_); · trivial)
  rw [v3x, h4q _ _ _ (by rw [List.length_map, o5z (by omega)]; omega), ← List.map_set, rgO_set (by omega)]
 ·clear hA hB A B
  have han : n = i := by omega
  subst han
  refine c1q ?_
  simp only [a1q, b5q, if_true]
  refine hK3 _ _ ?_
  refine vsk fun K9 hK9 => ?_
  refine a3q 0 [] ?_
  simp only [bs, ↓vopx, ↓vop, Nat.reduceBEq, a1q, Nat.reduceLT, hl, h3, wocs, ↓goc, ↓woc, ↓a2q]
  refine hK9 _ _ ?_
  refine b1q ?_
  refine hQ _ _ _ (.inr rfl) (d6q (v := .ptr (s.next + 1) 0) ?_ rfl ⟨s.next + 1, s.next, rfl, ⟨e8q n, ⟨by simp [Sg.add, g4q], by simp [Sg.add, rgO_end], by simp [Sg.add], by simp [Sg.add]; omega⟩, UF.range n⟩, by omega, Nat.le_refl _, ((Keep.refl s).add (Nat.le_refl _) _).add (by simp [Sg.add]) _, by simp [Sg.add]; omega⟩)
  try simp only [a0q, lpv, hl, Nat.reduceLT]
set_option maxRecDepth 20000 in
theorem way_ (s : Sg) (p a : Nat) : f8q Tryz.prog 61 [.ptr p 0, I a] s (fun v s' => v = .clo 82 [.ptr (s.next + 1) 0, .ptr s.next 0] ∧ s' = (s.add (.box 52 [.ptr p 0])).add (.box 3 [I a])) := by
 refine b6q Tryz.func61 rfl fun Q hQ => ?_
 obtain ⟨e, he, hl, h0, h1⟩ : ∃ e : Env, ([.ptr p 0, I a] ++ List.replicate (Tryz.f61.ntmps - ([.ptr p 0, I a] : List V).length) .junk) = e ∧ e.length = 6 ∧ ev e (.tmp 0) = .ptr p 0 ∧ ev e (.tmp 1) = I a := ⟨_, rfl, rfl, rfl, rfl⟩
 rw [he]
 clear he
 refine vsk fun K1 hK1 => ?_
 refine a3q 0 [] ?_
 simp only [bs, ↓vopx, ↓vop, Nat.reduceBEq, a1q, flat, V.cells, h0, h1, wocs, ↓goc, ↓woc, ↓a2q]
 refine hK1 _ _ ?_
 refine vsk fun K2 hK2 => ?_
 refine a3q 0 [] ?_
 simp only [bs, ↓vopx, ↓vop, Nat.reduceBEq, a1q, Nat.reduceLT, hl, wocs, ↓goc, ↓woc, ↓a2q, q0z, List.all_cons, List.all_nil, Bool.and_self]
 refine hK2 _ _ ?_
 refine b1q ?_
 refine hQ _ _ _ (.inr rfl) (d6q (v := .clo 82 [.ptr (s.next + 1) 0, .ptr s.next 0]) ?_ rfl ⟨rfl, rfl⟩)
 try simp only [a0q, lpv, hl, Nat.reduceLT]
set_option maxRecDepth 20000 in
theorem way1_ (n0 cb ub p m : Nat) (l : List Int) (hwf : wfU l) (Iv Jv : Nat → Sg → Prop) (E : WayI n0 cb ub p m l Iv Jv) (a0 : Nat) (s : Sg) (hs0 : Iv a0 s) : f8q Tryz.prog 82 [.yl n0, .ptr cb 0, .ptr ub 0] s (fun _ s' => ∃ a : Nat, Jv a s' ∧ l[a]? = some (a : Int)) := by
 refine b6q Tryz.func82 rfl fun Q hQ => ?_
 obtain ⟨e, he, hl, h0, h1, h2⟩ : ∃ e : Env, ([.yl n0, .ptr cb 0, .ptr ub 0] ++ List.replicate (Tryz.f82.ntmps - ([.yl n0, .ptr cb 0, .ptr ub 0] : List V).length) .junk) = e ∧ e.length = 25 ∧ ev e (.tmp 0) = .yl n0 ∧ ev e (.tmp 1) = .ptr cb 0 ∧ ev e (.tmp 2) = .ptr ub 0 := ⟨_, rfl, rfl, rfl, rfl, rfl⟩
 rw [he]
 clear he
 refine a5q ?_
 refine c2q (fun mm e' s' => ∃ a : Nat, a = mm ∧ e'.length = 25 ∧ ev e' (.tmp 0) = .yl n0 ∧ ev e' (.tmp 1) = .ptr cb 0 ∧ ev e' (.tmp 2) = .ptr ub 0 ∧ Iv a s') (⟨a0, rfl, ?_⟩) ?_
 ·exact ⟨hl, h0, h1, h2, hs0⟩
 rintro mm e s1 ⟨a, rfl, hl, h0, h1, h2, hiv⟩
 refine vsk fun K1 hK1 => ?_
 refine vsk fun K2 hK2 => ?_
 obtain ⟨hal, hcb⟩ := E.hI _ _ hiv
 refine f6x Tryz.mixed ?_
 refine j3z 0 2 4 [0, 1] [] [.stop] 0 (by decide +kernel) (by simp [hl]) rfl ?_
 simp only [bs, ↓vopx, ↓vop, Nat.reduceBEq, Nat.reduceLT, a8q, b0q, hl, h0, h1, Nat.reduceSub, wocs, ↓goc, ↓woc, ↓a2q, ↓e3q, ↓b8q, a6q, ↓m2q, chn, ↓goq, ↓woq, List.zip_cons_cons, List.zip_nil_right, Tryz.ag3, Tryz.sz3, hcb]
 refine w8q.mono (E.hY _ _ hiv) fun v s2 hv => ?_
 obtain ⟨rfl, hjv⟩ := hv
 obtain ⟨-, hcb2, hub, hp, hm⟩ := E.hJ _ _ hjv
 obtain ⟨z, hz⟩ : ∃ z, l[a]? = some z := ⟨_, List.getElem?_eq_getElem hal⟩
 have hw := hwf a z hz
 try simp only [bs, Nat.reduceLT, hl, h0, Hold]
 refine j3z 4 12 14 [1, 0, 0, 1, 1, 1, 1, 1] [] [] 0 (by decide +kernel) (by simp [lpv, hl]) rfl ?_
 simp only [bs, f0q, ↓vopx, ↓vop, Nat.reduceBEq, flat, Nat.reduceLT, a8q, b0q, opII, opSS, gtmp, hl, h1, h2, Nat.reduceSub, wocs, ↓goc, ↓woc, ↓a2q, ↓e3q, ↓h3q, ↓farC, chn, ↓goq, ↓woq, List.zip_cons_cons, List.zip_nil_right, Tryz.ag40, Tryz.ag3, Tryz.ag52, Tryz.fd75_0, Tryz.sz40, Tryz.sz3, Tryz.sz52, Tryz.un40, hcb2, hub, hp, hm, hz]
 repeat ((with_reducible refine And.intro ?_ ?_); · omega)
 refine phase_end ?_
 try simp only [a1q]
 refine hK2 _ _ ?_
 refine vck fun A B hA hB => ?_
 simp only [b2q, a0q, lpv, Nat.reduceLT, bne_iff_ne, bne_eq_false_iff_eq, ne_eq, hl]
 refine ⟨fun hc17 => hA ?_, fun hc17 => hB ?_⟩
 ·clear hA hB A B
  refine a9q ?_
  refine hK1 _ _ ?_
  refine a5q ?_
  refine c5q Tryz.mixed 5 [1, 0, 0, 1, 1] [] [] 0 (by decide +kernel) (by simp [lpv, hl]) rfl ?_
  simp only [bs, f0q, ↓vopx, ↓vop, Nat.reduceBEq, a1q, b5q, Nat.reduceLT, V.cells, a8q, b0q, hl, h0, h1, h2, wocs, ↓goc, ↓woc, ↓a2q, ↓e3q, chn, ↓goq, ↓woq, List.zip_cons_cons, List.zip_nil_right, Tryz.ag40, Tryz.ag3, Tryz.ag52, Tryz.fd75_0, Tryz.sz40, Tryz.sz3, Tryz.sz52, Tryz.un40, hcb2, hub, hp, hm, hz]
  repeat ((with_reducible refine And.intro ?_ ?_); · omega)
  obtain ⟨b, rfl⟩ : ∃ b : Nat, z = (b : Int) := ⟨z.toNat, by omega⟩
  have hba : b ≠ a := fun e0 => hc17 (by rw [e0])
  refine ⟨b, by omega, b, rfl, ?_⟩
  try simp only [a0q, a4q, Nat.reduceBEq, lpv, hl, h0, h1, h2, if_true, if_false, Nat.reduceEqDiff, Nat.reduceLT, true_and, and_true]
  exact E.hset _ _ b hjv hz hba
 ·clear hA hB A B
  refine c1q ?_
  simp only [a1q, b5q, if_true]
  exact hQ _ _ _ (.inl rfl) ⟨[], rfl, rfl, a, hjv, by rw [hz]; simpa using hc17⟩
end Go.Proofs

open Go Go.V
namespace Go.Proofs
structure LeI (s : Sg) (lp : Blk) (p m : Nat) (l R : List Int) (r : Int) (n0 a : Nat) (s' : Sg) : Prop where
 hu : ProU s' p m l
 b5 : ∃ y, s'.m s.next = some (.box 3 [y])
 bu : s'.m (s.next + 1) = some (.box 52 [.ptr p 0])
 bc : s'.m (s.next + 1 + 1) = some (.box 3 [I a])
 hl : s'.m n0 = some lp
 same : ∀ j, j < s.next → s'.m j = s.m j
 nx : s'.next = n0 + 1
 hr : R[a]? = some r
theorem LeI.move {s : Sg} {lp : Blk} {p m : Nat} {l R : List Int} {r : Int} {n0 a : Nat} {s' : Sg} (h : LeI s lp p m l R r n0 a s') (hn : n0 = s.next + 3) (hp : p < s.next) (hm : m < s.next) {y : V} (h5 : s'.m s.next = some (.box 3 [y])) (hU : UF l R) {b : Nat} (hb : l[a]? = some (b : Int)) (hne : b ≠ a) : LeI s lp p m l R r n0 b (s'.set (s.next + 1 + 1) (.box 3 [I b])) := by
 refine ⟨h.hu.setO (by omega) (by omega) _, ⟨y, ?_⟩, ?_, ?_, ?_, fun j hj => ?_, h.nx, ?_⟩
 ·rw [b9q, if_neg (by omega)]; exact h5
 ·rw [b9q, if_neg (by omega)]; exact h.bu
 ·rw [b9q, if_pos rfl]
 ·rw [b9q, if_neg (by omega)]; exact h.hl
 ·rw [b9q, if_neg (by omega)]; exact h.same j hj
 ·rw [← h.hr]; exact (hU.step a b hb (by omega)).symm
def LeastU (s : Sg) (p m : Nat) (R : List Int) (r : Int) (v : V) (s' : Sg) : Prop := v = I r ∧ ProR s' p m R ∧ But s m s'
theorem But.trans {s s1 s2 : Sg} {m : Nat} (h : But s m s1) (k : But s1 m s2) : But s m s2 := ⟨fun j hj hm => by rw [k.1 j (by have := h.2; omega) hm, h.1 j hj hm], Nat.le_trans h.2 k.2⟩
theorem But.keep {s0 s s' : Sg} {m : Nat} (h : But s m s') (hm : s0.next ≤ m) (hk : Keep s0 s) (hn : s0.next ≤ s.next) : Keep s0 s' := fun n b hlt hb => by
 rw [h.1 n (by omega) (by omega)]; exact hk n b hlt hb
def JoinQ (s : Sg) (p m : Nat) (R : List Int) (v : V) (s' : Sg) : Prop := (∃ b, v = Bo b) ∧ ProR s' p m R ∧ But s m s'
def PlacesQ (s : Sg) (p m : Nat) (R : List Int) (v : V) (s' : Sg) : Prop := v = .t (c0q (c3q R)) ∧ ProR s' p m R ∧ But s m s'
theorem v4z (l : List Int) (a b : Nat) : (joinL l a b).length = l.length := by simp [joinL]
set_option maxRecDepth 20000 in
theorem t1z (s : Sg) (p m : Nat) (l R : List Int) (hu : ProU s p m l) (hU : UF l R) (a : Nat) (r : Int) (har : R[a]? = some r) : f8q Tryz.prog 39 [.ptr p 0, I a] s (LeastU s p m R r) := by
 refine b6q Tryz.func39 rfl fun Q hQ => ?_
 obtain ⟨e, he, hl, h0, h1⟩ : ∃ e : Env, ([.ptr p 0, I a] ++ List.replicate (Tryz.f39.ntmps - ([.ptr p 0, I a] : List V).length) .junk) = e ∧ e.length = 32 ∧ ev e (.tmp 0) = .ptr p 0 ∧ ev e (.tmp 1) = I a := ⟨_, rfl, rfl, rfl, rfl⟩
 rw [he]
 clear he
 have ha : a < l.length := by rw [← hU.len]; exact (List.getElem?_eq_some_iff.1 har).1
 have hp0 := hu.hp
 have hm0 := hu.hm
 have hlp := hu.lp
 have hlm := hu.lm
 have n1 : ¬ ((a : Int) < 0) := by omega
 have n3 : ¬ ((a : Int) ≥ l.length) := by omega
 refine vsk fun K1 hK1 => ?_
 refine a3q 0 [] ?_
 simp only [bs, ↓vopx, ↓vop, a1q, flat, wocs, ↓goc, ↓woc, ↓a2q]
 refine hK1 _ _ ?_
 refine vsk fun K2 hK2 => ?_
 refine vsk fun K3 hK3 => ?_
 refine a3q 0 [] ?_
 simp only [bs, f0q, ↓vopx, ↓vop, Nat.reduceBEq, a1q, flat, Nat.reduceLT, a8q, b0q, opII, gtmp, hl, h0, h1, wocs, ↓goc, ↓woc, ↓a2q, ↓c8q, Tryz.ag40, Tryz.fd75_0, Tryz.sz40, Tryz.un40, n1, n3, hp0]
 refine hK3 _ _ ?_
 refine vck fun A B hA hB => ?_
 simp only [b2q, a0q, lpv, Nat.reduceLT, true_implies, reduceCtorEq, false_implies, true_and, hl]
 refine hB ?_
 clear hA hB A B
 refine a9q ?_
 refine hK2 _ _ ?_
 refine vsk fun K4 hK4 => ?_
 refine a3q 0 [] ?_
 simp only [bs, ↓vopx, ↓vop, Nat.reduceBEq, a1q, Nat.reduceLT, V.cells, hl, h1, wocs, ↓goc, ↓woc, ↓a2q, Tryz.sz3, Tryz.zv3]
 refine hK4 _ _ ?_
 refine vsk fun K5 hK5 => ?_
 refine vsk fun K6 hK6 => ?_
 refine a3q 0 [.stop] ?_
 simp only [bs, ↓vopx, ↓vop, Nat.reduceBEq, a1q, Nat.reduceLT, hl, h0, h1, wocs, ↓goc, ↓woc, ↓a2q, ↓b8q, a6q]
 refine ⟨Tryz.is61, (way_ _ p a).mono fun v s2 hv => ?_⟩
 obtain ⟨rfl, rfl⟩ := hv
 try simp only [bs, Nat.reduceBEq, h0, h1, Hold]
 refine hK6 _ _ ?_
 refine a5q ?_
 refine d4q fun e1 s3 hE hS => ?_
 have hlE : e1.length = 32 := by rw [hE]; simp only [lpv, hl]
 have h0E : ev e1 (.tmp 0) = .ptr p 0 := by rw [hE]; simp only [a4q, Nat.reduceBEq, h0]
 have h1E : ev e1 (.tmp 1) = I a := by rw [hE]; simp only [a4q, Nat.reduceBEq, h1]
 have h5E : ev e1 (.tmp 5) = .ptr s.next 0 := by rw [hE]; simp only [a0q, a4q, Nat.reduceBEq, lpv, hl, Nat.reduceLT]
 have h21E : ev e1 (.tmp 21) = .clo 82 [.ptr (s.next + 1 + 1) 0, .ptr (s.next + 1) 0] := by rw [hE]; simp only [a0q, lpv, hl, Nat.reduceLT]
 clear hE
 have h3n : s3.next = s.next + 3 := by rw [hS]; rfl
 have h3o : ∀ j, j < s.next → s3.m j = s.m j := fun j hj => by rw [hS]; simp [Sg.set, Sg.add, show j ≠ s.next by omega, show j ≠ s.next + 1 by omega, show j ≠ s.next + 1 + 1 by omega]
 have h35 : s3.m s.next = some (.box 3 [I a]) := by rw [hS]; simp [Sg.set, Sg.add]
 have h3u : s3.m (s.next + 1) = some (.box 52 [.ptr p 0]) := by rw [hS]; simp [Sg.set, Sg.add]
 have h3c : s3.m (s.next + 1 + 1) = some (.box 3 [I a]) := by rw [hS]; simp [Sg.set, Sg.add]
 clear hS
 refine o0q (g := 82) (caps := [.ptr (s.next + 1 + 1) 0, .ptr (s.next + 1) 0]) h21E Tryz.func82 rfl (by decide) fun s4 h4e h4n h4m h4l => ?_
 have hst : LeI s _ p m l R r s3.next a s4 := ⟨⟨by rw [h4m p (by omega), h3o p hlp]; exact hp0, by rw [h4m m (by omega), h3o m hlm]; exact hm0, by omega, by omega⟩, ⟨_, by rw [h4m _ (by omega)]; exact h35⟩, by rw [h4m _ (by omega)]; exact h3u, by rw [h4m _ (by omega)]; exact h3c, h4l, fun j hj => by rw [h4m j (by omega)]; exact h3o j hj, h4n, har⟩
 refine (way1_ s3.next (s.next + 1 + 1) (s.next + 1) p m l hU.wf (fun a s' => LeI s _ p m l R r s3.next a s') (fun a s' => LeI s _ p m l R r s3.next a s' ∧ s'.m s.next = some (.box 3 [I a])) ⟨fun a s' h => ⟨by rw [← hU.len]; exact (List.getElem?_eq_some_iff.1 h.hr).1, h.bc⟩, fun a s' h => ⟨by rw [← hU.len]; exact (List.getElem?_eq_some_iff.1 h.1.hr).1, h.1.bc, h.1.bu, h.1.hu.hp, h.1.hu.hm⟩, fun a s' b h hb hne => h.1.move h3n hlp hlm h.2 hU hb hne, fun a2 s5 hp5 => ?_⟩ a s4 hst).mono fun v s6 h6 => ?_
 rotate_left
 ·obtain ⟨a2, ⟨hp6, h65⟩, hroot⟩ := h6
  refine ⟨none, .ready, hp6.hl, by simp, ?_⟩
  have q4 : ¬ s.next = m := by omega
  simp only []
  refine hK5 _ _ ?_
  refine vsk fun K7 hK7 => ?_
  have hra : r = (a2 : Int) := by have h1 := hU.root a2 hroot; rw [hp6.hr] at h1; exact Option.some.inj h1
  have q1 : ¬ p = s3.next := by omega
  have q2 : ¬ m = s3.next := by omega
  have q3 : ¬ s.next = s3.next := by omega
  have hp7 := hp6.hu.hp
  have hm7 := hp6.hu.hm
  refine c5q Tryz.mixed 6 [0, 0, 0, 1, 0, 1] [] [] 0 (by decide +kernel) (by simp [hlE]) rfl ?_
  simp only [bs, f0q, ↓vopx, ↓vop, Nat.reduceBEq, a1q, Nat.reduceLT, V.cells, a8q, b0q, Sg.frzL, Sg.frz1, hlE, h0E, h1E, h5E, wocs, ↓goc, ↓woc, ↓a2q, ↓e3q, chn, ↓goq, ↓woq, List.zip_cons_cons, List.zip_nil_right, Tryz.ag40, Tryz.ag3, Tryz.fd75_0, Tryz.sz40, Tryz.sz3, Tryz.un40, q1, q2, q3, hp7, hm7, h65]
  repeat ((with_reducible refine And.intro ?_ ?_); · omega)
  refine hK7 _ _ ?_
  refine vsk fun K8 hK8 => ?_
  refine a3q 0 [] ?_
  simp only [bs, ↓vopx, ↓vop, Nat.reduceBEq, a1q, Nat.reduceLT, a8q, b0q, hlE, h5E, wocs, ↓goc, ↓woc, ↓a2q, Tryz.ag3, Tryz.sz3, q3, q4, h65]
  refine hK8 _ _ ?_
  refine b1q ?_
  subst hra
  refine hQ _ _ _ (.inr rfl) (d6q (v := I a2) ?_ rfl ⟨rfl, ⟨_, (hp6.hu.delO (x := s3.next) (by omega) (by omega)).put ha a2, hU.compress har⟩, fun j hj hjm => ?_, ?_⟩)
  try simp only [a0q, lpv, hlE, Nat.reduceLT]
  ·simp [Sg.set, Sg.del, hjm, show ¬ j = s3.next by omega, hp6.same j hj]
  ·simp [Sg.set, Sg.del, hp6.nx]; omega
 obtain ⟨y, hy⟩ := hp5.b5
 refine o2q hp5.hl rfl fun KA hKA => ?_
 rw [show (#[22] : Array Tmp).toList = [22] from rfl, n4q]
 refine a3q 0 [] ?_
 simp only [bs, ↓vopx, ↓vop, a1q, Nat.reduceLT, hlE, wocs, ↓goc, ↓woc, ↓a2q]
 refine hKA _ _ hp5.hl ?_
 refine d4q fun e2 sd hE2 hSd => ?_
 subst hE2
 have hbx : sd.m s.next = some (.box 3 [y]) := by rw [hSd]; simp [Sg.set, show ¬ s.next = s3.next by omega, hy]
 have hsn : sd.next = s5.next := by rw [hSd]; rfl
 have hso : ∀ j, j ≠ s3.next → sd.m j = s5.m j := fun j hj => by rw [hSd]; simp [Sg.set, hj]
 refine a5q ?_
 refine a3q 0 [] ?_
 simp only [bs, ↓vopx, ↓vop, Nat.reduceBEq, b5q, Nat.reduceLT, V.cells, hlE, h5E, wocs, ↓goc, ↓woc, ↓a2q, Tryz.sz3, hbx]
 refine And.intro (by simp [hSd, Sg.set, show ¬ s3.next = s.next by omega]) (And.intro rfl ⟨⟨⟨?_, ?_, ?_, ?_⟩, ⟨I a2, ?_⟩, ?_, ?_, ?_, fun j hj => ?_, ?_, hp5.hr⟩, ?_⟩)
 ·simp [Sg.set, show ¬ p = s3.next by omega, show ¬ p = s.next by omega, hso p (by omega), hp5.hu.hp]
 ·simp [Sg.set, show ¬ m = s3.next by omega, show ¬ m = s.next by omega, hso m (by omega), hp5.hu.hm]
 ·simp [Sg.set, hsn]; have := hp5.hu.lp; omega
 ·simp [Sg.set, hsn]; have := hp5.hu.lm; omega
 ·simp [Sg.set, show ¬ s.next = s3.next by omega]
 ·simp [Sg.set, show ¬ s.next + 1 = s3.next by omega, hso (s.next + 1) (by omega), hp5.bu]
 ·simp [Sg.set, show ¬ s.next + 1 + 1 = s3.next by omega, hso (s.next + 1 + 1) (by omega), hp5.bc]
 ·simp [Sg.set]
 ·simp [Sg.set, show ¬ j = s3.next by omega, show ¬ j = s.next by omega, hso j (by omega), hp5.same j hj]
 ·simp [Sg.set, hsn, hp5.nx]
 ·simp [Sg.set, show ¬ s.next = s3.next by omega]
end Go.Proofs

open Go Go.V
namespace Go.Proofs
theorem f9q {R : List Int} {a : Nat} {x : Int} (h : R[a]? = some x) : R.getD a 0 = x := by rw [List.getD_eq_getElem?_getD, h]; rfl
theorem UF.wfR {l R : List Int} (h : UF l R) : wfU R := fun i z hz => (h.le i z hz).1
theorem r9q (l : List Int) {i : Nat} (h : i < l.length) (x : Int) : setAll (l.map TI) i [TI x] = (l.set i x).map TI := by
 rw [h4q _ _ _ (by simpa using h)]; simp [List.map_set]
structure PlI (s : Sg) (p m : Nat) (R : List Int) (i : Nat) (s' : Sg) : Prop where
 pr : ProR s' p m R
 out : s'.m s.next = some (.arr 1 3 ((plO R i).map TI))
 same : ∀ j, j < s.next → j ≠ m → s'.m j = s.m j
 nx : s.next < s'.next
theorem PlI.put {s : Sg} {p m : Nat} {R : List Int} {i : Nat} {s1 s2 : Sg} (h : PlI s p m R i s1) (hp2 : ProR s2 p m R) (hb2 : But s1 m s2) (hi : i < R.length) (hlp : p < s.next) (hlm : m < s.next) (v : Int) (hv : (plO R i).set i v = plO R (i + 1)) :
 PlI s p m R (i + 1) (s2.set s.next (.arr 1 3 (setAll ((plO R i).map TI) i [TI v]))) := by
 obtain ⟨l2, a2, b2⟩ := hp2
 refine ⟨⟨l2, a2.setO (by omega) (by omega) _, b2⟩, ?_, fun j hj hjm => ?_, ?_⟩
 ·rw [r9q _ (by rw [o5q (by omega)]; exact hi), hv, b9q, if_pos rfl]
 ·rw [b9q, if_neg (by omega), hb2.1 j (by have := h.nx; omega) hjm]; exact h.same j hj hjm
 ·have := h.nx; have := hb2.2; show s.next < s2.next; omega
set_option maxRecDepth 20000 in
theorem unJoin_ (s : Sg) (p m : Nat) (R : List Int) (hp : ProR s p m R) (a b : Nat) (ha : a < R.length) (hb : b < R.length) : f8q Tryz.prog 21 [.ptr p 0, I a, I b] s (JoinQ s p m (joinL R a b)) := by
 refine b6q Tryz.func21 rfl fun Q hQ => ?_
 obtain ⟨e, he, hl, h0, h1, h2⟩ : ∃ e : Env, ([.ptr p 0, I a, I b] ++ List.replicate (Tryz.f21.ntmps - ([.ptr p 0, I a, I b] : List V).length) .junk) = e ∧ e.length = 37 ∧ ev e (.tmp 0) = .ptr p 0 ∧ ev e (.tmp 1) = I a ∧ ev e (.tmp 2) = I b := ⟨_, rfl, rfl, rfl, rfl, rfl⟩
 rw [he]
 clear he
 obtain ⟨l, hu, hU⟩ := hp
 obtain ⟨x, hx⟩ : ∃ x, R[a]? = some x := ⟨_, List.getElem?_eq_getElem ha⟩
 obtain ⟨y, hy⟩ : ∃ y, R[b]? = some y := ⟨_, List.getElem?_eq_getElem hb⟩
 have hxb := (hU.le a x hx).1
 have hyb := (hU.le b y hy).1
 have nx : (x == -1) = false := by simp; omega
 have ny : (y == -1) = false := by simp; omega
 refine vsk fun K1 hK1 => ?_
 refine a3q 0 [] ?_
 simp only [bs, ↓vopx, ↓vop, a1q, flat, wocs, ↓goc, ↓woc, ↓a2q]
 refine hK1 _ _ ?_
 refine vsk fun K2 hK2 => ?_
 refine a3q 0 [.stop, .stop] ?_
 simp only [bs, ↓vopx, ↓vop, Nat.reduceBEq, a1q, Nat.reduceLT, hl, h0, h1, wocs, ↓goc, ↓woc, ↓a2q, ↓b8q, a6q, ↓m2q]
 refine ⟨Tryz.is39, (t1z s p m l R hu hU a x hx).mono fun v s2 hv => ?_⟩
 obtain ⟨rfl, ⟨l2, hu2, hU2⟩, hb2⟩ := hv
 try simp only [bs, Nat.reduceBEq, Nat.reduceLT, hl, h0, h1, h2, Hold]
 refine ⟨Tryz.is39, (t1z s2 p m l2 R hu2 hU2 b y hy).mono fun v s3 hv => ?_⟩
 obtain ⟨rfl, ⟨l3, hu3, hU3⟩, hb3⟩ := hv
 try simp only [bs, dstT, srcT, Nat.reduceLeDiff, Nat.reduceAdd, d9q, g7q, repl, Sg.frzP, f0q, wops, ↓gow, ↓wop, vops, ↓gop, ↓vopx, ↓vop, Nat.reduceBEq, a1q, b5q, flat, Nat.reduceEqDiff, Nat.reduceLT, V.cells, a8q, b0q, opII, opSS, gtmp, Sg.frzL, Sg.frz1, reduceCtorEq, hl, h0, h1, h2, wocs, ↓goc, ↓woc, ↓a2q, ↓e3q, ↓j6x, ↓b8q, ↓h3q, ↓c8q, ↓e5q, ↓m5q, a6q, ↓m2q, ↓farC, List.append_nil, nx, ny, Hold]
 refine hK2 _ _ ?_
 refine vsk fun K3 hK3 => ?_
 refine vsk fun K4 hK4 => ?_
 refine a3q 0 [] ?_
 simp only [bs, ↓vopx, ↓vop, Nat.reduceBEq, a1q, flat, Nat.reduceLT, opII, gtmp, hl, wocs, ↓goc, ↓woc, ↓a2q, ↓c8q, nx, ny]
 refine hK4 _ _ ?_
 refine vck fun A B hA hB => ?_
 simp only [b2q, a0q, lpv, Nat.reduceLT, beq_iff_eq, beq_eq_false_iff_ne, ne_eq, hl]
 refine ⟨fun hxy => hA ?_, fun hxy => hB ?_⟩
 ·clear hA hB A B
  refine vsk fun K5 hK5 => ?_
  refine a3q 0 [] ?_
  simp only [bs, ↓vopx, ↓vop, a1q, flat, wocs, ↓goc, ↓woc, ↓a2q]
  refine hK5 _ _ ?_
  refine b1q ?_
  refine hQ _ _ _ (.inr rfl) (d6q (v := Bo false) ?_ rfl ⟨⟨_, rfl⟩, ?_, hb2.trans hb3⟩)
  try simp only [a0q, lpv, hl, Nat.reduceLT]
  rw [o0z (by rw [f9q hx, f9q hy, hxy])]; exact ⟨l3, hu3, hU3⟩
 ·clear hA hB A B
  refine a9q ?_
  refine hK3 _ _ ?_
  refine vsk fun K6 hK6 => ?_
  have hp3 := hu3.hp
  have hm3 := hu3.hm
  have hll : l3.length = R.length := hU3.len.symm
  have hmx : 0 ≤ max x y := by omega
  have hml : (max x y).toNat < l3.length := by omega
  refine a3q 0 [] ?_
  simp only [bs, f0q, ↓vopx, ↓vop, Nat.reduceBEq, a1q, Nat.reduceLT, V.cells, a8q, b0q, Sg.frzL, Sg.frz1, hl, h0, wocs, ↓goc, ↓woc, ↓a2q, Tryz.ag40, Tryz.fd75_0, Tryz.sz40, Tryz.sz3, Tryz.un40, hp3, hm3, hmx]
  repeat ((with_reducible refine And.intro ?_ ?_); · omega)
  refine hK6 _ _ ?_
  refine vsk fun K7 hK7 => ?_
  refine a3q 0 [] ?_
  simp only [bs, ↓vopx, ↓vop, a1q, flat, wocs, ↓goc, ↓woc, ↓a2q]
  refine hK7 _ _ ?_
  refine b1q ?_
  refine hQ _ _ _ (.inr rfl) (d6q (v := Bo true) ?_ rfl ⟨⟨_, rfl⟩, ⟨_, hu3.put hml (min x y), hU3.join hx hy hxy⟩, fun j hj hjm => ?_, ?_⟩)
  try simp only [a0q, lpv, hl, Nat.reduceLT]
  ·rw [b9q, if_neg hjm]; exact (hb2.trans hb3).1 j hj hjm
  ·exact (hb2.trans hb3).2
set_option maxRecDepth 20000 in
theorem y0z (s : Sg) (p m : Nat) (R : List Int) (hp : ProR s p m R) (hR : R.length ≤ 1000) : f8q Tryz.prog 40 [.ptr p 0] s (PlacesQ s p m R) := by
 refine b6q Tryz.func40 rfl fun Q hQ => ?_
 obtain ⟨e, he, hl, h0⟩ : ∃ e : Env, ([.ptr p 0] ++ List.replicate (Tryz.f40.ntmps - ([.ptr p 0] : List V).length) .junk) = e ∧ e.length = 39 ∧ ev e (.tmp 0) = .ptr p 0 := ⟨_, rfl, rfl, rfl⟩
 rw [he]
 clear he
 obtain ⟨l, hu, hU⟩ := hp
 have hp0 := hu.hp
 have hlp := hu.lp
 have hlm := hu.lm
 have hll : l.length = R.length := hU.len.symm
 rw [hll] at hp0
 have hrep : repl [TI 0] R.length = (List.replicate R.length (0 : Int)).map TI := by rw [l9q]; simp
 have hwf := hU.wfR
 refine vsk fun K1 hK1 => ?_
 refine a3q 0 [] ?_
 simp only [bs, ↓vopx, ↓vop, a1q, flat, wocs, ↓goc, ↓woc, ↓a2q]
 refine hK1 _ _ ?_
 refine vsk fun K2 hK2 => ?_
 refine a3q 0 [] ?_
 simp only [bs, f0q, ↓vopx, ↓vop, Nat.reduceBEq, a1q, Nat.reduceLT, a8q, b0q, hl, h0, wocs, ↓goc, ↓woc, ↓a2q, Tryz.ag40, Tryz.fd75_0, Tryz.sl40, Tryz.sz40, Tryz.un40, hp0]
 repeat ((with_reducible refine And.intro ?_ ?_); · omega)
 refine hK2 _ _ ?_
 refine vsk fun K3 hK3 => ?_
 refine a3q 0 [] ?_
 simp only [bs, ↓vopx, ↓vop, a1q, flat, wocs, ↓goc, ↓woc, ↓a2q]
 refine hK3 _ _ ?_
 refine vsk fun K4 hK4 => ?_
 refine vsk fun K5 hK5 => ?_
 refine a3q 0 [] ?_
 simp only [bs, ↓vopx, ↓vop, Nat.reduceBEq, a1q, flat, Nat.reduceLT, hl, wocs, ↓goc, ↓woc, ↓a2q]
 refine hK5 _ _ ?_
 refine a5q ?_
 refine c2q (fun mm e' s' => ∃ i : Nat, mm = R.length - i ∧ i ≤ R.length ∧ e'.length = 39 ∧ ev e' (.tmp 0) = .ptr p 0 ∧ ev e' (.tmp 3) = .loc s.next 0 R.length ∧ ev e' (.tmp 14) = I R.length ∧ ev e' (.tmp 4) = I (plS R i).2 ∧ ev e' (.tmp 15) = I i ∧ True ∧ PlI s p m R i s') (⟨0, rfl, Nat.zero_le _, ?_⟩) ?_
 ·try simp only [a0q, a4q, Nat.reduceBEq, lpv, hl, h0, Nat.reduceLT, true_and]
  repeat ((with_reducible refine And.intro ?_ ?_); · trivial)
  refine ⟨⟨l, ?_, hU⟩, ?_, fun j hj hjm => ?_, ?_⟩
  ·exact hu.keep ((Keep.refl s).add (Nat.le_refl _) _) (by simp [Sg.add])
  ·simp [Sg.add, e4x, hrep]
  ·simp [Sg.add, show j ≠ s.next by omega]
  ·simp [Sg.add]
 rintro mm e s1 ⟨i, rfl, hle_i, hl, h0, h3, h14, h4, h_i, hst, hpl⟩
 refine vsk fun K6 hK6 => ?_
 refine a3q 0 [] ?_
 simp only [a1q, opII, h14, h_i, wocs, ↓goc, ↓woc]
 refine hK6 _ _ ?_
 refine vsk fun K7 hK7 => ?_
 refine vck fun A B hA hB => ?_
 simp only [b2q, a0q, Nat.reduceLT, decide_eq_true_eq, decide_eq_false_iff_not, hl]
 refine ⟨fun hc16 => hA ?_, fun hc16 => hB ?_⟩
 ·clear hA hB A B
  refine a9q ?_
  refine hK7 _ _ ?_
  refine vsk fun K8 hK8 => ?_
  refine a5q ?_
  refine vsk fun K9 hK9 => ?_
  refine a3q 0 [] ?_
  simp only [bs, ↓vopx, ↓vop, Nat.reduceBEq, a1q, Nat.reduceLT, hl, h_i, wocs, ↓goc, ↓woc, ↓a2q]
  refine hK9 _ _ ?_
  refine vsk fun K10 hK10 => ?_
  have hlt : i < R.length := by omega
  obtain ⟨r, hr⟩ : ∃ r, R[i]? = some r := ⟨_, List.getElem?_eq_getElem hlt⟩
  obtain ⟨l1, hu1, hU1⟩ := hpl.pr
  refine a3q 0 [.stop] ?_
  simp only [bs, ↓vopx, ↓vop, Nat.reduceBEq, a1q, Nat.reduceLT, hl, h0, wocs, ↓goc, ↓woc, ↓a2q, ↓b8q, a6q]
  refine ⟨Tryz.is39, (t1z s1 p m l1 R hu1 hU1 i r hr).mono fun v s2 hv => ?_⟩
  obtain ⟨rfl, hp2, hb2⟩ := hv
  have hnm : ¬ s.next = m := by omega
  have ho2 : s2.m s.next = some (.arr 1 3 ((plO R i).map TI)) := by rw [hb2.1 s.next hpl.nx hnm]; exact hpl.out
  have hrb := hwf i r hr
  have hgr : R.getD i 0 = r := f9q hr
  have hlo := o5q (l := R) (i := i) (by omega)
  have hple := q3x R i
  try simp only [bs, Nat.reduceBEq, Nat.reduceLT, hl, h0, Hold]
  refine hK10 _ _ ?_
  refine vsk fun K11 hK11 => ?_
  refine a3q 0 [] ?_
  simp only [bs, ↓vopx, ↓vop, Nat.reduceBEq, a1q, Nat.reduceLT, opII, hl, wocs, ↓goc, ↓woc, ↓a2q]
  refine hK11 _ _ ?_
  refine vck fun A B hA hB => ?_
  simp only [b2q, a0q, lpv, Nat.reduceLT, decide_eq_true_eq, decide_eq_false_iff_not, hl]
  refine ⟨fun hri0 => hA ?_, fun hri0 => hB ?_⟩
  ·clear hA hB A B
   have hri : r.toNat < i := by omega
   have hpg := q1x (l := R) hri
   refine a3q 0 [] ?_
   simp only [bs, ↓vopx, ↓vop, Nat.reduceBEq, a1q, b5q, Nat.reduceLT, V.cells, a8q, b0q, Sg.frzL, Sg.frz1, hl, h3, wocs, ↓goc, ↓woc, ↓a2q, Tryz.ag3, Tryz.sz3, Tryz.un40, ho2, hpg, hlo]
   repeat ((with_reducible refine And.intro ?_ ?_); · first | (with_reducible assumption) | omega)
   refine hK8 _ _ ?_
   refine a3q 0 [] ?_
   simp only [bs, ↓vopx, ↓vop, Nat.reduceBEq, a1q, flat, Nat.reduceLT, opII, hl, h0, h3, h14, h4, h_i, wocs, ↓goc, ↓woc, ↓a2q]
   repeat ((with_reducible refine And.intro ?_ ?_); · exact ⟨by omega, by omega⟩)
   refine ⟨R.length - (i + 1), by omega, i + 1, rfl, by omega, ?_⟩
   try simp only [a0q, a4q, Nat.reduceBEq, lpv, hl, h0, h3, h14, h4, h_i, if_true, if_false, Nat.reduceEqDiff, Nat.reduceLT, true_and, and_true]
   first
    | (have hne : R.getD i 0 ≠ (i : Int) := (by rw [hgr]; omega); exact ⟨by rw [r5q hne], by push_cast; rfl, hpl.put hp2 hb2 hlt hlp hlm _ (by have := z6q hlt hne; rw [hgr] at this; exact this)⟩)
    | (have heq : R.getD i 0 = (i : Int) := (by rw [hgr]; omega); exact ⟨by rw [v1q heq]; push_cast; rfl, by push_cast; rfl, hpl.put hp2 hb2 hlt hlp hlm _ (g1z hlt heq)⟩)
  ·clear hA hB A B
   refine vsk fun K12 hK12 => ?_
   refine a3q 0 [] ?_
   simp only [bs, ↓vopx, ↓vop, Nat.reduceBEq, a1q, Nat.reduceLT, V.cells, Sg.frzL, Sg.frz1, hl, h3, h4, wocs, ↓goc, ↓woc, ↓a2q, Tryz.sz3, Tryz.un40, ho2, hlo]
   repeat ((with_reducible refine And.intro ?_ ?_); · first | (with_reducible assumption) | omega)
   refine hK12 _ _ ?_
   refine a3q 0 [] ?_
   simp only [bs, ↓vopx, ↓vop, Nat.reduceBEq, a1q, b5q, flat, Nat.reduceLT, opII, hl, h4, wocs, ↓goc, ↓woc, ↓a2q]
   repeat ((with_reducible refine And.intro ?_ ?_); · exact ⟨by omega, by omega⟩)
   refine hK8 _ _ ?_
   refine a3q 0 [] ?_
   simp only [bs, ↓vopx, ↓vop, Nat.reduceBEq, a1q, flat, Nat.reduceLT, opII, hl, h0, h3, h14, h_i, wocs, ↓goc, ↓woc, ↓a2q]
   repeat ((with_reducible refine And.intro ?_ ?_); · exact ⟨by omega, by omega⟩)
   refine ⟨R.length - (i + 1), by omega, i + 1, rfl, by omega, ?_⟩
   try simp only [a0q, a4q, Nat.reduceBEq, lpv, hl, h0, h3, h14, h4, h_i, if_true, if_false, Nat.reduceEqDiff, Nat.reduceLT, true_and, and_true]
   first
    | (have hne : R.getD i 0 ≠ (i : Int) := (by rw [hgr]; omega); exact ⟨by rw [r5q hne], by push_cast; rfl, hpl.put hp2 hb2 hlt hlp hlm _ (by have := z6q hlt hne; rw [hgr] at this; exact this)⟩)
    | (have heq : R.getD i 0 = (i : Int) := (by rw [hgr]; omega); exact ⟨by rw [v1q heq]; push_cast; rfl, by push_cast; rfl, hpl.put hp2 hb2 hlt hlp hlm _ (g1z hlt heq)⟩)
 ·clear hA hB A B
  have han : R.length = i := by omega
  rw [← han] at hpl
  refine c1q ?_
  simp only [a1q, b5q, if_true]
  refine hK4 _ _ ?_
  refine vsk fun K13 hK13 => ?_
  refine VW.freeze 3 (n := s.next) (len := R.length) (k := 1) (el := 3) (cs := (c3q R).map TI) ?_ ?_ (by simp [c3q, e6q]) ?_
  ·try simp only [a4q, Nat.reduceBEq, h3]
  ·have := hpl.out; rw [q0x] at this; exact this
  refine a3q 0 [] ?_
  simp only [bs, ↓vopx, ↓vop, a1q, Nat.reduceLT, hl, wocs, ↓goc, ↓woc, ↓a2q]
  refine hK13 _ _ ?_
  refine b1q ?_
  obtain ⟨l1, hu1, hU1⟩ := hpl.pr
  refine hQ _ _ _ (.inr rfl) (d6q (v := .t (c0q (c3q R))) ?_ rfl ⟨rfl, ⟨l1, hu1.delO (by omega) (by omega), hU1⟩, fun j hj hjm => ?_, ?_⟩)
  try simp only [a0q, lpv, hl, Nat.reduceLT]
  ·rw [e4q, if_neg (by omega)]; exact hpl.same j hj hjm
  ·exact Nat.le_of_lt hpl.nx
end Go.Proofs

open Go Go.V
namespace Go.Proofs
abbrev w2z (o : Ob) : List T := [d1q o.labels, b3q o.pairs]
abbrev h1q (l : List Ob) : T := .sl 2 (l.flatMap w2z)
abbrev tMat (l : List (List Int)) : T := .sl 1 (l.map c0q)
theorem f6q (l : List Ob) : (l.flatMap w2z).length = l.length * 2 := by
 induction l with
 | nil => rfl
 | cons a l ih => simp only [List.flatMap_cons, List.length_append, ih, List.length_cons, List.length_nil]; omega
theorem d5q (l : List Ob) : vlen (.t (h1q l)) = some l.length := by
 simp only [vlen, f6q]; congr 1; omega
theorem j7q (l : List (List Int)) : vlen (.t (tMat l)) = some l.length := by simp [vlen]
theorem d8z {l : List Ob} {i : Nat} {o : Ob} (h : l[i]? = some o) : (((l.flatMap w2z).map V.t).drop (i * 2)).take 2 = [.t (d1q o.labels), .t (b3q o.pairs)] := by
 induction l generalizing i with
 | nil => simp at h
 | cons a l ih =>
  cases i with
  | zero => simp at h; subst h; simp
  | succ i =>
   have := ih (i := i) (by simpa using h)
   rw [show (i + 1) * 2 = i * 2 + 2 by omega]
   simpa using this
structure ValF (n0 : Nat) (C : Sg → Prop) (vals : Nat → List V) (len : Nat) (Iv : (Nat → Prop) → Nat → Sg → Prop) (F : Sg → Prop) : Prop where
 hI : ∀ X k s, Iv X k s → C s ∧ ∀ x, X x → x < s.next
 hadd : ∀ X k s b, Iv X k s → Iv (fun m => X m ∨ m = s.next) k (s.add b)
 hset : ∀ X k s x b, Iv X k s → X x → Iv X k (s.set x b)
 hY : ∀ X k s, k < len → Iv X k s → w8q Tryz.prog n0 (vals k) s fun v s' => (v = Bo true ∧ Iv X (k + 1) s') ∨ (v = Bo false ∧ F s')
def objV (l : List Ob) (k : Nat) : List V := match l[k]? with | some o => [vObj o] | none => []
def n9x (l : List (List Int)) (k : Nat) : List V := match l[k]? with | some c => [.t (c0q c)] | none => []
set_option maxRecDepth 20000 in
theorem c3j (s : Sg) (l : List Ob) : f8q Tryz.prog 37 [.t (h1q l)] s (fun v s' => v = .clo 59 [.ptr s.next 0] ∧ s' = s.add (.box 22 [.t (h1q l)])) := by
 refine b6q Tryz.func37 rfl fun Q hQ => ?_
 obtain ⟨e, he, hl, h0⟩ : ∃ e : Env, ([.t (h1q l)] ++ List.replicate (Tryz.f37.ntmps - ([.t (h1q l)] : List V).length) .junk) = e ∧ e.length = 4 ∧ ev e (.tmp 0) = .t (h1q l) := ⟨_, rfl, rfl, rfl⟩
 rw [he]
 clear he
 refine vsk fun K1 hK1 => ?_
 refine a3q 0 [] ?_
 simp only [bs, ↓vopx, ↓vop, a1q, flat, V.cells, h0, wocs, ↓goc, ↓woc, ↓a2q]
 refine hK1 _ _ ?_
 refine vsk fun K2 hK2 => ?_
 refine a3q 0 [] ?_
 simp only [bs, ↓vopx, ↓vop, Nat.reduceBEq, a1q, Nat.reduceLT, hl, wocs, ↓goc, ↓woc, ↓a2q, q0z, List.all_cons, List.all_nil, Bool.and_self]
 refine hK2 _ _ ?_
 refine b1q ?_
 refine hQ _ _ _ (.inr rfl) (d6q (v := .clo 59 [.ptr s.next 0]) ?_ rfl ⟨rfl, rfl⟩)
 try simp only [a0q, lpv, hl, Nat.reduceLT]
set_option maxRecDepth 20000 in
theorem u3x (n0 cb : Nat) (l : List Ob) (hl0 : l.length < 1000000000) (Iv : (Nat → Prop) → Nat → Sg → Prop) (F : Sg → Prop) (E : ValF n0 (fun s => s.m cb = some (.box 22 [.t (h1q l)])) (objV l) l.length Iv F) (s : Sg) (hs0 : Iv (fun _ => False) 0 s) : f8q Tryz.prog 59 [.yl n0, .ptr cb 0] s (fun _ s' => (∃ X, Iv X l.length s') ∨ F s') := by
 refine b6q Tryz.func59 rfl fun Q hQ => ?_
 obtain ⟨e, he, hl, h0, h1⟩ : ∃ e : Env, ([.yl n0, .ptr cb 0] ++ List.replicate (Tryz.f59.ntmps - ([.yl n0, .ptr cb 0] : List V).length) .junk) = e ∧ e.length = 16 ∧ ev e (.tmp 0) = .yl n0 ∧ ev e (.tmp 1) = .ptr cb 0 := ⟨_, rfl, rfl, rfl, rfl⟩
 rw [he]
 clear he
 have hcb := (E.hI _ _ s hs0).1
 refine vsk fun K1 hK1 => ?_
 refine a3q 0 [] ?_
 simp only [bs, ↓vopx, ↓vop, a1q, flat, Nat.reduceLT, a8q, b0q, hl, h1, wocs, ↓goc, ↓woc, ↓a2q, Tryz.ag22, Tryz.sz22, Tryz.un22, d5q, hcb]
 refine hK1 _ _ ?_
 refine a5q ?_
 refine c2q (fun mm e' s' => ∃ k : Nat, mm = l.length - k ∧ k ≤ l.length ∧ e'.length = 16 ∧ ev e' (.tmp 0) = .yl n0 ∧ ev e' (.tmp 1) = .ptr cb 0 ∧ ev e' (.tmp 5) = .t (h1q l) ∧ ev e' (.tmp 6) = I l.length ∧ ev e' (.tmp 7) = I k ∧ True ∧ ∃ X, Iv X k s') (⟨0, rfl, Nat.zero_le _, ?_⟩) ?_
 ·try simp only [a0q, a4q, Nat.reduceBEq, lpv, hl, h0, h1, Nat.reduceLT, true_and]
  repeat ((with_reducible refine And.intro ?_ ?_); · trivial)
  all_goals (exact ⟨_, hs0⟩)
 rintro mm e s1 ⟨k, rfl, hle_k, hl, h0, h1, h5, h6, h_k, hst, ⟨X, hiv⟩⟩
 refine vsk fun K2 hK2 => ?_
 refine a3q 0 [] ?_
 simp only [a1q, opII, h6, h_k, wocs, ↓goc, ↓woc]
 refine hK2 _ _ ?_
 refine vsk fun K3 hK3 => ?_
 refine vck fun A B hA hB => ?_
 simp only [b2q, a0q, Nat.reduceLT, decide_eq_true_eq, decide_eq_false_iff_not, hl]
 refine ⟨fun hc8 => hA ?_, fun hc8 => hB ?_⟩
 ·clear hA hB A B
  refine a9q ?_
  refine hK3 _ _ ?_
  refine vsk fun K4 hK4 => ?_
  refine a5q ?_
  refine vsk fun K5 hK5 => ?_
  have hlt : k < l.length := by omega
  obtain ⟨o, ho⟩ : ∃ o, l[k]? = some o := ⟨_, List.getElem?_eq_getElem hlt⟩
  have g0 := d8z ho
  have hfl := f6q l
  have hi2 : k * 2 < l.length * 2 := by omega
  refine a3q 0 [] ?_
  simp only [bs, Nat.reduceAdd, ↓vopx, ↓vop, Nat.reduceBEq, a1q, Nat.reduceLT, V.cells, a8q, b0q, hl, h5, h_k, wocs, ↓goc, ↓woc, ↓a2q, Tryz.ag29, Tryz.sz29, Tryz.un22, Tryz.zv29, g0, hfl, hi2]
  refine hK5 _ _ ?_
  refine vsk fun K6 hK6 => ?_
  refine d4q fun e2 sb hE2 hSb => ?_
  subst hE2
  have hivb : Iv (fun m => X m ∨ m = s1.next) k sb := by rw [hSb]; exact E.hset _ _ _ _ _ (E.hadd _ _ s1 _ hiv) (.inr rfl)
  have hbx : sb.m s1.next = some (.box 29 [.t (d1q o.labels), .t (b3q o.pairs)]) := by rw [hSb]; simp [Sg.set]
  have hY := E.hY _ k sb hlt hivb
  have hpv : objV l k = [vObj o] := by unfold objV; rw [ho]
  rw [hpv] at hY
  refine a3q 0 [.stop] ?_
  simp only [bs, Nat.reduceAdd, ↓vopx, ↓vop, Nat.reduceBEq, a1q, Nat.reduceLT, a8q, b0q, hl, h0, wocs, ↓goc, ↓woc, ↓a2q, a6q, ↓m2q, Tryz.ag29, Tryz.sz29, hbx]
  refine w8q.mono hY fun v s2 hv => ?_
  obtain ⟨b, rfl, hb⟩ := v0x hv
  try simp only [bs, Nat.reduceBEq, Nat.reduceLT, hl, h0, Hold]
  refine hK6 _ _ ?_
  refine vck fun A B hA hB => ?_
  simp only [b2q, a0q, lpv, Nat.reduceLT, Bool.not_eq_true', Bool.not_eq_false', hl]
  refine ⟨fun hc14 => hA ?_, fun hc14 => hB ?_⟩
  ·clear hA hB A B
   refine b1q ?_
   rcases hb with ⟨rfl, _⟩ | ⟨_, hF⟩
   ·simp at hc14
   ·exact hQ _ _ _ (.inr rfl) ⟨[], rfl, rfl, .inr hF⟩
  ·clear hA hB A B
   have hiv2 : ∃ X, Iv X (k + 1) s2 := by rcases hb with ⟨_, h⟩ | ⟨rfl, _⟩; exact ⟨_, h⟩; simp at hc14
   refine a9q ?_
   refine hK4 _ _ ?_
   refine a3q 0 [] ?_
   simp only [bs, ↓vopx, ↓vop, Nat.reduceBEq, a1q, flat, Nat.reduceLT, opII, hl, h0, h1, h5, h6, h_k, wocs, ↓goc, ↓woc, ↓a2q]
   repeat ((with_reducible refine And.intro ?_ ?_); · exact ⟨by omega, by omega⟩)
   refine ⟨l.length - (k + 1), by omega, k + 1, rfl, by omega, ?_⟩
   try simp only [a0q, a4q, Nat.reduceBEq, lpv, hl, h0, h1, h5, h6, h_k, if_true, if_false, Nat.reduceEqDiff, Nat.reduceLT, true_and, and_true]
   repeat ((with_reducible refine And.intro ?_ ?_); · trivial)
   exact hiv2
 ·clear hA hB A B
  have han : l.length = k := by omega
  refine c1q ?_
  simp only [a1q, b5q, if_true]
  rw [← han] at hiv
  exact hQ _ _ _ (.inl rfl) ⟨[], rfl, rfl, .inl ⟨X, hiv⟩⟩
set_option maxRecDepth 20000 in
theorem valMat_ (s : Sg) (l : List (List Int)) : f8q Tryz.prog 46 [.t (tMat l)] s (fun v s' => v = .clo 68 [.ptr s.next 0] ∧ s' = s.add (.box 30 [.t (tMat l)])) := by
 refine b6q Tryz.func46 rfl fun Q hQ => ?_
 obtain ⟨e, he, hl, h0⟩ : ∃ e : Env, ([.t (tMat l)] ++ List.replicate (Tryz.f46.ntmps - ([.t (tMat l)] : List V).length) .junk) = e ∧ e.length = 4 ∧ ev e (.tmp 0) = .t (tMat l) := ⟨_, rfl, rfl, rfl⟩
 rw [he]
 clear he
 refine vsk fun K1 hK1 => ?_
 refine a3q 0 [] ?_
 simp only [bs, ↓vopx, ↓vop, a1q, flat, V.cells, h0, wocs, ↓goc, ↓woc, ↓a2q]
 refine hK1 _ _ ?_
 refine vsk fun K2 hK2 => ?_
 refine a3q 0 [] ?_
 simp only [bs, ↓vopx, ↓vop, Nat.reduceBEq, a1q, Nat.reduceLT, hl, wocs, ↓goc, ↓woc, ↓a2q, q0z, List.all_cons, List.all_nil, Bool.and_self]
 refine hK2 _ _ ?_
 refine b1q ?_
 refine hQ _ _ _ (.inr rfl) (d6q (v := .clo 68 [.ptr s.next 0]) ?_ rfl ⟨rfl, rfl⟩)
 try simp only [a0q, lpv, hl, Nat.reduceLT]
set_option maxRecDepth 20000 in
theorem c2j (n0 cb : Nat) (l : List (List Int)) (hl0 : l.length < 1000000000) (Iv : (Nat → Prop) → Nat → Sg → Prop) (F : Sg → Prop) (E : ValF n0 (fun s => s.m cb = some (.box 30 [.t (tMat l)])) (n9x l) l.length Iv F) (s : Sg) (hs0 : Iv (fun _ => False) 0 s) : f8q Tryz.prog 68 [.yl n0, .ptr cb 0] s (fun _ s' => (∃ X, Iv X l.length s') ∨ F s') := by
 refine b6q Tryz.func68 rfl fun Q hQ => ?_
 obtain ⟨e, he, hl, h0, h1⟩ : ∃ e : Env, ([.yl n0, .ptr cb 0] ++ List.replicate (Tryz.f68.ntmps - ([.yl n0, .ptr cb 0] : List V).length) .junk) = e ∧ e.length = 16 ∧ ev e (.tmp 0) = .yl n0 ∧ ev e (.tmp 1) = .ptr cb 0 := ⟨_, rfl, rfl, rfl, rfl⟩
 rw [he]
 clear he
 have hcb := (E.hI _ _ s hs0).1
 refine vsk fun K1 hK1 => ?_
 refine a3q 0 [] ?_
 simp only [bs, ↓vopx, ↓vop, a1q, flat, Nat.reduceLT, a8q, b0q, hl, h1, wocs, ↓goc, ↓woc, ↓a2q, Tryz.ag30, Tryz.sz30, Tryz.un30, j7q, hcb]
 refine hK1 _ _ ?_
 refine a5q ?_
 refine c2q (fun mm e' s' => ∃ k : Nat, mm = l.length - k ∧ k ≤ l.length ∧ e'.length = 16 ∧ ev e' (.tmp 0) = .yl n0 ∧ ev e' (.tmp 1) = .ptr cb 0 ∧ ev e' (.tmp 5) = .t (tMat l) ∧ ev e' (.tmp 6) = I l.length ∧ ev e' (.tmp 7) = I k ∧ True ∧ ∃ X, Iv X k s') (⟨0, rfl, Nat.zero_le _, ?_⟩) ?_
 ·try simp only [a0q, a4q, Nat.reduceBEq, lpv, hl, h0, h1, Nat.reduceLT, true_and]
  repeat ((with_reducible refine And.intro ?_ ?_); · trivial)
  all_goals (exact ⟨_, hs0⟩)
 rintro mm e s1 ⟨k, rfl, hle_k, hl, h0, h1, h5, h6, h_k, hst, ⟨X, hiv⟩⟩
 refine vsk fun K2 hK2 => ?_
 refine a3q 0 [] ?_
 simp only [a1q, opII, h6, h_k, wocs, ↓goc, ↓woc]
 refine hK2 _ _ ?_
 refine vsk fun K3 hK3 => ?_
 refine vck fun A B hA hB => ?_
 simp only [b2q, a0q, Nat.reduceLT, decide_eq_true_eq, decide_eq_false_iff_not, hl]
 refine ⟨fun hc8 => hA ?_, fun hc8 => hB ?_⟩
 ·clear hA hB A B
  refine a9q ?_
  refine hK3 _ _ ?_
  refine vsk fun K4 hK4 => ?_
  refine a5q ?_
  refine vsk fun K5 hK5 => ?_
  have hlt : k < l.length := by omega
  obtain ⟨c, hc⟩ : ∃ c, l[k]? = some c := ⟨_, List.getElem?_eq_getElem hlt⟩
  refine a3q 0 [] ?_
  simp only [bs, ↓vopx, ↓vop, Nat.reduceBEq, a1q, Nat.reduceLT, a8q, b0q, hl, h5, h_k, wocs, ↓goc, ↓woc, ↓a2q, Tryz.ag40, Tryz.sz40, Tryz.un30, hc]
  repeat ((with_reducible refine And.intro ?_ ?_); · (with_reducible assumption))
  refine hK5 _ _ ?_
  refine vsk fun K6 hK6 => ?_
  have hY := E.hY _ k s1 hlt hiv
  have hpv : n9x l k = [.t (c0q c)] := by unfold n9x; rw [hc]
  rw [hpv] at hY
  refine a3q 0 [.stop] ?_
  simp only [bs, ↓vopx, ↓vop, Nat.reduceBEq, a1q, Nat.reduceLT, hl, h0, wocs, ↓goc, ↓woc, ↓a2q, a6q, ↓m2q]
  refine w8q.mono hY fun v s2 hv => ?_
  obtain ⟨b, rfl, hb⟩ := v0x hv
  try simp only [bs, Nat.reduceBEq, Nat.reduceLT, hl, h0, Hold]
  refine hK6 _ _ ?_
  refine vck fun A B hA hB => ?_
  simp only [b2q, a0q, lpv, Nat.reduceLT, Bool.not_eq_true', Bool.not_eq_false', hl]
  refine ⟨fun hc14 => hA ?_, fun hc14 => hB ?_⟩
  ·clear hA hB A B
   refine b1q ?_
   rcases hb with ⟨rfl, _⟩ | ⟨_, hF⟩
   ·simp at hc14
   ·exact hQ _ _ _ (.inr rfl) ⟨[], rfl, rfl, .inr hF⟩
  ·clear hA hB A B
   have hiv2 : ∃ X, Iv X (k + 1) s2 := by rcases hb with ⟨_, h⟩ | ⟨rfl, _⟩; exact ⟨_, h⟩; simp at hc14
   refine a9q ?_
   refine hK4 _ _ ?_
   refine a3q 0 [] ?_
   simp only [bs, ↓vopx, ↓vop, Nat.reduceBEq, a1q, flat, Nat.reduceLT, opII, hl, h0, h1, h5, h6, h_k, wocs, ↓goc, ↓woc, ↓a2q]
   repeat ((with_reducible refine And.intro ?_ ?_); · exact ⟨by omega, by omega⟩)
   refine ⟨l.length - (k + 1), by omega, k + 1, rfl, by omega, ?_⟩
   try simp only [a0q, a4q, Nat.reduceBEq, lpv, hl, h0, h1, h5, h6, h_k, if_true, if_false, Nat.reduceEqDiff, Nat.reduceLT, true_and, and_true]
   repeat ((with_reducible refine And.intro ?_ ?_); · trivial)
   exact hiv2
 ·clear hA hB A B
  have han : l.length = k := by omega
  refine c1q ?_
  simp only [a1q, b5q, if_true]
  rw [← han] at hiv
  exact hQ _ _ _ (.inl rfl) ⟨[], rfl, rfl, .inl ⟨X, hiv⟩⟩
end Go.Proofs

open Go Go.V
namespace Go.Proofs
def sumT (l : List Ob) (k : Nat) : Nat := ((l.take k).map fun o => o.labels.length).sum
theorem a4z {l : List Ob} {k : Nat} {o : Ob} (h : l[k]? = some o) : sumT l (k + 1) = sumT l k + o.labels.length := by
 unfold sumT
 rw [List.take_add_one, h]
 simp
theorem t8x (l : List Ob) (k : Nat) : sumT l k ≤ sumT l l.length := by
 by_cases h : k ≤ l.length
 ·have : ∀ d, k + d ≤ l.length → sumT l k ≤ sumT l (k + d) := fun d => by
   induction d with
   | zero => intro _; exact Nat.le_refl _
   | succ d ih =>
    intro hd
    obtain ⟨o, ho⟩ : ∃ o, l[k + d]? = some o := ⟨_, List.getElem?_eq_getElem (by omega)⟩
    have := a4z ho
    have := ih (by omega)
    rw [show k + (d + 1) = k + d + 1 by omega]; omega
  have := this (l.length - k) (by omega)
  rwa [show k + (l.length - k) = l.length by omega] at this
 ·unfold sumT
  rw [List.take_of_length_le (by omega), List.take_of_length_le (Nat.le_refl _)]; exact Nat.le_refl _
def t7q (l : List Ob) : Bool := decide (40 < sumT l l.length)
structure LgI (s : Sg) (lp : Blk) (l : List Ob) (n0 : Nat) (X : Nat → Prop) (k : Nat) (s' : Sg) : Prop where
 b2 : s'.m s.next = some (.box 4 [Bo false])
 b3 : s'.m (s.next + 1) = some (.box 3 [I (40 - (sumT l k : Int))])
 bc : s'.m (s.next + 1 + 1) = some (.box 22 [.t (h1q l)])
 hl : s'.m n0 = some lp
 same : ∀ j, j < s.next → s'.m j = s.m j
 nx : n0 < s'.next
 hs : sumT l k ≤ 40
 hX : ∀ x, X x → n0 < x ∧ x < s'.next
structure LgF (s : Sg) (lp : Blk) (l : List Ob) (n0 : Nat) (s' : Sg) : Prop where
 b2 : s'.m s.next = some (.box 4 [Bo true])
 hl : s'.m n0 = some lp
 same : ∀ j, j < s.next → s'.m j = s.m j
 big : 40 < sumT l l.length
def doneOf : Blk → Blk
 | .lp e ps asg bd _ _ => .lp e ps asg bd .done (some .ret)
 | x => x
variable {s : Sg} {lp : Blk} {l : List Ob} {n0 : Nat} {X : Nat → Prop} {k : Nat} {s' : Sg}
theorem LgI.add (h : LgI s lp l n0 X k s') (hn : n0 = s.next + 3) (b : Blk) : LgI s lp l n0 (fun x => X x ∨ x = s'.next) k (s'.add b) := by
 have h1 := h.nx
 refine ⟨by simp [Sg.add, show s.next ≠ s'.next by omega, h.b2], by simp [Sg.add, show s.next + 1 ≠ s'.next by omega, h.b3], by simp [Sg.add, show s.next + 1 + 1 ≠ s'.next by omega, h.bc], by simp [Sg.add, show n0 ≠ s'.next by omega, h.hl], fun j hj => by simp [Sg.add, show j ≠ s'.next by omega, h.same j hj], by simp [Sg.add]; omega, h.hs, fun x hx => ?_⟩
 rcases hx with hx | rfl
 ·have := h.hX x hx; exact ⟨this.1, by simp [Sg.add]; omega⟩
 ·exact ⟨h1, by simp [Sg.add]⟩
theorem LgI.set (h : LgI s lp l n0 X k s') (hn : n0 = s.next + 3) {x : Nat} (hx : X x) (b : Blk) : LgI s lp l n0 X k (s'.set x b) := by
 have h1 := h.hX x hx
 exact ⟨by simp [Sg.set, show s.next ≠ x by omega, h.b2], by simp [Sg.set, show s.next + 1 ≠ x by omega, h.b3], by simp [Sg.set, show s.next + 1 + 1 ≠ x by omega, h.bc], by simp [Sg.set, show n0 ≠ x by omega, h.hl], fun j hj => by simp [Sg.set, show j ≠ x by omega, h.same j hj], h.nx, h.hs, h.hX⟩
def LgI.F (_ : LgI s lp l n0 X k s') : Sg → Prop := LgF s (doneOf lp) l n0
end Go.Proofs

open Go Go.V
namespace Go.Proofs
def f2q (l : List Ob) (k : Nat) : List ByteArray := (l.take k).flatMap (·.labels)
def prsT (l : List Ob) : Nat → List (Int × Int)
 | 0 => []
 | k + 1 => prsT l k ++ (match l[k]? with | some o => o.pairs.map (shP (f2q l k).length) | none => [])
def legT (n base : Nat) : List Int := (List.range n).map fun (i : Nat) => ((base + i : Nat) : Int)
def k2q (l : List Ob) : Nat → List (List Int)
 | 0 => []
 | k + 1 => k2q l k ++ (match l[k]? with | some o => [legT o.labels.length (f2q l k).length] | none => [])
def bsS (l : List Ob) : Ob := ⟨f2q l l.length, prsT l l.length⟩
def legC (n base i : Nat) : List Int := (List.range n).map fun j => if j < i then ((base + j : Nat) : Int) else 0
theorem i6z (n base i : Nat) : (legC n base i).length = n := by simp [legC]
theorem o6x (n base : Nat) : repl [TI 0] n = (legC n base 0).map TI := by
 rw [l9q]
 apply List.ext_getElem <;> simp [legC]
theorem y5x {n base i : Nat} (h : i < n) : setAll ((legC n base i).map TI) i [TI ((base : Int) + i)] = (legC n base (i + 1)).map TI := by
 rw [r9q _ (by rw [i6z]; exact h)]
 congr 1
 apply List.ext_getElem
 ·simp [legC]
 ·intro j h1 h2
  rw [List.getElem_set]
  simp only [legC, List.getElem_map, List.getElem_range]
  split
  ·rename_i e; subst e; simp
  ·rename_i e
   by_cases hj : j < i
   ·simp [hj]; omega
   ·have : ¬ j < i + 1 := by omega
    simp [hj, this]
theorem o5x (n base : Nat) : legC n base n = legT n base := by
 apply List.ext_getElem
 ·simp [legC, legT]
 ·intro j h1 h2
  simp [legC, legT] at h1 ⊢
  omega
theorem m4q {l : List Ob} {k : Nat} {o : Ob} (h : l[k]? = some o) : f2q l (k + 1) = f2q l k ++ o.labels := by
 unfold f2q; rw [List.take_add_one, h]; simp
theorem r6q {l : List Ob} {k : Nat} {o : Ob} (h : l[k]? = some o) : prsT l (k + 1) = prsT l k ++ o.pairs.map (shP (f2q l k).length) := by simp only [prsT, h]
theorem b5z {l : List Ob} {k : Nat} {o : Ob} (h : l[k]? = some o) : k2q l (k + 1) = k2q l k ++ [legT o.labels.length (f2q l k).length] := by simp only [k2q, h]
theorem i7q (l : List Ob) : ∀ k, k ≤ l.length → (k2q l k).length = k
 | 0, _ => rfl
 | k + 1, h => by
  rw [b5z (List.getElem?_eq_getElem (show k < l.length by omega)), List.length_append, i7q l k (by omega)]; rfl
structure BsOK (l : List Ob) : Prop where
 n : l.length ≤ 10
 ob : ∀ o ∈ l, IsOb o
 pr : ∀ o ∈ l, o.pairs.length ≤ 1000
set_option maxRecDepth 4000 in
theorem BsOK.labs {l : List Ob} (h : BsOK l) : ∀ k, (f2q l k).length ≤ k * 40
 | 0 => by simp [f2q]
 | k + 1 => by
  have ih := h.labs k
  cases ho : l[k]? with
  | none => unfold f2q at ih ⊢; rw [List.take_add_one, ho]; simp at ih ⊢; omega
  | some o =>
   have := (h.ob o (List.mem_of_getElem? ho)).le
   rw [m4q ho, List.length_append]; omega
set_option maxRecDepth 4000 in
theorem BsOK.prs {l : List Ob} (h : BsOK l) : ∀ k, (prsT l k).length ≤ k * 1000
 | 0 => by simp [prsT]
 | k + 1 => by
  have ih := h.prs k
  cases ho : l[k]? with
  | none => simp only [prsT, ho, List.append_nil]; omega
  | some o =>
   have := h.pr o (List.mem_of_getElem? ho)
   rw [r6q ho, List.length_append, List.length_map]; omega
structure BsI (s : Sg) (n0 : Nat) (L : List ByteArray) (P : List (Int × Int)) (G : List (List Int)) (X : Nat → Prop) (s' : Sg) (m1 m2 m3 : Nat) : Prop where
 o2 : s'.m s.next = some (.box 29 [.t (.v (.slice none 0 0)), .t (.v (.slice none 0 0))])
 o4 : s'.m (s.next + 1) = some (.box 29 [.loc m1 0 L.length, .loc m2 0 P.length])
 o5 : s'.m (s.next + 2) = some (.box 30 [.loc m3 0 G.length])
 a1 : s'.m m1 = some (.arr 1 9 (L.map TS))
 a2 : s'.m m2 = some (.arr 2 65 (P.flatMap l2q))
 a3 : s'.m m3 = some (.arr 1 40 (G.map c0q))
 same : ∀ j, j < s.next → s'.m j = s.m j
 nx : n0 < s'.next
 lo : s.next + 6 < n0
 r1 : s.next + 3 ≤ m1 ∧ m1 < s'.next ∧ m1 ≠ s.next + 6 ∧ m1 ≠ n0
 r2 : s.next + 3 ≤ m2 ∧ m2 < s'.next ∧ m2 ≠ s.next + 6 ∧ m2 ≠ n0
 r3 : s.next + 3 ≤ m3 ∧ m3 < s'.next ∧ m3 ≠ s.next + 6 ∧ m3 ≠ n0
 d : m1 ≠ m2 ∧ m1 ≠ m3 ∧ m2 ≠ m3
 hX : ∀ x, X x → n0 < x ∧ x < s'.next ∧ x ≠ m1 ∧ x ≠ m2 ∧ x ≠ m3
variable {s : Sg} {n0 : Nat} {L : List ByteArray} {P : List (Int × Int)} {G : List (List Int)} {X : Nat → Prop} {s' : Sg} {m1 m2 m3 : Nat}
theorem BsI.add (h : BsI s n0 L P G X s' m1 m2 m3) (b : Blk) : BsI s n0 L P G (fun x => X x ∨ x = s'.next) (s'.add b) m1 m2 m3 := by
 have h0 := h.nx; have h1 := h.r1; have h2 := h.r2; have h3 := h.r3; have hl := h.lo
 refine ⟨by simp [Sg.add, show s.next ≠ s'.next by omega, h.o2], by simp [Sg.add, show s.next + 1 ≠ s'.next by omega, h.o4], by simp [Sg.add, show s.next + 2 ≠ s'.next by omega, h.o5], by simp [Sg.add, show m1 ≠ s'.next by omega, h.a1], by simp [Sg.add, show m2 ≠ s'.next by omega, h.a2], by simp [Sg.add, show m3 ≠ s'.next by omega, h.a3],
  fun j hj => by simp [Sg.add, show j ≠ s'.next by omega, h.same j hj], by simp [Sg.add]; omega, hl, ⟨h1.1, by simp [Sg.add]; omega, h1.2.2⟩, ⟨h2.1, by simp [Sg.add]; omega, h2.2.2⟩, ⟨h3.1, by simp [Sg.add]; omega, h3.2.2⟩, h.d, fun x hx => ?_⟩
 rcases hx with hx | rfl
 ·have := h.hX x hx; exact ⟨this.1, by simp [Sg.add]; omega, this.2.2⟩
 ·exact ⟨h0, by simp [Sg.add], by omega, by omega, by omega⟩
theorem BsI.chg (h : BsI s n0 L P G X s' m1 m2 m3) {x : Nat} (hx : n0 ≤ x ∨ x = s.next + 6) (h1 : x ≠ m1) (h2 : x ≠ m2) (h3 : x ≠ m3) (b : Blk) : BsI s n0 L P G X (s'.set x b) m1 m2 m3 := by
 have hl := h.lo
 exact ⟨by simp [Sg.set, show s.next ≠ x by omega, h.o2], by simp [Sg.set, show s.next + 1 ≠ x by omega, h.o4], by simp [Sg.set, show s.next + 2 ≠ x by omega, h.o5], by simp [Sg.set, Ne.symm h1, h.a1], by simp [Sg.set, Ne.symm h2, h.a2], by simp [Sg.set, Ne.symm h3, h.a3],
  fun j hj => by simp [Sg.set, show j ≠ x by omega, h.same j hj], h.nx, hl, h.r1, h.r2, h.r3, h.d, h.hX⟩
theorem BsI.set (h : BsI s n0 L P G X s' m1 m2 m3) {x : Nat} (hx : X x) (b : Blk) : BsI s n0 L P G X (s'.set x b) m1 m2 m3 := by
 have := h.hX x hx; exact h.chg (.inl (by omega)) this.2.2.1 this.2.2.2.1 this.2.2.2.2 b
theorem BsI.recd (h : BsI s n0 L P G X s' m1 m2 m3) (b : Blk) : BsI s n0 L P G X (s'.set n0 b) m1 m2 m3 :=
 h.chg (.inl (Nat.le_refl _)) (Ne.symm h.r1.2.2.2) (Ne.symm h.r2.2.2.2) (Ne.symm h.r3.2.2.2) b
theorem BsI.del (h : BsI s n0 L P G X s' m1 m2 m3) {x : Nat} (hx : n0 ≤ x) (h1 : x ≠ m1) (h2 : x ≠ m2) (h3 : x ≠ m3) : BsI s n0 L P G X (s'.del x) m1 m2 m3 := by
 have hl := h.lo
 exact ⟨by simp [Sg.del, show s.next ≠ x by omega, h.o2], by simp [Sg.del, show s.next + 1 ≠ x by omega, h.o4], by simp [Sg.del, show s.next + 2 ≠ x by omega, h.o5], by simp [Sg.del, Ne.symm h1, h.a1], by simp [Sg.del, Ne.symm h2, h.a2], by simp [Sg.del, Ne.symm h3, h.a3],
  fun j hj => by simp [Sg.del, show j ≠ x by omega, h.same j hj], h.nx, hl, h.r1, h.r2, h.r3, h.d, h.hX⟩
theorem BsI.sub (h : BsI s n0 L P G X s' m1 m2 m3) {Y : Nat → Prop} (hy : ∀ x, Y x → X x) : BsI s n0 L P G Y s' m1 m2 m3 := ⟨h.o2, h.o4, h.o5, h.a1, h.a2, h.a3, h.same, h.nx, h.lo, h.r1, h.r2, h.r3, h.d, fun x hx => h.hX x (hy x hx)⟩
theorem BsI.push1 (h : BsI s n0 L P G X s' m1 m2 m3) (M : List ByteArray) : BsI s n0 (L ++ M) P G X (((s'.del m1).add (.arr 1 9 (L.map TS ++ M.map TS))).set (s.next + 1) (.box 29 [.loc s'.next 0 (L ++ M).length, .loc m2 0 P.length])) s'.next m2 m3 := by
 have h0 := h.nx; have h1 := h.r1; have h2 := h.r2; have h3 := h.r3; have hl := h.lo; obtain ⟨d1, d2, d3⟩ := h.d
 refine ⟨by simp [Sg.set, Sg.add, Sg.del, show s.next ≠ s'.next by omega, show s.next ≠ m1 by omega, h.o2] <;> omega, by simp [Sg.set], by simp [Sg.set, Sg.add, Sg.del, show s.next + 2 ≠ s'.next by omega, show s.next + 2 ≠ m1 by omega, h.o5] <;> omega, by simp [Sg.set, Sg.add, Sg.del, show s'.next ≠ s.next + 1 by omega] <;> omega, by simp [Sg.set, Sg.add, Sg.del, show m2 ≠ s.next + 1 by omega, show m2 ≠ s'.next by omega, Ne.symm d1, h.a2] <;> omega, by simp [Sg.set, Sg.add, Sg.del, show m3 ≠ s.next + 1 by omega, show m3 ≠ s'.next by omega, Ne.symm d2, h.a3] <;> omega,
  fun j hj => by simp [Sg.set, Sg.add, Sg.del, show j ≠ s.next + 1 by omega, show j ≠ s'.next by omega, show j ≠ m1 by omega, h.same j hj] <;> omega, by simp [Sg.set, Sg.add, Sg.del]; omega, hl, ⟨by omega, by simp [Sg.set, Sg.add, Sg.del] <;> omega, by omega, by omega⟩, ⟨h2.1, by simp [Sg.set, Sg.add, Sg.del]; omega, h2.2.2⟩, ⟨h3.1, by simp [Sg.set, Sg.add, Sg.del]; omega, h3.2.2⟩, ⟨by omega, by omega, d3⟩, fun x hx => ?_⟩
 have := h.hX x hx
 exact ⟨this.1, by simp [Sg.set, Sg.add, Sg.del]; omega, by omega, this.2.2.2⟩
theorem BsI.push2 (h : BsI s n0 L P G X s' m1 m2 m3) (B : Blk) (p : Int × Int) : BsI s n0 L (P ++ [p]) G X ((((s'.add B).del m2).add (.arr 2 65 (P.flatMap l2q ++ [TI p.1, TI p.2]))).set (s.next + 1) (.box 29 [.loc m1 0 L.length, .loc (s'.next + 1) 0 (P.length + 1)])) m1 (s'.next + 1) m3 := by
 have h0 := h.nx; have h1 := h.r1; have h2 := h.r2; have h3 := h.r3; have hl := h.lo; obtain ⟨d1, d2, d3⟩ := h.d
 refine ⟨by simp [Sg.set, Sg.add, Sg.del, show s.next ≠ s'.next by omega, show s.next ≠ s'.next + 1 by omega, show s.next ≠ m2 by omega, h.o2] <;> omega, by simp [Sg.set], by simp [Sg.set, Sg.add, Sg.del, show s.next + 2 ≠ s'.next by omega, show s.next + 2 ≠ s'.next + 1 by omega, show s.next + 2 ≠ m2 by omega, h.o5] <;> omega, by simp [Sg.set, Sg.add, Sg.del, show m1 ≠ s.next + 1 by omega, show m1 ≠ s'.next by omega, show m1 ≠ s'.next + 1 by omega, d1, h.a1] <;> omega, by simp [Sg.set, Sg.add, Sg.del, List.flatMap_append] <;> omega, by simp [Sg.set, Sg.add, Sg.del, show m3 ≠ s.next + 1 by omega, show m3 ≠ s'.next by omega, show m3 ≠ s'.next + 1 by omega, Ne.symm d3, h.a3] <;> omega,
  fun j hj => by simp [Sg.set, Sg.add, Sg.del, show j ≠ s.next + 1 by omega, show j ≠ s'.next by omega, show j ≠ s'.next + 1 by omega, show j ≠ m2 by omega, h.same j hj] <;> omega, by simp [Sg.set, Sg.add, Sg.del]; omega, hl, ⟨h1.1, by simp [Sg.set, Sg.add, Sg.del]; omega, h1.2.2⟩, ⟨by omega, by simp [Sg.set, Sg.add, Sg.del] <;> omega, by omega, by omega⟩, ⟨h3.1, by simp [Sg.set, Sg.add, Sg.del]; omega, h3.2.2⟩, ⟨by omega, d2, by omega⟩, fun x hx => ?_⟩
 have := h.hX x hx
 exact ⟨this.1, by simp [Sg.set, Sg.add, Sg.del]; omega, this.2.2.1, by omega, this.2.2.2.2⟩
theorem BsI.push3 (h : BsI s n0 L P G X s' m1 m2 m3) (B : Blk) (g : List Int) : BsI s n0 L P (G ++ [g]) X ((((s'.add B).del m3).add (.arr 1 40 (G.map c0q ++ [c0q g]))).set (s.next + 2) (.box 30 [.loc (s'.next + 1) 0 (G.length + 1)])) m1 m2 (s'.next + 1) := by
 have h0 := h.nx; have h1 := h.r1; have h2 := h.r2; have h3 := h.r3; have hl := h.lo; obtain ⟨d1, d2, d3⟩ := h.d
 refine ⟨by simp [Sg.set, Sg.add, Sg.del, show s.next ≠ s'.next by omega, show s.next ≠ s'.next + 1 by omega, show s.next ≠ m3 by omega, h.o2] <;> omega, by simp [Sg.set, Sg.add, Sg.del, show s.next + 1 ≠ s'.next by omega, show s.next + 1 ≠ m3 by omega, h.o4] <;> omega, by simp [Sg.set], by simp [Sg.set, Sg.add, Sg.del, show m1 ≠ s.next + 2 by omega, show m1 ≠ s'.next by omega, show m1 ≠ s'.next + 1 by omega, d2, h.a1] <;> omega, by simp [Sg.set, Sg.add, Sg.del, show m2 ≠ s.next + 2 by omega, show m2 ≠ s'.next by omega, show m2 ≠ s'.next + 1 by omega, d3, h.a2] <;> omega, by simp [Sg.set, Sg.add, Sg.del] <;> omega,
  fun j hj => by simp [Sg.set, Sg.add, Sg.del, show j ≠ s.next + 2 by omega, show j ≠ s'.next by omega, show j ≠ s'.next + 1 by omega, show j ≠ m3 by omega, h.same j hj] <;> omega, by simp [Sg.set, Sg.add, Sg.del]; omega, hl, ⟨h1.1, by simp [Sg.set, Sg.add, Sg.del]; omega, h1.2.2⟩, ⟨h2.1, by simp [Sg.set, Sg.add, Sg.del]; omega, h2.2.2⟩, ⟨by omega, by simp [Sg.set, Sg.add, Sg.del] <;> omega, by omega, by omega⟩, ⟨d1, by omega, by omega⟩, fun x hx => ?_⟩
 have := h.hX x hx
 exact ⟨this.1, by simp [Sg.set, Sg.add, Sg.del]; omega, this.2.2.1, this.2.2.2.1, by omega⟩
end Go.Proofs

open Go Go.V
namespace Go.Proofs
def BsO (s : Sg) (lp : Blk) (l : List Ob) (n0 : Nat) (X : Nat → Prop) (k : Nat) (s' : Sg) : Prop :=
 (∃ m1 m2 m3, BsI s n0 (f2q l k) (prsT l k) (k2q l k) X s' m1 m2 m3) ∧ s'.m (s.next + 6) = some (.box 22 [.t (h1q l)]) ∧ s'.m n0 = some lp
theorem BsI.ext {s : Sg} {n0 : Nat} {L : List ByteArray} {P : List (Int × Int)} {G : List (List Int)} {X : Nat → Prop} {s1 s2 : Sg} {m1 m2 m3 : Nat} (h : BsI s n0 L P G X s1 m1 m2 m3) (hm : ∀ x, x < s1.next → s2.m x = s1.m x) (hn : s2.next = s1.next + 1) : BsI s n0 L P G (fun x => X x ∨ x = s1.next) s2 m1 m2 m3 := by
 have h0 := h.nx; have h1 := h.r1; have h2 := h.r2; have h3 := h.r3; have hl := h.lo
 refine ⟨by rw [hm _ (by omega)]; exact h.o2, by rw [hm _ (by omega)]; exact h.o4, by rw [hm _ (by omega)]; exact h.o5, by rw [hm _ h1.2.1]; exact h.a1, by rw [hm _ h2.2.1]; exact h.a2, by rw [hm _ h3.2.1]; exact h.a3, fun j hj => by rw [hm j (by omega)]; exact h.same j hj, by omega, hl, ⟨h1.1, by omega, h1.2.2⟩, ⟨h2.1, by omega, h2.2.2⟩, ⟨h3.1, by omega, h3.2.2⟩, h.d, fun x hx => ?_⟩
 rcases hx with hx | rfl
 ·have := h.hX x hx; exact ⟨this.1, by omega, this.2.2⟩
 ·exact ⟨h0, by omega, by omega, by omega, by omega⟩
theorem BsO.add {s : Sg} {lp : Blk} {l : List Ob} {n0 : Nat} {X : Nat → Prop} {k : Nat} {s' : Sg} (h : BsO s lp l n0 X k s') (b : Blk) : BsO s lp l n0 (fun x => X x ∨ x = s'.next) k (s'.add b) := by
 obtain ⟨⟨m1, m2, m3, hb⟩, hc, hl⟩ := h
 have h0 := hb.nx; have h1 := hb.lo
 exact ⟨⟨m1, m2, m3, hb.add b⟩, by simp [Sg.add, show s.next + 6 ≠ s'.next by omega, hc], by simp [Sg.add, show n0 ≠ s'.next by omega, hl]⟩
theorem BsO.set {s : Sg} {lp : Blk} {l : List Ob} {n0 : Nat} {X : Nat → Prop} {k : Nat} {s' : Sg} (h : BsO s lp l n0 X k s') {x : Nat} (hx : X x) (b : Blk) : BsO s lp l n0 X k (s'.set x b) := by
 obtain ⟨⟨m1, m2, m3, hb⟩, hc, hl⟩ := h
 have h0 := hb.nx; have h1 := hb.lo; have h2 := hb.hX x hx
 exact ⟨⟨m1, m2, m3, hb.set hx b⟩, by simp [Sg.set, show s.next + 6 ≠ x by omega, hc], by simp [Sg.set, show n0 ≠ x by omega, hl]⟩
theorem BsO.lt {s : Sg} {lp : Blk} {l : List Ob} {n0 : Nat} {X : Nat → Prop} {k : Nat} {s' : Sg} (h : BsO s lp l n0 X k s') : ∀ x, X x → x < s'.next := fun x hx => by
 obtain ⟨⟨m1, m2, m3, hb⟩, _⟩ := h
 exact (hb.hX x hx).2.1
structure BsP (s : Sg) (n0 : Nat) (L : List ByteArray) (P0 : List (Int × Int)) (G : List (List Int)) (l : List (Int × Int)) (B : Nat) (F Z : Nat → Prop) (sf : Sg) (n2 cb : Nat) (lp2 : Blk) (Y : Nat → Prop) (j : Nat) (s' : Sg) : Prop where
 b : ∃ m1 m2 m3, BsI s n0 L (P0 ++ (l.take j).map (shP B)) G (fun x => Y x ∨ F x) s' m1 m2 m3
 y : ∀ x, Y x → n2 < x ∧ x < s'.next
 c : s'.m cb = some (.box 27 [.t (b3q l)])
 r : s'.m n2 = some lp2
 z : ∀ x, Z x → s'.m x = sf.m x
 n : n2 < s'.next
theorem BsI.subst {s : Sg} {n0 : Nat} {L : List ByteArray} {P P' : List (Int × Int)} {G : List (List Int)} {X : Nat → Prop} {s' : Sg} {m1 m2 m3 : Nat} (h : BsI s n0 L P G X s' m1 m2 m3) (e : P = P') : BsI s n0 L P' G X s' m1 m2 m3 := e ▸ h
variable {s : Sg} {n0 : Nat} {L : List ByteArray} {P0 : List (Int × Int)} {G : List (List Int)} {l : List (Int × Int)} {B : Nat} {F Z : Nat → Prop} {sf : Sg} {n2 cb : Nat} {lp2 : Blk} {Y : Nat → Prop} {j : Nat} {s' : Sg}
theorem BsP.add (h : BsP s n0 L P0 G l B F Z sf n2 cb lp2 Y j s') (hc : cb < n2) (hZ : ∀ x, Z x → x < n2) (b : Blk) : BsP s n0 L P0 G l B F Z sf n2 cb lp2 (fun x => Y x ∨ x = s'.next) j (s'.add b) := by
 obtain ⟨m1, m2, m3, hb⟩ := h.b
 have hn := h.n
 refine ⟨⟨m1, m2, m3, (hb.add b).sub fun x hx => ?_⟩, fun x hx => ?_, by simp [Sg.add, show cb ≠ s'.next by omega, h.c], by simp [Sg.add, show n2 ≠ s'.next by omega, h.r], fun x hx => by simp [Sg.add, show x ≠ s'.next by have := hZ x hx; omega, h.z x hx], by simp [Sg.add]; omega⟩
 ·rcases hx with (hx | hx) | hx
  ·exact .inl (.inl hx)
  ·exact .inr hx
  ·exact .inl (.inr hx)
 ·rcases hx with hx | rfl
  ·have := h.y x hx; exact ⟨this.1, by simp [Sg.add]; omega⟩
  ·exact ⟨hn, by simp [Sg.add]⟩
theorem BsP.set (h : BsP s n0 L P0 G l B F Z sf n2 cb lp2 Y j s') (hc : cb < n2) (hZ : ∀ x, Z x → x < n2) {x : Nat} (hx : Y x) (b : Blk) : BsP s n0 L P0 G l B F Z sf n2 cb lp2 Y j (s'.set x b) := by
 obtain ⟨m1, m2, m3, hb⟩ := h.b
 have hy := h.y x hx
 exact ⟨⟨m1, m2, m3, hb.set (.inl hx) b⟩, h.y, by simp [Sg.set, show cb ≠ x by omega, h.c], by simp [Sg.set, show n2 ≠ x by omega, h.r], fun z hz => by simp [Sg.set, show z ≠ x by have := hZ z hz; omega, h.z z hz], h.n⟩
theorem vw_pt {s1 : Sg} {b1 b2 b3 : Blk} {n1 n2 : Nat} {s2 : Sg} {R : Sg → Prop} (h : (((s1.add b1).del n2).add b2).set n1 b3 = s2)
 (H : ∀ s9 : Sg, s9 = (((s1.add b1).del n2).add b2).set n1 b3 → (∀ x, x ≠ n1 → x ≠ n2 → x < s1.next → s9.m x = s1.m x) → s9.next = s1.next + 2 → R s9) : R s2 :=
 h ▸ H _ rfl (fun x h1 h2 h3 => by rw [b9q, if_neg h1, b7q, if_neg (by simp only [e9q, c6q]; omega), e4q, if_neg h2, b7q, if_neg (by omega)]) rfl
end Go.Proofs
