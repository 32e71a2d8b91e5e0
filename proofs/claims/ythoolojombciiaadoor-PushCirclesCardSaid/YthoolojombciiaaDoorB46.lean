/- Lemmas on the way to the statement of this claim; no conditions. -/
import Derived.Test.YthoolojombciiaaDoorB01
import Derived.Test.YthoolojombciiaaDoorB31
import Derived.Test.YthoolojombciiaaDoorB32
import Derived.Test.YthoolojombciiaaDoorB42
import Derived.Test.YthoolojombciiaaDoorB43
import Derived.Test.YthoolojombciiaaDoorB44
open Go Go.V
namespace Go.Proofs
def fromB (lo : Nat) (g : Nat → Bool) : Nat → Bool := fun j => decide (lo ≤ j) && g j
theorem from_step {g : Nat → Bool} {lo : Nat} (h0 : wordB (fromB lo g) 64 ≠ 0) : lo ≤ Lib.ctz 64 (wordB (fromB lo g) 64) ∧ Lib.ctz 64 (wordB (fromB lo g) 64) < 64 ∧ g (Lib.ctz 64 (wordB (fromB lo g) 64)) = true ∧
    (∀ j, lo ≤ j → j < Lib.ctz 64 (wordB (fromB lo g) 64) → g j = false) ∧ wordB (fromB lo g) 64 &&& (wordB (fromB lo g) 64 - 1) = wordB (fromB (Lib.ctz 64 (wordB (fromB lo g) 64) + 1) g) 64 := by
  have hlt := wordB_lt (fromB lo g) 64
  have h1 := ctz_bit h0 hlt
  obtain ⟨_, _, h2⟩ := ctz_form h0 hlt
  have h3 := fun j hj => ctz_low h0 hlt (j := j) hj
  have h4 := low_clear h0 hlt
  generalize Lib.ctz 64 (wordB (fromB lo g) 64) = k at h1 h2 h3 h4
  rw [wordB_testBit] at h1
  simp only [fromB, Bool.and_eq_true, decide_eq_true_eq] at h1
  refine ⟨h1.2.1, h2, h1.2.2, fun j hj hjk => ?_, ?_⟩
  · have := h3 j hjk
    rw [wordB_testBit] at this
    have h5 : j < 64 := by omega
    simpa [fromB, hj, h5] using this
  · apply Nat.eq_of_testBit_eq
    intro j
    rw [h4 j, wordB_testBit, wordB_testBit]
    unfold fromB
    by_cases hj : j < 64
    · simp only [hj, decide_true, Bool.true_and]
      rcases Nat.lt_trichotomy j k with hjk | hjk | hjk
      · by_cases hlo : lo ≤ j
        · have h5 := h3 j hjk
          rw [wordB_testBit] at h5
          have h6 : g j = false := by simpa [fromB, hlo, hj] using h5
          simp [h6]
        · have : ¬ k + 1 ≤ j := by omega
          simp [hlo, this]
      · subst hjk; simp; intro hh; omega
      · have e1 : lo ≤ j := by omega
        have e2 : k + 1 ≤ j := by omega
        have e3 : j ≠ k := by omega
        simp [e1, e2, e3]
    · simp [hj]
theorem from_zero {g : Nat → Bool} {lo : Nat} (h : wordB (fromB lo g) 64 = 0) (j : Nat) (h1 : lo ≤ j) (h2 : j < 64) : g j = false := by
  have := wordB_testBit (fromB lo g) 64 j
  rw [h, Nat.zero_testBit] at this
  simpa [fromB, h1, h2] using this
theorem skip_to {I : Nat → Sg → Prop} {f : Nat → Bool} {n : Nat} (hs : ∀ k s, k < n → f k = false → I k s → I (k + 1) s) {s : Sg} {a : Nat} : ∀ (b : Nat), a ≤ b → b ≤ n → (∀ j, a ≤ j → j < b → f j = false) → I a s → I b s
  | 0, h, _, _, hI => by obtain rfl : a = 0 := by omega
                         exact hI
  | b + 1, h, hb, hf, hI => by
    rcases Nat.lt_or_ge b a with h1 | h1
    · obtain rfl : a = b + 1 := by omega
      exact hI
    · exact hs b s (by omega) (hf b h1 (by omega)) (skip_to hs b h1 (by omega) (fun j h2 h3 => hf j h2 (by omega)) hI)
theorem skip_word {Iv : Nat → Sg → Prop} {f : Nat → Bool} {n : Nat} (hs : ∀ k s, k < n → f k = false → Iv k s → Iv (k + 1) s) {s : Sg} {k lo hi : Nat} (hI : Iv (min (k * 64 + lo) n) s) (hlo : lo ≤ hi)
    (hz : ∀ j, lo ≤ j → j < hi → (decide (k * 64 + j < n) && f (k * 64 + j)) = false) : Iv (min (k * 64 + hi) n) s := by
  refine skip_to hs (a := min (k * 64 + lo) n) _ (by omega) (by omega) (fun j h5 h6 => ?_) hI
  have h8 : j < n := by omega
  have h7 := hz (j - k * 64) (by omega) (by omega)
  have e : k * 64 + (j - k * 64) = j := by omega
  rw [e] at h7
  simpa [h8] using h7
theorem far_sub1 (P : Program) (t : TypeId) (x y : Operand) (a : Nat) (h0 : a ≠ 0) (ha : a < 18446744073709551616) : opFar .sub (U a) (.t (.v (.int .u64 1))) P t x y (.int .u64 ((a - 1 : Nat) : Int)) := by
  refine .inl ⟨_, _, rfl, rfl, ?_⟩
  have : IntKind.u64.wrap ((a : Int) - 1) = ((a - 1 : Nat) : Int) := by rw [IntKind.wrap_u64]; omega
  rw [← this]; rfl
theorem from0 (n : Nat) (f : Nat → Bool) (k : Nat) : rowWord n f k = wordB (fromB 0 fun j => decide (k * 64 + j < n) && f (k * 64 + j)) 64 := by
  unfold rowWord
  congr 1
def EachK (I : Nat → Sg → Prop) (F : Sg → Prop) (n : Nat) (_ : V) (s' : Sg) : Prop := I n s' ∨ F s'
set_option maxRecDepth 20000 in
theorem bitsEach_ (s : Sg) (p : Nat) : VCall Tryd.prog 88 [.ptr p 0] s (fun v s' => v = .clo 90 [.ptr s.next 0] ∧ s' = s.add (.box 69 [.ptr p 0])) := by
  refine kcall_of_body Tryd.func88 rfl fun Q hQ => ?_
  obtain ⟨e, he, hl, h0⟩ : ∃ e : Env, ([.ptr p 0] ++ List.replicate (Tryd.f88.ntmps - ([.ptr p 0] : List V).length) .junk) = e ∧ e.length = 4 ∧ ev e (.tmp 0) = .ptr p 0 := ⟨_, rfl, rfl, rfl⟩
  rw [he]
  clear he
  refine vsk fun K1 hK1 => ?_
  refine vw_sc 0 [] ?_
  simp only [bs, ↓vopx, ↓vop, thenV, flat, V.cells, h0, wocs, ↓goc, ↓woc, ↓vopm0]
  refine hK1 _ _ ?_
  refine vsk fun K2 hK2 => ?_
  refine vw_sc 0 [] ?_
  simp only [bs, ↓vopx, ↓vop, Nat.reduceBEq, thenV, Nat.reduceLT, hl, wocs, ↓goc, ↓woc, ↓vopm0, capOk, List.all_cons, List.all_nil, Bool.and_self]
  refine hK2 _ _ ?_
  refine vw_ret ?_
  refine hQ _ _ _ (.inr rfl) (donek_tmp (v := .clo 90 [.ptr s.next 0]) ?_ rfl ⟨rfl, rfl⟩)
  try simp only [ev_hit, lpv, hl, Nat.reduceLT]
set_option maxRecDepth 20000 in
theorem bitsEach1_ (n0 cb p q n : Nat) (f : Nat → Bool) (Iv : Nat → Sg → Prop) (F : Sg → Prop) (hI : ∀ k s, Iv k s → s.m cb = some (.box 69 [.ptr p 0]) ∧ RowR s p q n f) (hsk : ∀ k s, k < n → f k = false → Iv k s → Iv (k + 1) s) (hY : ∀ k s, k < n → f k = true → Iv k s → YCall Tryd.prog n0 [I k] s fun v s' => (v = Bo true ∧ Iv (k + 1) s') ∨ (v = Bo false ∧ F s')) (s : Sg) (hs0 : Iv 0 s) : VCall Tryd.prog 90 [.yl n0, .ptr cb 0] s (EachK Iv F n) := by
  refine kcall_of_body Tryd.func90 rfl fun Q hQ => ?_
  obtain ⟨e, he, hl, h0, h1⟩ : ∃ e : Env, ([.yl n0, .ptr cb 0] ++ List.replicate (Tryd.f90.ntmps - ([.yl n0, .ptr cb 0] : List V).length) .junk) = e ∧ e.length = 32 ∧ ev e (.tmp 0) = .yl n0 ∧ ev e (.tmp 1) = .ptr cb 0 := ⟨_, rfl, rfl, rfl, rfl⟩
  rw [he]
  clear he
  obtain ⟨hcb, hrow⟩ := hI 0 s hs0
  have hle := hrow.le
  refine vsk fun K1 hK1 => ?_
  refine vsk fun K2 hK2 => ?_
  refine vw_sc 0 [.far (.bool false)] ?_
  simp only [bs, ↓vopx, ↓vop, thenV, flat, Nat.reduceLT, dLoad, vpart, hl, h1, wocs, ↓goc, ↓woc, ↓vopm0, ↓farC, Tryd.ag69, Tryd.sz69, hcb]
  repeat ((with_reducible refine And.intro ?_ ?_); · exact .inr (.inr ⟨⟨_, Tryd.underlying69⟩, .inl rfl, rfl, .inl ⟨⟨_, _, rfl⟩, rfl⟩⟩))
  refine hK2 _ _ ?_
  refine vck fun A B hA hB => ?_
  simp only [condV, ev_hit, lpv, Nat.reduceLT, true_implies, reduceCtorEq, false_implies, true_and, hl]
  refine hB ?_
  clear hA hB A B
  refine vw_skip ?_
  refine hK1 _ _ ?_
  refine vsk fun K3 hK3 => ?_
  refine vw_sc 0 [] ?_
  simp only [bs, dSure, ↓vopx, ↓vop, Nat.reduceBEq, thenV, flat, Nat.reduceLT, dLoad, vpart, hl, h1, wocs, ↓goc, ↓woc, ↓vopm0, Tryd.ag69, Tryd.ag100, Tryd.fd102_1, Tryd.sz69, Tryd.sz100, Tryd.un100, hcb, hrow.hp]
  refine hK3 _ _ ?_
  refine vw_block ?_
  refine vw_loop (fun mm e' s' => ∃ k : Nat, mm = nW n - k ∧ k ≤ nW n ∧ e'.length = 32 ∧ ev e' (.tmp 0) = .yl n0 ∧ ev e' (.tmp 1) = .ptr cb 0 ∧ ev e' (.tmp 10) = .loc q 0 (nW n) ∧ ev e' (.tmp 11) = I (nW n) ∧ ev e' (.tmp 12) = I k ∧ Iv (min (k * 64) n) s') (⟨0, rfl, Nat.zero_le _, ?_⟩) ?_
  · try simp only [ev_hit, ev_miss, Nat.reduceBEq, lpv, hl, h0, h1, Nat.reduceLT, true_and]
    repeat ((with_reducible refine And.intro ?_ ?_); · trivial)
    all_goals (simpa using hs0)
  rintro mm e s1 ⟨k, rfl, hle_k, hl, h0, h1, h10, h11, h_k, hI1⟩
  refine vsk fun K4 hK4 => ?_
  refine vw_sc 0 [] ?_
  simp only [thenV, opII, h11, h_k, wocs, ↓goc, ↓woc]
  refine hK4 _ _ ?_
  refine vsk fun K5 hK5 => ?_
  refine vck fun A B hA hB => ?_
  simp only [condV, ev_hit, Nat.reduceLT, decide_eq_true_eq, decide_eq_false_iff_not, hl]
  refine ⟨fun hc13 => hA ?_, fun hc13 => hB ?_⟩
  · clear hA hB A B
    refine vw_skip ?_
    refine hK5 _ _ ?_
    refine vsk fun K6 hK6 => ?_
    refine vw_block ?_
    refine vsk fun K7 hK7 => ?_
    obtain ⟨hcb1, hrow1⟩ := hI _ s1 hI1
    have hq1 := hrow1.hq
    have hlt : k < nW n := by omega
    have hw := rowW_get (n := n) (f := f) hlt
    refine vw_sc 0 [] ?_
    simp only [bs, ↓vopx, ↓vop, Nat.reduceBEq, thenV, Nat.reduceLT, dLoad, vpart, hl, h10, h_k, wocs, ↓goc, ↓woc, ↓vopm0, Tryd.ag92, Tryd.sz92, Tryd.un100, hq1, hw]
    repeat ((with_reducible refine And.intro ?_ ?_); · (with_reducible assumption))
    refine hK7 _ _ ?_
    refine vw_block ?_
    refine vw_loop (fun mm e' s' => ∃ lo : Nat, mm = 64 - lo ∧ lo ≤ 64 ∧ e'.length = 32 ∧ ev e' (.tmp 0) = .yl n0 ∧ ev e' (.tmp 1) = .ptr cb 0 ∧ ev e' (.tmp 10) = .loc q 0 (nW n) ∧ ev e' (.tmp 11) = I (nW n) ∧ ev e' (.tmp 12) = I k ∧ ev e' (.tmp 3) = I k ∧ ev e' (.tmp 4) = U (wordB (fromB lo fun j => decide (k * 64 + j < n) && f (k * 64 + j)) 64) ∧ Iv (min (k * 64 + lo) n) s') (⟨0, rfl, Nat.zero_le _, ?_⟩) ?_
    · try simp only [ev_hit, ev_miss, Nat.reduceBEq, lpv, hl, h0, h1, h10, h11, h_k, Nat.reduceLT, true_and]
      repeat ((with_reducible refine And.intro ?_ ?_); · trivial)
      all_goals first | exact hI1 | exact ⟨by rw [from0], hI1⟩
    rintro mm e s1 ⟨lo, rfl, hle_lo, hl, h0, h1, h10, h11, h_k, h3, h4, hI1⟩
    refine vsk fun K8 hK8 => ?_
    refine vsk fun K9 hK9 => ?_
    refine vw_sc 0 [.far (.bool (((wordB (fromB lo fun j => decide (k * 64 + j < n) && f (k * 64 + j)) 64 : Nat) : Int) != 0))] ?_
    simp only [bs, ↓vopx, ↓vop, thenV, flat, Nat.reduceLT, hl, h4, wocs, ↓goc, ↓woc, ↓vopm0, ↓farC]
    repeat ((with_reducible refine And.intro ?_ ?_); · exact far_une _ _ _ _ _ _)
    refine hK9 _ _ ?_
    refine vck fun A B hA hB => ?_
    simp only [condV, ev_hit, lpv, Nat.reduceLT, bne_iff_ne, bne_eq_false_iff_eq, ne_eq, hl]
    refine ⟨fun hc18 => hA ?_, fun hc18 => hB ?_⟩
    · clear hA hB A B
      refine vw_skip ?_
      refine hK8 _ _ ?_
      refine vsk fun K10 hK10 => ?_
      refine vw_block ?_
      refine vsk fun K11 hK11 => ?_
      obtain ⟨hcb1, hrow1⟩ := hI _ s1 hI1
      obtain ⟨w, hwd⟩ : ∃ w, w = wordB (fromB lo fun j => decide (k * 64 + j < n) && f (k * 64 + j)) 64 := ⟨_, rfl⟩
      rw [← hwd] at h4 hc18
      have hw0 : w ≠ 0 := by intro h; apply hc18; rw [h]; rfl
      have hwlt : w < 18446744073709551616 := by rw [hwd]; exact wordB_lt _ 64
      obtain ⟨f1, f2, f3, f4, f5⟩ := from_step (by rw [← hwd]; exact hw0)
      rw [← hwd] at f1 f2 f3 f4 f5
      simp only [Bool.and_eq_true, decide_eq_true_eq] at f3
      have hkn := f3.1
      have hnw : k < nW n := by omega
      have hn16 : nW n ≤ 16 := by unfold nW; omega
      have hIc := skip_word hsk hI1 f1 f4
      rw [show min (k * 64 + Lib.ctz 64 w) n = k * 64 + Lib.ctz 64 w from by omega] at hIc
      have hcast : (k : Int) * 64 + (Lib.ctz 64 w : Nat) = ((k * 64 + Lib.ctz 64 w : Nat) : Int) := by push_cast; rfl
      refine vw_sc 0 [.pur (I (Lib.ctz 64 w)), .stop] ?_
      simp only [bs, ↓vopx, ↓vop, Nat.reduceBEq, thenV, flat, Nat.reduceLT, opII, hl, h0, h3, h4, wocs, ↓goc, ↓woc, ↓vopm0, ↓callC, calleeV, ↓yieldC, hcast]
      refine ⟨by constructor <;> omega, ⟨Tryd.is91, tz_ w hwlt⟩, by constructor <;> omega, YCall.mono (hY _ s1 hkn f3.2 hIc) fun v s2 hv => ?_⟩
      obtain ⟨b, rfl, hb⟩ := yes_no hv
      try simp only [bs, Nat.reduceBEq, Nat.reduceLT, hl, h0, h3, h4, hcast, Hold]
      refine hK11 _ _ ?_
      refine vck fun A B hA hB => ?_
      simp only [condV, ev_hit, lpv, Nat.reduceLT, Bool.not_eq_true', Bool.not_eq_false', hl]
      refine ⟨fun hc30 => hA ?_, fun hc30 => hB ?_⟩
      · clear hA hB A B
        refine vw_ret ?_
        rcases hb with ⟨rfl, _⟩ | ⟨_, hF⟩
        · simp at hc30
        · exact hQ _ _ _ (.inr rfl) ⟨[], rfl, rfl, .inr hF⟩
      · clear hA hB A B
        have hI2 : Iv (k * 64 + Lib.ctz 64 w + 1) s2 := by rcases hb with ⟨_, h⟩ | ⟨rfl, _⟩; exact h; simp at hc30
        refine vw_skip ?_
        refine hK10 _ _ ?_
        refine vw_sc 0 [.far (.int .u64 ((w - 1 : Nat) : Int)), .far (.int .u64 ((w &&& (w - 1) : Nat) : Int))] ?_
        simp only [bs, ↓vopx, ↓vop, Nat.reduceBEq, thenV, flat, Nat.reduceLT, hl, h0, h1, h10, h11, h_k, h3, h4, wocs, ↓goc, ↓woc, ↓vopm0, ↓farC]
        repeat ((with_reducible refine And.intro ?_ ?_); · first | exact far_sub1 _ _ _ _ _ hw0 hwlt | exact far_and _ _ _ _ _ _ hwlt (by omega))
        refine ⟨64 - (Lib.ctz 64 w + 1), by omega, Lib.ctz 64 w + 1, rfl, by omega, ?_⟩
        try simp only [ev_hit, ev_miss, Nat.reduceBEq, lpv, hl, h0, h1, h10, h11, h_k, h3, if_true, if_false, Nat.reduceEqDiff, Nat.reduceLT, true_and, and_true]
        exact ⟨by rw [f5], by rw [show min (k * 64 + (Lib.ctz 64 w + 1)) n = k * 64 + Lib.ctz 64 w + 1 from by omega]; exact hI2⟩
    · clear hA hB A B
      refine vw_exit ?_
      simp only [thenV, blockV, if_true, if_false, Nat.reduceEqDiff, reduceCtorEq]
      refine hK6 _ _ ?_
      refine vw_sc 0 [] ?_
      simp only [bs, ↓vopx, ↓vop, Nat.reduceBEq, thenV, flat, Nat.reduceLT, opII, hl, h0, h1, h10, h11, h_k, wocs, ↓goc, ↓woc, ↓vopm0]
      repeat ((with_reducible refine And.intro ?_ ?_); · (repeat' first | exact Keep.refl _ | refine Keep.add ?_ ?_ _ | refine Keep.set ?_ ?_ _ | exact Nat.le_refl _ | (simp only [Sg.add, Sg.set, Sg.del]; omega)))
      refine ⟨by constructor <;> (have : nW n ≤ 16 := by unfold nW; omega) <;> omega, nW n - (k + 1), by omega, k + 1, rfl, by omega, by push_cast; rfl, ?_⟩
      have hz := from_zero (g := fun j => decide (k * 64 + j < n) && f (k * 64 + j)) (lo := lo) (by have := hc18; omega)
      rw [show (k + 1) * 64 = k * 64 + 64 from by omega]
      exact skip_word hsk hI1 hle_lo hz
  · clear hA hB A B
    have hkn : k = nW n := by omega
    refine vw_exit ?_
    simp only [thenV, blockV, if_true]
    have hfin : min (k * 64) n = n := by unfold nW at hkn; omega
    rw [hfin] at hI1
    exact hQ _ _ _ (.inl rfl) ⟨[], rfl, rfl, .inl hI1⟩
end Go.Proofs

open Go Go.V
namespace Go.Proofs
def orB (f g : Nat → Bool) (k : Nat) : Nat → Bool := fun j => f j || (decide (j < k) && g j)
def anyK (f g : Nat → Bool) (k : Nat) : Bool := (List.range k).any fun j => g j && !f j
theorem orB_zero (f g : Nat → Bool) : orB f g 0 = f := by funext j; simp [orB]
theorem orB_skip {f g : Nat → Bool} {k : Nat} (h : g k = false ∨ f k = true) : orB f g (k + 1) = orB f g k := by
  funext j
  unfold orB
  by_cases hj : j = k
  · subst hj; rcases h with h | h <;> simp [h]
  · have : (j < k + 1) ↔ (j < k) := by omega
    simp only [this]
theorem orB_put {f g : Nat → Bool} {k : Nat} (h : g k = true) : updB (orB f g k) k true = orB f g (k + 1) := by
  funext j
  unfold updB orB
  by_cases hj : j = k
  · subst hj; simp [h]
  · have : (j < k + 1) ↔ (j < k) := by omega
    simp only [if_neg hj, this]
theorem orB_self (f g : Nat → Bool) (k : Nat) : orB f g k k = f k := by simp [orB]
theorem orB_same (f : Nat → Bool) (k : Nat) : orB f f k = f := by funext j; unfold orB; cases f j <;> simp
theorem anyK_skip {f g : Nat → Bool} {k : Nat} (h : g k = false ∨ f k = true) : anyK f g (k + 1) = anyK f g k := by
  unfold anyK; rw [List.range_succ, List.any_append]
  rcases h with h | h <;> simp [h]
theorem anyK_put {f g : Nat → Bool} {k : Nat} (h : g k = true) (hf : f k = false) : anyK f g (k + 1) = true := by
  unfold anyK; rw [List.range_succ, List.any_append]; simp [h, hf]
structure OrI (s4 : Sg) (q v n : Nat) (f g : Nat → Bool) (k : Nat) (s' : Sg) : Prop where
  nx : s'.next = s4.next
  fr : ∀ m, m ≠ q → m ≠ v → s'.m m = s4.m m
  hq : s'.m q = some (.arr 1 92 (rowW n (orB f g k)))
  hv : s'.m v = some (.box 4 [Bo (anyK f g k)])
theorem OrI.skip {s4 : Sg} {q v n : Nat} {f g : Nat → Bool} {k : Nat} {s' : Sg} (h : OrI s4 q v n f g k s') (hk : g k = false ∨ f k = true) : OrI s4 q v n f g (k + 1) s' :=
  ⟨h.nx, h.fr, by rw [orB_skip hk]; exact h.hq, by rw [anyK_skip hk]; exact h.hv⟩
theorem OrI.put {s4 : Sg} {q v n : Nat} {f g : Nat → Bool} {k : Nat} {s5 : Sg} {nl : Nat} {rec : Blk} (h : OrI s4 q v n f g k s5) (hl : s4.m nl = some rec) (hg : g k = true) (hf : f k = false) (hqn : q ≠ nl) (hvn : v ≠ nl) (hqv : q ≠ v) (b1 : Blk) :
    OrI s4 q v n f g (k + 1) ((((s5.set nl b1).set q (.arr 1 92 (rowW n (updB (orB f g k) k true)))).set v (.box 4 [Bo true])).set nl rec) := by
  refine ⟨h.nx, fun m h1 h2 => ?_, ?_, ?_⟩
  · by_cases hm : m = nl
    · subst hm; simp [Sg.set, hl]
    · simp [Sg.set, hm, h1, h2, h.fr m h1 h2]
  · rw [← orB_put hg]; simp [Sg.set, hqn, hqv]
  · rw [anyK_put hg hf]; simp [Sg.set, hvn]
theorem dones_or {s s' : Sg} {q k t : Nat} {el : TypeId} {cs : List T} {e' : Env} {res : T} (hv : ev e' (.tmp t) = .t res) (hq : q < s.next) (hq' : s'.m q = some (.arr k el cs)) (hm : ∀ n, n < s.next → n ≠ q → s'.m n = s.m n) :
    DoneS Tryd.prog s [.tmp t] (.t res) (s.set q (.arr k el cs)) e' s' := by
  refine dones_tmp hv rfl (fun n b hb => ?_) fun n b hn hb => ?_
  · simp only [Sg.set] at hb
    split at hb
    · rename_i h; subst h; exact .inl hq
    · exact .inr hb
  · simp only [Sg.set] at hb
    split at hb
    · rename_i h; subst h; cases hb; exact ⟨hq', .inr trivial⟩
    · rename_i h; exact ⟨(hm n hn h).trans hb, .inl hb⟩
set_option maxRecDepth 20000 in
theorem bitsOr_ (s : Sg) (p q n : Nat) (f : Nat → Bool) (h : RowR s p q n f) (p1 q1 : Nat) (g : Nat → Bool) (hg1 : RowR s p1 q1 n g) (hpl : p < s.next) (hql : q < s.next) (hpl1 : p1 < s.next) (hql1 : q1 < s.next) (hal : q1 = q → g = f) : DCall Tryd.prog 81 [.ptr p 0, .ptr p1 0] s (Bo (anyK f g n)) (s.set q (.arr 1 92 (rowW n (orB f g n)))) := by
  refine dcall_of_body Tryd.func81 rfl fun Q hQ => ?_
  obtain ⟨e, he, hl, h0, h1⟩ : ∃ e : Env, ([.ptr p 0, .ptr p1 0] ++ List.replicate (Tryd.f81.ntmps - ([.ptr p 0, .ptr p1 0] : List V).length) .junk) = e ∧ e.length = 23 ∧ ev e (.tmp 0) = .ptr p 0 ∧ ev e (.tmp 1) = .ptr p1 0 := ⟨_, rfl, rfl, rfl, rfl⟩
  rw [he]
  clear he
  have hle := h.le
  refine vsk fun K1 hK1 => ?_
  refine vw_sc 0 [] ?_
  simp only [bs, ↓vopx, ↓vop, thenV, flat, V.cells, h0, wocs, ↓goc, ↓woc, ↓vopm0]
  refine hK1 _ _ ?_
  refine vsk fun K2 hK2 => ?_
  refine vw_sc 0 [] ?_
  simp only [bs, ↓vopx, ↓vop, thenV, flat, Nat.reduceLT, V.cells, hl, wocs, ↓goc, ↓woc, ↓vopm0, Tryd.sz4, Tryd.zv4]
  refine hK2 _ _ ?_
  refine vsk fun K3 hK3 => ?_
  refine vsk fun K4 hK4 => ?_
  refine vw_sc 0 [.stop] ?_
  simp only [bs, ↓vopx, ↓vop, Nat.reduceBEq, thenV, Nat.reduceLT, hl, h1, wocs, ↓goc, ↓woc, ↓vopm0, ↓callC, calleeV]
  refine ⟨Tryd.is88, (bitsEach_ _ p1).mono fun v s2 hv => ?_⟩
  obtain ⟨rfl, rfl⟩ := hv
  try simp only [bs, Nat.reduceBEq, h1, Hold]
  refine hK4 _ _ ?_
  refine vw_block ?_
  refine vw_env2 fun e1 s3 hE hS => ?_
  have hlE : e1.length = 23 := by rw [hE]; simp only [lpv, hl]
  have h2E : ev e1 (.tmp 2) = .ptr s.next 0 := by rw [hE]; simp only [ev_hit, ev_miss, Nat.reduceBEq, hl, Nat.reduceLT]
  have h5E : ev e1 (.tmp 5) = .ptr (s.next + 1) 0 := by rw [hE]; simp only [ev_hit, ev_miss, Nat.reduceBEq, lpv, hl, Nat.reduceLT]
  have h8E : ev e1 (.tmp 8) = .clo 90 [.ptr (s.next + 2) 0] := by rw [hE]; simp only [ev_hit, lpv, hl, Nat.reduceLT]
  clear hE
  have h3n : s3.next = s.next + 3 := by rw [hS]; rfl
  have h3a : s3.m s.next = some (.box 69 [.ptr p 0]) := by rw [hS]; simp [Sg.add, Sg.set] <;> omega
  have h3b : s3.m (s.next + 1) = some (.box 4 [Bo false]) := by rw [hS]; simp [Sg.add, Sg.set] <;> omega
  have h3c : s3.m (s.next + 2) = some (.box 69 [.ptr p1 0]) := by rw [hS]; simp [Sg.add, Sg.set] <;> omega
  have h3m : ∀ m, m < s.next → s3.m m = s.m m := fun m hm => by rw [hS]; simp [Sg.add, Sg.set, show m ≠ s.next by omega, show m ≠ s.next + 1 by omega, show m ≠ s.next + 2 by omega]
  clear hS
  refine vw_range (g := 90) (caps := [.ptr (s.next + 2) 0]) h8E Tryd.func90 rfl (by decide) fun s4 h4e h4n h4m h4l => ?_
  have hpq : p ≠ q := fun e => by have := h.hp; rw [e, h.hq] at this; cases this
  have hp1q : p1 ≠ q := fun e => by have := hg1.hp; rw [e, h.hq] at this; cases this
  have hI : ∀ k s5, OrI s4 q (s.next + 1) n f g k s5 → s5.m (s.next + 2) = some (.box 69 [.ptr p1 0]) ∧ RowR s5 p1 q1 n g := by
    intro k s5 hk
    refine ⟨by rw [hk.fr _ (by omega) (by omega), h4m _ (by omega), h3c], by rw [hk.fr _ hp1q (by omega), h4m _ (by omega), h3m _ hpl1]; exact hg1.hp, ?_, hle⟩
    by_cases hqq : q1 = q
    · rw [hqq, hk.hq, hal hqq, orB_same]
    · rw [hk.fr _ hqq (by omega), h4m _ (by omega), h3m _ hql1]; exact hg1.hq
  have hst : OrI s4 q (s.next + 1) n f g 0 s4 := ⟨rfl, fun m _ _ => rfl, by rw [h4m _ (by omega), h3m _ hql, orB_zero]; exact h.hq, by rw [h4m _ (by omega), h3b]; simp [anyK]⟩
  refine (bitsEach1_ s3.next (s.next + 2) p1 q1 n g (OrI s4 q (s.next + 1) n f g) (fun _ => False) hI (fun k s5 hkn hg hk => hk.skip (.inl hg)) (fun k s5 hkn hg hk => ?_) s4 hst).mono fun v s6 h6 => ?_
  rotate_left
  · rcases h6 with h6 | h6
    rotate_left
    · exact h6.elim
    refine ⟨none, .ready, by rw [h6.fr _ (by omega) (by omega)]; exact h4l, by simp, ?_⟩
    have hvn : ¬ s.next + 1 = s3.next := by omega
    simp only []
    refine hK3 _ _ ?_
    refine vsk fun K5 hK5 => ?_
    refine vw_sc 0 [] ?_
    simp only [bs, ↓vopx, ↓vop, thenV, Nat.reduceLT, dLoad, vpart, hlE, h5E, wocs, ↓goc, ↓woc, ↓vopm0, Tryd.ag4, Tryd.sz4, hvn, h6.hv]
    refine hK5 _ _ ?_
    refine vw_ret ?_
    refine hQ _ _ _ (.inr rfl) (dones_or ?_ hql (by simp [Sg.del, show q ≠ s3.next by omega, h6.hq]) fun m hm hmq => ?_)
    try simp only [ev_hit, lpv, hlE, Nat.reduceLT]
    simp only [Sg.del, show ¬ m = s3.next from by omega, if_false]
    rw [h6.fr m hmq (by omega), h4m _ (by omega), h3m _ hm]
  have hlpk := (hk.fr s3.next (by omega) (by omega)).trans h4l
  refine ycall_of hlpk rfl fun KA hKA => ?_
  rw [show (#[9] : Array Tmp).toList = [9] from rfl, setps_one]
  refine vw_sc 0 [] ?_
  simp only [bs, ↓vopx, ↓vop, thenV, Nat.reduceLT, hlE, wocs, ↓goc, ↓woc, ↓vopm0]
  refine hKA _ _ hlpk ?_
  have hkr : 0 ≤ (k : Int) ∧ (k : Int) < n := by omega
  have hbr0 : s5.m s.next = some (.box 69 [.ptr p 0]) := by rw [hk.fr _ (by omega) (by omega), h4m _ (by omega), h3a]
  have hpp : s5.m p = some (.box 102 [I n, .loc q 0 (nW n)]) := by rw [hk.fr _ hpq (by omega), h4m _ (by omega), h3m _ hpl]; exact h.hp
  have hn0q : s3.next ≠ q := by omega
  have hn0p : p ≠ s3.next := by omega
  have hn0s : s.next ≠ s3.next := by omega
  have hn0v : s.next + 1 ≠ s3.next := by omega
  have hvq : ¬ s.next + 1 = q := by omega
  refine vw_env2 fun e2 sb hE2 hSb => ?_
  subst hE2
  have hrb : RowR sb p q n (orB f g k) := ⟨by rw [hSb]; simp [Sg.set, hn0p, hpp], by rw [hSb]; simp [Sg.set, hn0q.symm, hk.hq], hle⟩
  have hbr : sb.m s.next = some (.box 69 [.ptr p 0]) := by rw [hSb]; simp [Sg.set, hn0s, hbr0]
  have hvb : sb.m (s.next + 1) = some (.box 4 [Bo (anyK f g k)]) := by rw [hSb]; simp [Sg.set, hn0v, hk.hv]
  have hnb : sb.next = s5.next := by rw [hSb]; rfl
  have hk1 := hk.nx
  refine vw_block ?_
  refine vsk fun K6 hK6 => ?_
  rcases Bool.eq_false_or_eq_true (f k) with hfk | hfk
  · refine vw_sc 0 [.det (Bo (decide (0 ≤ (k : Int) ∧ (k : Int) < n))) sb, .det (Bo (decide (0 ≤ (k : Int) ∧ (k : Int) < n) && orB f g k (k : Int).toNat)) sb] ?_
    simp only [bs, ↓vopx, ↓vop, Nat.reduceBEq, thenV, flat, Nat.reduceLT, dLoad, vpart, gtmp, hlE, h2E, wocs, ↓goc, ↓woc, ↓vopm0, ↓callC, ↓pick_tt, calleeV, Tryd.ag69, Tryd.sz69, orB_self, Bool.and_true, hbr, hkr, hfk]
    repeat ((with_reducible refine And.intro ?_ ?_); · first | exact ⟨Tryd.is59, by simpa only [hkr, and_self, decide_true] using bitsThere_ sb p n _ hrb.hp k⟩ | exact ⟨Tryd.is35, by simpa [hkr, orB_self, hfk] using bitsHas_ sb p q n _ hrb k⟩)
    refine hK6 _ _ ?_
    refine vck fun A B hA hB => ?_
    simp only [condV, ev_hit, lpv, Nat.reduceLT, true_implies, reduceCtorEq, false_implies, true_and, hlE]
    refine hB ?_
    clear hA hB A B
    refine vw_skip ?_
    refine And.intro (by rw [hSb]; simp [Sg.set]) (Or.inl (And.intro rfl ?_))
    rw [hSb]
    first
    | (rw [set_set, set_self hlpk]; exact hk.skip (.inr hfk))
    | exact hk.put h4l hg hfk (by omega) (by omega) (by omega) _
  · refine vw_sc 0 [.det (Bo (decide (0 ≤ (k : Int) ∧ (k : Int) < n))) sb, .det (Bo (decide (0 ≤ (k : Int) ∧ (k : Int) < n) && orB f g k (k : Int).toNat)) sb] ?_
    simp only [bs, ↓vopx, ↓vop, Nat.reduceBEq, thenV, flat, Nat.reduceLT, dLoad, vpart, gtmp, hlE, h2E, wocs, ↓goc, ↓woc, ↓vopm0, ↓callC, ↓pick_tt, calleeV, Tryd.ag69, Tryd.sz69, orB_self, Bool.and_false, hbr, hkr, hfk]
    repeat ((with_reducible refine And.intro ?_ ?_); · first | exact ⟨Tryd.is59, by simpa only [hkr, and_self, decide_true] using bitsThere_ sb p n _ hrb.hp k⟩ | exact ⟨Tryd.is35, by simpa [hkr, orB_self, hfk] using bitsHas_ sb p q n _ hrb k⟩)
    refine hK6 _ _ ?_
    refine vck fun A B hA hB => ?_
    simp only [condV, ev_hit, lpv, Nat.reduceLT, true_implies, reduceCtorEq, false_implies, and_true, hlE]
    refine hA ?_
    clear hA hB A B
    refine vsk fun K7 hK7 => ?_
    refine vw_sc 0 [.det (.tup []) (sb.set q (.arr 1 92 (rowW n (updB (orB f g k) k true))))] ?_
    simp only [bs, ↓vopx, ↓vop, Nat.reduceBEq, thenV, flat, Nat.reduceLT, dLoad, vpart, hlE, h2E, wocs, ↓goc, ↓woc, ↓vopm0, ↓callC, calleeV, Tryd.ag69, Tryd.sz69, hbr]
    repeat ((with_reducible refine And.intro ?_ ?_); · exact ⟨Tryd.is57, bitsPut_ sb p q n _ hrb (by omega) k hkn⟩)
    refine hK7 _ _ ?_
    refine vw_sc 0 [] ?_
    simp only [bs, ↓vopx, ↓vop, Nat.reduceBEq, blockV, flat, V.cells, h5E, wocs, ↓goc, ↓woc, ↓vopm0, Tryd.sz4, hvq, hvb]
    refine And.intro (by rw [hSb]; simp [Sg.set, hn0q, hn0v.symm]) (Or.inl (And.intro rfl ?_))
    rw [hSb]
    first
    | (rw [set_set, set_self hlpk]; exact hk.skip (.inr hfk))
    | exact hk.put h4l hg hfk (by omega) (by omega) (by omega) _
end Go.Proofs

open Go Go.V
namespace Go.Proofs
structure RelP (s : Sg) (p n : Nat) (M : Mx) (na : Nat) (rp rq : Nat → Nat) : Prop where
  hp : s.m p = some (.box 72 [.loc na 0 n])
  ha : s.m na = some (.box 69 ((List.range n).map fun i => .ptr (rp i) 0))
  hr : ∀ i, i < n → s.m (rp i) = some (.box 102 [I n, .loc (rq i) 0 (nW n)])
  hw : ∀ i, i < n → s.m (rq i) = some (.arr 1 92 (rowW n (M i)))
  inj : ∀ i j, i < n → j < n → rq i = rq j → i = j
  le : n ≤ 200
  lp : p < s.next
  la : na < s.next
  lr : ∀ i, i < n → rp i < s.next
  lq : ∀ i, i < n → rq i < s.next
theorem RelP.row {s : Sg} {p n : Nat} {M : Mx} {na : Nat} {rp rq : Nat → Nat} (h : RelP s p n M na rp rq) {i : Nat} (hi : i < n) : RowR s (rp i) (rq i) n (M i) := ⟨h.hr i hi, h.hw i hi, by have := h.le; omega⟩
theorem rowW_congr {n : Nat} {f g : Nat → Bool} (h : ∀ j, j < n → f j = g j) : rowW n f = rowW n g := by
  have key : ∀ k, rowWord n f k = rowWord n g k := by
    intro k
    have : (fun j => decide (k * 64 + j < n) && f (k * 64 + j)) = (fun j => decide (k * 64 + j < n) && g (k * 64 + j)) := by
      funext j
      by_cases hj : k * 64 + j < n
      · rw [h _ hj]
      · simp [hj]
    simp only [rowWord, this]
  simp only [rowW, key]
theorem RelP.congr {s : Sg} {p n : Nat} {M M' : Mx} {na : Nat} {rp rq : Nat → Nat} (h : RelP s p n M na rp rq) (hm : ∀ x y, x < n → y < n → M x y = M' x y) : RelP s p n M' na rp rq :=
  ⟨h.hp, h.ha, h.hr, fun i hi => by rw [h.hw i hi, rowW_congr fun j hj => hm i j hi hj], h.inj, h.le, h.lp, h.la, h.lr, h.lq⟩
theorem RelP.keep {s s' : Sg} {p n : Nat} {M : Mx} {na : Nat} {rp rq : Nat → Nat} (h : RelP s p n M na rp rq) (hk : Keep s s') (hn : s.next ≤ s'.next) : RelP s' p n M na rp rq :=
  ⟨hk _ _ h.lp h.hp, hk _ _ h.la h.ha, fun i hi => hk _ _ (h.lr i hi) (h.hr i hi), fun i hi => hk _ _ (h.lq i hi) (h.hw i hi), h.inj, h.le, Nat.lt_of_lt_of_le h.lp hn, Nat.lt_of_lt_of_le h.la hn, fun i hi => Nat.lt_of_lt_of_le (h.lr i hi) hn, fun i hi => Nat.lt_of_lt_of_le (h.lq i hi) hn⟩
theorem RelP.put {s : Sg} {p n : Nat} {M : Mx} {na : Nat} {rp rq : Nat → Nat} (h : RelP s p n M na rp rq) {a : Nat} (ha : a < n) (g : Nat → Bool) :
    RelP (s.set (rq a) (.arr 1 92 (rowW n g))) p n (fun x => if x = a then g else M x) na rp rq := by
  have h1 : p ≠ rq a := fun e => by have := h.hp; rw [e, h.hw a ha] at this; cases this
  have h2 : na ≠ rq a := fun e => by have := h.ha; rw [e, h.hw a ha] at this; cases this
  refine ⟨by simp [Sg.set, h1, h.hp], by simp [Sg.set, h2, h.ha], fun i hi => ?_, fun i hi => ?_, h.inj, h.le, h.lp, h.la, h.lr, h.lq⟩
  · have h3 : rp i ≠ rq a := fun e => by have := h.hr i hi; rw [e, h.hw a ha] at this; cases this
    simp [Sg.set, h3, h.hr i hi]
  · by_cases hia : i = a
    · subst hia; simp [Sg.set]
    · have h3 : rq i ≠ rq a := fun e => hia (h.inj i a hi ha e)
      simp [Sg.set, h3, hia, h.hw i hi]
def rowEqB (n : Nat) (f g : Nat → Bool) : Bool := (List.range n).all fun b => f b == g b
theorem rowEq_bad {n : Nat} {f g : Nat → Bool} {b : Nat} (hb : b < n) (h : f b ≠ g b) : rowEqB n f g = false := by
  rw [Bool.eq_false_iff]; intro hh
  simp only [rowEqB, List.all_eq_true, List.mem_range, beq_iff_eq] at hh
  exact h (hh b hb)
theorem rowEq_good {n : Nat} {f g : Nat → Bool} (h : ∀ b, b < n → f b = g b) : rowEqB n f g = true := by
  simp only [rowEqB, List.all_eq_true, List.mem_range, beq_iff_eq]; exact h
theorem far_neqnil (P : Program) (t : TypeId) (x y : Operand) (el : TypeId) (hu : P.underlying t = some (.pointer el)) (n off : Nat) : opFar .eql (.ptr n off) (.t (.v (.pointer none))) P t x y (.bool false) := .inr (.inr ⟨⟨el, hu⟩, .inl rfl, rfl, .inl ⟨⟨_, _, rfl⟩, rfl⟩⟩)
set_option maxRecDepth 20000 in
theorem bitsSame_ (s : Sg) (p q n : Nat) (f : Nat → Bool) (h : RowR s p q n f) (p1 q1 : Nat) (g : Nat → Bool) (hg : RowR s p1 q1 n g) : DCall Tryd.prog 86 [.ptr p 0, .ptr p1 0] s (Bo (rowEqB n f g)) (s) := by
  refine dcall_of_body Tryd.func86 rfl fun Q hQ => ?_
  obtain ⟨e, he, hl, h0, h1⟩ : ∃ e : Env, ([.ptr p 0, .ptr p1 0] ++ List.replicate (Tryd.f86.ntmps - ([.ptr p 0, .ptr p1 0] : List V).length) .junk) = e ∧ e.length = 24 ∧ ev e (.tmp 0) = .ptr p 0 ∧ ev e (.tmp 1) = .ptr p1 0 := ⟨_, rfl, rfl, rfl, rfl⟩
  rw [he]
  clear he
  have hle := h.le
  refine vsk fun K1 hK1 => ?_
  refine vw_sc 0 [] ?_
  simp only [bs, ↓vopx, ↓vop, thenV, flat, wocs, ↓goc, ↓woc, ↓vopm0]
  refine hK1 _ _ ?_
  refine vsk fun K2 hK2 => ?_
  refine vsk fun K3 hK3 => ?_
  refine vw_sc 0 [.det (I n) s, .det (I n) s] ?_
  simp only [bs, ↓vopx, ↓vop, Nat.reduceBEq, thenV, Nat.reduceLT, opII, hl, h0, h1, wocs, ↓goc, ↓woc, ↓vopm0, ↓callC, calleeV, bne_self_eq_false]
  repeat ((with_reducible refine And.intro ?_ ?_); · first | exact ⟨Tryd.is78, bitsLen_ s p n _ h.hp⟩ | exact ⟨Tryd.is78, bitsLen_ s p1 n _ hg.hp⟩)
  refine hK3 _ _ ?_
  refine vck fun A B hA hB => ?_
  simp only [condV, ev_hit, lpv, Nat.reduceLT, true_implies, reduceCtorEq, false_implies, true_and, hl]
  refine hB ?_
  clear hA hB A B
  refine vw_skip ?_
  refine hK2 _ _ ?_
  refine vsk fun K4 hK4 => ?_
  refine vsk fun K5 hK5 => ?_
  refine vw_sc 0 [.det (I n) s] ?_
  simp only [bs, ↓vopx, ↓vop, Nat.reduceBEq, thenV, flat, Nat.reduceLT, hl, h0, wocs, ↓goc, ↓woc, ↓vopm0, ↓callC, calleeV]
  repeat ((with_reducible refine And.intro ?_ ?_); · exact ⟨Tryd.is78, bitsLen_ s p n _ h.hp⟩)
  refine hK5 _ _ ?_
  refine vw_block ?_
  refine vw_loop (fun mm e' s' => ∃ i : Nat, mm = n - i ∧ i ≤ n ∧ e'.length = 24 ∧ ev e' (.tmp 0) = .ptr p 0 ∧ ev e' (.tmp 1) = .ptr p1 0 ∧ ev e' (.tmp 12) = I n ∧ ev e' (.tmp 13) = I i ∧ s = s' ∧ ∀ b, b < i → f b = g b) (⟨0, rfl, Nat.zero_le _, ?_⟩) ?_
  · try simp only [ev_hit, ev_miss, Nat.reduceBEq, lpv, hl, h0, h1, Nat.reduceLT, true_and]
    repeat ((with_reducible refine And.intro ?_ ?_); · trivial)
    all_goals (exact fun b hb => by omega)
  rintro mm e _ ⟨i, rfl, hle_i, hl, h0, h1, h12, h_i, rfl, hal⟩
  refine vsk fun K6 hK6 => ?_
  refine vw_sc 0 [] ?_
  simp only [thenV, opII, h12, h_i, wocs, ↓goc, ↓woc]
  refine hK6 _ _ ?_
  refine vsk fun K7 hK7 => ?_
  refine vck fun A B hA hB => ?_
  simp only [condV, ev_hit, Nat.reduceLT, decide_eq_true_eq, decide_eq_false_iff_not, hl]
  refine ⟨fun hc14 => hA ?_, fun hc14 => hB ?_⟩
  · clear hA hB A B
    refine vw_skip ?_
    refine hK7 _ _ ?_
    refine vsk fun K8 hK8 => ?_
    refine vw_block ?_
    refine vsk fun K9 hK9 => ?_
    refine vw_sc 0 [] ?_
    simp only [bs, ↓vopx, ↓vop, Nat.reduceBEq, thenV, Nat.reduceLT, hl, h_i, wocs, ↓goc, ↓woc, ↓vopm0]
    refine hK9 _ _ ?_
    refine vsk fun K10 hK10 => ?_
    have hir : 0 ≤ (i : Int) ∧ (i : Int) < n := by omega
    refine vw_sc 0 [.det (Bo (decide (0 ≤ (i : Int) ∧ (i : Int) < n) && f (i : Int).toNat)) s, .det (Bo (decide (0 ≤ (i : Int) ∧ (i : Int) < n) && g (i : Int).toNat)) s, .far (.bool (f i != g i))] ?_
    simp only [bs, ↓vopx, ↓vop, Nat.reduceBEq, thenV, Nat.reduceLT, hl, h0, h1, wocs, ↓goc, ↓woc, ↓vopm0, ↓callC, calleeV, ↓farC, hir, and_self, Bool.true_and]
    repeat ((with_reducible refine And.intro ?_ ?_); · first | exact ⟨Tryd.is35, by simpa only [hir, and_self, decide_true, Bool.true_and, Int.toNat_natCast] using bitsHas_ s p q n f h i⟩ | exact ⟨Tryd.is35, by simpa only [hir, and_self, decide_true, Bool.true_and, Int.toNat_natCast] using bitsHas_ s p1 q1 n g hg i⟩ | exact far_bneq _ _ _ _)
    refine hK10 _ _ ?_
    refine vck fun A B hA hB => ?_
    simp only [condV, ev_hit, lpv, Nat.reduceLT, bne_iff_ne, bne_eq_false_iff_eq, ne_eq, hl]
    refine ⟨fun hc22 => hA ?_, fun hc22 => hB ?_⟩
    · clear hA hB A B
      refine vsk fun K11 hK11 => ?_
      refine vw_sc 0 [] ?_
      simp only [bs, ↓vopx, ↓vop, thenV, flat, wocs, ↓goc, ↓woc, ↓vopm0]
      refine hK11 _ _ ?_
      refine vw_ret ?_
      refine hQ _ _ _ (.inr rfl) (Done.toS (done_tmp ?_ fun n b hn h => h))
      try simp only [ev_hit, lpv, hl, Nat.reduceLT]
      rw [rowEq_bad (b := i) (by omega) hc22]
    · clear hA hB A B
      refine vw_skip ?_
      refine hK8 _ _ ?_
      refine vw_sc 0 [] ?_
      simp only [bs, ↓vopx, ↓vop, Nat.reduceBEq, thenV, flat, Nat.reduceLT, opII, hl, h0, h1, h12, h_i, wocs, ↓goc, ↓woc, ↓vopm0]
      repeat ((with_reducible refine And.intro ?_ ?_); · exact ⟨by omega, by omega⟩)
      refine ⟨n - (i + 1), by omega, i + 1, rfl, by omega, ?_⟩
      try simp only [ev_hit, ev_miss, Nat.reduceBEq, lpv, hl, h0, h1, h12, h_i, if_true, if_false, Nat.reduceEqDiff, Nat.reduceLT, true_and, and_true]
      repeat ((with_reducible refine And.intro ?_ ?_); · trivial)
      intro b hb
      rcases Nat.lt_succ_iff_lt_or_eq.1 hb with hb | rfl
      · exact hal b hb
      · exact hc22
  · clear hA hB A B
    have han : n = i := by omega
    refine vw_exit ?_
    simp only [thenV, blockV, if_true]
    refine hK4 _ _ ?_
    refine vsk fun K12 hK12 => ?_
    refine vw_sc 0 [] ?_
    simp only [bs, ↓vopx, ↓vop, thenV, flat, wocs, ↓goc, ↓woc, ↓vopm0]
    refine hK12 _ _ ?_
    refine vw_ret ?_
    refine hQ _ _ _ (.inr rfl) (Done.toS (done_tmp ?_ fun n b hn h => h))
    try simp only [ev_hit, lpv, hl, Nat.reduceLT]
    rw [rowEq_good fun b hb => hal b (by omega)]
set_option maxRecDepth 20000 in
theorem relLen_ (s : Sg) (p n : Nat) (na : Nat) (hp : s.m p = some (.box 72 [.loc na 0 n])) : DCall Tryd.prog 58 [.ptr p 0] s (I n) (s) := by
  refine dcall_of_body Tryd.func58 rfl fun Q hQ => ?_
  obtain ⟨e, he, hl, h0⟩ : ∃ e : Env, ([.ptr p 0] ++ List.replicate (Tryd.f58.ntmps - ([.ptr p 0] : List V).length) .junk) = e ∧ e.length = 10 ∧ ev e (.tmp 0) = .ptr p 0 := ⟨_, rfl, rfl, rfl⟩
  rw [he]
  clear he
  refine vsk fun K1 hK1 => ?_
  refine vw_sc 0 [] ?_
  simp only [bs, ↓vopx, ↓vop, thenV, flat, wocs, ↓goc, ↓woc, ↓vopm0]
  refine hK1 _ _ ?_
  refine vsk fun K2 hK2 => ?_
  refine vsk fun K3 hK3 => ?_
  refine vw_sc 0 [.far (.bool false)] ?_
  simp only [bs, ↓vopx, ↓vop, Nat.reduceBEq, thenV, flat, Nat.reduceLT, hl, h0, wocs, ↓goc, ↓woc, ↓vopm0, ↓farC]
  repeat ((with_reducible refine And.intro ?_ ?_); · exact far_neqnil _ _ _ _ _ Tryd.underlying47 _ _)
  refine hK3 _ _ ?_
  refine vck fun A B hA hB => ?_
  simp only [condV, ev_hit, lpv, Nat.reduceLT, true_implies, reduceCtorEq, false_implies, true_and, hl]
  refine hB ?_
  clear hA hB A B
  refine vw_skip ?_
  refine hK2 _ _ ?_
  refine vsk fun K4 hK4 => ?_
  refine vw_sc 0 [] ?_
  simp only [bs, dSure, ↓vopx, ↓vop, Nat.reduceBEq, thenV, Nat.reduceLT, dLoad, vpart, hl, h0, wocs, ↓goc, ↓woc, ↓vopm0, Tryd.ag70, Tryd.fd72_0, Tryd.sz70, Tryd.un70, hp]
  refine hK4 _ _ ?_
  refine vw_ret ?_
  refine hQ _ _ _ (.inr rfl) (Done.toS (done_tmp ?_ fun n b hn h => h))
  try simp only [ev_hit, lpv, hl, Nat.reduceLT]
set_option maxRecDepth 20000 in
theorem relThere_ (s : Sg) (p n : Nat) (na : Nat) (hp : s.m p = some (.box 72 [.loc na 0 n])) (i : Int) : DCall Tryd.prog 34 [.ptr p 0, I i] s (Bo (decide (0 ≤ i ∧ i < n))) (s) := by
  refine dcall_of_body Tryd.func34 rfl fun Q hQ => ?_
  obtain ⟨e, he, hl, h0, h1⟩ : ∃ e : Env, ([.ptr p 0, I i] ++ List.replicate (Tryd.f34.ntmps - ([.ptr p 0, I i] : List V).length) .junk) = e ∧ e.length = 13 ∧ ev e (.tmp 0) = .ptr p 0 ∧ ev e (.tmp 1) = I i := ⟨_, rfl, rfl, rfl, rfl⟩
  rw [he]
  clear he
  refine vsk fun K1 hK1 => ?_
  refine vw_sc 0 [] ?_
  simp only [bs, ↓vopx, ↓vop, thenV, flat, wocs, ↓goc, ↓woc, ↓vopm0]
  refine hK1 _ _ ?_
  refine vsk fun K2 hK2 => ?_
  rcases Decidable.em (0 ≤ i) with hi | hi
  · refine vw_sc 0 [.det (I n) s] ?_
    simp only [bs, ↓vopx, ↓vop, Nat.reduceBEq, thenV, flat, Nat.reduceLT, opII, gtmp, hl, h0, h1, wocs, ↓goc, ↓woc, ↓vopm0, ↓callC, ↓pick_tt, calleeV, hi]
    repeat ((with_reducible refine And.intro ?_ ?_); · exact ⟨Tryd.is58, relLen_ s p n na hp⟩)
    refine hK2 _ _ ?_
    refine vw_ret ?_
    refine hQ _ _ _ (.inr rfl) (Done.toS (done_tmp ?_ fun n b hn h => h))
    try simp only [ev_hit, lpv, hl, Nat.reduceLT]
    simp [hi]
  · refine vw_sc 0 [] ?_
    simp only [bs, ↓vopx, ↓vop, Nat.reduceBEq, thenV, flat, Nat.reduceLT, opII, gtmp, hl, h1, wocs, ↓goc, ↓woc, ↓vopm0, ↓pick_ft, hi]
    refine hK2 _ _ ?_
    refine vw_ret ?_
    refine hQ _ _ _ (.inr rfl) (Done.toS (done_tmp ?_ fun n b hn h => h))
    try simp only [ev_hit, lpv, hl, Nat.reduceLT]
    simp [hi]
set_option maxRecDepth 20000 in
theorem relHas_ (s : Sg) (p n : Nat) (M : Mx) (na : Nat) (rp rq : Nat → Nat) (h : RelP s p n M na rp rq) (a b : Int) : DCall Tryd.prog 21 [.ptr p 0, I a, I b] s (Bo (decide (0 ≤ a ∧ a < n) && (decide (0 ≤ b ∧ b < n) && M a.toNat b.toNat))) (s) := by
  refine dcall_of_body Tryd.func21 rfl fun Q hQ => ?_
  obtain ⟨e, he, hl, h0, h1, h2⟩ : ∃ e : Env, ([.ptr p 0, I a, I b] ++ List.replicate (Tryd.f21.ntmps - ([.ptr p 0, I a, I b] : List V).length) .junk) = e ∧ e.length = 21 ∧ ev e (.tmp 0) = .ptr p 0 ∧ ev e (.tmp 1) = I a ∧ ev e (.tmp 2) = I b := ⟨_, rfl, rfl, rfl, rfl, rfl⟩
  rw [he]
  clear he
  refine vsk fun K1 hK1 => ?_
  refine vw_sc 0 [] ?_
  simp only [bs, ↓vopx, ↓vop, thenV, flat, wocs, ↓goc, ↓woc, ↓vopm0]
  refine hK1 _ _ ?_
  refine vsk fun K2 hK2 => ?_
  rcases Decidable.em (0 ≤ a ∧ a < n) with ha | ha
  · have hha := h.ha
    have ga : (List.range n)[a.toNat]? = some a.toNat := List.getElem?_range (by omega)
    refine vw_sc 0 [.det (Bo (decide (0 ≤ a ∧ a < n))) s, .det (Bo (decide (0 ≤ b ∧ b < n) && M a.toNat b.toNat)) s] ?_
    simp only [bs, dSure, ↓vopx, ↓vop, Nat.reduceBEq, thenV, flat, Nat.reduceLT, dLoad, vpart, gtmp, hl, h0, h1, h2, wocs, ↓goc, ↓woc, ↓vopm0, ↓callC, ↓pick_tt, calleeV, Tryd.ag69, Tryd.ag70, Tryd.fd72_0, Tryd.sz69, Tryd.sz70, Tryd.un70, h.hp, ha, hha, ga]
    repeat ((with_reducible refine And.intro ?_ ?_); · first | exact ⟨Tryd.is34, by simpa only [ha, and_self, decide_true] using relThere_ s p n na h.hp a⟩ | exact ⟨Tryd.is35, bitsHas_ s _ _ n _ (h.row (i := a.toNat) (by omega)) b⟩)
    refine hK2 _ _ ?_
    refine vw_ret ?_
    refine hQ _ _ _ (.inr rfl) (Done.toS (done_tmp ?_ fun n b hn h => h))
    try simp only [ev_hit, lpv, hl, Nat.reduceLT]
    simp [ha]
  · refine vw_sc 0 [.det (Bo (decide (0 ≤ a ∧ a < n))) s] ?_
    simp only [bs, ↓vopx, ↓vop, Nat.reduceBEq, thenV, flat, Nat.reduceLT, gtmp, hl, h0, h1, wocs, ↓goc, ↓woc, ↓vopm0, ↓callC, ↓pick_ft, calleeV, ha]
    repeat ((with_reducible refine And.intro ?_ ?_); · exact ⟨Tryd.is34, by simpa only [ha, decide_false] using relThere_ s p n na h.hp a⟩)
    refine hK2 _ _ ?_
    refine vw_ret ?_
    refine hQ _ _ _ (.inr rfl) (Done.toS (done_tmp ?_ fun n b hn h => h))
    try simp only [ev_hit, lpv, hl, Nat.reduceLT]
    simp [ha]
end Go.Proofs

open Go Go.V
namespace Go.Proofs
structure FreshP (s : Sg) (p n na : Nat) (rp rq : Nat → Nat) : Prop where
  hp : s.next ≤ p
  ha : s.next ≤ na
  hr : ∀ i, i < n → s.next ≤ rp i
  hq : ∀ i, i < n → s.next ≤ rq i
def NewP (s : Sg) (n : Nat) (M : Mx) (v : V) (s' : Sg) : Prop := ∃ p na rp rq, v = .ptr p 0 ∧ RelP s' p n M na rp rq ∧ FreshP s p n na rp rq ∧ Keep s s' ∧ s.next ≤ s'.next
def cellsP (n i : Nat) (rp : Nat → Nat) : List V := (List.range n).map fun j => if j < i then .ptr (rp j) 0 else .t (.v (.pointer none))
theorem cellsP_length (n i : Nat) (rp : Nat → Nat) : (cellsP n i rp).length = n := by simp [cellsP]
theorem cellsP_zero (n : Nat) (rp : Nat → Nat) : (repl [T.v (Value.pointer none)] n).map V.t = cellsP n 0 rp := by
  rw [repl_one]
  apply List.ext_getElem?
  intro j
  by_cases hj : j < n
  · simp [cellsP, hj]
  · rw [List.getElem?_eq_none (by simp; omega), List.getElem?_eq_none (by simp [cellsP]; omega)]
theorem cellsP_set {n i : Nat} {rp : Nat → Nat} (hi : i < n) (x : Nat) : setAll (cellsP n i rp) i [.ptr x 0] = cellsP n (i + 1) (fun j => if j = i then x else rp j) := by
  rw [setAll_one _ _ _ (by rw [cellsP_length]; exact hi)]
  apply List.ext_getElem?
  intro j
  by_cases hj : j < n
  · rw [List.getElem?_set, cellsP_length]
    have g1 : (cellsP n i rp)[j]? = some (if j < i then .ptr (rp j) 0 else .t (.v (.pointer none))) := get_range _ hj
    have g2 : (cellsP n (i + 1) (fun j => if j = i then x else rp j))[j]? = some (if j < i + 1 then .ptr (if j = i then x else rp j) 0 else .t (.v (.pointer none))) := get_range _ hj
    rw [g1, g2]
    by_cases e : i = j
    · subst e; simp [hi]
    · have e2 : ¬ j = i := fun h => e h.symm
      have e3 : (j < i + 1) ↔ (j < i) := by omega
      simp [e, e2, e3]
  · rw [List.getElem?_eq_none (by rw [List.length_set, cellsP_length]; omega), List.getElem?_eq_none (by rw [cellsP_length]; omega)]
theorem newRow_m {s : Sg} {n m : Nat} (h : m < s.next) : (NewRow s n).m m = s.m m := by
  have h1 : m ≠ s.next := by omega
  have h2 : m ≠ s.next + 1 := by omega
  simp [NewRow, Sg.add, h1, h2]
theorem newRow_keep (s : Sg) (n : Nat) : Keep s (NewRow s n) := fun m b hm hb => by rw [newRow_m hm]; exact hb
structure PartP (s : Sg) (N p n i na : Nat) (rp rq : Nat → Nat) : Prop where
  hp : s.m p = some (.box 72 [.loc na 0 n])
  ha : s.m na = some (.box 69 (cellsP n i rp))
  hr : ∀ j, j < i → s.m (rp j) = some (.box 102 [I n, .loc (rq j) 0 (nW n)])
  hw : ∀ j, j < i → s.m (rq j) = some (.arr 1 92 (rowW n fun _ => false))
  inj : ∀ j k, j < i → k < i → rq j = rq k → j = k
  lp : p < s.next
  la : na < s.next
  lr : ∀ j, j < i → rp j < s.next
  lq : ∀ j, j < i → rq j < s.next
  fp : N ≤ p
  fa : N ≤ na
  fr : ∀ j, j < i → N ≤ rp j
  fq : ∀ j, j < i → N ≤ rq j
theorem PartP.step {s : Sg} {N p n i na : Nat} {rp rq : Nat → Nat} (h : PartP s N p n i na rp rq) (hi : i < n) :
    PartP ((NewRow s n).set na (.box 69 (setAll (cellsP n i rp) i [.ptr (s.next + 1) 0]))) N p n (i + 1) na (fun j => if j = i then s.next + 1 else rp j) (fun j => if j = i then s.next else rq j) := by
  have hlp := h.lp
  have hla := h.la
  have hfa := h.fa
  have hpa : p ≠ na := fun e => by have := h.hp; rw [e, h.ha] at this; cases this
  have e1 : s.next ≠ na := by omega
  have e2 : s.next + 1 ≠ na := by omega
  refine ⟨by simp [Sg.set, hpa, newRow_m h.lp, h.hp], by simp [Sg.set, cellsP_set hi], fun j hj => ?_, fun j hj => ?_, fun j k hj hk e => ?_, by simp [Sg.set, NewRow, Sg.add]; omega, by simp [Sg.set, NewRow, Sg.add]; omega, fun j hj => ?_, fun j hj => ?_, h.fp, h.fa, fun j hj => ?_, fun j hj => ?_⟩
  · by_cases hji : j = i
    · subst hji; simp [Sg.set, NewRow, Sg.add, e2]
    · have h1 := h.lr j (by omega)
      have h2 : rp j ≠ na := fun e => by have := h.hr j (by omega); rw [e, h.ha] at this; cases this
      simp [Sg.set, hji, h2, newRow_m h1, h.hr j (by omega)]
  · by_cases hji : j = i
    · subst hji; simp [Sg.set, NewRow, Sg.add, e1]
    · have h1 := h.lq j (by omega)
      have h2 : rq j ≠ na := fun e => by have := h.hw j (by omega); rw [e, h.ha] at this; cases this
      simp [Sg.set, hji, h2, newRow_m h1, h.hw j (by omega)]
  · by_cases hji : j = i <;> by_cases hki : k = i
    · omega
    · have := h.lq k (by omega); simp only [hji, hki, if_true, if_false] at e; omega
    · have := h.lq j (by omega); simp only [hji, hki, if_true, if_false] at e; omega
    · simp only [hji, hki, if_false] at e; exact h.inj j k (by omega) (by omega) e
  · by_cases hji : j = i
    · simp [hji, Sg.set, NewRow, Sg.add]
    · have := h.lr j (by omega); simp [hji, Sg.set, NewRow, Sg.add]; omega
  · by_cases hji : j = i
    · simp [hji, Sg.set, NewRow, Sg.add]; omega
    · have := h.lq j (by omega); simp [hji, Sg.set, NewRow, Sg.add]; omega
  · by_cases hji : j = i
    · simp [hji]; omega
    · simp [hji, h.fr j (by omega)]
  · by_cases hji : j = i
    · simp [hji]; omega
    · simp [hji, h.fq j (by omega)]
theorem PartP.done {s : Sg} {N p n na : Nat} {rp rq : Nat → Nat} (h : PartP s N p n n na rp rq) (hn : n ≤ 200) : RelP s p n (fun _ _ => false) na rp rq :=
  ⟨h.hp, by rw [h.ha]; congr 2; unfold cellsP; apply List.map_congr_left; intro j hj; rw [if_pos (List.mem_range.1 hj)], h.hr, h.hw, h.inj, hn, h.lp, h.la, h.lr, h.lq⟩
def AddP (s : Sg) (p n : Nat) (M : Mx) (na : Nat) (rp rq : Nat → Nat) (v : V) (s' : Sg) : Prop := (∃ b, v = Bo b) ∧ RelP s' p n M na rp rq ∧ (∀ m, (∀ i, i < n → m ≠ rq i) → s'.m m = s.m m) ∧ s'.next = s.next
theorem AddP.keep {s0 s : Sg} {p n : Nat} {M : Mx} {na : Nat} {rp rq : Nat → Nat} {v : V} {s' : Sg} (h : AddP s p n M na rp rq v s') (hf : ∀ i, i < n → s0.next ≤ rq i) (hk : Keep s0 s) : Keep s0 s' := fun m b hm hb => by
  rw [h.2.2.1 m fun i hi => by have := hf i hi; omega]; exact hk m b hm hb
set_option maxRecDepth 20000 in
theorem relNew_ (s : Sg) (n : Nat) (hn : n ≤ 200) : VCall Tryd.prog 30 [I n] s (NewP s n (fun _ _ => false)) := by
  refine kcall_of_body Tryd.func30 rfl fun Q hQ => ?_
  obtain ⟨e, he, hl, h0⟩ : ∃ e : Env, ([I n] ++ List.replicate (Tryd.f30.ntmps - ([I n] : List V).length) .junk) = e ∧ e.length = 33 ∧ ev e (.tmp 0) = I n := ⟨_, rfl, rfl, rfl⟩
  rw [he]
  clear he
  have hmx : max (n : Int) 0 = n := by omega
  have hmn : min (n : Int) 200 = n := by omega
  refine vsk fun K1 hK1 => ?_
  refine vw_sc 0 [] ?_
  simp only [bs, ↓vopx, ↓vop, thenV, flat, wocs, ↓goc, ↓woc, ↓vopm0]
  refine hK1 _ _ ?_
  refine vsk fun K2 hK2 => ?_
  refine vw_sc 0 [] ?_
  simp only [bs, vparts, gfill, ↓vopx, ↓vop, Nat.reduceBEq, thenV, flat, Nat.reduceLT, V.cells, hl, h0, wocs, ↓goc, ↓woc, ↓vopm0, Tryd.sl70, Tryd.st72, hmx, hmn]
  repeat ((with_reducible refine And.intro ?_ ?_); · omega)
  refine hK2 _ _ ?_
  refine vsk fun K3 hK3 => ?_
  refine vsk fun K4 hK4 => ?_
  refine VW.toBox s.next (ty := 69) (cs := repl [T.v (Value.pointer none)] n) (by simp [Sg.add]) ?_
  refine vw_sc 0 [] ?_
  simp only [bs, dSure, ↓vopx, ↓vop, thenV, flat, Nat.reduceLT, dLoad, vpart, hl, wocs, ↓goc, ↓woc, ↓vopm0, Tryd.ag70, Tryd.fd72_0, Tryd.sz70, Tryd.un70]
  refine hK4 _ _ ?_
  refine vw_block ?_
  refine vw_loop (fun mm e' s' => ∃ i : Nat, mm = n - i ∧ i ≤ n ∧ e'.length = 33 ∧ ev e' (.tmp 3) = .ptr (s.next + 1) 0 ∧ ev e' (.tmp 15) = I n ∧ ev e' (.tmp 16) = I i ∧ True ∧ ∃ rp rq, PartP s' s.next (s.next + 1) n i s.next rp rq ∧ Keep s s' ∧ s.next ≤ s'.next) (⟨0, rfl, Nat.zero_le _, ?_⟩) ?_
  · try simp only [ev_hit, ev_miss, Nat.reduceBEq, lpv, hl, Nat.reduceLT, true_and]
    repeat ((with_reducible refine And.intro ?_ ?_); · trivial)
    exact ⟨fun _ => 0, fun _ => 0, ⟨by simp [Sg.set, Sg.add], by rw [m_set, if_pos rfl, cellsP_zero], fun j h => by omega, fun j h => by omega, fun j k h => by omega, by simp [Sg.set, Sg.add], by simp [Sg.set, Sg.add]; omega, fun j h => by omega, fun j h => by omega, by omega, Nat.le_refl _, fun j h => by omega, fun j h => by omega⟩, (((Keep.refl s).add (Nat.le_refl _) _).add (by simp [Sg.add]) _).set (Nat.le_refl _) _, by simp [Sg.set, Sg.add]; omega⟩
  rintro mm e s1 ⟨i, rfl, hle_i, hl, h3, h15, h_i, hst, ⟨rp, rq, hpart, hkeep, hnx⟩⟩
  refine vsk fun K5 hK5 => ?_
  refine vw_sc 0 [] ?_
  simp only [thenV, opII, h15, h_i, wocs, ↓goc, ↓woc]
  refine hK5 _ _ ?_
  refine vsk fun K6 hK6 => ?_
  refine vck fun A B hA hB => ?_
  simp only [condV, ev_hit, Nat.reduceLT, decide_eq_true_eq, decide_eq_false_iff_not, hl]
  refine ⟨fun hc17 => hA ?_, fun hc17 => hB ?_⟩
  · clear hA hB A B
    refine vw_skip ?_
    refine hK6 _ _ ?_
    refine vsk fun K7 hK7 => ?_
    refine vw_block ?_
    refine vsk fun K8 hK8 => ?_
    refine vw_sc 0 [] ?_
    simp only [bs, ↓vopx, ↓vop, Nat.reduceBEq, thenV, Nat.reduceLT, hl, h_i, wocs, ↓goc, ↓woc, ↓vopm0]
    refine hK8 _ _ ?_
    have hlp := hpart.lp
    have hla := hpart.la
    have hna2 : (NewRow s1 n).m s.next = some (.box 69 (cellsP n i rp)) := by rw [newRow_m hla]; exact hpart.ha
    refine vw_chain Tryd.mixed 11 [0, 0, 0, 2, 0, 0, 0, 0, 1, 0, 3] [.det (.ptr (s1.next + 1) 0) (NewRow s1 n)] [] 0 (by decide +kernel) (by simp [lpv, hl]) rfl ?_
    simp only [bs, dSure, ↓vopx, ↓vop, Nat.reduceBEq, thenV, blockV, Nat.reduceLT, V.cells, dLoad, vpart, hl, h3, wocs, ↓goc, ↓woc, ↓vopm0, ↓vopm1, ↓callC, calleeV, chn, ↓goq, ↓woq, List.zip_cons_cons, List.zip_nil_right, Tryd.ag70, Tryd.fd72_0, Tryd.sz69, Tryd.sz70, Tryd.un70, hpart.hp, hna2, cellsP_length]
    repeat ((with_reducible refine And.intro ?_ ?_); · first | (with_reducible assumption) | omega | exact ⟨Tryd.is55, bitsNew_ s1 n (by omega)⟩ | exact newRow_keep _ _)
    refine hK7 _ _ ?_
    refine vw_sc 0 [] ?_
    simp only [bs, ↓vopx, ↓vop, Nat.reduceBEq, thenV, flat, Nat.reduceLT, opII, hl, h3, h15, h_i, wocs, ↓goc, ↓woc, ↓vopm0]
    repeat ((with_reducible refine And.intro ?_ ?_); · exact ⟨by omega, by omega⟩)
    refine ⟨n - (i + 1), by omega, i + 1, rfl, by omega, ?_⟩
    try simp only [ev_hit, ev_miss, Nat.reduceBEq, lpv, hl, h3, h15, h_i, if_true, if_false, Nat.reduceEqDiff, Nat.reduceLT, true_and, and_true]
    repeat ((with_reducible refine And.intro ?_ ?_); · trivial)
    exact ⟨_, _, hpart.step (by omega), (hkeep.trans hnx (newRow_keep s1 n)).set (Nat.le_refl _) _, by simp [NewRow, Sg.add]; omega⟩
  · clear hA hB A B
    have han : n = i := by omega
    subst han
    refine vw_exit ?_
    simp only [thenV, blockV, if_true]
    refine hK3 _ _ ?_
    refine vsk fun K9 hK9 => ?_
    refine vw_sc 0 [] ?_
    simp only [bs, ↓vopx, ↓vop, Nat.reduceBEq, thenV, Nat.reduceLT, hl, h3, wocs, ↓goc, ↓woc, ↓vopm0]
    refine hK9 _ _ ?_
    refine vw_ret ?_
    refine hQ _ _ _ (.inr rfl) (donek_tmp (v := .ptr (s.next + 1) 0) ?_ rfl ⟨_, _, rp, rq, rfl, hpart.done hn, ⟨hpart.fp, hpart.fa, hpart.fr, hpart.fq⟩, hkeep, hnx⟩)
    try simp only [ev_hit, lpv, hl, Nat.reduceLT]
set_option maxRecDepth 20000 in
theorem relAdd_ (s : Sg) (p n : Nat) (M : Mx) (na : Nat) (rp rq : Nat → Nat) (h : RelP s p n M na rp rq) (a b : Nat) (ha : a < n) (hb : b < n) : VCall Tryd.prog 32 [.ptr p 0, I a, I b] s (AddP s p n (updM M a b true) na rp rq) := by
  refine kcall_of_body Tryd.func32 rfl fun Q hQ => ?_
  obtain ⟨e, he, hl, h0, h1, h2⟩ : ∃ e : Env, ([.ptr p 0, I a, I b] ++ List.replicate (Tryd.f32.ntmps - ([.ptr p 0, I a, I b] : List V).length) .junk) = e ∧ e.length = 32 ∧ ev e (.tmp 0) = .ptr p 0 ∧ ev e (.tmp 1) = I a ∧ ev e (.tmp 2) = I b := ⟨_, rfl, rfl, rfl, rfl, rfl⟩
  rw [he]
  clear he
  have har : 0 ≤ (a : Int) ∧ (a : Int) < n := by omega
  have hbr : 0 ≤ (b : Int) ∧ (b : Int) < n := by omega
  have hpp := h.hp
  have hha := h.ha
  have ga : (List.range n)[a]? = some a := List.getElem?_range ha
  refine vsk fun K1 hK1 => ?_
  refine vw_sc 0 [] ?_
  simp only [bs, ↓vopx, ↓vop, thenV, flat, wocs, ↓goc, ↓woc, ↓vopm0]
  refine hK1 _ _ ?_
  refine vsk fun K2 hK2 => ?_
  refine vsk fun K3 hK3 => ?_
  rcases Bool.eq_false_or_eq_true (M a b) with hM | hM
  · refine vw_sc 0 [.det (Bo (decide (0 ≤ (a : Int) ∧ (a : Int) < n))) s, .det (Bo (decide (0 ≤ (b : Int) ∧ (b : Int) < n))) s, .det (Bo (M a b)) s] ?_
    simp only [bs, ↓vopx, ↓vop, Nat.reduceBEq, thenV, flat, Nat.reduceLT, gtmp, hl, h0, h1, h2, wocs, ↓goc, ↓woc, ↓vopm0, ↓callC, ↓pick_ff, calleeV, har, hbr, and_self, hM]
    repeat ((with_reducible refine And.intro ?_ ?_); · first | exact ⟨Tryd.is34, by simpa only [har, and_self, decide_true] using relThere_ s p n na h.hp a⟩ | exact ⟨Tryd.is34, by simpa only [hbr, and_self, decide_true] using relThere_ s p n na h.hp b⟩ | exact ⟨Tryd.is21, by simpa [har, hbr, hM] using relHas_ s p n M na rp rq h a b⟩)
    refine hK3 _ _ ?_
    refine vck fun A B hA hB => ?_
    simp only [condV, ev_hit, lpv, Nat.reduceLT, true_implies, reduceCtorEq, false_implies, and_true, hl]
    refine hA ?_
    clear hA hB A B
    refine vsk fun K4 hK4 => ?_
    refine vw_sc 0 [] ?_
    simp only [bs, ↓vopx, ↓vop, thenV, flat, wocs, ↓goc, ↓woc, ↓vopm0]
    refine hK4 _ _ ?_
    refine vw_ret ?_
    refine hQ _ _ _ (.inr rfl) (donek_tmp (v := Bo false) ?_ rfl ⟨⟨_, rfl⟩, h.congr fun x y hx hy => by unfold updM; split; (rename_i hxy; rw [hxy.1, hxy.2, hM]); rfl, fun m hm => rfl, rfl⟩)
    try simp only [ev_hit, lpv, hl, Nat.reduceLT]
  · refine vw_sc 0 [.det (Bo (decide (0 ≤ (a : Int) ∧ (a : Int) < n))) s, .det (Bo (decide (0 ≤ (b : Int) ∧ (b : Int) < n))) s, .det (Bo (M a b)) s] ?_
    simp only [bs, ↓vopx, ↓vop, Nat.reduceBEq, thenV, flat, Nat.reduceLT, gtmp, hl, h0, h1, h2, wocs, ↓goc, ↓woc, ↓vopm0, ↓callC, ↓pick_ff, calleeV, har, hbr, and_self, hM]
    repeat ((with_reducible refine And.intro ?_ ?_); · first | exact ⟨Tryd.is34, by simpa only [har, and_self, decide_true] using relThere_ s p n na h.hp a⟩ | exact ⟨Tryd.is34, by simpa only [hbr, and_self, decide_true] using relThere_ s p n na h.hp b⟩ | exact ⟨Tryd.is21, by simpa [har, hbr, hM] using relHas_ s p n M na rp rq h a b⟩)
    refine hK3 _ _ ?_
    refine vck fun A B hA hB => ?_
    simp only [condV, ev_hit, lpv, Nat.reduceLT, true_implies, reduceCtorEq, false_implies, true_and, hl]
    refine hB ?_
    clear hA hB A B
    refine vw_skip ?_
    refine hK2 _ _ ?_
    refine vsk fun K5 hK5 => ?_
    refine vw_sc 0 [.det (.tup []) (s.set (rq a) (.arr 1 92 (rowW n (updB (M a) b true))))] ?_
    simp only [bs, dSure, ↓vopx, ↓vop, Nat.reduceBEq, thenV, flat, Nat.reduceLT, dLoad, vpart, hl, h0, h1, h2, wocs, ↓goc, ↓woc, ↓vopm0, ↓callC, calleeV, Tryd.ag69, Tryd.ag70, Tryd.fd72_0, Tryd.sz69, Tryd.sz70, Tryd.un70, hpp, hha, ga]
    repeat ((with_reducible refine And.intro ?_ ?_); · first | omega | exact ⟨Tryd.is57, bitsPut_ s (rp a) (rq a) n (M a) (h.row ha) (h.lq a ha) b hb⟩)
    refine hK5 _ _ ?_
    refine vsk fun K6 hK6 => ?_
    refine vw_sc 0 [] ?_
    simp only [bs, ↓vopx, ↓vop, thenV, flat, wocs, ↓goc, ↓woc, ↓vopm0]
    refine hK6 _ _ ?_
    refine vw_ret ?_
    have hR := (h.put ha (updB (M a) b true)).congr (M' := updM M a b true) fun x y hx hy => by unfold updM updB; by_cases hxa : x = a <;> by_cases hyb : y = b <;> simp [hxa, hyb]
    refine hQ _ _ _ (.inr rfl) (donek_tmp (v := Bo true) ?_ rfl ⟨⟨_, rfl⟩, hR, fun m hm => by simp [Sg.set, hm a ha], rfl⟩)
    try simp only [ev_hit, lpv, hl, Nat.reduceLT]
end Go.Proofs

open Go Go.V
namespace Go.Proofs
def cpP (M : Mx) (i : Nat) : Mx := fun x y => decide (x < i) && M x y
theorem cpP_step {M : Mx} {i n : Nat} (x y : Nat) (hy : y < n) : (if x = i then orB (cpP M i i) (M i) n else cpP M i x) y = cpP M (i + 1) x y := by
  unfold cpP orB
  by_cases h : x = i
  · subst h; simp [hy]
  · have : (x < i + 1) ↔ (x < i) := by omega
    simp [h, this]
theorem fwB_rowk (M : Mx) (k a y : Nat) : fwB M k a 0 k y = M k y := by
  unfold fwB
  split
  · unfold fwk; cases M k y <;> simp
  · rfl
theorem fwB_or {M : Mx} {k a n : Nat} (h : M a k = true) (x y : Nat) (hy : y < n) : (if x = a then orB (fwB M k a 0 a) (fwB M k a 0 k) n else fwB M k a 0 x) y = fwB M k (a + 1) 0 x y := by
  by_cases hx : x = a
  · subst hx
    rw [if_pos rfl]
    unfold orB
    rw [fwB_rowk]
    simp [fwB, fwk, h, hy]
  · rw [if_neg hx]
    unfold fwB
    have : (x < a ∨ (x = a ∧ y < 0)) ↔ (x < a + 1 ∨ (x = a + 1 ∧ y < 0)) := by omega
    simp only [this]
set_option maxRecDepth 20000 in
theorem relCopy_ (s : Sg) (p n : Nat) (M : Mx) (na : Nat) (rp rq : Nat → Nat) (h : RelP s p n M na rp rq) : VCall Tryd.prog 80 [.ptr p 0] s (NewP s n M) := by
  refine kcall_of_body Tryd.func80 rfl fun Q hQ => ?_
  obtain ⟨e, he, hl, h0⟩ : ∃ e : Env, ([.ptr p 0] ++ List.replicate (Tryd.f80.ntmps - ([.ptr p 0] : List V).length) .junk) = e ∧ e.length = 33 ∧ ev e (.tmp 0) = .ptr p 0 := ⟨_, rfl, rfl, rfl⟩
  rw [he]
  clear he
  have hle := h.le
  refine vsk fun K1 hK1 => ?_
  refine vw_sc 0 [] ?_
  simp only [bs, ↓vopx, ↓vop, thenV, flat, wocs, ↓goc, ↓woc, ↓vopm0]
  refine hK1 _ _ ?_
  refine vsk fun K2 hK2 => ?_
  refine vw_sc 0 [.det (I n) s, .stop] ?_
  simp only [bs, ↓vopx, ↓vop, Nat.reduceBEq, thenV, Nat.reduceLT, hl, h0, wocs, ↓goc, ↓woc, ↓vopm0, ↓callC, calleeV]
  refine ⟨⟨Tryd.is58, relLen_ s p n na h.hp⟩, Tryd.is30, (relNew_ s n hle).mono fun v s2 hv => ?_⟩
  obtain ⟨c, na1, rp1, rq1, rfl, hR, hF, hk, hnx⟩ := hv
  try simp only [bs, Nat.reduceBEq, Nat.reduceLT, hl, h0, Hold]
  refine hK2 _ _ ?_
  refine vsk fun K3 hK3 => ?_
  refine vsk fun K4 hK4 => ?_
  have hRp := hR.hp
  refine vw_sc 0 [] ?_
  simp only [bs, dSure, ↓vopx, ↓vop, thenV, flat, Nat.reduceLT, dLoad, vpart, hl, wocs, ↓goc, ↓woc, ↓vopm0, Tryd.ag70, Tryd.fd72_0, Tryd.sz70, Tryd.un70, hRp]
  refine hK4 _ _ ?_
  refine vw_block ?_
  refine vw_loop (fun mm e' s' => ∃ i : Nat, mm = n - i ∧ i ≤ n ∧ e'.length = 33 ∧ ev e' (.tmp 0) = .ptr p 0 ∧ ev e' (.tmp 3) = .ptr c 0 ∧ ev e' (.tmp 12) = I n ∧ ev e' (.tmp 13) = I i ∧ True ∧ RelP s' c n (cpP M i) na1 rp1 rq1 ∧ Keep s s' ∧ s.next ≤ s'.next) (⟨0, rfl, Nat.zero_le _, ?_⟩) ?_
  · try simp only [ev_hit, ev_miss, Nat.reduceBEq, lpv, hl, h0, Nat.reduceLT, true_and]
    repeat ((with_reducible refine And.intro ?_ ?_); · trivial)
    all_goals (first | exact hnx | exact ⟨hR.congr fun x y hx hy => by simp [cpP], hk, hnx⟩)
  rintro mm e s1 ⟨i, rfl, hle_i, hl, h0, h3, h12, h_i, hst, ⟨hd, hkeep, hnx⟩⟩
  refine vsk fun K5 hK5 => ?_
  refine vw_sc 0 [] ?_
  simp only [thenV, opII, h12, h_i, wocs, ↓goc, ↓woc]
  refine hK5 _ _ ?_
  refine vsk fun K6 hK6 => ?_
  refine vck fun A B hA hB => ?_
  simp only [condV, ev_hit, Nat.reduceLT, decide_eq_true_eq, decide_eq_false_iff_not, hl]
  refine ⟨fun hc14 => hA ?_, fun hc14 => hB ?_⟩
  · clear hA hB A B
    refine vw_skip ?_
    refine hK6 _ _ ?_
    refine vsk fun K7 hK7 => ?_
    refine vw_block ?_
    refine vsk fun K8 hK8 => ?_
    refine vw_sc 0 [] ?_
    simp only [bs, ↓vopx, ↓vop, Nat.reduceBEq, thenV, Nat.reduceLT, hl, h_i, wocs, ↓goc, ↓woc, ↓vopm0]
    refine hK8 _ _ ?_
    have hs := h.keep hkeep hnx
    have xp := hd.hp
    have xa := hd.ha
    have xg : (List.range n)[i]? = some i := List.getElem?_range (by omega)
    have yp := hs.hp
    have ya := hs.ha
    have yg : (List.range n)[i]? = some i := List.getElem?_range (by omega)
    have hlq := h.lq i (by omega)
    have hfq := hF.hq i (by omega)
    refine vw_chain Tryd.mixed 14 [0, 0, 0, 1, 0, 1, 1, 0, 0, 0, 1, 0, 1, 1] [.det (Bo (anyK (cpP M i i) (M i) n)) (s1.set (rq1 i) (.arr 1 92 (rowW n (orB (cpP M i i) (M i) n))))] [] 0 (by decide +kernel) (by simp [lpv, hl]) rfl ?_
    simp only [bs, dSure, ↓vopx, ↓vop, Nat.reduceBEq, thenV, blockV, Nat.reduceLT, dLoad, vpart, hl, h0, h3, wocs, ↓goc, ↓woc, ↓vopm1, ↓callC, calleeV, chn, ↓goq, ↓woq, List.zip_cons_cons, List.zip_nil_right, Tryd.ag69, Tryd.ag70, Tryd.fd72_0, Tryd.sz69, Tryd.sz70, Tryd.un70, xp, xa, xg, yp, ya]
    repeat ((with_reducible refine And.intro ?_ ?_); · first | (with_reducible assumption) | exact ⟨Tryd.is81, bitsOr_ s1 (rp1 i) (rq1 i) n _ (hd.row (by omega)) (rp i) (rq i) _ (hs.row (by omega)) (hd.lr i (by omega)) (hd.lq i (by omega)) (hs.lr i (by omega)) (hs.lq i (by omega)) (fun e => by omega)⟩)
    refine hK7 _ _ ?_
    refine vw_sc 0 [] ?_
    simp only [bs, ↓vopx, ↓vop, Nat.reduceBEq, thenV, flat, Nat.reduceLT, opII, hl, h0, h3, h12, h_i, wocs, ↓goc, ↓woc, ↓vopm0]
    repeat ((with_reducible refine And.intro ?_ ?_); · exact ⟨by omega, by omega⟩)
    refine ⟨n - (i + 1), by omega, i + 1, rfl, by omega, ?_⟩
    try simp only [ev_hit, ev_miss, Nat.reduceBEq, lpv, hl, h0, h3, h12, h_i, if_true, if_false, Nat.reduceEqDiff, Nat.reduceLT, true_and, and_true]
    repeat ((with_reducible refine And.intro ?_ ?_); · trivial)
    exact ⟨(hd.put (by omega) _).congr fun x y hx hy => cpP_step x y hy, hkeep.set (hF.hq i (by omega)) _, hnx⟩
  · clear hA hB A B
    have han : n = i := by omega
    subst han
    refine vw_exit ?_
    simp only [thenV, blockV, if_true]
    refine hK3 _ _ ?_
    refine vsk fun K9 hK9 => ?_
    refine vw_sc 0 [] ?_
    simp only [bs, ↓vopx, ↓vop, Nat.reduceBEq, thenV, Nat.reduceLT, hl, h3, wocs, ↓goc, ↓woc, ↓vopm0]
    refine hK9 _ _ ?_
    refine vw_ret ?_
    refine hQ _ _ _ (.inr rfl) (donek_tmp (v := .ptr c 0) ?_ rfl ⟨c, na1, rp1, rq1, rfl, hd.congr fun x y hx hy => by simp [cpP, hx], hF, hkeep, hnx⟩)
    try simp only [ev_hit, lpv, hl, Nat.reduceLT]
set_option maxRecDepth 20000 in
theorem relClosure_ (s : Sg) (p n : Nat) (M : Mx) (na : Nat) (rp rq : Nat → Nat) (h : RelP s p n M na rp rq) : VCall Tryd.prog 63 [.ptr p 0] s (NewP s n (cloK M n)) := by
  refine kcall_of_body Tryd.func63 rfl fun Q hQ => ?_
  obtain ⟨e, he, hl, h0⟩ : ∃ e : Env, ([.ptr p 0] ++ List.replicate (Tryd.f63.ntmps - ([.ptr p 0] : List V).length) .junk) = e ∧ e.length = 46 ∧ ev e (.tmp 0) = .ptr p 0 := ⟨_, rfl, rfl, rfl⟩
  rw [he]
  clear he
  have hle := h.le
  refine vsk fun K1 hK1 => ?_
  refine vw_sc 0 [] ?_
  simp only [bs, ↓vopx, ↓vop, thenV, flat, wocs, ↓goc, ↓woc, ↓vopm0]
  refine hK1 _ _ ?_
  refine vsk fun K2 hK2 => ?_
  refine vw_sc 0 [.stop] ?_
  simp only [bs, ↓vopx, ↓vop, Nat.reduceBEq, thenV, Nat.reduceLT, hl, h0, wocs, ↓goc, ↓woc, ↓vopm0, ↓callC, calleeV]
  refine ⟨Tryd.is80, (relCopy_ s p n M na rp rq h).mono fun v s2 hv => ?_⟩
  obtain ⟨c, na1, rp1, rq1, rfl, hR, hF, hk, hnx⟩ := hv
  try simp only [bs, Nat.reduceBEq, Nat.reduceLT, hl, h0, Hold]
  refine hK2 _ _ ?_
  refine vsk fun K3 hK3 => ?_
  refine vsk fun K4 hK4 => ?_
  have hRp := hR.hp
  refine vw_sc 0 [] ?_
  simp only [bs, dSure, ↓vopx, ↓vop, thenV, flat, Nat.reduceLT, dLoad, vpart, hl, wocs, ↓goc, ↓woc, ↓vopm0, Tryd.ag70, Tryd.fd72_0, Tryd.sz70, Tryd.un70, hRp]
  refine hK4 _ _ ?_
  refine vw_block ?_
  refine vw_loop (fun mm e' s' => ∃ k : Nat, mm = n - k ∧ k ≤ n ∧ e'.length = 46 ∧ ev e' (.tmp 3) = .ptr c 0 ∧ ev e' (.tmp 12) = I n ∧ ev e' (.tmp 13) = I k ∧ True ∧ RelP s' c n (cloK M k) na1 rp1 rq1 ∧ Keep s s' ∧ s.next ≤ s'.next) (⟨0, rfl, Nat.zero_le _, ?_⟩) ?_
  · try simp only [ev_hit, ev_miss, Nat.reduceBEq, lpv, hl, Nat.reduceLT, true_and]
    repeat ((with_reducible refine And.intro ?_ ?_); · trivial)
    all_goals (first | exact hnx | exact ⟨hd, hkeep, hnx⟩ | exact ⟨hR, hk, hnx⟩)
  rintro mm e s1 ⟨k, rfl, hle_k, hl, h3, h12, h_k, hst, ⟨hd, hkeep, hnx⟩⟩
  refine vsk fun K5 hK5 => ?_
  refine vw_sc 0 [] ?_
  simp only [thenV, opII, h12, h_k, wocs, ↓goc, ↓woc]
  refine hK5 _ _ ?_
  refine vsk fun K6 hK6 => ?_
  refine vck fun A B hA hB => ?_
  simp only [condV, ev_hit, Nat.reduceLT, decide_eq_true_eq, decide_eq_false_iff_not, hl]
  refine ⟨fun hc14 => hA ?_, fun hc14 => hB ?_⟩
  · clear hA hB A B
    refine vw_skip ?_
    refine hK6 _ _ ?_
    refine vsk fun K7 hK7 => ?_
    refine vw_block ?_
    refine vsk fun K8 hK8 => ?_
    refine vw_sc 0 [] ?_
    simp only [bs, ↓vopx, ↓vop, Nat.reduceBEq, thenV, Nat.reduceLT, hl, h_k, wocs, ↓goc, ↓woc, ↓vopm0]
    refine hK8 _ _ ?_
    refine vsk fun K9 hK9 => ?_
    have hdp := hd.hp
    refine vw_sc 0 [] ?_
    simp only [bs, dSure, ↓vopx, ↓vop, Nat.reduceBEq, thenV, flat, Nat.reduceLT, dLoad, vpart, hl, h3, wocs, ↓goc, ↓woc, ↓vopm0, Tryd.ag70, Tryd.fd72_0, Tryd.sz70, Tryd.un70, hdp]
    refine hK9 _ _ ?_
    refine vw_block ?_
    refine vw_loop (fun mm e' s' => ∃ a : Nat, mm = n - a ∧ a ≤ n ∧ e'.length = 46 ∧ ev e' (.tmp 3) = .ptr c 0 ∧ ev e' (.tmp 12) = I n ∧ ev e' (.tmp 13) = I k ∧ ev e' (.tmp 4) = I k ∧ ev e' (.tmp 20) = I n ∧ ev e' (.tmp 21) = I a ∧ True ∧ RelP s' c n (fwB (cloK M k) k a 0) na1 rp1 rq1 ∧ Keep s s' ∧ s.next ≤ s'.next) (⟨0, rfl, Nat.zero_le _, ?_⟩) ?_
    · try simp only [ev_hit, ev_miss, Nat.reduceBEq, lpv, hl, h3, h12, h_k, Nat.reduceLT, true_and]
      repeat ((with_reducible refine And.intro ?_ ?_); · trivial)
      all_goals (first | exact hnx | exact ⟨hd.congr fun x y hx hy => fwB_zero _ _ x y, hkeep, hnx⟩)
    rintro mm e s1 ⟨a, rfl, hle_a, hl, h3, h12, h13, h4, h20, h_a, hst, ⟨hd, hkeep, hnx⟩⟩
    refine vsk fun K10 hK10 => ?_
    refine vw_sc 0 [] ?_
    simp only [thenV, opII, h20, h_a, wocs, ↓goc, ↓woc]
    refine hK10 _ _ ?_
    refine vsk fun K11 hK11 => ?_
    refine vck fun A B hA hB => ?_
    simp only [condV, ev_hit, Nat.reduceLT, decide_eq_true_eq, decide_eq_false_iff_not, hl]
    refine ⟨fun hc22 => hA ?_, fun hc22 => hB ?_⟩
    · clear hA hB A B
      refine vw_skip ?_
      refine hK11 _ _ ?_
      refine vsk fun K12 hK12 => ?_
      refine vw_block ?_
      refine vsk fun K13 hK13 => ?_
      refine vw_sc 0 [] ?_
      simp only [bs, ↓vopx, ↓vop, Nat.reduceBEq, thenV, Nat.reduceLT, hl, h_a, wocs, ↓goc, ↓woc, ↓vopm0]
      refine hK13 _ _ ?_
      refine vsk fun K14 hK14 => ?_
      refine vw_sc 0 [.det (Bo (cloK M k a k)) s1] ?_
      simp only [bs, ↓vopx, ↓vop, Nat.reduceBEq, thenV, Nat.reduceLT, hl, h3, h4, wocs, ↓goc, ↓woc, ↓vopm0, ↓callC, calleeV]
      repeat ((with_reducible refine And.intro ?_ ?_); · exact ⟨Tryd.is21, by simpa [show 0 ≤ (a : Int) ∧ (a : Int) < n from by omega, show 0 ≤ (k : Int) ∧ (k : Int) < n from by omega, fwB_read] using relHas_ s1 c n _ na1 rp1 rq1 hd a k⟩)
      refine hK14 _ _ ?_
      refine vck fun A B hA hB => ?_
      simp only [condV, ev_hit, lpv, Nat.reduceLT, hl]
      refine ⟨fun hc27 => hA ?_, fun hc27 => hB ?_⟩
      · clear hA hB A B
        have xp := hd.hp
        have xa := hd.ha
        have xg : (List.range n)[a]? = some a := List.getElem?_range (by omega)
        have yp := hd.hp
        have ya := hd.ha
        have yg : (List.range n)[k]? = some k := List.getElem?_range (by omega)
        refine vw_chain Tryd.mixed 14 [0, 0, 0, 1, 0, 1, 1, 0, 0, 0, 1, 0, 1, 1] [.det (Bo (anyK (fwB (cloK M k) k a 0 a) (fwB (cloK M k) k a 0 k) n)) (s1.set (rq1 a) (.arr 1 92 (rowW n (orB (fwB (cloK M k) k a 0 a) (fwB (cloK M k) k a 0 k) n))))] [] 0 (by decide +kernel) (by simp [lpv, hl]) rfl ?_
        simp only [bs, dSure, ↓vopx, ↓vop, Nat.reduceBEq, thenV, blockV, Nat.reduceLT, dLoad, vpart, hl, h3, h4, wocs, ↓goc, ↓woc, ↓vopm1, ↓callC, calleeV, chn, ↓goq, ↓woq, List.zip_cons_cons, List.zip_nil_right, Tryd.ag69, Tryd.ag70, Tryd.fd72_0, Tryd.sz69, Tryd.sz70, Tryd.un70, xp, xa, xg, yg]
        repeat ((with_reducible refine And.intro ?_ ?_); · first | (with_reducible assumption) | exact ⟨Tryd.is81, bitsOr_ s1 (rp1 a) (rq1 a) n _ (hd.row (by omega)) (rp1 k) (rq1 k) _ (hd.row (by omega)) (hd.lr a (by omega)) (hd.lq a (by omega)) (hd.lr k (by omega)) (hd.lq k (by omega)) (fun e => by rw [hd.inj k a (by omega) (by omega) e])⟩)
        refine hK12 _ _ ?_
        refine vw_sc 0 [] ?_
        simp only [bs, ↓vopx, ↓vop, Nat.reduceBEq, thenV, flat, Nat.reduceLT, opII, hl, h3, h12, h13, h4, h20, h_a, wocs, ↓goc, ↓woc, ↓vopm0]
        repeat ((with_reducible refine And.intro ?_ ?_); · exact ⟨by omega, by omega⟩)
        refine ⟨n - (a + 1), by omega, a + 1, rfl, by omega, ?_⟩
        try simp only [ev_hit, ev_miss, Nat.reduceBEq, lpv, hl, h3, h12, h13, h4, h20, h_a, if_true, if_false, Nat.reduceEqDiff, Nat.reduceLT, true_and, and_true]
        repeat ((with_reducible refine And.intro ?_ ?_); · trivial)
        first
        | exact ⟨(hd.put (by omega) _).congr fun x y hx hy => fwB_or hc27 x y hy, hkeep.set (hF.hq a (by omega)) _, hnx⟩
        | exact ⟨hd.congr fun x y hx hy => fwB_skip hc27 x y, hkeep, hnx⟩
      · clear hA hB A B
        refine vw_skip ?_
        refine hK12 _ _ ?_
        refine vw_sc 0 [] ?_
        simp only [bs, ↓vopx, ↓vop, Nat.reduceBEq, thenV, flat, Nat.reduceLT, opII, hl, h3, h12, h13, h4, h20, h_a, wocs, ↓goc, ↓woc, ↓vopm0]
        repeat ((with_reducible refine And.intro ?_ ?_); · exact ⟨by omega, by omega⟩)
        refine ⟨n - (a + 1), by omega, a + 1, rfl, by omega, ?_⟩
        try simp only [ev_hit, ev_miss, Nat.reduceBEq, lpv, hl, h3, h12, h13, h4, h20, h_a, if_true, if_false, Nat.reduceEqDiff, Nat.reduceLT, true_and, and_true]
        repeat ((with_reducible refine And.intro ?_ ?_); · trivial)
        first
        | exact ⟨(hd.put (by omega) _).congr fun x y hx hy => fwB_or hc27 x y hy, hkeep.set (hF.hq a (by omega)) _, hnx⟩
        | exact ⟨hd.congr fun x y hx hy => fwB_skip hc27 x y, hkeep, hnx⟩
    · clear hA hB A B
      have han : n = a := by omega
      subst han
      refine vw_exit ?_
      simp only [thenV, blockV, if_true, if_false, Nat.reduceEqDiff, reduceCtorEq]
      refine hK7 _ _ ?_
      refine vw_sc 0 [] ?_
      simp only [bs, ↓vopx, ↓vop, Nat.reduceBEq, thenV, flat, Nat.reduceLT, opII, hl, h3, h12, h13, wocs, ↓goc, ↓woc, ↓vopm0]
      repeat ((with_reducible refine And.intro ?_ ?_); · exact ⟨by omega, by omega⟩)
      refine ⟨n - (k + 1), by omega, k + 1, rfl, by omega, ?_⟩
      try simp only [ev_hit, ev_miss, Nat.reduceBEq, lpv, hl, h3, h12, h_k, if_true, if_false, Nat.reduceEqDiff, Nat.reduceLT, true_and, and_true]
      repeat ((with_reducible refine And.intro ?_ ?_); · trivial)
      exact ⟨hd.congr fun x y hx hy => fwB_done x y hx, hkeep, hnx⟩
  · clear hA hB A B
    have han : n = k := by omega
    subst han
    refine vw_exit ?_
    simp only [thenV, blockV, if_true]
    refine hK3 _ _ ?_
    refine vsk fun K15 hK15 => ?_
    refine vw_sc 0 [] ?_
    simp only [bs, ↓vopx, ↓vop, Nat.reduceBEq, thenV, Nat.reduceLT, hl, h3, wocs, ↓goc, ↓woc, ↓vopm0]
    refine hK15 _ _ ?_
    refine vw_ret ?_
    refine hQ _ _ _ (.inr rfl) (donek_tmp (v := .ptr c 0) ?_ rfl ⟨c, na1, rp1, rq1, rfl, hd, hF, hkeep, hnx⟩)
    try simp only [ev_hit, lpv, hl, Nat.reduceLT]
end Go.Proofs

open Go Go.V
namespace Go.Proofs
def OfP (s : Sg) (n : Nat) (l : List (Int × Int)) (v : V) (s' : Sg) : Prop :=
  (l.all (inB n) = true ∧ ∃ p na rp rq, v = .tup [.ptr p 0, I 0] ∧ RelP s' p n (mxOf l) na rp rq ∧ FreshP s p n na rp rq ∧ Keep s s' ∧ s.next ≤ s'.next) ∨
  (l.all (inB n) = false ∧ v = .tup [.t (.v (.pointer none)), I 10] ∧ Keep s s' ∧ s.next ≤ s'.next)
theorem upd_row (M : Mx) (a b x y : Nat) : (if x = a then updB (M a) b true else M x) y = updM M a b true x y := by
  unfold updM updB
  by_cases hxa : x = a <;> by_cases hyb : y = b <;> simp [hxa, hyb]
set_option maxRecDepth 20000 in
theorem relSame_ (s : Sg) (p n : Nat) (M : Mx) (na : Nat) (rp rq : Nat → Nat) (h : RelP s p n M na rp rq) (p1 : Nat) (M1 : Mx) (na1 : Nat) (rp1 rq1 : Nat → Nat) (h' : RelP s p1 n M1 na1 rp1 rq1) : DCall Tryd.prog 77 [.ptr p 0, .ptr p1 0] s (Bo (mxEqB n M M1)) (s) := by
  refine dcall_of_body Tryd.func77 rfl fun Q hQ => ?_
  obtain ⟨e, he, hl, h0, h1⟩ : ∃ e : Env, ([.ptr p 0, .ptr p1 0] ++ List.replicate (Tryd.f77.ntmps - ([.ptr p 0, .ptr p1 0] : List V).length) .junk) = e ∧ e.length = 31 ∧ ev e (.tmp 0) = .ptr p 0 ∧ ev e (.tmp 1) = .ptr p1 0 := ⟨_, rfl, rfl, rfl, rfl⟩
  rw [he]
  clear he
  have hle := h.le
  have hpp := h.hp
  refine vsk fun K1 hK1 => ?_
  refine vw_sc 0 [] ?_
  simp only [bs, ↓vopx, ↓vop, thenV, flat, wocs, ↓goc, ↓woc, ↓vopm0]
  refine hK1 _ _ ?_
  refine vsk fun K2 hK2 => ?_
  refine vsk fun K3 hK3 => ?_
  refine vw_sc 0 [] ?_
  simp only [bs, dSure, ↓vopx, ↓vop, Nat.reduceBEq, thenV, flat, Nat.reduceLT, dLoad, vpart, hl, h0, wocs, ↓goc, ↓woc, ↓vopm0, Tryd.ag70, Tryd.fd72_0, Tryd.sz70, Tryd.un70, hpp]
  refine hK3 _ _ ?_
  refine vw_block ?_
  refine vw_loop (fun mm e' s' => ∃ i : Nat, mm = n - i ∧ i ≤ n ∧ e'.length = 31 ∧ ev e' (.tmp 0) = .ptr p 0 ∧ ev e' (.tmp 1) = .ptr p1 0 ∧ ev e' (.tmp 10) = I n ∧ ev e' (.tmp 11) = I i ∧ s = s' ∧ ∀ x, x < i → rowEqB n (M x) (M1 x) = true) (⟨0, rfl, Nat.zero_le _, ?_⟩) ?_
  · try simp only [ev_hit, ev_miss, Nat.reduceBEq, lpv, hl, h0, h1, Nat.reduceLT, true_and]
    repeat ((with_reducible refine And.intro ?_ ?_); · trivial)
    all_goals (exact fun x hx => by omega)
  rintro mm e _ ⟨i, rfl, hle_i, hl, h0, h1, h10, h_i, rfl, hal⟩
  refine vsk fun K4 hK4 => ?_
  refine vw_sc 0 [] ?_
  simp only [thenV, opII, h10, h_i, wocs, ↓goc, ↓woc]
  refine hK4 _ _ ?_
  refine vsk fun K5 hK5 => ?_
  refine vck fun A B hA hB => ?_
  simp only [condV, ev_hit, Nat.reduceLT, decide_eq_true_eq, decide_eq_false_iff_not, hl]
  refine ⟨fun hc12 => hA ?_, fun hc12 => hB ?_⟩
  · clear hA hB A B
    refine vw_skip ?_
    refine hK5 _ _ ?_
    refine vsk fun K6 hK6 => ?_
    refine vw_block ?_
    refine vsk fun K7 hK7 => ?_
    refine vw_sc 0 [] ?_
    simp only [bs, ↓vopx, ↓vop, Nat.reduceBEq, thenV, Nat.reduceLT, hl, h_i, wocs, ↓goc, ↓woc, ↓vopm0]
    refine hK7 _ _ ?_
    refine vsk fun K8 hK8 => ?_
    have xp := h.hp
    have xa := h.ha
    have xg : (List.range n)[i]? = some i := List.getElem?_range (by omega)
    have yp := h'.hp
    have ya := h'.ha
    have yg : (List.range n)[i]? = some i := List.getElem?_range (by omega)
    refine vw_chain Tryd.mixed 14 [0, 0, 0, 1, 0, 1, 1, 0, 0, 0, 1, 0, 1, 1] [.det (Bo (rowEqB n (M i) (M1 i))) s] [] 0 (by decide +kernel) (by simp [lpv, hl]) rfl ?_
    simp only [bs, dSure, ↓vopx, ↓vop, Nat.reduceBEq, thenV, Nat.reduceLT, dLoad, vpart, hl, h0, h1, wocs, ↓goc, ↓woc, ↓vopm0, ↓vopm1, ↓callC, calleeV, chn, ↓goq, ↓woq, List.zip_cons_cons, List.zip_nil_right, Tryd.ag69, Tryd.ag70, Tryd.fd72_0, Tryd.sz69, Tryd.sz70, Tryd.un70, xp, xa, xg, yp, ya]
    repeat ((with_reducible refine And.intro ?_ ?_); · first | (with_reducible assumption) | exact ⟨Tryd.is86, bitsSame_ s (rp i) (rq i) n (M i) (h.row (by omega)) (rp1 i) (rq1 i) (M1 i) (h'.row (by omega))⟩)
    refine hK8 _ _ ?_
    refine vck fun A B hA hB => ?_
    simp only [condV, ev_hit, lpv, Nat.reduceLT, Bool.not_eq_true', Bool.not_eq_false', hl]
    refine ⟨fun hc29 => hA ?_, fun hc29 => hB ?_⟩
    · clear hA hB A B
      refine vsk fun K9 hK9 => ?_
      refine vw_sc 0 [] ?_
      simp only [bs, ↓vopx, ↓vop, thenV, flat, wocs, ↓goc, ↓woc, ↓vopm0]
      refine hK9 _ _ ?_
      refine vw_ret ?_
      refine hQ _ _ _ (.inr rfl) (Done.toS (done_tmp ?_ fun n b hn h => h))
      try simp only [ev_hit, lpv, hl, Nat.reduceLT]
      rw [show mxEqB n M M1 = false from by unfold mxEqB; rw [List.all_eq_false]; exact ⟨i, by simp; omega, by have := hc29; unfold rowEqB at this; simp only [this]; simp⟩]
    · clear hA hB A B
      refine vw_skip ?_
      refine hK6 _ _ ?_
      refine vw_sc 0 [] ?_
      simp only [bs, ↓vopx, ↓vop, Nat.reduceBEq, thenV, flat, Nat.reduceLT, opII, hl, h0, h1, h10, h_i, wocs, ↓goc, ↓woc, ↓vopm0]
      repeat ((with_reducible refine And.intro ?_ ?_); · exact ⟨by omega, by omega⟩)
      refine ⟨n - (i + 1), by omega, i + 1, rfl, by omega, ?_⟩
      try simp only [ev_hit, ev_miss, Nat.reduceBEq, lpv, hl, h0, h1, h10, h_i, if_true, if_false, Nat.reduceEqDiff, Nat.reduceLT, true_and, and_true]
      repeat ((with_reducible refine And.intro ?_ ?_); · trivial)
      intro x hx
      rcases Nat.lt_succ_iff_lt_or_eq.1 hx with hx | rfl
      · exact hal x hx
      · exact hc29
  · clear hA hB A B
    have han : n = i := by omega
    refine vw_exit ?_
    simp only [thenV, blockV, if_true]
    refine hK2 _ _ ?_
    refine vsk fun K10 hK10 => ?_
    refine vw_sc 0 [] ?_
    simp only [bs, ↓vopx, ↓vop, thenV, flat, wocs, ↓goc, ↓woc, ↓vopm0]
    refine hK10 _ _ ?_
    refine vw_ret ?_
    refine hQ _ _ _ (.inr rfl) (Done.toS (done_tmp ?_ fun n b hn h => h))
    try simp only [ev_hit, lpv, hl, Nat.reduceLT]
    rw [show mxEqB n M M1 = true from by unfold mxEqB; rw [List.all_eq_true]; exact fun x hx => hal x (by have := List.mem_range.1 hx; omega)]
set_option maxRecDepth 20000 in
theorem relTrans_ (s : Sg) (p n : Nat) (M : Mx) (na : Nat) (rp rq : Nat → Nat) (h : RelP s p n M na rp rq) : DCall Tryd.prog 54 [.ptr p 0] s (Bo (tranB n M)) (s) := by
  refine dcall_of_body Tryd.func54 rfl fun Q hQ => ?_
  obtain ⟨e, he, hl, h0⟩ : ∃ e : Env, ([.ptr p 0] ++ List.replicate (Tryd.f54.ntmps - ([.ptr p 0] : List V).length) .junk) = e ∧ e.length = 11 ∧ ev e (.tmp 0) = .ptr p 0 := ⟨_, rfl, rfl, rfl⟩
  rw [he]
  clear he
  refine vsk fun K1 hK1 => ?_
  refine vw_sc 0 [] ?_
  simp only [bs, ↓vopx, ↓vop, thenV, flat, wocs, ↓goc, ↓woc, ↓vopm0]
  refine hK1 _ _ ?_
  refine vsk fun K2 hK2 => ?_
  refine vw_sc 0 [.far (.bool false), .stop, .stop] ?_
  simp only [bs, ↓vopx, ↓vop, Nat.reduceBEq, thenV, flat, Nat.reduceLT, gtmp, hl, h0, wocs, ↓goc, ↓woc, ↓vopm0, ↓callC, ↓pick_ff, calleeV, ↓yieldC, ↓farC]
  refine ⟨far_neqnil _ _ _ _ _ Tryd.underlying47 _ _, Tryd.is63, (relClosure_ s p n M na rp rq h).mono fun v s2 hv => ?_⟩
  obtain ⟨c, na1, rp1, rq1, rfl, hR, hF, hk, hnx⟩ := hv
  try simp only [bs, Nat.reduceBEq, flat, Nat.reduceLT, hl, h0, ↓pick_ff, Hold]
  refine ⟨Tryd.is77, (relSame_ s2 p n M na rp rq (h.keep hk hnx) c _ na1 rp1 rq1 hR).v ?_⟩
  try simp only [bs, dstT, srcT, Nat.reduceLeDiff, Nat.reduceAdd, vparts, gfill, repl, Sg.frzP, dSure, wops, ↓gow, ↓wop, vops, ↓gop, ↓vopx, ↓vop, Nat.reduceBEq, thenV, blockV, flat, Nat.reduceEqDiff, Nat.reduceLT, V.cells, dLoad, vpart, opII, opSS, gtmp, Sg.frzL, Sg.frz1, reduceCtorEq, hl, h0, wocs, ↓goc, ↓woc, ↓vopm0, ↓vopm1, ↓vopm2, ↓callC, ↓pick_tt, ↓pick_ff, ↓pick_tf, ↓pick_ft, calleeV, ↓yieldC, ↓farC, List.append_nil, Hold]
  refine hK2 _ _ ?_
  refine vw_ret ?_
  refine hQ _ _ _ (.inr rfl) (Done.toS (done_tmp ?_ hk))
  try simp only [ev_hit, lpv, hl, Nat.reduceLT]
  rfl
set_option maxRecDepth 20000 in
theorem relOf_ (s : Sg) (n : Nat) (hn : n ≤ 200) (l : List (Int × Int)) (hl0 : l.length < 1000000000) : VCall Tryd.prog 53 [I n, .t (tPairs l)] s (OfP s n l) := by
  refine kcall_of_body Tryd.func53 rfl fun Q hQ => ?_
  obtain ⟨e, he, hl, h0, h1⟩ : ∃ e : Env, ([I n, .t (tPairs l)] ++ List.replicate (Tryd.f53.ntmps - ([I n, .t (tPairs l)] : List V).length) .junk) = e ∧ e.length = 48 ∧ ev e (.tmp 0) = I n ∧ ev e (.tmp 1) = .t (tPairs l) := ⟨_, rfl, rfl, rfl, rfl⟩
  rw [he]
  clear he
  have hn1 : ¬ ((n : Int) < 0) := by omega
  have hn2 : ¬ ((n : Int) > 200) := by omega
  refine vsk fun K1 hK1 => ?_
  refine vw_sc 0 [] ?_
  simp only [bs, ↓vopx, ↓vop, thenV, flat, wocs, ↓goc, ↓woc, ↓vopm0]
  refine hK1 _ _ ?_
  refine vsk fun K2 hK2 => ?_
  refine vsk fun K3 hK3 => ?_
  refine vw_sc 0 [] ?_
  simp only [bs, ↓vopx, ↓vop, Nat.reduceBEq, thenV, flat, Nat.reduceLT, opII, gtmp, hl, h0, wocs, ↓goc, ↓woc, ↓vopm0, ↓pick_ff, hn1, hn2]
  refine hK3 _ _ ?_
  refine vck fun A B hA hB => ?_
  simp only [condV, ev_hit, lpv, Nat.reduceLT, true_implies, reduceCtorEq, false_implies, true_and, hl]
  refine hB ?_
  clear hA hB A B
  refine vw_skip ?_
  refine hK2 _ _ ?_
  refine vsk fun K4 hK4 => ?_
  refine vw_sc 0 [.stop] ?_
  simp only [bs, ↓vopx, ↓vop, Nat.reduceBEq, thenV, Nat.reduceLT, hl, h0, wocs, ↓goc, ↓woc, ↓vopm0, ↓callC, calleeV]
  refine ⟨Tryd.is30, (relNew_ s n hn).mono fun v s2 hv => ?_⟩
  obtain ⟨c, na1, rp1, rq1, rfl, hR, hF, hk, hnx⟩ := hv
  try simp only [bs, Nat.reduceBEq, Nat.reduceLT, hl, h0, Hold]
  refine hK4 _ _ ?_
  refine vsk fun K5 hK5 => ?_
  refine vsk fun K6 hK6 => ?_
  refine vw_sc 0 [] ?_
  simp only [bs, ↓vopx, ↓vop, Nat.reduceBEq, thenV, flat, Nat.reduceLT, hl, h1, wocs, ↓goc, ↓woc, ↓vopm0, len_tPairs]
  refine hK6 _ _ ?_
  refine vw_block ?_
  refine vw_loop (fun mm e' s' => ∃ i : Nat, mm = l.length - i ∧ i ≤ l.length ∧ e'.length = 48 ∧ ev e' (.tmp 17) = .t (tPairs l) ∧ ev e' (.tmp 6) = .ptr c 0 ∧ ev e' (.tmp 18) = I l.length ∧ ev e' (.tmp 19) = I i ∧ True ∧ RelP s' c n (mxOf (l.take i)) na1 rp1 rq1 ∧ (l.take i).all (inB n) = true ∧ Keep s s' ∧ s.next ≤ s'.next) (⟨0, rfl, Nat.zero_le _, ?_⟩) ?_
  · try simp only [ev_hit, ev_miss, Nat.reduceBEq, lpv, hl, Nat.reduceLT, true_and]
    repeat ((with_reducible refine And.intro ?_ ?_); · trivial)
    all_goals (first | exact hnx | exact ⟨hR.congr fun x y hx hy => by simp [mxOf], by simp, hk, hnx⟩)
  rintro mm e s1 ⟨i, rfl, hle_i, hl, h17, h6, h18, h_i, hst, ⟨hd, hall, hkeep, hnx⟩⟩
  refine vsk fun K7 hK7 => ?_
  refine vw_sc 0 [] ?_
  simp only [thenV, opII, h18, h_i, wocs, ↓goc, ↓woc]
  refine hK7 _ _ ?_
  refine vsk fun K8 hK8 => ?_
  refine vck fun A B hA hB => ?_
  simp only [condV, ev_hit, Nat.reduceLT, decide_eq_true_eq, decide_eq_false_iff_not, hl]
  refine ⟨fun hc20 => hA ?_, fun hc20 => hB ?_⟩
  · clear hA hB A B
    refine vw_skip ?_
    refine hK8 _ _ ?_
    refine vsk fun K9 hK9 => ?_
    refine vw_block ?_
    refine vsk fun K10 hK10 => ?_
    have hlt : i < l.length := by omega
    obtain ⟨p, hp⟩ : ∃ p, l[i]? = some p := ⟨_, List.getElem?_eq_getElem hlt⟩
    have g0 := dropP hp
    have hfl := flat_length l
    have hi2 : i * 2 < l.length * 2 := by omega
    refine vw_sc 0 [] ?_
    simp only [bs, Nat.reduceAdd, ↓vopx, ↓vop, Nat.reduceBEq, thenV, Nat.reduceLT, V.cells, dLoad, vpart, hl, h17, h_i, wocs, ↓goc, ↓woc, ↓vopm0, Tryd.ag30, Tryd.sz30, Tryd.un24, Tryd.zv30, g0, hfl, hi2]
    refine hK10 _ _ ?_
    refine vsk fun K11 hK11 => ?_
    refine vsk fun K12 hK12 => ?_
    refine vw_env2 fun e2 sb hE2 hSb => ?_
    subst hE2
    have hbx : sb.m s1.next = some (.box 30 [I p.1, I p.2]) := by rw [hSb]; simp [Sg.set, Sg.add]
    have hd2 : RelP sb c n (mxOf (l.take i)) na1 rp1 rq1 := by rw [hSb]; exact hd.keep (((Keep.refl s1).add (Nat.le_refl _) _).set (Nat.le_refl _) _) (by simp [Sg.set, Sg.add])
    rcases (show (¬ (0 ≤ p.1 ∧ p.1 < n)) ∨ ((0 ≤ p.1 ∧ p.1 < n) ∧ ¬ (0 ≤ p.2 ∧ p.2 < n)) ∨ ((0 ≤ p.1 ∧ p.1 < n) ∧ (0 ≤ p.2 ∧ p.2 < n)) by omega) with ha | ⟨ha, hb⟩ | hin
    · have hbad : inB n p = false := by simp only [inB, ha, decide_false, Bool.false_and]
      refine vw_sc 0 [.det (Bo (decide (0 ≤ p.1 ∧ p.1 < n))) sb] ?_
      simp only [bs, ↓vopx, ↓vop, Nat.reduceBEq, thenV, flat, Nat.reduceLT, dLoad, vpart, gtmp, hl, h6, wocs, ↓goc, ↓woc, ↓vopm0, ↓callC, ↓pick_tf, calleeV, Tryd.ag3, Tryd.fd30_0, Tryd.sz3, hbx, ha]
      repeat ((with_reducible refine And.intro ?_ ?_); · exact ⟨Tryd.is34, by simpa only [*, and_self, decide_true, decide_false] using relThere_ sb c n na1 hd2.hp p.1⟩)
      refine hK12 _ _ ?_
      refine vck fun A B hA hB => ?_
      simp only [condV, ev_hit, lpv, Nat.reduceLT, true_implies, reduceCtorEq, false_implies, and_true, hl]
      refine hA ?_
      clear hA hB A B
      refine vsk fun K13 hK13 => ?_
      refine vw_sc 0 [] ?_
      simp only [bs, ↓vopx, ↓vop, thenV, flat, wocs, ↓goc, ↓woc, ↓vopm0]
      refine hK13 _ _ ?_
      refine vw_ret ?_
      refine hQ _ _ _ (.inr rfl) (donek_pair (v := .t (.v (.pointer none))) (v' := I 10) ?_ ?_ rfl rfl (.inr ⟨all_bad hp hbad, rfl, by rw [hSb]; exact ((hkeep.add hnx _).set (by omega) _), by rw [hSb]; simp [Sg.set, Sg.add]; omega⟩))
      try simp only [ev_hit, ev_miss, Nat.reduceBEq, lpv, hl, Nat.reduceLT]
      try simp only [ev_hit, lpv, hl, Nat.reduceLT]
    · have hbad : inB n p = false := by simp only [inB, hb, decide_false, Bool.and_false]
      refine vw_sc 0 [.det (Bo (decide (0 ≤ p.1 ∧ p.1 < n))) sb, .det (Bo (decide (0 ≤ p.2 ∧ p.2 < n))) sb] ?_
      simp only [bs, ↓vopx, ↓vop, Nat.reduceBEq, thenV, flat, Nat.reduceLT, dLoad, vpart, gtmp, hl, h6, wocs, ↓goc, ↓woc, ↓vopm0, ↓callC, ↓pick_ff, calleeV, Tryd.ag3, Tryd.fd30_0, Tryd.fd30_1, Tryd.sz3, hbx, ha, hb, and_self]
      repeat ((with_reducible refine And.intro ?_ ?_); · first | exact ⟨Tryd.is34, by simpa only [*, and_self, decide_true, decide_false] using relThere_ sb c n na1 hd2.hp p.1⟩ | exact ⟨Tryd.is34, by simpa only [*, and_self, decide_true, decide_false] using relThere_ sb c n na1 hd2.hp p.2⟩)
      refine hK12 _ _ ?_
      refine vck fun A B hA hB => ?_
      simp only [condV, ev_hit, lpv, Nat.reduceLT, true_implies, reduceCtorEq, false_implies, and_true, hl]
      refine hA ?_
      clear hA hB A B
      refine vsk fun K14 hK14 => ?_
      refine vw_sc 0 [] ?_
      simp only [bs, ↓vopx, ↓vop, thenV, flat, wocs, ↓goc, ↓woc, ↓vopm0]
      refine hK14 _ _ ?_
      refine vw_ret ?_
      refine hQ _ _ _ (.inr rfl) (donek_pair (v := .t (.v (.pointer none))) (v' := I 10) ?_ ?_ rfl rfl (.inr ⟨all_bad hp hbad, rfl, by rw [hSb]; exact ((hkeep.add hnx _).set (by omega) _), by rw [hSb]; simp [Sg.set, Sg.add]; omega⟩))
      try simp only [ev_hit, ev_miss, Nat.reduceBEq, lpv, hl, Nat.reduceLT]
      try simp only [ev_hit, lpv, hl, Nat.reduceLT]
    · refine vw_sc 0 [.det (Bo (decide (0 ≤ p.1 ∧ p.1 < n))) sb, .det (Bo (decide (0 ≤ p.2 ∧ p.2 < n))) sb] ?_
      simp only [bs, ↓vopx, ↓vop, Nat.reduceBEq, thenV, flat, Nat.reduceLT, dLoad, vpart, gtmp, hl, h6, wocs, ↓goc, ↓woc, ↓vopm0, ↓callC, ↓pick_ff, calleeV, Tryd.ag3, Tryd.fd30_0, Tryd.fd30_1, Tryd.sz3, hbx, hin, and_self]
      repeat ((with_reducible refine And.intro ?_ ?_); · first | exact ⟨Tryd.is34, by simpa only [*, and_self, decide_true, decide_false] using relThere_ sb c n na1 hd2.hp p.1⟩ | exact ⟨Tryd.is34, by simpa only [*, and_self, decide_true, decide_false] using relThere_ sb c n na1 hd2.hp p.2⟩)
      refine hK12 _ _ ?_
      refine vck fun A B hA hB => ?_
      simp only [condV, ev_hit, lpv, Nat.reduceLT, true_implies, reduceCtorEq, false_implies, true_and, hl]
      refine hB ?_
      clear hA hB A B
      refine vw_skip ?_
      refine hK11 _ _ ?_
      obtain ⟨a, ha⟩ : ∃ a : Nat, p.1 = (a : Int) := ⟨p.1.toNat, by omega⟩
      obtain ⟨b, hb⟩ : ∃ b : Nat, p.2 = (b : Int) := ⟨p.2.toNat, by omega⟩
      have x1 := hd2.hp
      have x2 := hd2.ha
      have x3 : (List.range n)[a]? = some a := List.getElem?_range (by omega)
      refine vw_chain Tryd.mixed 10 [0, 0, 0, 1, 0, 1, 1, 1, 0, 1] [.det (.tup []) (sb.set (rq1 a) (.arr 1 92 (rowW n (updB (mxOf (l.take i) a) b true))))] [] 0 (by decide +kernel) (by simp [lpv, hl]) rfl ?_
      simp only [bs, dSure, ↓vopx, ↓vop, Nat.reduceBEq, thenV, blockV, flat, Nat.reduceLT, dLoad, vpart, hl, h6, wocs, ↓goc, ↓woc, ↓vopm1, ↓callC, calleeV, chn, ↓goq, ↓woq, List.zip_cons_cons, List.zip_nil_right, Tryd.ag69, Tryd.ag70, Tryd.ag3, Tryd.fd72_0, Tryd.fd30_0, Tryd.fd30_1, Tryd.sz69, Tryd.sz70, Tryd.sz3, Tryd.un70, hbx, ha, hb, x1, x2, x3]
      repeat ((with_reducible refine And.intro ?_ ?_); · first | omega | exact ⟨Tryd.is57, bitsPut_ sb (rp1 a) (rq1 a) n _ (hd2.row (by omega)) (hd2.lq a (by omega)) b (by omega)⟩)
      refine hK9 _ _ ?_
      refine vw_sc 0 [] ?_
      simp only [bs, ↓vopx, ↓vop, Nat.reduceBEq, thenV, flat, Nat.reduceLT, opII, hl, h17, h6, h18, h_i, wocs, ↓goc, ↓woc, ↓vopm0]
      repeat ((with_reducible refine And.intro ?_ ?_); · exact ⟨by omega, by omega⟩)
      refine ⟨l.length - (i + 1), by omega, i + 1, rfl, by omega, ?_⟩
      try simp only [ev_hit, ev_miss, Nat.reduceBEq, lpv, hl, h17, h6, h18, h_i, if_true, if_false, Nat.reduceEqDiff, Nat.reduceLT, true_and, and_true]
      repeat ((with_reducible refine And.intro ?_ ?_); · trivial)
      refine ⟨?_, all_take hp hall (by simp [inB, hin.1, hin.2]), ?_, ?_⟩
      · rw [mxOf_take hp, updM_or]; rw [show p.1.toNat = a from by omega, show p.2.toNat = b from by omega]; exact (hd2.put (by omega) _).congr fun x y hx hy => upd_row _ _ _ _ _
      · rw [hSb]; exact ((hkeep.add hnx _).set (by omega) _).set (hF.hq a (by omega)) _
      · rw [hSb]; simp [Sg.set, Sg.add]; omega
  · clear hA hB A B
    have han : i = l.length := by omega
    rw [han, List.take_length] at hall hd
    refine vw_exit ?_
    simp only [thenV, blockV, if_true]
    refine hK5 _ _ ?_
    refine vsk fun K15 hK15 => ?_
    refine vw_sc 0 [] ?_
    simp only [bs, ↓vopx, ↓vop, Nat.reduceBEq, thenV, flat, Nat.reduceLT, hl, h6, wocs, ↓goc, ↓woc, ↓vopm0]
    refine hK15 _ _ ?_
    refine vw_ret ?_
    refine hQ _ _ _ (.inr rfl) (donek_pair (v := .ptr c 0) (v' := I 0) ?_ ?_ rfl rfl (.inl ⟨hall, c, na1, rp1, rq1, rfl, hd, hF, hkeep, hnx⟩))
    try simp only [ev_hit, ev_miss, Nat.reduceBEq, lpv, hl, Nat.reduceLT]
    try simp only [ev_hit, lpv, hl, Nat.reduceLT]
end Go.Proofs

open Go Go.V
namespace Go.Proofs
structure EachI (n0 cb p n : Nat) (M : Mx) (na : Nat) (rp rq : Nat → Nat) (Iv : (Nat → Prop) → Nat → Nat → Sg → Prop) : Prop where
  hI : ∀ X a b s, Iv X a b s → s.m cb = some (.box 47 [.ptr p 0]) ∧ RelP s p n M na rp rq ∧ ∀ x, X x → x < s.next
  hadd : ∀ X a b s k, Iv X a b s → Iv (fun m => X m ∨ m = s.next) a b (s.add k)
  hset : ∀ X a b s x k, Iv X a b s → X x → Iv X a b (s.set x k)
  hdel : ∀ X a b s x, Iv X a b s → X x → Iv X a b (s.del x)
  hsk : ∀ X a b s, a < n → b < n → M a b = false → Iv X a b s → Iv X a (b + 1) s
  hrow : ∀ X a s, a < n → Iv X a n s → Iv X (a + 1) 0 s
  hY : ∀ X a b s, a < n → b < n → M a b = true → Iv X a b s → YCall Tryd.prog n0 [I a, I b] s fun v s' => v = Bo true ∧ Iv X a (b + 1) s' ∧ ∀ x, X x → s'.m x = s.m x
structure RowI (Iv : (Nat → Prop) → Nat → Nat → Sg → Prop) (X : Nat → Prop) (n0 yb ab cb2 nl a : Nat) (rpa : Nat) (lp : Blk) (k : Nat) (s : Sg) : Prop where
  iv : Iv X a k s
  y : s.m yb = some (.box 50 [.yl n0])
  a : s.m ab = some (.box 3 [I a])
  c : s.m cb2 = some (.box 69 [.ptr rpa 0])
  l : s.m nl = some lp
def YielE (n0 yb : Nat) (Iv : (Nat → Prop) → Nat → Nat → Sg → Prop) (a : Nat) (s : Sg) : Prop := ∃ X, Iv X a 0 s ∧ X yb ∧ s.m yb = some (.box 50 [.yl n0])
set_option maxRecDepth 20000 in
theorem relEach_ (s : Sg) (p : Nat) : VCall Tryd.prog 82 [.ptr p 0] s (fun v s' => v = .clo 89 [.ptr s.next 0] ∧ s' = s.add (.box 47 [.ptr p 0])) := by
  refine kcall_of_body Tryd.func82 rfl fun Q hQ => ?_
  obtain ⟨e, he, hl, h0⟩ : ∃ e : Env, ([.ptr p 0] ++ List.replicate (Tryd.f82.ntmps - ([.ptr p 0] : List V).length) .junk) = e ∧ e.length = 4 ∧ ev e (.tmp 0) = .ptr p 0 := ⟨_, rfl, rfl, rfl⟩
  rw [he]
  clear he
  refine vsk fun K1 hK1 => ?_
  refine vw_sc 0 [] ?_
  simp only [bs, ↓vopx, ↓vop, thenV, flat, V.cells, h0, wocs, ↓goc, ↓woc, ↓vopm0]
  refine hK1 _ _ ?_
  refine vsk fun K2 hK2 => ?_
  refine vw_sc 0 [] ?_
  simp only [bs, ↓vopx, ↓vop, Nat.reduceBEq, thenV, Nat.reduceLT, hl, wocs, ↓goc, ↓woc, ↓vopm0, capOk, List.all_cons, List.all_nil, Bool.and_self]
  refine hK2 _ _ ?_
  refine vw_ret ?_
  refine hQ _ _ _ (.inr rfl) (donek_tmp (v := .clo 89 [.ptr s.next 0]) ?_ rfl ⟨rfl, rfl⟩)
  try simp only [ev_hit, lpv, hl, Nat.reduceLT]
set_option maxRecDepth 20000 in
theorem relEach1_ (n0 cb p n : Nat) (M : Mx) (na : Nat) (rp rq : Nat → Nat) (Iv : (Nat → Prop) → Nat → Nat → Sg → Prop) (E : EachI n0 cb p n M na rp rq Iv) (s : Sg) (hs0 : Iv (fun _ => False) 0 0 s) : VCall Tryd.prog 89 [.yl n0, .ptr cb 0] s (fun _ s' => ∃ X, Iv X n 0 s') := by
  refine kcall_of_body Tryd.func89 rfl fun Q hQ => ?_
  obtain ⟨e, he, hl, h0, h1⟩ : ∃ e : Env, ([.yl n0, .ptr cb 0] ++ List.replicate (Tryd.f89.ntmps - ([.yl n0, .ptr cb 0] : List V).length) .junk) = e ∧ e.length = 25 ∧ ev e (.tmp 0) = .yl n0 ∧ ev e (.tmp 1) = .ptr cb 0 := ⟨_, rfl, rfl, rfl, rfl⟩
  rw [he]
  clear he
  obtain ⟨hcb, hrel, _⟩ := E.hI _ _ _ s hs0
  have hle := hrel.le
  have hcbl : ¬ cb = s.next := fun e => by obtain ⟨h1, _, _⟩ := E.hI _ _ _ _ (E.hadd _ _ _ s (.box 50 [.yl n0]) hs0); rw [e] at h1; simp [Sg.add] at h1
  refine vsk fun K1 hK1 => ?_
  refine vw_sc 0 [] ?_
  simp only [↓vopx, ↓vop, thenV, V.cells, h0, wocs, ↓goc, ↓woc, ↓vopm0]
  refine hK1 _ _ ?_
  refine vsk fun K2 hK2 => ?_
  refine vw_sc 0 [.det (I n) (s.add (.box 50 [.yl n0]))] ?_
  simp only [bs, ↓vopx, ↓vop, Nat.reduceBEq, thenV, flat, Nat.reduceLT, dLoad, vpart, hl, h1, wocs, ↓goc, ↓woc, ↓vopm0, ↓callC, calleeV, Tryd.ag47, Tryd.sz47, hcb, hcbl]
  repeat ((with_reducible refine And.intro ?_ ?_); · exact ⟨Tryd.is58, relLen_ _ p n na (by have := (E.hI _ _ _ _ (E.hadd _ _ _ s (.box 50 [.yl n0]) hs0)).2.1.hp; exact this)⟩)
  refine hK2 _ _ ?_
  refine vw_block ?_
  refine vw_loop (fun mm e' s' => ∃ a : Nat, mm = n - a ∧ a ≤ n ∧ e'.length = 25 ∧ ev e' (.tmp 1) = .ptr cb 0 ∧ ev e' (.tmp 2) = .ptr s.next 0 ∧ ev e' (.tmp 6) = I n ∧ ev e' (.tmp 7) = I a ∧ True ∧ YielE n0 s.next Iv a s') (⟨0, rfl, Nat.zero_le _, ?_⟩) ?_
  · try simp only [ev_hit, ev_miss, Nat.reduceBEq, lpv, hl, h1, Nat.reduceLT, true_and]
    repeat ((with_reducible refine And.intro ?_ ?_); · trivial)
    exact ⟨_, E.hadd _ _ _ s _ hs0, .inr rfl, by simp [Sg.add]⟩
  rintro mm e s1 ⟨a, rfl, hle_a, hl, h1, h2, h6, h_a, hst, ⟨X, hiv, hyX, hyb⟩⟩
  refine vsk fun K3 hK3 => ?_
  refine vw_sc 0 [] ?_
  simp only [thenV, opII, h6, h_a, wocs, ↓goc, ↓woc]
  refine hK3 _ _ ?_
  refine vsk fun K4 hK4 => ?_
  refine vck fun A B hA hB => ?_
  simp only [condV, ev_hit, Nat.reduceLT, decide_eq_true_eq, decide_eq_false_iff_not, hl]
  refine ⟨fun hc8 => hA ?_, fun hc8 => hB ?_⟩
  · clear hA hB A B
    refine vw_skip ?_
    refine hK4 _ _ ?_
    refine vsk fun K5 hK5 => ?_
    refine vw_block ?_
    refine vsk fun K6 hK6 => ?_
    obtain ⟨hcb1, hr1, hXX⟩ := E.hI _ _ _ _ hiv
    refine vw_sc 0 [] ?_
    simp only [bs, ↓vopx, ↓vop, Nat.reduceBEq, thenV, Nat.reduceLT, V.cells, hl, h_a, wocs, ↓goc, ↓woc, ↓vopm0, Tryd.sz3, Tryd.zv3]
    refine hK6 _ _ ?_
    refine vsk fun K7 hK7 => ?_
    refine vw_env2 fun e2 sb hE2 hSb => ?_
    subst hE2
    have hivb : Iv (fun m => X m ∨ m = s1.next) a 0 sb := by rw [hSb]; exact E.hset _ _ _ _ _ _ (E.hadd _ _ _ s1 _ hiv) (.inr rfl)
    obtain ⟨hcbb, hrb, hXb⟩ := E.hI _ _ _ _ hivb
    have xp := hrb.hp
    have xa := hrb.ha
    have xg : (List.range n)[a]? = some a := List.getElem?_range (by omega)
    have hab : sb.m s1.next = some (.box 3 [I a]) := by rw [hSb]; simp [Sg.set]
    have hybn : s.next < s1.next := hXX _ hyX
    have hyb2 : sb.m s.next = some (.box 50 [.yl n0]) := by rw [hSb]; simp [Sg.set, Sg.add, show s.next ≠ s1.next by omega, hyb]
    refine vw_chain Tryd.mixed 5 [1, 0, 0, 1, 1] [] [.stop] 0 (by decide +kernel) (by simp [lpv, hl]) rfl ?_
    simp only [bs, Nat.reduceAdd, dSure, ↓vopx, ↓vop, Nat.reduceBEq, thenV, Nat.reduceLT, dLoad, vpart, hl, h1, wocs, ↓goc, ↓woc, ↓vopm0, ↓vopm1, ↓callC, calleeV, chn, ↓goq, ↓woq, List.zip_cons_cons, List.zip_nil_right, Tryd.ag69, Tryd.ag70, Tryd.ag3, Tryd.ag47, Tryd.fd72_0, Tryd.sz69, Tryd.sz70, Tryd.sz3, Tryd.sz47, Tryd.un70, hcbb, xp, xa, xg, hab]
    refine ⟨by omega, Tryd.is88, (bitsEach_ sb (rp a)).mono fun v s2 hv => ?_⟩
    obtain ⟨rfl, rfl⟩ := hv
    try simp only [bs, Nat.reduceLT, hl, Hold]
    refine hK7 _ _ ?_
    refine vw_block ?_
    refine vw_env2 fun e1 s3 hE hS => ?_
    have hlE : e1.length = 25 := by rw [hE]; simp only [lpv, hl]
    have h1E : ev e1 (.tmp 1) = .ptr cb 0 := by rw [hE]; simp only [ev_miss, Nat.reduceBEq, h1]
    have h2E : ev e1 (.tmp 2) = .ptr s.next 0 := by rw [hE]; simp only [ev_miss, Nat.reduceBEq, h2]
    have h3E : ev e1 (.tmp 3) = .ptr s1.next 0 := by rw [hE]; simp only [ev_hit, ev_miss, Nat.reduceBEq, lpv, hl, Nat.reduceLT]
    have h6E : ev e1 (.tmp 6) = I n := by rw [hE]; simp only [ev_miss, Nat.reduceBEq, h6]
    have h_aE : ev e1 (.tmp 7) = I a := by rw [hE]; simp only [ev_miss, Nat.reduceBEq, h_a]
    have h17E : ev e1 (.tmp 17) = .clo 90 [.ptr sb.next 0] := by rw [hE]; simp only [ev_hit, lpv, hl, Nat.reduceLT]
    clear hE
    have h3n : s3.next = sb.next + 1 := by rw [hS]; rfl
    have hsbn : sb.next = s1.next + 1 := by rw [hSb]; rfl
    have hiv3 : Iv (fun m => (X m ∨ m = s1.next) ∨ m = sb.next) a 0 s3 := by rw [hS]; exact E.hadd _ _ _ sb _ hivb
    have h3y : s3.m s.next = some (.box 50 [.yl n0]) := by rw [hS]; simp [Sg.add, show s.next ≠ sb.next by omega, hyb2]
    have h3a : s3.m s1.next = some (.box 3 [I a]) := by rw [hS]; simp [Sg.add, show s1.next ≠ sb.next by omega, hab]
    have h3c : s3.m sb.next = some (.box 69 [.ptr (rp a) 0]) := by rw [hS]; simp [Sg.add]
    clear hS
    refine vw_range (g := 90) (caps := [.ptr sb.next 0]) h17E Tryd.func90 rfl (by decide) fun s4 h4e h4n h4m h4l => ?_
    have hiv4 : Iv (fun m => ((X m ∨ m = s1.next) ∨ m = sb.next) ∨ m = s3.next) a 0 s4 := by rw [h4e]; exact E.hadd _ _ _ s3 _ hiv3
    refine (bitsEach1_ s3.next sb.next (rp a) (rq a) n (M a) (RowI Iv (fun m => ((X m ∨ m = s1.next) ∨ m = sb.next) ∨ m = s3.next) n0 s.next s1.next sb.next s3.next a (rp a) _) (fun _ => False) (fun k s5 hk => ⟨hk.c, (E.hI _ _ _ _ hk.iv).2.1.row (by omega)⟩) (fun k s5 hkn hg hk => ⟨E.hsk _ _ _ _ (by omega) hkn hg hk.iv, hk.y, hk.a, hk.c, hk.l⟩) (fun k s5 hkn hg hk => ?_) s4 ⟨hiv4, by rw [h4m _ (by omega)]; exact h3y, by rw [h4m _ (by omega)]; exact h3a, by rw [h4m _ (by omega)]; exact h3c, h4l⟩).mono fun v s6 h6 => ?_
    rotate_left
    · rcases h6 with h6 | h6
      rotate_left
      · exact h6.elim
      refine ⟨none, .ready, h6.l, by simp, ?_⟩
      simp only []
      refine hK5 _ _ ?_
      refine vw_sc 0 [] ?_
      simp only [bs, ↓vopx, ↓vop, Nat.reduceBEq, thenV, flat, Nat.reduceLT, opII, hlE, h1E, h2E, h6E, h_aE, wocs, ↓goc, ↓woc, ↓vopm0]
      repeat ((with_reducible refine And.intro ?_ ?_); · exact ⟨by omega, by omega⟩)
      refine ⟨n - (a + 1), by omega, a + 1, rfl, by omega, ?_⟩
      try simp only [ev_hit, ev_miss, Nat.reduceBEq, lpv, hl, h1, h2, h6, h_a, if_true, if_false, Nat.reduceEqDiff, Nat.reduceLT, true_and, and_true]
      repeat ((with_reducible refine And.intro ?_ ?_); · trivial)
      exact ⟨_, E.hrow _ _ _ (by omega) (E.hdel _ _ _ _ _ h6.iv (.inr rfl)), .inl (.inl (.inl hyX)), by simp [Sg.del, show s.next ≠ s3.next by omega, h6.y]⟩
    refine ycall_of hk.l rfl fun KA hKA => ?_
    rw [show (#[18] : Array Tmp).toList = [18] from rfl, setps_one]
    refine vw_sc 0 [] ?_
    simp only [bs, ↓vopx, ↓vop, thenV, Nat.reduceLT, hlE, wocs, ↓goc, ↓woc, ↓vopm0]
    refine hKA _ _ hk.l ?_
    refine vw_env2 fun e2 sc hE2 hSc => ?_
    subst hE2
    have hcy : sc.m s.next = some (.box 50 [.yl n0]) := by rw [hSc]; simp [Sg.set, show s.next ≠ s3.next by omega, hk.y]
    have hca : sc.m s1.next = some (.box 3 [I a]) := by rw [hSc]; simp [Sg.set, show s1.next ≠ s3.next by omega, hk.a]
    have hcc : sc.m sb.next = some (.box 69 [.ptr (rp a) 0]) := by rw [hSc]; simp [Sg.set, show sb.next ≠ s3.next by omega, hk.c]
    have hivc : Iv (fun m => ((X m ∨ m = s1.next) ∨ m = sb.next) ∨ m = s3.next) a k sc := by rw [hSc]; exact E.hset _ _ _ _ _ _ hk.iv (.inr rfl)
    refine vw_block ?_
    refine vsk fun K8 hK8 => ?_
    refine vw_sc 0 [.stop] ?_
    simp only [bs, ↓vopx, ↓vop, Nat.reduceBEq, thenV, Nat.reduceLT, dLoad, vpart, hlE, h2E, h3E, wocs, ↓goc, ↓woc, ↓vopm0, calleeV, ↓yieldC, Tryd.ag3, Tryd.ag50, Tryd.sz3, Tryd.sz50, hcy, hca]
    refine YCall.mono (E.hY _ a k sc (by omega) hkn hg hivc) fun v s2 hv => ?_
    obtain ⟨rfl, hiv2, hfr⟩ := hv
    try simp only [bs, Nat.reduceBEq, Nat.reduceLT, hlE, Hold]
    refine hK8 _ _ ?_
    refine vck fun A B hA hB => ?_
    simp only [condV, ev_hit, lpv, Nat.reduceLT, true_implies, reduceCtorEq, false_implies, true_and, hlE]
    refine hB ?_
    clear hA hB A B
    refine vw_skip ?_
    refine And.intro (by rw [hfr s3.next (.inr rfl), hSc]; simp [Sg.set]) (Or.inl (And.intro rfl ⟨E.hset _ _ _ _ _ _ hiv2 (.inr rfl), ?_, ?_, ?_, by simp [Sg.set]⟩))
    · simp [Sg.set, show s.next ≠ s3.next by omega, hfr s.next (.inl (.inl (.inl hyX))), hcy]
    · simp [Sg.set, show s1.next ≠ s3.next by omega, hfr s1.next (.inl (.inl (.inr rfl))), hca]
    · simp [Sg.set, show sb.next ≠ s3.next by omega, hfr sb.next (.inl (.inr rfl)), hcc]
  · clear hA hB A B
    have han : n = a := by omega
    subst han
    refine vw_exit ?_
    simp only [thenV, blockV, if_true]
    exact hQ _ _ _ (.inl rfl) ⟨[], rfl, rfl, X, hiv⟩
end Go.Proofs

open Go Go.V
namespace Go.Proofs
structure PairI (s : Sg) (lp : Blk) (v cb n0 p n : Nat) (M : Mx) (X : Nat → Prop) (a b : Nat) (s' : Sg) (m : Nat) : Prop where
  hv : s'.m v = some (.box 24 [.loc m 0 (prB n M a b).length])
  hm : s'.m m = some (.arr 2 30 ((prB n M a b).flatMap pcells))
  hc : s'.m cb = some (.box 47 [.ptr p 0])
  hl : s'.m n0 = some lp
  hk : Keep s s'
  nx : s.next ≤ s'.next
  bv : s.next ≤ v ∧ v < s'.next
  bm : s.next ≤ m ∧ m < s'.next
  bc : s.next ≤ cb ∧ cb < s'.next
  bl : s.next ≤ n0 ∧ n0 < s'.next
  d : v ≠ m ∧ v ≠ n0 ∧ m ≠ n0 ∧ cb ≠ v ∧ cb ≠ m ∧ cb ≠ n0
  hX : ∀ x, X x → s.next ≤ x ∧ x < s'.next ∧ x ≠ v ∧ x ≠ m ∧ x ≠ cb ∧ x ≠ n0
def PairIv (s : Sg) (lp : Blk) (v cb n0 p n : Nat) (M : Mx) (X : Nat → Prop) (a b : Nat) (s' : Sg) : Prop := ∃ m, PairI s lp v cb n0 p n M X a b s' m
variable {s : Sg} {lp : Blk} {v cb n0 p n : Nat} {M : Mx} {X : Nat → Prop} {a b : Nat} {s' : Sg} {m : Nat}
theorem PairI.add (h : PairI s lp v cb n0 p n M X a b s' m) (k : Blk) : PairI s lp v cb n0 p n M (fun x => X x ∨ x = s'.next) a b (s'.add k) m := by
  have h1 := h.bv; have h2 := h.bm; have h3 := h.bc; have h4 := h.bl; have h5 := h.nx
  have n1 : v ≠ s'.next := by omega
  have n2 : m ≠ s'.next := by omega
  have n3 : cb ≠ s'.next := by omega
  have n4 : n0 ≠ s'.next := by omega
  refine ⟨by simp [Sg.add, n1, h.hv], by simp [Sg.add, n2, h.hm], by simp [Sg.add, n3, h.hc], by simp [Sg.add, n4, h.hl], h.hk.add h.nx k, by simp [Sg.add]; omega, by simp [Sg.add]; omega, by simp [Sg.add]; omega, by simp [Sg.add]; omega, by simp [Sg.add]; omega, h.d, fun x hx => ?_⟩
  rcases hx with hx | rfl
  · obtain ⟨q1, q2, q3⟩ := h.hX x hx; exact ⟨q1, by simp [Sg.add]; omega, q3⟩
  · exact ⟨h5, by simp [Sg.add], Ne.symm n1, Ne.symm n2, Ne.symm n3, Ne.symm n4⟩
theorem PairI.set (h : PairI s lp v cb n0 p n M X a b s' m) {x : Nat} (hx : X x) (k : Blk) : PairI s lp v cb n0 p n M X a b (s'.set x k) m := by
  obtain ⟨q1, q2, q3, q4, q5, q6⟩ := h.hX x hx
  refine ⟨by simp [Sg.set, Ne.symm q3, h.hv], by simp [Sg.set, Ne.symm q4, h.hm], by simp [Sg.set, Ne.symm q5, h.hc], by simp [Sg.set, Ne.symm q6, h.hl], h.hk.set q1 k, h.nx, h.bv, h.bm, h.bc, h.bl, h.d, h.hX⟩
theorem PairI.del (h : PairI s lp v cb n0 p n M X a b s' m) {x : Nat} (hx : X x) : PairI s lp v cb n0 p n M X a b (s'.del x) m := by
  obtain ⟨q1, q2, q3, q4, q5, q6⟩ := h.hX x hx
  refine ⟨by simp [Sg.del, Ne.symm q3, h.hv], by simp [Sg.del, Ne.symm q4, h.hm], by simp [Sg.del, Ne.symm q5, h.hc], by simp [Sg.del, Ne.symm q6, h.hl], h.hk.del q1, h.nx, h.bv, h.bm, h.bc, h.bl, h.d, h.hX⟩
theorem PairI.to {a' b' : Nat} (h : PairI s lp v cb n0 p n M X a b s' m) (e : prB n M a b = prB n M a' b') : PairI s lp v cb n0 p n M X a' b' s' m :=
  ⟨by rw [← e]; exact h.hv, by rw [← e]; exact h.hm, h.hc, h.hl, h.hk, h.nx, h.bv, h.bm, h.bc, h.bl, h.d, h.hX⟩
theorem PairI.push (h : PairI s lp v cb n0 p n M X a b s' m) (hM : M a b = true) (b1 B : Blk) :
    PairI s lp v cb n0 p n M X a (b + 1) ((((((s'.set n0 b1).add B).del m).add (.arr 2 30 ((prB n M a b).flatMap pcells ++ [TI a, TI b]))).set v (.box 24 [.loc (s'.next + 1) 0 ((prB n M a b).length + 1)])).set n0 lp) (s'.next + 1) ∧
    ∀ x, X x → ((((((s'.set n0 b1).add B).del m).add (.arr 2 30 ((prB n M a b).flatMap pcells ++ [TI a, TI b]))).set v (.box 24 [.loc (s'.next + 1) 0 ((prB n M a b).length + 1)])).set n0 lp).m x = s'.m x := by
  have h1 := h.bv; have h2 := h.bm; have h3 := h.bc; have h4 := h.bl; have h5 := h.nx
  obtain ⟨d1, d2, d3, d4, d5, d6⟩ := h.d
  have n1 : v ≠ s'.next := by omega
  have n2 : m ≠ s'.next := by omega
  have n3 : cb ≠ s'.next := by omega
  have n4 : n0 ≠ s'.next := by omega
  have m1 : v ≠ s'.next + 1 := by omega
  have m2 : m ≠ s'.next + 1 := by omega
  have m3 : cb ≠ s'.next + 1 := by omega
  have m4 : n0 ≠ s'.next + 1 := by omega
  refine ⟨⟨?_, ?_, ?_, by simp [Sg.set], ?_, by simp [Sg.set, Sg.add, Sg.del]; omega, by simp [Sg.set, Sg.add, Sg.del]; omega, by simp [Sg.set, Sg.add, Sg.del]; omega, by simp [Sg.set, Sg.add, Sg.del]; omega, by simp [Sg.set, Sg.add, Sg.del]; omega, ⟨m1, d2, Ne.symm m4, d4, m3, d6⟩, fun x hx => ?_⟩, fun x hx => ?_⟩
  · rw [prB_put hM]; simp [Sg.set, d2]
  · rw [prB_put hM]; simp [Sg.set, Sg.add, Ne.symm m1, Ne.symm m4, List.flatMap_append, Sg.del]
  · simp [Sg.set, Sg.add, Sg.del, d4, d5, d6, n3, m3, h.hc]
  · exact (((((h.hk.set h4.1 b1).add (by simp only [n_set]; omega) B).del h2.1).add (by simp only [n_add, n_del, n_set]; omega) _).set h1.1 _).set h4.1 _
  · obtain ⟨q1, q2, q3, q4, q5, q6⟩ := h.hX x hx
    exact ⟨q1, by simp [Sg.set, Sg.add, Sg.del]; omega, q3, by omega, q5, q6⟩
  · obtain ⟨q1, q2, q3, q4, q5, q6⟩ := h.hX x hx
    have e1 : x ≠ s'.next := by omega
    have e2 : x ≠ s'.next + 1 := by omega
    simp [Sg.set, Sg.add, Sg.del, q3, q4, q6, e1, e2]
set_option maxRecDepth 20000 in
theorem relPairs_ (s : Sg) (p n : Nat) (M : Mx) (na : Nat) (rp rq : Nat → Nat) (h : RelP s p n M na rp rq) : DCall Tryd.prog 64 [.ptr p 0] s (.t (tPairs (pairsOf n M))) (s) := by
  refine dcall_of_body Tryd.func64 rfl fun Q hQ => ?_
  obtain ⟨e, he, hl, h0⟩ : ∃ e : Env, ([.ptr p 0] ++ List.replicate (Tryd.f64.ntmps - ([.ptr p 0] : List V).length) .junk) = e ∧ e.length = 17 ∧ ev e (.tmp 0) = .ptr p 0 := ⟨_, rfl, rfl, rfl⟩
  rw [he]
  clear he
  have hle := h.le
  refine vsk fun K1 hK1 => ?_
  refine vw_sc 0 [] ?_
  simp only [bs, ↓vopx, ↓vop, thenV, flat, wocs, ↓goc, ↓woc, ↓vopm0]
  refine hK1 _ _ ?_
  refine vsk fun K2 hK2 => ?_
  refine vw_sc 0 [] ?_
  simp only [bs, ↓vopx, ↓vop, thenV, wocs, ↓goc, ↓woc, ↓vopm0, Tryd.zv24]
  refine hK2 _ _ ?_
  refine vsk fun K3 hK3 => ?_
  refine vsk fun K4 hK4 => ?_
  refine VW.nameBox s.next 0 2 30 (by omega) (ty := 24) (cs := [.t (.v (.slice none 0 0))]) (by simp [Sg.add]) rfl ?_
  refine vw_sc 0 [.stop] ?_
  simp only [bs, ↓vopx, ↓vop, Nat.reduceBEq, thenV, Nat.reduceLT, hl, h0, wocs, ↓goc, ↓woc, ↓vopm0, ↓callC, calleeV]
  refine ⟨Tryd.is82, (relEach_ _ p).mono fun v s2 hv => ?_⟩
  obtain ⟨rfl, rfl⟩ := hv
  try simp only [bs, Nat.reduceBEq, h0, Hold]
  refine hK4 _ _ ?_
  refine vw_block ?_
  refine vw_env2 fun e1 s3 hE hS => ?_
  have hlE : e1.length = 17 := by rw [hE]; simp only [lpv, hl]
  have h3E : ev e1 (.tmp 3) = .ptr s.next 0 := by rw [hE]; simp only [ev_hit, ev_miss, Nat.reduceBEq, lpv, hl, Nat.reduceLT]
  have h7E : ev e1 (.tmp 7) = .clo 89 [.ptr (s.next + 2) 0] := by rw [hE]; simp only [ev_hit, lpv, hl, Nat.reduceLT]
  clear hE
  have h3n : s3.next = s.next + 3 := by rw [hS]; rfl
  have h3a : s3.m s.next = some (.box 24 [.loc (s.next + 1) 0 0]) := by rw [hS]; simp [Sg.add, Sg.set] <;> omega
  have h3b : s3.m (s.next + 1) = some (.arr 2 30 []) := by rw [hS]; simp [Sg.add, Sg.set] <;> omega
  have h3c : s3.m (s.next + 2) = some (.box 47 [.ptr p 0]) := by rw [hS]; simp [Sg.add, Sg.set] <;> omega
  have h3k : Keep s s3 := by rw [hS]; exact ((((Keep.refl s).add (Nat.le_refl _) _).add (by simp only [n_add]; omega) _).set (Nat.le_refl _) _).add (by simp only [n_add, n_set]; omega) _
  clear hS
  refine vw_range (g := 89) (caps := [.ptr (s.next + 2) 0]) h7E Tryd.func89 rfl (by decide) fun s4 h4e h4n h4m h4l => ?_
  have hst : PairIv s _ s.next (s.next + 2) s3.next p n M (fun _ => False) 0 0 s4 := ⟨s.next + 1, by rw [h4m _ (by omega)]; exact h3a, by rw [h4m _ (by omega)]; exact h3b, by rw [h4m _ (by omega)]; exact h3c, h4l, fun m b hm hb => by rw [h4m m (by omega)]; exact h3k m b hm hb, by omega, ⟨by omega, by omega⟩, ⟨by omega, by omega⟩, ⟨by omega, by omega⟩, ⟨by omega, by omega⟩, ⟨by omega, by omega, by omega, by omega, by omega, by omega⟩, fun x hx => hx.elim⟩
  refine (relEach1_ s3.next (s.next + 2) p n M na rp rq _ ⟨fun X a b s5 hp => ?_, fun X a b s5 k hp => ?_, fun X a b s5 x k hp hx => ?_, fun X a b s5 x hp hx => ?_, fun X a b s5 ha hb hM hp => ?_, fun X a s5 ha hp => ?_, fun X a b s5 ha hb hM hp => ?_⟩ s4 hst).mono fun v s6 h6 => ?_
  · obtain ⟨m, hp⟩ := hp; exact ⟨hp.hc, h.keep hp.hk hp.nx, fun x hx => (hp.hX x hx).2.1⟩
  · obtain ⟨m, hp⟩ := hp; exact ⟨m, hp.add k⟩
  · obtain ⟨m, hp⟩ := hp; exact ⟨m, hp.set hx k⟩
  · obtain ⟨m, hp⟩ := hp; exact ⟨m, hp.del hx⟩
  · obtain ⟨m, hp⟩ := hp; exact ⟨m, hp.to (prB_nop hM).symm⟩
  · obtain ⟨m, hp⟩ := hp; exact ⟨m, hp.to (prB_row n M a)⟩
  rotate_left
  · obtain ⟨X, m, hp6⟩ := h6
    refine ⟨none, .ready, hp6.hl, by simp, ?_⟩
    have hp1 := hp6.bv
    have hp2 := hp6.bm
    have hp3 := hp6.d
    have hsn : ¬ s.next = s3.next := by omega
    have hfv := hp6.hv
    simp only []
    refine hK3 _ _ ?_
    refine vsk fun K5 hK5 => ?_
    refine vw_sc 0 [] ?_
    simp only [bs, ↓vopx, ↓vop, thenV, Nat.reduceLT, dLoad, vpart, hlE, h3E, wocs, ↓goc, ↓woc, ↓vopm0, Tryd.ag24, Tryd.sz24, hfv, hsn]
    refine hK5 _ _ ?_
    refine vw_ret ?_
    rw [prB_end] at *
    refine hQ _ _ _ (.inr rfl) (Done.toS (done_loc (n := m) (len := (pairsOf n M).length) ?_ (by have := hp6.hm; rw [prB_end] at this; simpa [Sg.del, hp3.2.2.1] using this) (by rw [flat_length]) hp2.1 (hp6.hk.del (by omega))))
    try simp only [ev_hit, lpv, hlE, Nat.reduceLT]
  obtain ⟨m, hp5⟩ := hp
  refine ycall_of hp5.hl rfl fun KA hKA => ?_
  rw [show (#[8, 9] : Array Tmp).toList = [8, 9] from rfl, setps_two]
  refine vsk fun K6 hK6 => ?_
  refine vw_sc 0 [] ?_
  simp only [bs, ↓vopx, ↓vop, Nat.reduceBEq, thenV, Nat.reduceLT, hlE, wocs, ↓goc, ↓woc, ↓vopm0]
  refine hK6 _ _ ?_
  refine vw_sc 0 [] ?_
  simp only [bs, ↓vopx, ↓vop, Nat.reduceBEq, thenV, Nat.reduceLT, hlE, wocs, ↓goc, ↓woc, ↓vopm0]
  refine hKA _ _ hp5.hl ?_
  refine vw_env2 fun e2 sb hE2 hSb => ?_
  subst hE2
  have hnb : sb.next = s5.next := by rw [hSb]; rfl
  have hnx1 : ¬ s.next = sb.next := by have := hp5.bv; omega
  have hnx2 : ¬ s.next = sb.next + 1 := by have := hp5.bv; omega
  have hnx3 : ¬ m = sb.next := by have := hp5.bm; omega
  have hnx4 : ¬ s.next = m := hp5.d.1
  have hcv : sb.m s.next = some (.box 24 [.loc m 0 (prB n M a b).length]) := by rw [hSb]; simp [Sg.set, hp5.d.2.1, hp5.hv]
  have hcm : sb.m m = some (.arr 2 30 ((prB n M a b).flatMap pcells)) := by rw [hSb]; simp [Sg.set, hp5.d.2.2.1, hp5.hm]
  have hl1 : ¬ s3.next = s.next := by omega
  have hl2 : ¬ s3.next = sb.next := by have := hp5.bl; omega
  have hl3 : ¬ s3.next = sb.next + 1 := by have := hp5.bl; omega
  have hl4 : ¬ s3.next = m := fun e => hp5.d.2.2.1 e.symm
  refine vw_block ?_
  have hbd := prB_length n M a b
  have hsq : a * n ≤ 200 * 200 := Nat.mul_le_mul (by omega) hle
  have hpv := hp5.bv
  have hpm := hp5.bm
  have hpl := hp5.bl
  refine vw_sc 0 [] ?_
  simp only [bs, dstT, srcT, Nat.reduceLeDiff, Nat.reduceAdd, vparts, gfill, repl, Sg.frzP, ↓vopx, ↓vop, Nat.reduceBEq, blockV, Nat.reduceLT, V.cells, dLoad, vpart, Sg.frzL, Sg.frz1, hlE, h3E, wocs, ↓goc, ↓woc, ↓vopm0, Tryd.ag24, Tryd.sl24, Tryd.st30, Tryd.sz24, hcv, hcm, hnx1, hnx2, hnx3, hnx4, flat_length]
  repeat ((with_reducible refine And.intro ?_ ?_); · omega)
  rw [show ((prB n M a b).length * 2 + 2) / 2 = (prB n M a b).length + 1 from by omega]
  refine And.intro (by simp only [m_set, m_add, m_del, n_add, n_del, hl1, hl2, hl3, hl4, if_false]; rw [hSb]; exact if_pos rfl) (And.intro rfl ?_)
  rw [hSb]
  exact (hp5.push hM _ _).elim fun h1 h2 => ⟨⟨_, h1⟩, h2⟩
end Go.Proofs

open Go Go.V
namespace Go.Proofs
def findI {α : Type} (p : α → Bool) : List α → Nat → Int
  | [], _ => -1
  | x :: l, k => if p x then k else findI p l (k + 1)
theorem findI_hit {α : Type} {p : α → Bool} : ∀ {l : List α} {i : Nat} {x : α} (k : Nat), l[i]? = some x → p x = true → (∀ (j : Nat) (y : α), j < i → l[j]? = some y → p y = false) → findI p l k = ((k + i : Nat) : Int)
  | [], i, x, k, h, _, _ => by simp at h
  | a :: l, 0, x, k, h, hp, _ => by simp at h; subst h; simp [findI, hp]
  | a :: l, i + 1, x, k, h, hp, hn => by
    have ha : p a = false := hn 0 a (by omega) rfl
    have := findI_hit (l := l) (i := i) (k + 1) (by simpa using h) hp fun j y hj hy => hn (j + 1) y (by omega) (by simpa using hy)
    simp only [findI, ha, Bool.false_eq_true, if_false, this]
    congr 1; omega
theorem findI_none {α : Type} {p : α → Bool} : ∀ {l : List α} (k : Nat), (∀ (j : Nat) (y : α), l[j]? = some y → p y = false) → findI p l k = -1
  | [], k, _ => rfl
  | a :: l, k, hn => by
    have ha : p a = false := hn 0 a rfl
    simp only [findI, ha, Bool.false_eq_true, if_false]
    exact findI_none (k + 1) fun j y hy => hn (j + 1) y (by simpa using hy)
theorem findI_iff {α : Type} {p : α → Bool} : ∀ (l : List α) (k : Nat), 0 ≤ findI p l k ↔ l.any p = true
  | [], k => by simp [findI]
  | a :: l, k => by
    by_cases h : p a = true
    · rw [show findI p (a :: l) k = k from by simp [findI, h]]; simp [h]
    · rw [show findI p (a :: l) k = findI p l (k + 1) from by simp [findI, h], findI_iff l (k + 1)]; simp [h]
theorem findI_any {α : Type} {p : α → Bool} (l : List α) (k : Nat) : decide (findI p l k ≥ 0) = l.any p := by
  rw [Bool.eq_iff_iff, decide_eq_true_eq]; exact findI_iff l k
def bigB (b : ByteArray) : Bool := decide ((b.size : Int) > 60)
def labS (l : List ByteArray) : Int := if 40 < l.length then 11 else if l.any bigB then 10 else 0
def cmpI (a b : Int) : Int := if a < b then -1 else if a > b then 1 else 0
def orI : List Int → Int
  | [] => 0
  | x :: l => if x ≠ 0 then x else orI l
theorem orI_hit : ∀ {l : List Int} {i : Nat} {x : Int}, l[i]? = some x → x ≠ 0 → (∀ (j : Nat) (y : Int), j < i → l[j]? = some y → y = 0) → orI l = x
  | [], i, x, h, _, _ => by simp at h
  | a :: l, 0, x, h, hp, _ => by simp at h; subst h; simp [orI, hp]
  | a :: l, i + 1, x, h, hp, hn => by
    have ha : a = 0 := hn 0 a (by omega) rfl
    have := orI_hit (l := l) (i := i) (by simpa using h) hp fun j y hj hy => hn (j + 1) y (by omega) (by simpa using hy)
    simp [orI, ha, this]
theorem orI_none : ∀ {l : List Int}, (∀ (j : Nat) (y : Int), l[j]? = some y → y = 0) → orI l = 0
  | [], _ => rfl
  | a :: l, hn => by
    have ha : a = 0 := hn 0 a rfl
    have := orI_none (l := l) fun j y hy => hn (j + 1) y (by simpa using hy)
    simp [orI, ha, this]
def cmpP (p q : Int × Int) : Int := orI [cmpI p.1 q.1, cmpI p.2 q.2]
theorem cmpP_ge (p q : Int × Int) : decide (cmpP p q ≥ 0) = !pltB p q := by
  unfold cmpP orI orI orI cmpI pltB
  rcases Int.lt_trichotomy p.1 q.1 with h | h | h
  · have : ¬ q.1 < p.1 := by omega
    simp [h]
  · rcases Int.lt_trichotomy p.2 q.2 with h2 | h2 | h2
    · simp [h, h2]
    · simp [h, h2]
    · have : ¬ p.2 < q.2 := by omega
      simp [h, h2, this]
  · have h1 : ¬ p.1 < q.1 := by omega
    have h2 : ¬ p.1 = q.1 := by omega
    simp [h, h1, h2]
abbrev FN (g : Nat) : V := .t (.v (.func (.func g) #[] #[]))
set_option maxRecDepth 20000 in
theorem labBig_ (b : ByteArray) : PCall Tryd.prog 74 [Str b] (Bo (bigB b)) := by
  refine pcall_of_body Tryd.func74 rfl fun s Q hQ => ?_
  obtain ⟨e, he, hl, h0⟩ : ∃ e : Env, ([Str b] ++ List.replicate (Tryd.f74.ntmps - ([Str b] : List V).length) .junk) = e ∧ e.length = 6 ∧ ev e (.tmp 0) = Str b := ⟨_, rfl, rfl, rfl⟩
  rw [he]
  clear he
  refine vsk fun K1 hK1 => ?_
  refine vw_sc 0 [] ?_
  simp only [bs, ↓vopx, ↓vop, thenV, flat, wocs, ↓goc, ↓woc, ↓vopm0]
  refine hK1 _ _ ?_
  refine vsk fun K2 hK2 => ?_
  refine vw_sc 0 [] ?_
  simp only [bs, ↓vopx, ↓vop, Nat.reduceBEq, thenV, flat, Nat.reduceLT, opII, hl, h0, wocs, ↓goc, ↓woc, ↓vopm0, Tryd.underlying9]
  refine hK2 _ _ ?_
  refine vw_ret ?_
  refine hQ _ _ _ (.inr rfl) (done_tmp ?_ fun n b hn h => h)
  try simp only [ev_hit, lpv, hl, Nat.reduceLT]
  rfl
set_option maxRecDepth 20000 in
theorem indexBig_ (l : List ByteArray) (hl0 : l.length < 1000000000) : PCall Tryd.prog 85 [.t (tStrs l), FN 74] (I (findI bigB l 0)) := by
  refine pcall_of_body Tryd.func85 rfl fun s Q hQ => ?_
  obtain ⟨e, he, hl, h0, h1⟩ : ∃ e : Env, ([.t (tStrs l), FN 74] ++ List.replicate (Tryd.f85.ntmps - ([.t (tStrs l), FN 74] : List V).length) .junk) = e ∧ e.length = 19 ∧ ev e (.tmp 0) = .t (tStrs l) ∧ ev e (.tmp 1) = FN 74 := ⟨_, rfl, rfl, rfl, rfl⟩
  rw [he]
  clear he
  refine vsk fun K1 hK1 => ?_
  refine vw_sc 0 [] ?_
  simp only [bs, ↓vopx, ↓vop, thenV, flat, wocs, ↓goc, ↓woc, ↓vopm0]
  refine hK1 _ _ ?_
  refine vsk fun K2 hK2 => ?_
  refine vsk fun K3 hK3 => ?_
  refine vw_sc 0 [] ?_
  simp only [bs, ↓vopx, ↓vop, Nat.reduceBEq, thenV, flat, Nat.reduceLT, hl, h0, wocs, ↓goc, ↓woc, ↓vopm0, len_tStrs]
  refine hK3 _ _ ?_
  refine vw_block ?_
  refine vw_loop (fun mm e' s' => ∃ i : Nat, mm = l.length - i ∧ i ≤ l.length ∧ e'.length = 19 ∧ ev e' (.tmp 0) = .t (tStrs l) ∧ ev e' (.tmp 1) = FN 74 ∧ ev e' (.tmp 7) = I l.length ∧ ev e' (.tmp 8) = I i ∧ s = s' ∧ ∀ (j : Nat) (y : ByteArray), j < i → l[j]? = some y → bigB y = false) (⟨0, rfl, Nat.zero_le _, ?_⟩) ?_
  · try simp only [ev_hit, ev_miss, Nat.reduceBEq, lpv, hl, h0, h1, Nat.reduceLT, true_and]
    repeat ((with_reducible refine And.intro ?_ ?_); · trivial)
    all_goals (exact fun j y h => by omega)
  rintro mm e _ ⟨i, rfl, hle_i, hl, h0, h1, h7, h_i, rfl, hal⟩
  refine vsk fun K4 hK4 => ?_
  refine vw_sc 0 [] ?_
  simp only [thenV, opII, h7, h_i, wocs, ↓goc, ↓woc]
  refine hK4 _ _ ?_
  refine vsk fun K5 hK5 => ?_
  refine vck fun A B hA hB => ?_
  simp only [condV, ev_hit, Nat.reduceLT, decide_eq_true_eq, decide_eq_false_iff_not, hl]
  refine ⟨fun hc9 => hA ?_, fun hc9 => hB ?_⟩
  · clear hA hB A B
    refine vw_skip ?_
    refine hK5 _ _ ?_
    refine vsk fun K6 hK6 => ?_
    refine vw_block ?_
    refine vsk fun K7 hK7 => ?_
    refine vw_sc 0 [] ?_
    simp only [bs, ↓vopx, ↓vop, Nat.reduceBEq, thenV, Nat.reduceLT, hl, h_i, wocs, ↓goc, ↓woc, ↓vopm0]
    refine hK7 _ _ ?_
    refine vsk fun K8 hK8 => ?_
    have hlt : i < l.length := by omega
    obtain ⟨b, hb⟩ : ∃ b, l[i]? = some b := ⟨_, List.getElem?_eq_getElem hlt⟩
    refine vw_sc 0 [.pur (Bo (bigB b))] ?_
    simp only [bs, ↓vopx, ↓vop, Nat.reduceBEq, thenV, Nat.reduceLT, dLoad, vpart, hl, h0, h1, wocs, ↓goc, ↓woc, ↓vopm0, ↓callC, calleeV, Tryd.ag9, Tryd.sz9, Tryd.un23, hb]
    repeat ((with_reducible refine And.intro ?_ ?_); · first | (with_reducible assumption) | exact ⟨Tryd.is74, labBig_ b⟩)
    refine hK8 _ _ ?_
    refine vck fun A B hA hB => ?_
    simp only [condV, ev_hit, lpv, Nat.reduceLT, hl]
    refine ⟨fun hc16 => hA ?_, fun hc16 => hB ?_⟩
    · clear hA hB A B
      refine vsk fun K9 hK9 => ?_
      refine vw_sc 0 [] ?_
      simp only [bs, ↓vopx, ↓vop, Nat.reduceBEq, thenV, Nat.reduceLT, hl, wocs, ↓goc, ↓woc, ↓vopm0]
      refine hK9 _ _ ?_
      refine vw_ret ?_
      refine hQ _ _ _ (.inr rfl) (done_tmp ?_ fun n b hn h => h)
      try simp only [ev_hit, lpv, hl, Nat.reduceLT]
      rw [findI_hit 0 hb hc16 hal, Nat.zero_add]
    · clear hA hB A B
      refine vw_skip ?_
      refine hK6 _ _ ?_
      refine vw_sc 0 [] ?_
      simp only [bs, ↓vopx, ↓vop, Nat.reduceBEq, thenV, flat, Nat.reduceLT, opII, hl, h0, h1, h7, h_i, wocs, ↓goc, ↓woc, ↓vopm0]
      repeat ((with_reducible refine And.intro ?_ ?_); · exact ⟨by omega, by omega⟩)
      refine ⟨l.length - (i + 1), by omega, i + 1, rfl, by omega, ?_⟩
      try simp only [ev_hit, ev_miss, Nat.reduceBEq, lpv, hl, h0, h1, h7, h_i, if_true, if_false, Nat.reduceEqDiff, Nat.reduceLT, true_and, and_true]
      repeat ((with_reducible refine And.intro ?_ ?_); · trivial)
      intro j y hj hy
      rcases Nat.lt_succ_iff_lt_or_eq.1 hj with hj | rfl
      · exact hal j y hj hy
      · rw [hb] at hy; cases hy; exact hc16
  · clear hA hB A B
    have han : l.length = i := by omega
    refine vw_exit ?_
    simp only [thenV, blockV, if_true]
    refine hK2 _ _ ?_
    refine vsk fun K10 hK10 => ?_
    refine vw_sc 0 [] ?_
    simp only [bs, ↓vopx, ↓vop, thenV, flat, wocs, ↓goc, ↓woc, ↓vopm0]
    refine hK10 _ _ ?_
    refine vw_ret ?_
    refine hQ _ _ _ (.inr rfl) (done_tmp ?_ fun n b hn h => h)
    try simp only [ev_hit, lpv, hl, Nat.reduceLT]
    rw [findI_none 0 fun j y hy => hal j y (by have := (List.getElem?_eq_some_iff.1 hy).1; omega) hy]
set_option maxRecDepth 20000 in
theorem containsBig_ (l : List ByteArray) (hl0 : l.length < 1000000000) : PCall Tryd.prog 73 [.t (tStrs l), FN 74] (Bo (l.any bigB)) := by
  refine pcall_of_body Tryd.func73 rfl fun s Q hQ => ?_
  obtain ⟨e, he, hl, h0, h1⟩ : ∃ e : Env, ([.t (tStrs l), FN 74] ++ List.replicate (Tryd.f73.ntmps - ([.t (tStrs l), FN 74] : List V).length) .junk) = e ∧ e.length = 9 ∧ ev e (.tmp 0) = .t (tStrs l) ∧ ev e (.tmp 1) = FN 74 := ⟨_, rfl, rfl, rfl, rfl⟩
  rw [he]
  clear he
  refine vsk fun K1 hK1 => ?_
  refine vw_sc 0 [] ?_
  simp only [bs, ↓vopx, ↓vop, thenV, flat, wocs, ↓goc, ↓woc, ↓vopm0]
  refine hK1 _ _ ?_
  refine vsk fun K2 hK2 => ?_
  refine vw_sc 0 [.pur (I (findI bigB l 0))] ?_
  simp only [bs, ↓vopx, ↓vop, Nat.reduceBEq, thenV, flat, Nat.reduceLT, opII, hl, h0, h1, wocs, ↓goc, ↓woc, ↓vopm0, ↓callC, calleeV]
  repeat ((with_reducible refine And.intro ?_ ?_); · exact ⟨Tryd.is85, indexBig_ l hl0⟩)
  refine hK2 _ _ ?_
  refine vw_ret ?_
  refine hQ _ _ _ (.inr rfl) (done_tmp ?_ fun n b hn h => h)
  try simp only [ev_hit, lpv, hl, Nat.reduceLT]
  rw [findI_any]
set_option maxRecDepth 20000 in
theorem labels_ (l : List ByteArray) (hl0 : l.length < 1000000000) : PCall Tryd.prog 51 [.t (tStrs l)] (I (labS l)) := by
  refine pcall_of_body Tryd.func51 rfl fun s Q hQ => ?_
  obtain ⟨e, he, hl, h0⟩ : ∃ e : Env, ([.t (tStrs l)] ++ List.replicate (Tryd.f51.ntmps - ([.t (tStrs l)] : List V).length) .junk) = e ∧ e.length = 10 ∧ ev e (.tmp 0) = .t (tStrs l) := ⟨_, rfl, rfl, rfl⟩
  rw [he]
  clear he
  refine vsk fun K1 hK1 => ?_
  refine vw_sc 0 [] ?_
  simp only [bs, ↓vopx, ↓vop, thenV, flat, wocs, ↓goc, ↓woc, ↓vopm0]
  refine hK1 _ _ ?_
  refine vsk fun K2 hK2 => ?_
  refine vw_block ?_
  refine vsk fun K3 hK3 => ?_
  refine vw_sc 0 [] ?_
  simp only [bs, ↓vopx, ↓vop, Nat.reduceBEq, thenV, flat, Nat.reduceLT, opII, hl, h0, wocs, ↓goc, ↓woc, ↓vopm0, len_tStrs]
  refine hK3 _ _ ?_
  refine vck fun A B hA hB => ?_
  simp only [condV, ev_hit, lpv, Nat.reduceLT, decide_eq_true_eq, decide_eq_false_iff_not, hl]
  refine ⟨fun hc3 => hA ?_, fun hc3 => hB ?_⟩
  · clear hA hB A B
    refine vsk fun K4 hK4 => ?_
    refine vw_sc 0 [] ?_
    simp only [bs, ↓vopx, ↓vop, thenV, flat, wocs, ↓goc, ↓woc, ↓vopm0]
    refine hK4 _ _ ?_
    refine vw_ret ?_
    refine hQ _ _ _ (.inr rfl) (done_tmp ?_ fun n b hn h => h)
    try simp only [ev_hit, lpv, hl, Nat.reduceLT]
    rw [show labS l = 11 from by unfold labS; rw [if_pos (by omega)]]
  · clear hA hB A B
    refine vsk fun K5 hK5 => ?_
    refine vw_sc 0 [.pur (Bo (l.any bigB))] ?_
    simp only [bs, ↓vopx, ↓vop, Nat.reduceBEq, thenV, Nat.reduceLT, hl, h0, wocs, ↓goc, ↓woc, ↓vopm0, ↓callC, calleeV]
    repeat ((with_reducible refine And.intro ?_ ?_); · exact ⟨Tryd.is73, containsBig_ l hl0⟩)
    refine hK5 _ _ ?_
    refine vck fun A B hA hB => ?_
    simp only [condV, ev_hit, lpv, Nat.reduceLT, hl]
    refine ⟨fun hc7 => hA ?_, fun hc7 => hB ?_⟩
    · clear hA hB A B
      refine vsk fun K6 hK6 => ?_
      refine vw_sc 0 [] ?_
      simp only [bs, ↓vopx, ↓vop, thenV, flat, wocs, ↓goc, ↓woc, ↓vopm0]
      refine hK6 _ _ ?_
      refine vw_ret ?_
      refine hQ _ _ _ (.inr rfl) (done_tmp ?_ fun n b hn h => h)
      try simp only [ev_hit, lpv, hl, Nat.reduceLT]
      rw [show labS l = 10 from by unfold labS; rw [if_neg (by omega), if_pos hc7]]
    · clear hA hB A B
      refine vw_skip ?_
      refine hK2 _ _ ?_
      refine vsk fun K7 hK7 => ?_
      refine vw_sc 0 [] ?_
      simp only [bs, ↓vopx, ↓vop, thenV, flat, wocs, ↓goc, ↓woc, ↓vopm0]
      refine hK7 _ _ ?_
      refine vw_ret ?_
      refine hQ _ _ _ (.inr rfl) (done_tmp ?_ fun n b hn h => h)
      try simp only [ev_hit, lpv, hl, Nat.reduceLT]
      rw [show labS l = 0 from by unfold labS; rw [if_neg (by omega), if_neg (by rw [hc7]; simp)]]
set_option maxRecDepth 20000 in
theorem isNaN_ (z : Int) : PCall Tryd.prog 72 [I z] (Bo false) := by
  refine pcall_of_body Tryd.func72 rfl fun s Q hQ => ?_
  obtain ⟨e, he, hl, h0⟩ : ∃ e : Env, ([I z] ++ List.replicate (Tryd.f72.ntmps - ([I z] : List V).length) .junk) = e ∧ e.length = 6 ∧ ev e (.tmp 0) = I z := ⟨_, rfl, rfl, rfl⟩
  rw [he]
  clear he
  refine vsk fun K1 hK1 => ?_
  refine vw_sc 0 [] ?_
  simp only [bs, ↓vopx, ↓vop, thenV, flat, wocs, ↓goc, ↓woc, ↓vopm0]
  refine hK1 _ _ ?_
  refine vsk fun K2 hK2 => ?_
  refine vw_sc 0 [] ?_
  simp only [bs, ↓vopx, ↓vop, Nat.reduceBEq, thenV, Nat.reduceLT, opII, hl, h0, wocs, ↓goc, ↓woc, ↓vopm0, bne_self_eq_false]
  refine hK2 _ _ ?_
  refine vw_ret ?_
  refine hQ _ _ _ (.inr rfl) (done_tmp ?_ fun n b hn h => h)
  try simp only [ev_hit, lpv, hl, Nat.reduceLT]
set_option maxRecDepth 20000 in
theorem cmpInt_ (a b : Int) : PCall Tryd.prog 76 [I a, I b] (I (cmpI a b)) := by
  refine pcall_of_body Tryd.func76 rfl fun s Q hQ => ?_
  obtain ⟨e, he, hl, h0, h1⟩ : ∃ e : Env, ([I a, I b] ++ List.replicate (Tryd.f76.ntmps - ([I a, I b] : List V).length) .junk) = e ∧ e.length = 20 ∧ ev e (.tmp 0) = I a ∧ ev e (.tmp 1) = I b := ⟨_, rfl, rfl, rfl, rfl⟩
  rw [he]
  clear he
  refine vsk fun K1 hK1 => ?_
  refine vw_sc 0 [] ?_
  simp only [bs, ↓vopx, ↓vop, thenV, flat, wocs, ↓goc, ↓woc, ↓vopm0]
  refine hK1 _ _ ?_
  refine vsk fun K2 hK2 => ?_
  refine vw_sc 0 [.pur (Bo false)] ?_
  simp only [bs, ↓vopx, ↓vop, Nat.reduceBEq, thenV, Nat.reduceLT, hl, h0, wocs, ↓goc, ↓woc, ↓vopm0, ↓callC, calleeV]
  repeat ((with_reducible refine And.intro ?_ ?_); · exact ⟨Tryd.is72, isNaN_ a⟩)
  refine hK2 _ _ ?_
  refine vsk fun K3 hK3 => ?_
  refine vw_sc 0 [.pur (Bo false)] ?_
  simp only [bs, ↓vopx, ↓vop, Nat.reduceBEq, thenV, Nat.reduceLT, hl, h1, wocs, ↓goc, ↓woc, ↓vopm0, ↓callC, calleeV]
  repeat ((with_reducible refine And.intro ?_ ?_); · exact ⟨Tryd.is72, isNaN_ b⟩)
  refine hK3 _ _ ?_
  refine vsk fun K4 hK4 => ?_
  refine vsk fun K5 hK5 => ?_
  refine vw_sc 0 [] ?_
  simp only [bs, ↓vopx, ↓vop, Nat.reduceBEq, thenV, Nat.reduceLT, hl, wocs, ↓goc, ↓woc, ↓vopm0]
  refine hK5 _ _ ?_
  refine vck fun A B hA hB => ?_
  simp only [condV, ev_hit, lpv, Nat.reduceLT, true_implies, reduceCtorEq, false_implies, true_and, hl]
  refine hB ?_
  clear hA hB A B
  refine vw_skip ?_
  refine hK4 _ _ ?_
  refine vsk fun K6 hK6 => ?_
  refine vsk fun K7 hK7 => ?_
  refine vw_sc 0 [] ?_
  simp only [bs, ↓vopx, ↓vop, Nat.reduceBEq, thenV, Nat.reduceLT, hl, wocs, ↓goc, ↓woc, ↓vopm0]
  refine hK7 _ _ ?_
  refine vck fun A B hA hB => ?_
  simp only [condV, ev_hit, lpv, Nat.reduceLT, true_implies, reduceCtorEq, false_implies, true_and, hl]
  refine hB ?_
  clear hA hB A B
  refine vw_skip ?_
  refine hK6 _ _ ?_
  refine vsk fun K8 hK8 => ?_
  refine vsk fun K9 hK9 => ?_
  refine vw_sc 0 [] ?_
  simp only [bs, ↓vopx, ↓vop, Nat.reduceBEq, thenV, Nat.reduceLT, opII, hl, h0, h1, wocs, ↓goc, ↓woc, ↓vopm0]
  refine hK9 _ _ ?_
  refine vck fun A B hA hB => ?_
  simp only [condV, ev_hit, lpv, Nat.reduceLT, decide_eq_true_eq, decide_eq_false_iff_not, hl]
  refine ⟨fun hc16 => hA ?_, fun hc16 => hB ?_⟩
  · clear hA hB A B
    refine vsk fun K10 hK10 => ?_
    refine vw_sc 0 [] ?_
    simp only [bs, ↓vopx, ↓vop, thenV, flat, wocs, ↓goc, ↓woc, ↓vopm0]
    refine hK10 _ _ ?_
    refine vw_ret ?_
    refine hQ _ _ _ (.inr rfl) (done_tmp ?_ fun n b hn h => h)
    try simp only [ev_hit, lpv, hl, Nat.reduceLT]
    rw [show cmpI a b = -1 from by unfold cmpI; rw [if_pos (by omega)]]
  · clear hA hB A B
    refine vw_skip ?_
    refine hK8 _ _ ?_
    refine vsk fun K11 hK11 => ?_
    refine vsk fun K12 hK12 => ?_
    refine vw_sc 0 [] ?_
    simp only [bs, ↓vopx, ↓vop, Nat.reduceBEq, thenV, Nat.reduceLT, opII, hl, h0, h1, wocs, ↓goc, ↓woc, ↓vopm0]
    refine hK12 _ _ ?_
    refine vck fun A B hA hB => ?_
    simp only [condV, ev_hit, lpv, Nat.reduceLT, decide_eq_true_eq, decide_eq_false_iff_not, hl]
    refine ⟨fun hc19 => hA ?_, fun hc19 => hB ?_⟩
    · clear hA hB A B
      refine vsk fun K13 hK13 => ?_
      refine vw_sc 0 [] ?_
      simp only [bs, ↓vopx, ↓vop, thenV, flat, wocs, ↓goc, ↓woc, ↓vopm0]
      refine hK13 _ _ ?_
      refine vw_ret ?_
      refine hQ _ _ _ (.inr rfl) (done_tmp ?_ fun n b hn h => h)
      try simp only [ev_hit, lpv, hl, Nat.reduceLT]
      rw [show cmpI a b = 1 from by unfold cmpI; rw [if_neg (by omega), if_pos (by omega)]]
    · clear hA hB A B
      refine vw_skip ?_
      refine hK11 _ _ ?_
      refine vsk fun K14 hK14 => ?_
      refine vw_sc 0 [] ?_
      simp only [bs, ↓vopx, ↓vop, thenV, flat, wocs, ↓goc, ↓woc, ↓vopm0]
      refine hK14 _ _ ?_
      refine vw_ret ?_
      refine hQ _ _ _ (.inr rfl) (done_tmp ?_ fun n b hn h => h)
      try simp only [ev_hit, lpv, hl, Nat.reduceLT]
      rw [show cmpI a b = 0 from by unfold cmpI; rw [if_neg (by omega), if_neg (by omega)]]
set_option maxRecDepth 20000 in
theorem cmpOr_ (l : List Int) (hl0 : l.length < 1000000000) : PCall Tryd.prog 75 [.t (tInts l)] (I (orI l)) := by
  refine pcall_of_body Tryd.func75 rfl fun s Q hQ => ?_
  obtain ⟨e, he, hl, h0⟩ : ∃ e : Env, ([.t (tInts l)] ++ List.replicate (Tryd.f75.ntmps - ([.t (tInts l)] : List V).length) .junk) = e ∧ e.length = 18 ∧ ev e (.tmp 0) = .t (tInts l) := ⟨_, rfl, rfl, rfl⟩
  rw [he]
  clear he
  refine vsk fun K1 hK1 => ?_
  refine vw_sc 0 [] ?_
  simp only [bs, ↓vopx, ↓vop, thenV, flat, wocs, ↓goc, ↓woc, ↓vopm0]
  refine hK1 _ _ ?_
  refine vsk fun K2 hK2 => ?_
  refine vw_sc 0 [] ?_
  simp only [bs, ↓vopx, ↓vop, thenV, flat, wocs, ↓goc, ↓woc, ↓vopm0]
  refine hK2 _ _ ?_
  refine vsk fun K3 hK3 => ?_
  refine vsk fun K4 hK4 => ?_
  refine vw_sc 0 [] ?_
  simp only [bs, ↓vopx, ↓vop, Nat.reduceBEq, thenV, flat, Nat.reduceLT, hl, h0, wocs, ↓goc, ↓woc, ↓vopm0, len_tInts]
  refine hK4 _ _ ?_
  refine vw_block ?_
  refine vw_loop (fun mm e' s' => ∃ i : Nat, mm = l.length - i ∧ i ≤ l.length ∧ e'.length = 18 ∧ ev e' (.tmp 3) = I 0 ∧ ev e' (.tmp 6) = .t (tInts l) ∧ ev e' (.tmp 7) = I l.length ∧ ev e' (.tmp 8) = I i ∧ s = s' ∧ ∀ (j : Nat) (y : Int), j < i → l[j]? = some y → y = 0) (⟨0, rfl, Nat.zero_le _, ?_⟩) ?_
  · try simp only [ev_hit, ev_miss, Nat.reduceBEq, lpv, hl, Nat.reduceLT, true_and]
    repeat ((with_reducible refine And.intro ?_ ?_); · trivial)
    all_goals (exact fun j y h => by omega)
  rintro mm e _ ⟨i, rfl, hle_i, hl, h3, h6, h7, h_i, rfl, hal⟩
  refine vsk fun K5 hK5 => ?_
  refine vw_sc 0 [] ?_
  simp only [thenV, opII, h7, h_i, wocs, ↓goc, ↓woc]
  refine hK5 _ _ ?_
  refine vsk fun K6 hK6 => ?_
  refine vck fun A B hA hB => ?_
  simp only [condV, ev_hit, Nat.reduceLT, decide_eq_true_eq, decide_eq_false_iff_not, hl]
  refine ⟨fun hc9 => hA ?_, fun hc9 => hB ?_⟩
  · clear hA hB A B
    refine vw_skip ?_
    refine hK6 _ _ ?_
    refine vsk fun K7 hK7 => ?_
    refine vw_block ?_
    refine vsk fun K8 hK8 => ?_
    have hlt : i < l.length := by omega
    obtain ⟨x, hx⟩ : ∃ b, l[i]? = some b := ⟨_, List.getElem?_eq_getElem hlt⟩
    refine vw_sc 0 [] ?_
    simp only [bs, ↓vopx, ↓vop, Nat.reduceBEq, thenV, Nat.reduceLT, dLoad, vpart, hl, h6, h_i, wocs, ↓goc, ↓woc, ↓vopm0, Tryd.ag3, Tryd.sz3, Tryd.un27, hx]
    repeat ((with_reducible refine And.intro ?_ ?_); · (with_reducible assumption))
    refine hK8 _ _ ?_
    refine vsk fun K9 hK9 => ?_
    refine vw_sc 0 [] ?_
    simp only [bs, ↓vopx, ↓vop, Nat.reduceBEq, thenV, Nat.reduceLT, opII, hl, h3, wocs, ↓goc, ↓woc, ↓vopm0]
    refine hK9 _ _ ?_
    refine vck fun A B hA hB => ?_
    simp only [condV, ev_hit, lpv, Nat.reduceLT, bne_iff_ne, bne_eq_false_iff_eq, ne_eq, hl]
    refine ⟨fun hc14 => hA ?_, fun hc14 => hB ?_⟩
    · clear hA hB A B
      refine vsk fun K10 hK10 => ?_
      refine vw_sc 0 [] ?_
      simp only [bs, ↓vopx, ↓vop, Nat.reduceBEq, thenV, Nat.reduceLT, hl, wocs, ↓goc, ↓woc, ↓vopm0]
      refine hK10 _ _ ?_
      refine vw_ret ?_
      refine hQ _ _ _ (.inr rfl) (done_tmp ?_ fun n b hn h => h)
      try simp only [ev_hit, lpv, hl, Nat.reduceLT]
      rw [orI_hit hx hc14 hal]
    · clear hA hB A B
      refine vw_skip ?_
      refine hK7 _ _ ?_
      refine vw_sc 0 [] ?_
      simp only [bs, ↓vopx, ↓vop, Nat.reduceBEq, thenV, flat, Nat.reduceLT, opII, hl, h3, h6, h7, h_i, wocs, ↓goc, ↓woc, ↓vopm0]
      repeat ((with_reducible refine And.intro ?_ ?_); · exact ⟨by omega, by omega⟩)
      refine ⟨l.length - (i + 1), by omega, i + 1, rfl, by omega, ?_⟩
      try simp only [ev_hit, ev_miss, Nat.reduceBEq, lpv, hl, h3, h6, h7, h_i, if_true, if_false, Nat.reduceEqDiff, Nat.reduceLT, true_and, and_true]
      repeat ((with_reducible refine And.intro ?_ ?_); · trivial)
      intro j y hj hy
      rcases Nat.lt_succ_iff_lt_or_eq.1 hj with hj | rfl
      · exact hal j y hj hy
      · rw [hx] at hy; cases hy; exact hc14
  · clear hA hB A B
    have han : l.length = i := by omega
    refine vw_exit ?_
    simp only [thenV, blockV, if_true]
    refine hK3 _ _ ?_
    refine vsk fun K11 hK11 => ?_
    refine vw_sc 0 [] ?_
    simp only [bs, ↓vopx, ↓vop, Nat.reduceBEq, thenV, Nat.reduceLT, hl, h3, wocs, ↓goc, ↓woc, ↓vopm0]
    refine hK11 _ _ ?_
    refine vw_ret ?_
    refine hQ _ _ _ (.inr rfl) (done_tmp ?_ fun n b hn h => h)
    try simp only [ev_hit, lpv, hl, Nat.reduceLT]
    rw [orI_none fun j y hy => hal j y (by have := (List.getElem?_eq_some_iff.1 hy).1; omega) hy]
set_option maxRecDepth 20000 in
theorem compare_ (p q : Int × Int) : PCall Tryd.prog 52 [.agg [I p.1, I p.2], .agg [I q.1, I q.2]] (I (cmpP p q)) := by
  refine pcall_of_body Tryd.func52 rfl fun s Q hQ => ?_
  obtain ⟨e, he, hl, h0, h1⟩ : ∃ e : Env, ([.agg [I p.1, I p.2], .agg [I q.1, I q.2]] ++ List.replicate (Tryd.f52.ntmps - ([.agg [I p.1, I p.2], .agg [I q.1, I q.2]] : List V).length) .junk) = e ∧ e.length = 17 ∧ ev e (.tmp 0) = .agg [I p.1, I p.2] ∧ ev e (.tmp 1) = .agg [I q.1, I q.2] := ⟨_, rfl, rfl, rfl, rfl⟩
  rw [he]
  clear he
  have hne1 : ¬ s.next = s.next + 1 := by omega
  refine vsk fun K1 hK1 => ?_
  refine vw_sc 0 [] ?_
  simp only [bs, ↓vopx, ↓vop, Nat.reduceBEq, thenV, flat, V.cells, h0, h1, wocs, ↓goc, ↓woc, ↓vopm0]
  refine hK1 _ _ ?_
  refine vsk fun K2 hK2 => ?_
  refine vw_chain Tryd.mixed 9 [0, 1, 0, 1, 0, 0, 1, 0, 1] [.pur (I (cmpI p.1 q.1)), .pur (I (cmpI p.2 q.2))] [.pur (I (orI [cmpI p.1 q.1, cmpI p.2 q.2]))] 1 (by decide +kernel) (by simp [lpv, hl]) rfl ?_
  simp only [bs, Nat.reduceLeDiff, Nat.reduceAdd, vparts, gfill, repl, Sg.frzP, ↓vopx, ↓vop, Nat.reduceBEq, thenV, Nat.reduceLT, V.cells, dLoad, vpart, Sg.frzL, Sg.frz1, hl, wocs, ↓goc, ↓woc, ↓vopm1, ↓callC, calleeV, ↓yieldC, chn, ↓goq, ↓woq, ↓callQ, List.zip_cons_cons, List.zip_nil_right, Tryd.ag3, Tryd.fd30_0, Tryd.fd30_1, Tryd.sl27, Tryd.sz3, hne1]
  repeat ((with_reducible refine And.intro ?_ ?_); · first | exact ⟨Tryd.is76, cmpInt_ _ _⟩ | exact ⟨Tryd.is75, cmpOr_ [_, _] (by simp)⟩)
  refine hK2 _ _ ?_
  refine vw_ret ?_
  refine hQ _ _ _ (.inr rfl) (done_tmp ?_ fun n b hn h => add_old2 s _ _ hn h)
  try simp only [ev_hit, lpv, hl, Nat.reduceLT]
  rfl
end Go.Proofs

open Go Go.V
namespace Go.Proofs
theorem big_all (l : List ByteArray) : (l.all fun b => decide (b.size ≤ 60)) = !(l.any bigB) := by
  induction l with
  | nil => rfl
  | cons b l ih =>
    simp only [List.all_cons, List.any_cons, ih, Bool.not_or]
    congr 1
    unfold bigB
    by_cases h : b.size ≤ 60
    · have : ¬ ((b.size : Int) > 60) := by omega
      simp [h, this]
    · have : ((b.size : Int) > 60) := by omega
      simp [h, this]
theorem labS_ne {o : Ob} (h : labS o.labels ≠ 0) : checkS o = labS o.labels := by
  unfold labS at h ⊢
  unfold checkS
  by_cases h1 : 40 < o.labels.length
  · rw [if_pos h1, if_pos h1]
  · rw [if_neg h1] at h ⊢
    rw [if_neg h1]
    have hany : o.labels.any bigB = true := by
      cases h2 : o.labels.any bigB
      · rw [h2] at h; exact absurd rfl h
      · rfl
    rw [big_all, hany]; rfl
theorem labS_eq {o : Ob} (h : labS o.labels = 0) : o.labels.length ≤ 40 ∧ (o.labels.all fun b => decide (b.size ≤ 60)) = true := by
  unfold labS at h
  split at h
  · cases h
  · rename_i h1
    split at h
    · cases h
    · rename_i h2; exact ⟨by omega, by rw [big_all]; simpa using h2⟩
theorem OfP.split {s : Sg} {n : Nat} {l : List (Int × Int)} {v : V} {s' : Sg} (h : OfP s n l v s') : ∃ (pv : V) (ec : Int), v = .tup [pv, I ec] ∧ Keep s s' ∧ s.next ≤ s'.next ∧
    ((l.all (inB n) = true ∧ ec = 0 ∧ ∃ p na rp rq, pv = .ptr p 0 ∧ RelP s' p n (mxOf l) na rp rq) ∨ (l.all (inB n) = false ∧ ec = 10)) := by
  rcases h with ⟨h1, p, na, rp, rq, rfl, h2, _, h3, h4⟩ | ⟨h1, rfl, h3, h4⟩
  · exact ⟨_, _, rfl, h3, h4, .inl ⟨h1, rfl, p, na, rp, rq, rfl, h2⟩⟩
  · exact ⟨_, _, rfl, h3, h4, .inr ⟨h1, rfl⟩⟩
set_option maxRecDepth 20000 in
theorem check_ (o : Ob) (hs1 : o.labels.length < 1000000000) (hs2 : o.pairs.length < 1000000000) : PCall Tryd.prog 29 [vObj o] (I (checkS o)) := by
  refine pcall_of_body Tryd.func29 rfl fun s Q hQ => ?_
  obtain ⟨e, he, hl, h0⟩ : ∃ e : Env, ([vObj o] ++ List.replicate (Tryd.f29.ntmps - ([vObj o] : List V).length) .junk) = e ∧ e.length = 49 ∧ ev e (.tmp 0) = vObj o := ⟨_, rfl, rfl, rfl⟩
  rw [he]
  clear he
  refine vsk fun K1 hK1 => ?_
  refine vw_sc 0 [] ?_
  simp only [bs, ↓vopx, ↓vop, thenV, flat, V.cells, h0, wocs, ↓goc, ↓woc, ↓vopm0]
  refine hK1 _ _ ?_
  refine vsk fun K2 hK2 => ?_
  refine vsk fun K3 hK3 => ?_
  refine vw_sc 0 [.pur (I (labS o.labels))] ?_
  simp only [bs, ↓vopx, ↓vop, Nat.reduceBEq, thenV, Nat.reduceLT, dLoad, vpart, hl, wocs, ↓goc, ↓woc, ↓vopm0, ↓callC, calleeV, Tryd.ag23, Tryd.fd26_0, Tryd.sz23]
  repeat ((with_reducible refine And.intro ?_ ?_); · exact ⟨Tryd.is51, labels_ o.labels hs1⟩)
  refine hK3 _ _ ?_
  refine vsk fun K4 hK4 => ?_
  refine vw_sc 0 [] ?_
  simp only [bs, ↓vopx, ↓vop, thenV, flat, Nat.reduceLT, opII, hl, wocs, ↓goc, ↓woc, ↓vopm0]
  refine hK4 _ _ ?_
  refine vck fun A B hA hB => ?_
  simp only [condV, ev_hit, lpv, Nat.reduceLT, bne_iff_ne, bne_eq_false_iff_eq, ne_eq, hl]
  refine ⟨fun hc11 => hA ?_, fun hc11 => hB ?_⟩
  · clear hA hB A B
    refine vsk fun K5 hK5 => ?_
    refine vw_sc 0 [] ?_
    simp only [bs, ↓vopx, ↓vop, Nat.reduceBEq, thenV, Nat.reduceLT, hl, wocs, ↓goc, ↓woc, ↓vopm0]
    refine hK5 _ _ ?_
    refine vw_ret ?_
    refine hQ _ _ _ (.inr rfl) (done_tmp ?_ fun n b hn h => add_old s _ hn h)
    try simp only [ev_hit, lpv, hl, Nat.reduceLT]
    rw [labS_ne hc11]
  · clear hA hB A B
    obtain ⟨hle40, hsz⟩ := labS_eq hc11
    refine vw_skip ?_
    refine hK2 _ _ ?_
    refine vsk fun K6 hK6 => ?_
    refine vsk fun K7 hK7 => ?_
    refine vw_sc 0 [] ?_
    simp only [bs, ↓vopx, ↓vop, thenV, flat, wocs, ↓goc, ↓woc, ↓vopm0]
    refine hK7 _ _ ?_
    refine vw_block ?_
    refine vw_loop (fun mm e' s' => ∃ i : Nat, mm = o.pairs.length - i ∧ i ≤ o.pairs.length ∧ e'.length = 49 ∧ ev e' (.tmp 1) = .ptr s.next 0 ∧ ev e' (.tmp 4) = I ((i : Int) + 1) ∧ s' = s.add (.box 26 [.t (tStrs o.labels), .t (tPairs o.pairs)]) ∧ ∀ (j : Nat) (p q : Int × Int), j < i → o.pairs[j]? = some p → o.pairs[j + 1]? = some q → pltB p q = true) (⟨0, rfl, Nat.zero_le _, ?_⟩) ?_
    · try simp only [ev_hit, ev_miss, Nat.reduceBEq, lpv, hl, Nat.reduceLT, true_and]
      repeat ((with_reducible refine And.intro ?_ ?_); · trivial)
      all_goals (first | rfl | exact fun j p q h => by omega)
    rintro mm e _ ⟨i, rfl, hle_i, hl, hb1, h_i, rfl, hall⟩
    refine vsk fun K8 hK8 => ?_
    refine vsk fun K9 hK9 => ?_
    refine vw_sc 0 [] ?_
    simp only [bs, ↓vopx, ↓vop, Nat.reduceBEq, thenV, Nat.reduceLT, dLoad, vpart, opII, hl, hb1, h_i, wocs, ↓goc, ↓woc, ↓vopm0, Tryd.ag24, Tryd.fd26_1, Tryd.sz24, Tryd.un24, len_tPairs]
    refine hK9 _ _ ?_
    refine vck fun A B hA hB => ?_
    simp only [condV, ev_hit, lpv, Nat.reduceLT, decide_eq_true_eq, decide_eq_false_iff_not, hl]
    refine ⟨fun hc17 => hA ?_, fun hc17 => hB ?_⟩
    · clear hA hB A B
      refine vw_skip ?_
      refine hK8 _ _ ?_
      refine vsk fun K10 hK10 => ?_
      refine vw_block ?_
      refine vsk fun K11 hK11 => ?_
      have hlt : i + 1 < o.pairs.length := by omega
      obtain ⟨p, hp⟩ : ∃ p, o.pairs[i]? = some p := ⟨_, List.getElem?_eq_getElem (by omega)⟩
      obtain ⟨q, hq⟩ : ∃ q, o.pairs[i + 1]? = some q := ⟨_, List.getElem?_eq_getElem hlt⟩
      have g0 := dropP hp
      have g2 := dropP hq
      have hfl := flat_length o.pairs
      have ht : ((i : Int) + 1).toNat = i + 1 := by omega
      have hz1 : (i : Int) + 1 - 1 = i := by omega
      have hz2 : (0 : Int) ≤ (i : Int) + 1 := by omega
      have hz3 : (i + 1) * 2 < o.pairs.length * 2 := by omega
      have hz4 : i * 2 < o.pairs.length * 2 := by omega
      refine vw_chain Tryd.mixed 11 [0, 1, 0, 0, 1, 1, 0, 1, 0, 1, 1] [.pur (I (cmpP p q))] [] 0 (by decide +kernel) (by simp [lpv, hl]) rfl ?_
      simp only [bs, Nat.reduceAdd, ↓vopx, ↓vop, Nat.reduceBEq, thenV, flat, Nat.reduceLT, dLoad, vpart, opII, opSS, hl, hb1, h_i, wocs, ↓goc, ↓woc, ↓vopm1, ↓callC, calleeV, ↓farC, chn, ↓goq, ↓woq, List.zip_cons_cons, List.zip_nil_right, Tryd.ag24, Tryd.ag30, Tryd.fd26_1, Tryd.sz24, Tryd.sz30, Tryd.un24, g0, g2, hfl, ht, hz1, hz2, hz3, hz4]
      repeat ((with_reducible refine And.intro ?_ ?_); · first | exact ⟨by omega, by omega⟩ | exact ⟨Tryd.is52, compare_ p q⟩)
      refine hK11 _ _ ?_
      refine vck fun A B hA hB => ?_
      simp only [condV, ev_hit, lpv, Nat.reduceLT, decide_eq_true_eq, decide_eq_false_iff_not, hl]
      refine ⟨fun hc32 => hA ?_, fun hc32 => hB ?_⟩
      · clear hA hB A B
        refine vsk fun K12 hK12 => ?_
        refine vw_sc 0 [] ?_
        simp only [bs, ↓vopx, ↓vop, thenV, flat, wocs, ↓goc, ↓woc, ↓vopm0]
        refine hK12 _ _ ?_
        refine vw_ret ?_
        refine hQ _ _ _ (.inr rfl) (done_tmp ?_ fun n b hn h => add_old s _ hn h)
        try simp only [ev_hit, lpv, hl, Nat.reduceLT]
        have hbad : pltB p q = false := by have h5 := cmpP_ge p q; rw [Bool.eq_iff_iff] at h5; simp only [decide_eq_true_eq, Bool.not_eq_true'] at h5; exact h5.1 hc32
        rw [show checkS o = 10 from by unfold checkS; rw [if_neg (by omega), rising_bad hp hq hbad]; simp]
      · clear hA hB A B
        refine vw_skip ?_
        refine hK10 _ _ ?_
        refine vw_sc 0 [] ?_
        simp only [bs, ↓vopx, ↓vop, Nat.reduceBEq, thenV, flat, Nat.reduceLT, opII, hl, hb1, h_i, wocs, ↓goc, ↓woc, ↓vopm0]
        repeat ((with_reducible refine And.intro ?_ ?_); · exact ⟨by omega, by omega⟩)
        refine ⟨o.pairs.length - (i + 1), by omega, i + 1, rfl, by omega, ?_⟩
        try simp only [ev_hit, ev_miss, Nat.reduceBEq, lpv, hl, hb1, h_i, if_true, if_false, Nat.reduceEqDiff, Nat.reduceLT, true_and, and_true]
        repeat ((with_reducible refine And.intro ?_ ?_); · trivial)
        intro j x y hj h1 h2
        rcases Nat.lt_succ_iff_lt_or_eq.1 hj with hj | rfl
        · exact hall j x y hj h1 h2
        · rw [hp] at h1; rw [hq] at h2; cases h1; cases h2; have h5 := cmpP_ge p q; rw [Bool.eq_iff_iff] at h5; simp only [decide_eq_true_eq, Bool.not_eq_true'] at h5; cases h6 : pltB p q; exact absurd (h5.2 h6) (by omega); rfl
    · clear hA hB A B
      refine vw_exit ?_
      simp only [thenV, blockV, if_true]
      refine hK6 _ _ ?_
      refine vsk fun K13 hK13 => ?_
      refine vw_sc 0 [.stop] ?_
      simp only [bs, Nat.reduceAdd, ↓vopx, ↓vop, Nat.reduceBEq, thenV, Nat.reduceLT, dLoad, vpart, hl, hb1, wocs, ↓goc, ↓woc, ↓vopm0, ↓callC, calleeV, Tryd.ag23, Tryd.ag24, Tryd.fd26_0, Tryd.fd26_1, Tryd.sz23, Tryd.sz24, Tryd.un23, len_tStrs]
      refine ⟨Tryd.is53, (relOf_ _ o.labels.length (by omega) o.pairs hs2).mono fun v s2 hv => ?_⟩
      obtain ⟨pv, ec, rfl, hk, hnx, hcase⟩ := hv.split
      try simp only [bs, Nat.reduceBEq, Nat.reduceLT, hl, Hold]
      refine hK13 _ _ ?_
      refine vsk fun K14 hK14 => ?_
      refine vsk fun K15 hK15 => ?_
      have hks : Keep s s2 := ((Keep.refl s).add (Nat.le_refl _) _).trans (by simp [Sg.add]) hk
      have hris : risingB o.pairs = true := rising_good fun j x y h1 h2 => hall j x y (by have := (List.getElem?_eq_some_iff.1 h2).1; omega) h1 h2
      rcases hcase with ⟨hin, rfl, c, na1, rp1, rq1, rfl, hR⟩ | ⟨hin, rfl⟩
      · refine vw_sc 0 [.det (Bo (tranB o.labels.length (mxOf o.pairs))) s2] ?_
        simp only [bs, ↓vopx, ↓vop, Nat.reduceBEq, thenV, flat, Nat.reduceLT, opII, gtmp, hl, wocs, ↓goc, ↓woc, ↓vopm0, ↓callC, ↓pick_ff, calleeV, bne_self_eq_false]
        repeat ((with_reducible refine And.intro ?_ ?_); · exact ⟨Tryd.is54, relTrans_ _ _ _ _ _ _ _ hR⟩)
        refine hK15 _ _ ?_
        refine vck fun A B hA hB => ?_
        simp only [condV, ev_hit, lpv, Nat.reduceLT, Bool.not_eq_true', Bool.not_eq_false', hl]
        refine ⟨fun hc48 => hA ?_, fun hc48 => hB ?_⟩
        · clear hA hB A B
          refine vsk fun K16 hK16 => ?_
          refine vw_sc 0 [] ?_
          simp only [bs, ↓vopx, ↓vop, thenV, flat, wocs, ↓goc, ↓woc, ↓vopm0]
          refine hK16 _ _ ?_
          refine vw_ret ?_
          refine hQ _ _ _ (.inr rfl) (done_tmp ?_ hks)
          try simp only [ev_hit, lpv, hl, Nat.reduceLT]
          rw [show checkS o = 10 from by unfold checkS; rw [if_neg (by omega), hc48]; simp]
        · clear hA hB A B
          refine vw_skip ?_
          refine hK14 _ _ ?_
          refine vsk fun K17 hK17 => ?_
          refine vw_sc 0 [] ?_
          simp only [bs, ↓vopx, ↓vop, thenV, flat, wocs, ↓goc, ↓woc, ↓vopm0]
          refine hK17 _ _ ?_
          refine vw_ret ?_
          refine hQ _ _ _ (.inr rfl) (done_tmp ?_ hks)
          try simp only [ev_hit, lpv, hl, Nat.reduceLT]
          rw [show checkS o = 0 from by unfold checkS; rw [if_neg (by omega), hsz, hin, hris, hc48]; rfl]
      · refine vw_sc 0 [] ?_
        simp only [bs, ↓vopx, ↓vop, Nat.reduceBEq, thenV, flat, Nat.reduceLT, opII, gtmp, hl, wocs, ↓goc, ↓woc, ↓vopm0, ↓pick_tf, Int.reduceBNe]
        refine hK15 _ _ ?_
        refine vck fun A B hA hB => ?_
        simp only [condV, ev_hit, lpv, Nat.reduceLT, true_implies, reduceCtorEq, false_implies, and_true, hl]
        refine hA ?_
        clear hA hB A B
        refine vsk fun K18 hK18 => ?_
        refine vw_sc 0 [] ?_
        simp only [bs, ↓vopx, ↓vop, thenV, flat, wocs, ↓goc, ↓woc, ↓vopm0]
        refine hK18 _ _ ?_
        refine vw_ret ?_
        refine hQ _ _ _ (.inr rfl) (done_tmp ?_ hks)
        try simp only [ev_hit, lpv, hl, Nat.reduceLT]
        rw [show checkS o = 10 from by unfold checkS; rw [if_neg (by omega), hin]; simp]
set_option maxRecDepth 20000 in
theorem isOb_ (o : Ob) (hs1 : o.labels.length < 1000000000) (hs2 : o.pairs.length < 1000000000) : PCall Tryd.prog 17 [vObj o] (Bo (checkS o == 0)) := by
  refine pcall_of_body Tryd.func17 rfl fun s Q hQ => ?_
  obtain ⟨e, he, hl, h0⟩ : ∃ e : Env, ([vObj o] ++ List.replicate (Tryd.f17.ntmps - ([vObj o] : List V).length) .junk) = e ∧ e.length = 6 ∧ ev e (.tmp 0) = vObj o := ⟨_, rfl, rfl, rfl⟩
  rw [he]
  clear he
  refine vsk fun K1 hK1 => ?_
  refine vw_sc 0 [] ?_
  simp only [bs, ↓vopx, ↓vop, thenV, flat, V.cells, h0, wocs, ↓goc, ↓woc, ↓vopm0]
  refine hK1 _ _ ?_
  refine vsk fun K2 hK2 => ?_
  refine vw_sc 0 [.pur (I (checkS o))] ?_
  simp only [bs, Nat.reduceAdd, ↓vopx, ↓vop, Nat.reduceBEq, thenV, flat, Nat.reduceLT, dLoad, vpart, opII, hl, wocs, ↓goc, ↓woc, ↓vopm0, ↓callC, calleeV, Tryd.ag26, Tryd.sz26]
  repeat ((with_reducible refine And.intro ?_ ?_); · exact ⟨Tryd.is29, check_ o hs1 hs2⟩)
  refine hK2 _ _ ?_
  refine vw_ret ?_
  refine hQ _ _ _ (.inr rfl) (done_tmp ?_ fun n b hn h => add_old s _ hn h)
  try simp only [ev_hit, lpv, hl, Nat.reduceLT]
end Go.Proofs

open Go Go.V
namespace Go.Proofs
structure ValI (n0 : Nat) (C : Sg → Prop) (vals : Nat → List V) (len : Nat) (Iv : (Nat → Prop) → Nat → Sg → Prop) : Prop where
  hI : ∀ X k s, Iv X k s → C s ∧ ∀ x, X x → x < s.next
  hadd : ∀ X k s b, Iv X k s → Iv (fun m => X m ∨ m = s.next) k (s.add b)
  hset : ∀ X k s x b, Iv X k s → X x → Iv X k (s.set x b)
  hY : ∀ X k s, k < len → Iv X k s → YCall Tryd.prog n0 (vals k) s fun v s' => v = Bo true ∧ Iv X (k + 1) s' ∧ ∀ x, X x → s'.m x = s.m x
def pairV (l : List (Int × Int)) (k : Nat) : List V := match l[k]? with | some p => [.agg [I p.1, I p.2]] | none => []
set_option maxRecDepth 20000 in
theorem valPairs_ (s : Sg) (l : List (Int × Int)) : VCall Tryd.prog 31 [.t (tPairs l)] s (fun v s' => v = .clo 56 [.ptr s.next 0] ∧ s' = s.add (.box 24 [.t (tPairs l)])) := by
  refine kcall_of_body Tryd.func31 rfl fun Q hQ => ?_
  obtain ⟨e, he, hl, h0⟩ : ∃ e : Env, ([.t (tPairs l)] ++ List.replicate (Tryd.f31.ntmps - ([.t (tPairs l)] : List V).length) .junk) = e ∧ e.length = 4 ∧ ev e (.tmp 0) = .t (tPairs l) := ⟨_, rfl, rfl, rfl⟩
  rw [he]
  clear he
  refine vsk fun K1 hK1 => ?_
  refine vw_sc 0 [] ?_
  simp only [bs, ↓vopx, ↓vop, thenV, flat, V.cells, h0, wocs, ↓goc, ↓woc, ↓vopm0]
  refine hK1 _ _ ?_
  refine vsk fun K2 hK2 => ?_
  refine vw_sc 0 [] ?_
  simp only [bs, ↓vopx, ↓vop, Nat.reduceBEq, thenV, Nat.reduceLT, hl, wocs, ↓goc, ↓woc, ↓vopm0, capOk, List.all_cons, List.all_nil, Bool.and_self]
  refine hK2 _ _ ?_
  refine vw_ret ?_
  refine hQ _ _ _ (.inr rfl) (donek_tmp (v := .clo 56 [.ptr s.next 0]) ?_ rfl ⟨rfl, rfl⟩)
  try simp only [ev_hit, lpv, hl, Nat.reduceLT]
set_option maxRecDepth 20000 in
theorem valPairs1_ (n0 cb : Nat) (l : List (Int × Int)) (hl0 : l.length < 1000000000) (Iv : (Nat → Prop) → Nat → Sg → Prop) (E : ValI n0 (fun s => s.m cb = some (.box 24 [.t (tPairs l)])) (pairV l) l.length Iv) (s : Sg) (hs0 : Iv (fun _ => False) 0 s) : VCall Tryd.prog 56 [.yl n0, .ptr cb 0] s (fun _ s' => ∃ X, Iv X l.length s') := by
  refine kcall_of_body Tryd.func56 rfl fun Q hQ => ?_
  obtain ⟨e, he, hl, h0, h1⟩ : ∃ e : Env, ([.yl n0, .ptr cb 0] ++ List.replicate (Tryd.f56.ntmps - ([.yl n0, .ptr cb 0] : List V).length) .junk) = e ∧ e.length = 16 ∧ ev e (.tmp 0) = .yl n0 ∧ ev e (.tmp 1) = .ptr cb 0 := ⟨_, rfl, rfl, rfl, rfl⟩
  rw [he]
  clear he
  have hcb := (E.hI _ _ s hs0).1
  refine vsk fun K1 hK1 => ?_
  refine vw_sc 0 [] ?_
  simp only [bs, ↓vopx, ↓vop, thenV, flat, Nat.reduceLT, dLoad, vpart, hl, h1, wocs, ↓goc, ↓woc, ↓vopm0, Tryd.ag24, Tryd.sz24, Tryd.un24, len_tPairs, hcb]
  refine hK1 _ _ ?_
  refine vw_block ?_
  refine vw_loop (fun mm e' s' => ∃ k : Nat, mm = l.length - k ∧ k ≤ l.length ∧ e'.length = 16 ∧ ev e' (.tmp 0) = .yl n0 ∧ ev e' (.tmp 1) = .ptr cb 0 ∧ ev e' (.tmp 5) = .t (tPairs l) ∧ ev e' (.tmp 6) = I l.length ∧ ev e' (.tmp 7) = I k ∧ True ∧ ∃ X, Iv X k s') (⟨0, rfl, Nat.zero_le _, ?_⟩) ?_
  · try simp only [ev_hit, ev_miss, Nat.reduceBEq, lpv, hl, h0, h1, Nat.reduceLT, true_and]
    repeat ((with_reducible refine And.intro ?_ ?_); · trivial)
    all_goals (exact ⟨_, hs0⟩)
  rintro mm e s1 ⟨k, rfl, hle_k, hl, h0, h1, h5, h6, h_k, hst, ⟨X, hiv⟩⟩
  refine vsk fun K2 hK2 => ?_
  refine vw_sc 0 [] ?_
  simp only [thenV, opII, h6, h_k, wocs, ↓goc, ↓woc]
  refine hK2 _ _ ?_
  refine vsk fun K3 hK3 => ?_
  refine vck fun A B hA hB => ?_
  simp only [condV, ev_hit, Nat.reduceLT, decide_eq_true_eq, decide_eq_false_iff_not, hl]
  refine ⟨fun hc8 => hA ?_, fun hc8 => hB ?_⟩
  · clear hA hB A B
    refine vw_skip ?_
    refine hK3 _ _ ?_
    refine vsk fun K4 hK4 => ?_
    refine vw_block ?_
    refine vsk fun K5 hK5 => ?_
    have hlt : k < l.length := by omega
    obtain ⟨p, hp⟩ : ∃ p, l[k]? = some p := ⟨_, List.getElem?_eq_getElem hlt⟩
    have g0 := dropP hp
    have hfl := flat_length l
    have hi2 : k * 2 < l.length * 2 := by omega
    refine vw_sc 0 [] ?_
    simp only [bs, Nat.reduceAdd, ↓vopx, ↓vop, Nat.reduceBEq, thenV, Nat.reduceLT, V.cells, dLoad, vpart, hl, h5, h_k, wocs, ↓goc, ↓woc, ↓vopm0, Tryd.ag30, Tryd.sz30, Tryd.un24, Tryd.zv30, g0, hfl, hi2]
    refine hK5 _ _ ?_
    refine vsk fun K6 hK6 => ?_
    refine vw_env2 fun e2 sb hE2 hSb => ?_
    subst hE2
    have hivb : Iv (fun m => X m ∨ m = s1.next) k sb := by rw [hSb]; exact E.hset _ _ _ _ _ (E.hadd _ _ s1 _ hiv) (.inr rfl)
    have hbx : sb.m s1.next = some (.box 30 [I p.1, I p.2]) := by rw [hSb]; simp [Sg.set]
    have hY := E.hY _ k sb hlt hivb
    have hpv : pairV l k = [.agg [I p.1, I p.2]] := by unfold pairV; rw [hp]
    rw [hpv] at hY
    refine vw_sc 0 [.stop] ?_
    simp only [bs, Nat.reduceAdd, ↓vopx, ↓vop, Nat.reduceBEq, thenV, Nat.reduceLT, dLoad, vpart, hl, h0, wocs, ↓goc, ↓woc, ↓vopm0, calleeV, ↓yieldC, Tryd.ag30, Tryd.sz30, hbx]
    refine YCall.mono hY fun v s2 hv => ?_
    obtain ⟨rfl, hiv2, _⟩ := hv
    try simp only [bs, Nat.reduceBEq, Nat.reduceLT, hl, h0, Hold]
    refine hK6 _ _ ?_
    refine vck fun A B hA hB => ?_
    simp only [condV, ev_hit, lpv, Nat.reduceLT, true_implies, reduceCtorEq, false_implies, true_and, hl]
    refine hB ?_
    clear hA hB A B
    refine vw_skip ?_
    refine hK4 _ _ ?_
    refine vw_sc 0 [] ?_
    simp only [bs, ↓vopx, ↓vop, Nat.reduceBEq, thenV, flat, Nat.reduceLT, opII, hl, h0, h1, h5, h6, h_k, wocs, ↓goc, ↓woc, ↓vopm0]
    repeat ((with_reducible refine And.intro ?_ ?_); · exact ⟨by omega, by omega⟩)
    refine ⟨l.length - (k + 1), by omega, k + 1, rfl, by omega, ?_⟩
    try simp only [ev_hit, ev_miss, Nat.reduceBEq, lpv, hl, h0, h1, h5, h6, h_k, if_true, if_false, Nat.reduceEqDiff, Nat.reduceLT, true_and, and_true]
    repeat ((with_reducible refine And.intro ?_ ?_); · trivial)
    exact ⟨_, hiv2⟩
  · clear hA hB A B
    have han : l.length = k := by omega
    refine vw_exit ?_
    simp only [thenV, blockV, if_true]
    rw [← han] at hiv
    exact hQ _ _ _ (.inl rfl) ⟨[], rfl, rfl, X, hiv⟩
end Go.Proofs

open Go Go.V
namespace Go.Proofs
theorem RelP.setO {s : Sg} {p n : Nat} {M : Mx} {na : Nat} {rp rq : Nat → Nat} (h : RelP s p n M na rp rq) {N x : Nat} (hN : p < N ∧ na < N ∧ (∀ i, i < n → rp i < N) ∧ ∀ i, i < n → rq i < N) (hx : N ≤ x) (b : Blk) : RelP (s.set x b) p n M na rp rq := by
  obtain ⟨q1, q2, q3, q4⟩ := hN
  refine ⟨by simp [Sg.set, show p ≠ x by omega, h.hp], by simp [Sg.set, show na ≠ x by omega, h.ha], fun i hi => ?_, fun i hi => ?_, h.inj, h.le, h.lp, h.la, h.lr, h.lq⟩
  · have := q3 i hi; simp [Sg.set, show rp i ≠ x by omega, h.hr i hi]
  · have := q4 i hi; simp [Sg.set, show rq i ≠ x by omega, h.hw i hi]
structure RelI (s : Sg) (lp : Blk) (t3 cb n0 c n : Nat) (l : List (Int × Int)) (na : Nat) (rp rq : Nat → Nat) (X : Nat → Prop) (k : Nat) (s' : Sg) : Prop where
  rel : RelP s' c n (mxOf (l.take k)) na rp rq
  bt : s'.m t3 = some (.box 47 [.ptr c 0])
  bc : s'.m cb = some (.box 24 [.t (tPairs l)])
  hl : s'.m n0 = some lp
  hk : Keep s s'
  nx : n0 < s'.next
  hX : ∀ x, X x → n0 < x ∧ x < s'.next
variable {s : Sg} {lp : Blk} {t3 cb n0 c n : Nat} {l : List (Int × Int)} {na : Nat} {rp rq : Nat → Nat} {X : Nat → Prop} {k : Nat} {s' : Sg}
theorem RelI.add (h : RelI s lp t3 cb n0 c n l na rp rq X k s') (h3 : t3 < n0) (hc : cb < n0) (hs : s.next ≤ n0) (b : Blk) : RelI s lp t3 cb n0 c n l na rp rq (fun x => X x ∨ x = s'.next) k (s'.add b) := by
  have hn := h.nx
  refine ⟨h.rel.keep ((Keep.refl s').add (Nat.le_refl _) b) (by simp [Sg.add]), by simp [Sg.add, show t3 ≠ s'.next by omega, h.bt], by simp [Sg.add, show cb ≠ s'.next by omega, h.bc], by simp [Sg.add, show n0 ≠ s'.next by omega, h.hl], h.hk.add (by omega) b, by simp [Sg.add]; omega, fun x hx => ?_⟩
  rcases hx with hx | rfl
  · have := h.hX x hx; exact ⟨this.1, by simp [Sg.add]; omega⟩
  · exact ⟨hn, by simp [Sg.add]⟩
theorem RelI.set (h : RelI s lp t3 cb n0 c n l na rp rq X k s') (h3 : t3 < n0) (hc : cb < n0) (hs : s.next ≤ n0) (hN : c < n0 ∧ na < n0 ∧ (∀ i, i < n → rp i < n0) ∧ ∀ i, i < n → rq i < n0) {x : Nat} (hx : X x) (b : Blk) : RelI s lp t3 cb n0 c n l na rp rq X k (s'.set x b) := by
  have h1 := h.hX x hx
  exact ⟨h.rel.setO hN (by omega) b, by simp [Sg.set, show t3 ≠ x by omega, h.bt], by simp [Sg.set, show cb ≠ x by omega, h.bc], by simp [Sg.set, show n0 ≠ x by omega, h.hl], h.hk.set (by omega) b, h.nx, h.hX⟩
set_option maxRecDepth 20000 in
theorem objRel_ (s : Sg) (o : Ob) (hs1 : o.labels.length < 1000000000) (hs2 : o.pairs.length < 1000000000) (ho : IsOb o) : VCall Tryd.prog 18 [vObj o] s (NewP s o.labels.length (mxOf o.pairs)) := by
  refine kcall_of_body Tryd.func18 rfl fun Q hQ => ?_
  obtain ⟨e, he, hl, h0⟩ : ∃ e : Env, ([vObj o] ++ List.replicate (Tryd.f18.ntmps - ([vObj o] : List V).length) .junk) = e ∧ e.length = 24 ∧ ev e (.tmp 0) = vObj o := ⟨_, rfl, rfl, rfl⟩
  rw [he]
  clear he
  have hcb : (checkS o == 0) = true := by simp [checkS_zero.2 ho]
  have hle := ho.le
  refine vsk fun K1 hK1 => ?_
  refine vw_sc 0 [] ?_
  simp only [bs, ↓vopx, ↓vop, thenV, flat, V.cells, h0, wocs, ↓goc, ↓woc, ↓vopm0]
  refine hK1 _ _ ?_
  refine vsk fun K2 hK2 => ?_
  refine vsk fun K3 hK3 => ?_
  refine vw_sc 0 [.pur (Bo (checkS o == 0))] ?_
  simp only [bs, Nat.reduceAdd, ↓vopx, ↓vop, Nat.reduceBEq, thenV, Nat.reduceLT, dLoad, vpart, hl, wocs, ↓goc, ↓woc, ↓vopm0, ↓callC, calleeV, Tryd.ag26, Tryd.sz26, hcb]
  repeat ((with_reducible refine And.intro ?_ ?_); · exact ⟨Tryd.is17, by simpa only [hcb] using isOb_ o hs1 hs2⟩)
  refine hK3 _ _ ?_
  refine vck fun A B hA hB => ?_
  simp only [condV, ev_hit, lpv, Nat.reduceLT, true_implies, reduceCtorEq, false_implies, true_and, hl]
  refine hB ?_
  clear hA hB A B
  refine vw_skip ?_
  refine hK2 _ _ ?_
  refine vsk fun K4 hK4 => ?_
  refine vw_sc 0 [.stop] ?_
  simp only [bs, Nat.reduceAdd, ↓vopx, ↓vop, Nat.reduceBEq, thenV, Nat.reduceLT, V.cells, dLoad, vpart, hl, wocs, ↓goc, ↓woc, ↓vopm0, ↓callC, calleeV, Tryd.ag23, Tryd.fd26_0, Tryd.sz23, Tryd.un23, len_tStrs]
  refine ⟨Tryd.is30, (relNew_ _ o.labels.length (by omega)).mono fun v s2 hv => ?_⟩
  obtain ⟨c, na1, rp1, rq1, rfl, hR, hF0, hk0, hnx0⟩ := hv
  have hle1 : s.next ≤ (s.add (.box 26 [.t (tStrs o.labels), .t (tPairs o.pairs)])).next := by simp [Sg.add]
  have hv0 : s2.m s.next = some (.box 26 [.t (tStrs o.labels), .t (tPairs o.pairs)]) ∧ s.next < s2.next := ⟨hk0 _ _ (by simp [Sg.add]) (add_self _ _), by simp [Sg.add] at hnx0; omega⟩
  have hk : Keep s s2 := ((Keep.refl s).add (Nat.le_refl _) _).trans (by simp [Sg.add]) hk0
  have hnx : s.next ≤ s2.next := by omega
  have hF : FreshP s c o.labels.length na1 rp1 rq1 := ⟨Nat.le_trans hle1 hF0.hp, Nat.le_trans hle1 hF0.ha, fun i hi => Nat.le_trans hle1 (hF0.hr i hi), fun i hi => Nat.le_trans hle1 (hF0.hq i hi)⟩
  try simp only [bs, Nat.reduceBEq, Nat.reduceLT, hl, Tryd.sz47, Tryd.zv47, Hold]
  refine hK4 _ _ ?_
  refine vsk fun K5 hK5 => ?_
  refine vsk fun K6 hK6 => ?_
  refine vw_env2 fun e2 sb hE2 hSb => ?_
  subst hE2
  have hbo : sb.m s.next = some (.box 26 [.t (tStrs o.labels), .t (tPairs o.pairs)]) := by rw [hSb]; simp [Sg.set, Sg.add, show s.next ≠ s2.next by omega, hv0.1]
  have hb3 : sb.m s2.next = some (.box 47 [.ptr c 0]) := by rw [hSb]; simp [Sg.set]
  have hsbn : sb.next = s2.next + 1 := by rw [hSb]; rfl
  have hkb : Keep s2 sb := by rw [hSb]; exact ((Keep.refl s2).add (Nat.le_refl _) _).set (Nat.le_refl _) _
  refine vw_sc 0 [.stop] ?_
  simp only [bs, Nat.reduceAdd, ↓vopx, ↓vop, Nat.reduceBEq, thenV, Nat.reduceLT, dLoad, vpart, hl, wocs, ↓goc, ↓woc, ↓vopm0, ↓callC, calleeV, Tryd.ag24, Tryd.fd26_1, Tryd.sz24, hbo]
  refine ⟨Tryd.is31, (valPairs_ sb o.pairs).mono fun v s5 hv => ?_⟩
  obtain ⟨rfl, rfl⟩ := hv
  try simp only [Hold]
  refine hK6 _ _ ?_
  refine vw_block ?_
  refine vw_env2 fun e1 s3 hE hS => ?_
  have hlE : e1.length = 24 := by rw [hE]; simp only [lpv, hl]
  have h3E : ev e1 (.tmp 3) = .ptr s2.next 0 := by rw [hE]; simp only [ev_hit, ev_miss, Nat.reduceBEq, lpv, hl, Nat.reduceLT]
  have h15E : ev e1 (.tmp 15) = .clo 56 [.ptr sb.next 0] := by rw [hE]; simp only [ev_hit, lpv, hl, Nat.reduceLT]
  clear hE
  have h3n : s3.next = sb.next + 1 := by rw [hS]; rfl
  have h3k : Keep sb s3 := by rw [hS]; exact (Keep.refl sb).add (Nat.le_refl _) _
  have h3c : s3.m sb.next = some (.box 24 [.t (tPairs o.pairs)]) := by rw [hS]; simp [Sg.add]
  clear hS
  refine vw_range (g := 56) (caps := [.ptr sb.next 0]) h15E Tryd.func56 rfl (by decide) fun s4 h4e h4n h4m h4l => ?_
  have hNB : c < s3.next ∧ na1 < s3.next ∧ (∀ i, i < o.labels.length → rp1 i < s3.next) ∧ ∀ i, i < o.labels.length → rq1 i < s3.next := ⟨by have := hR.lp; omega, by have := hR.la; omega, fun i hi => by have := hR.lr i hi; omega, fun i hi => by have := hR.lq i hi; omega⟩
  have hk4 : Keep sb s4 := fun m b hm hb => by rw [h4m m (by omega)]; exact h3k m b hm hb
  have hst : RelI s _ s2.next sb.next s3.next c o.labels.length o.pairs na1 rp1 rq1 (fun _ => False) 0 s4 := ⟨(hR.keep (hkb.trans (by omega) hk4) (by omega)).congr fun x y hx hy => by simp [mxOf], hk4 _ _ (by omega) hb3, by rw [h4m _ (by omega)]; exact h3c, h4l, hk.trans hnx (hkb.trans (by omega) hk4), by omega, fun x hx => hx.elim⟩
  refine (valPairs1_ s3.next sb.next o.pairs hs2 _ ⟨fun X k s5 hp => ⟨hp.bc, fun x hx => (hp.hX x hx).2⟩, fun X k s5 b hp => hp.add (by omega) (by omega) (by omega) b, fun X k s5 x b hp hx => hp.set (by omega) (by omega) (by omega) hNB hx b, fun X k s5 hkl hp5 => ?_⟩ s4 hst).mono fun v s6 h6 => ?_
  rotate_left
  · obtain ⟨X, hp6⟩ := h6
    refine ⟨none, .ready, hp6.hl, by simp, ?_⟩
    have hsn : ¬ s2.next = s3.next := by omega
    simp only []
    refine hK5 _ _ ?_
    refine vsk fun K7 hK7 => ?_
    refine vw_sc 0 [] ?_
    simp only [bs, ↓vopx, ↓vop, thenV, Nat.reduceLT, dLoad, vpart, hlE, h3E, wocs, ↓goc, ↓woc, ↓vopm0, Tryd.ag47, Tryd.sz47, hsn, hp6.bt]
    refine hK7 _ _ ?_
    refine vw_ret ?_
    have hkf : Keep s (s6.del s3.next) := hp6.hk.del (by omega)
    refine hQ _ _ _ (.inr rfl) (donek_tmp (v := .ptr c 0) ?_ rfl ⟨c, na1, rp1, rq1, rfl, ?_, hF, hkf, by simp [Sg.del]; have := hp6.nx; omega⟩)
    try simp only [ev_hit, lpv, hlE, Nat.reduceLT]
    have hrf := hp6.rel
    rw [List.take_length] at hrf
    exact ⟨by simp [Sg.del, show c ≠ s3.next by have := hNB.1; omega, hrf.hp], by simp [Sg.del, show na1 ≠ s3.next by have := hNB.2.1; omega, hrf.ha], fun i hi => by simp [Sg.del, show rp1 i ≠ s3.next by have := hNB.2.2.1 i hi; omega, hrf.hr i hi], fun i hi => by simp [Sg.del, show rq1 i ≠ s3.next by have := hNB.2.2.2 i hi; omega, hrf.hw i hi], hrf.inj, hrf.le, hrf.lp, hrf.la, hrf.lr, hrf.lq⟩
  obtain ⟨p, hp⟩ : ∃ p, o.pairs[k]? = some p := ⟨_, List.getElem?_eq_getElem hkl⟩
  have hpv : pairV o.pairs k = [.agg [I p.1, I p.2]] := by unfold pairV; rw [hp]
  rw [hpv]
  have hin : (0 ≤ p.1 ∧ p.1 < o.labels.length) ∧ (0 ≤ p.2 ∧ p.2 < o.labels.length) := by have := (List.all_eq_true.1 ho.inb) p (List.mem_of_getElem? hp); simpa only [inB, Bool.and_eq_true, decide_eq_true_eq] using this
  obtain ⟨a, ha⟩ : ∃ a : Nat, p.1 = (a : Int) := ⟨p.1.toNat, by omega⟩
  obtain ⟨b, hb⟩ : ∃ b : Nat, p.2 = (b : Int) := ⟨p.2.toNat, by omega⟩
  have hnx5 := hp5.nx
  have hn35 : s3.next ≠ s5.next := by omega
  have hn25 : s2.next ≠ s5.next := by omega
  refine ycall_of hp5.hl rfl fun KA hKA => ?_
  rw [show (#[16] : Array Tmp).toList = [16] from rfl, setps_one]
  refine vw_sc 0 [] ?_
  simp only [bs, Nat.reduceAdd, ↓vopx, ↓vop, Nat.reduceBEq, thenV, Nat.reduceLT, V.cells, hlE, wocs, ↓goc, ↓woc, ↓vopm0, Tryd.sz30, Tryd.zv30]
  refine hKA _ _ (by simp [Sg.set, Sg.add, hn35, hp5.hl]) ?_
  refine vw_env2 fun e2 sd hE2 hSd => ?_
  subst hE2
  have hsdn : sd.next = s5.next + 1 := by rw [hSd]; rfl
  have hbt : sd.m s2.next = some (.box 47 [.ptr c 0]) := by rw [hSd]; simp [Sg.set, Sg.add, show s2.next ≠ s3.next by omega, hn25, hp5.bt]
  have hbx : sd.m s5.next = some (.box 30 [I p.1, I p.2]) := by rw [hSd]; simp [Sg.set, Sg.add, hn35.symm]
  have hkd : Keep s sd := by rw [hSd]; exact (((hp5.hk.add (by omega) _).set (by omega) _)).set (by omega) _
  have hrd : RelP sd c o.labels.length (mxOf (o.pairs.take k)) na1 rp1 rq1 := by rw [hSd]; exact (hp5.rel.keep (((Keep.refl s5).add (Nat.le_refl _) _).set (Nat.le_refl _) _) (by simp [Sg.set, Sg.add])).setO hNB (Nat.le_refl _) _
  have hdo : ∀ m, m ≠ s3.next → m ≠ s5.next → sd.m m = s5.m m := fun m h1 h2 => by rw [hSd]; simp [Sg.set, Sg.add, h1, h2]
  have hal : a < o.labels.length ∧ b < o.labels.length := by omega
  refine vw_block ?_
  refine vw_sc 0 [.stop] ?_
  simp only [bs, Nat.reduceAdd, ↓vopx, ↓vop, Nat.reduceBEq, blockV, Nat.reduceLT, dLoad, vpart, hlE, h3E, wocs, ↓goc, ↓woc, ↓vopm0, ↓callC, calleeV, Tryd.ag3, Tryd.ag47, Tryd.fd30_0, Tryd.fd30_1, Tryd.sz3, Tryd.sz47, hbt, hbx, ha, hb]
  refine ⟨Tryd.is32, (relAdd_ sd c _ _ na1 rp1 rq1 hrd a b hal.1 hal.2).mono fun v s6 hv => ?_⟩
  try simp only [ha, hb, Hold]
  obtain ⟨⟨bb, rfl⟩, hr6, hm6, hn6⟩ := hv
  have hq : ∀ m, s2.next ≤ m → s6.m m = sd.m m := fun m hm => hm6 m fun i hi => by have := hR.lq i hi; omega
  refine And.intro (by rw [hq _ (by omega), hSd]; exact if_pos rfl) (And.intro rfl ⟨⟨?_, ?_, ?_, by simp [Sg.set], ?_, by simp [Sg.set]; omega, fun x hx => ?_⟩, fun x hx => ?_⟩)
  · rw [mxOf_take hp, updM_or, show p.1.toNat = a from by omega, show p.2.toNat = b from by omega]; exact hr6.setO hNB (Nat.le_refl _) _
  · simp [Sg.set, show s2.next ≠ s3.next by omega, hq s2.next (Nat.le_refl _), hbt]
  · simp [Sg.set, show sb.next ≠ s3.next by omega, hq sb.next (by omega), hdo sb.next (by omega) (by omega), hp5.bc]
  · exact (AddP.keep (v := Bo bb) ⟨⟨_, rfl⟩, hr6, hm6, hn6⟩ (fun i hi => hF.hq i hi) hkd).set (by omega) _
  · have := hp5.hX x hx; exact ⟨this.1, by simp [Sg.set]; omega⟩
  · have := hp5.hX x hx; simp [Sg.set, show x ≠ s3.next by omega, hq x (by omega), hdo x (by omega) (by omega)]
end Go.Proofs

open Go Go.V
namespace Go.Proofs
theorem any_take {α : Type} {P : α → Bool} {l : List α} {i : Nat} {p : α} (hp : l[i]? = some p) (h : (l.take i).any P = false) (hn : P p = false) : (l.take (i + 1)).any P = false := by
  rw [List.take_add_one, hp]; simp [List.any_append, h, hn]
theorem any_at {α : Type} {P : α → Bool} {l : List α} {i : Nat} {p : α} (hp : l[i]? = some p) (h : P p = true) : l.any P = true :=
  List.any_eq_true.2 ⟨p, List.mem_of_getElem? hp, h⟩
theorem all_notany {α : Type} (P : α → Bool) (l : List α) : l.all P = !(l.any fun p => !(P p)) := by
  induction l with
  | nil => rfl
  | cons a l ih => simp only [List.all_cons, List.any_cons, ih]; cases P a <;> rfl
set_option maxRecDepth 20000 in
theorem arrowCl_ (s : Sg) (rb fb c n : Nat) (M : Mx) (na : Nat) (rp rq : Nat → Nat) (h : RelP s c n M na rp rq) (f : List Int) (hrb : s.m rb = some (.box 47 [.ptr c 0])) (hfb : s.m fb = some (.box 27 [.t (tInts f)])) (hlr : rb < s.next) (hlf : fb < s.next) (p : Int × Int) (x y : Int) (hp0 : 0 ≤ p.1 ∧ 0 ≤ p.2) (hx : f[p.1.toNat]? = some x) (hy : f[p.2.toNat]? = some y) (hxr : 0 ≤ x ∧ x < n) (hyr : 0 ≤ y ∧ y < n) : DCall Tryd.prog 20 [.agg [I p.1, I p.2], .ptr rb 0, .ptr fb 0] s (Bo (!(M x.toNat y.toNat))) (s) := by
  refine dcall_of_body Tryd.func20 rfl fun Q hQ => ?_
  obtain ⟨e, he, hl, h0, h1, h2⟩ : ∃ e : Env, ([.agg [I p.1, I p.2], .ptr rb 0, .ptr fb 0] ++ List.replicate (Tryd.f20.ntmps - ([.agg [I p.1, I p.2], .ptr rb 0, .ptr fb 0] : List V).length) .junk) = e ∧ e.length = 18 ∧ ev e (.tmp 0) = .agg [I p.1, I p.2] ∧ ev e (.tmp 1) = .ptr rb 0 ∧ ev e (.tmp 2) = .ptr fb 0 := ⟨_, rfl, rfl, rfl, rfl, rfl⟩
  rw [he]
  clear he
  have hn1 : ¬ rb = s.next := by omega
  have hn2 : ¬ fb = s.next := by omega
  have hp1 : p.1.toNat < f.length := (List.getElem?_eq_some_iff.1 hx).1
  have hp2 : p.2.toNat < f.length := (List.getElem?_eq_some_iff.1 hy).1
  refine vsk fun K1 hK1 => ?_
  refine vw_sc 0 [] ?_
  simp only [bs, ↓vopx, ↓vop, thenV, flat, V.cells, h0, wocs, ↓goc, ↓woc, ↓vopm0]
  refine hK1 _ _ ?_
  refine vsk fun K2 hK2 => ?_
  refine vw_chain Tryd.mixed 11 [1, 1, 0, 1, 1, 1, 1, 0, 1, 1, 1] [.det (Bo (M x.toNat y.toNat)) (s.add (.box 30 [I p.1, I p.2]))] [] 0 (by decide +kernel) (by simp [lpv, hl]) rfl ?_
  simp only [bs, ↓vopx, ↓vop, Nat.reduceBEq, thenV, Nat.reduceLT, dLoad, vpart, hl, h1, h2, wocs, ↓goc, ↓woc, ↓vopm0, ↓vopm1, ↓callC, calleeV, chn, ↓goq, ↓woq, List.zip_cons_cons, List.zip_nil_right, Tryd.ag27, Tryd.ag3, Tryd.ag47, Tryd.fd30_0, Tryd.fd30_1, Tryd.sz27, Tryd.sz3, Tryd.sz47, Tryd.un27, hn1, hn2, hrb, hfb, hp0, hx, hy, hp1, hp2]
  repeat ((with_reducible refine And.intro ?_ ?_); · exact ⟨Tryd.is21, by simpa [hxr, hyr] using relHas_ (s.add (.box 30 [I p.1, I p.2])) c n M na rp rq (h.keep ((Keep.refl s).add (Nat.le_refl _) _) (by simp [Sg.add])) x y⟩)
  refine hK2 _ _ ?_
  refine vw_ret ?_
  refine hQ _ _ _ (.inr rfl) (Done.toS (done_tmp ?_ fun n b hn h => by simp [Sg.add, show n ≠ s.next by omega, h]))
  try simp only [ev_hit, lpv, hl, Nat.reduceLT]
set_option maxRecDepth 20000 in
theorem idxPairs_ (s : Sg) (l : List (Int × Int)) (hl0 : l.length < 1000000000) (g : Nat) (caps : List V) (hg : isFn Tryd.prog g) (P : Int × Int → Bool) (hP : ∀ p, p ∈ l → DCall Tryd.prog g ([.agg [I p.1, I p.2]] ++ caps) s (Bo (P p)) s) : VCall Tryd.prog 33 [.t (tPairs l), .clo g caps] s (fun v s' => s' = s ∧ ∃ z : Int, v = I z ∧ decide (z ≥ 0) = l.any P) := by
  refine kcall_of_body Tryd.func33 rfl fun Q hQ => ?_
  obtain ⟨e, he, hl, h0, h1⟩ : ∃ e : Env, ([.t (tPairs l), .clo g caps] ++ List.replicate (Tryd.f33.ntmps - ([.t (tPairs l), .clo g caps] : List V).length) .junk) = e ∧ e.length = 19 ∧ ev e (.tmp 0) = .t (tPairs l) ∧ ev e (.tmp 1) = .clo g caps := ⟨_, rfl, rfl, rfl, rfl⟩
  rw [he]
  clear he
  refine vsk fun K1 hK1 => ?_
  refine vw_sc 0 [] ?_
  simp only [bs, ↓vopx, ↓vop, thenV, flat, wocs, ↓goc, ↓woc, ↓vopm0]
  refine hK1 _ _ ?_
  refine vsk fun K2 hK2 => ?_
  refine vsk fun K3 hK3 => ?_
  refine vw_sc 0 [] ?_
  simp only [bs, ↓vopx, ↓vop, Nat.reduceBEq, thenV, flat, Nat.reduceLT, hl, h0, wocs, ↓goc, ↓woc, ↓vopm0, len_tPairs]
  refine hK3 _ _ ?_
  refine vw_block ?_
  refine vw_loop (fun mm e' s' => ∃ i : Nat, mm = l.length - i ∧ i ≤ l.length ∧ e'.length = 19 ∧ ev e' (.tmp 0) = .t (tPairs l) ∧ ev e' (.tmp 1) = .clo g caps ∧ ev e' (.tmp 7) = I l.length ∧ ev e' (.tmp 8) = I i ∧ s = s' ∧ (l.take i).any P = false) (⟨0, rfl, Nat.zero_le _, ?_⟩) ?_
  · try simp only [ev_hit, ev_miss, Nat.reduceBEq, lpv, hl, h0, h1, Nat.reduceLT, true_and]
    repeat ((with_reducible refine And.intro ?_ ?_); · trivial)
    first | trivial | simp
  rintro mm e _ ⟨i, rfl, hle_i, hl, h0, h1, h7, h_i, rfl, hno⟩
  refine vsk fun K4 hK4 => ?_
  refine vw_sc 0 [] ?_
  simp only [thenV, opII, h7, h_i, wocs, ↓goc, ↓woc]
  refine hK4 _ _ ?_
  refine vsk fun K5 hK5 => ?_
  refine vck fun A B hA hB => ?_
  simp only [condV, ev_hit, Nat.reduceLT, decide_eq_true_eq, decide_eq_false_iff_not, hl]
  refine ⟨fun hc9 => hA ?_, fun hc9 => hB ?_⟩
  · clear hA hB A B
    refine vw_skip ?_
    refine hK5 _ _ ?_
    refine vsk fun K6 hK6 => ?_
    refine vw_block ?_
    refine vsk fun K7 hK7 => ?_
    refine vw_sc 0 [] ?_
    simp only [bs, ↓vopx, ↓vop, Nat.reduceBEq, thenV, Nat.reduceLT, hl, h_i, wocs, ↓goc, ↓woc, ↓vopm0]
    refine hK7 _ _ ?_
    refine vsk fun K8 hK8 => ?_
    have hlt : i < l.length := by omega
    obtain ⟨p, hp⟩ : ∃ p, l[i]? = some p := ⟨_, List.getElem?_eq_getElem hlt⟩
    have g0 := dropP hp
    have hfl := flat_length l
    have hi2 : i * 2 < l.length * 2 := by omega
    refine vw_sc 0 [.det (Bo (P p)) s] ?_
    simp only [bs, Nat.reduceAdd, ↓vopx, ↓vop, Nat.reduceBEq, thenV, Nat.reduceLT, dLoad, vpart, hl, h0, h1, wocs, ↓goc, ↓woc, ↓vopm0, ↓callC, calleeV, Tryd.ag30, Tryd.sz30, Tryd.un24, g0, hfl, hi2]
    repeat ((with_reducible refine And.intro ?_ ?_); · exact ⟨hg, hP p (List.mem_of_getElem? hp)⟩)
    refine hK8 _ _ ?_
    refine vck fun A B hA hB => ?_
    simp only [condV, ev_hit, lpv, Nat.reduceLT, hl]
    refine ⟨fun hc16 => hA ?_, fun hc16 => hB ?_⟩
    · clear hA hB A B
      refine vsk fun K9 hK9 => ?_
      refine vw_sc 0 [] ?_
      simp only [bs, ↓vopx, ↓vop, Nat.reduceBEq, thenV, Nat.reduceLT, hl, wocs, ↓goc, ↓woc, ↓vopm0]
      refine hK9 _ _ ?_
      refine vw_ret ?_
      refine hQ _ _ _ (.inr rfl) (donek_tmp (v := I i) ?_ rfl ⟨rfl, i, rfl, ?_⟩)
      try simp only [ev_hit, lpv, hl, Nat.reduceLT]
      rw [any_at hp hc16]; simp
    · clear hA hB A B
      refine vw_skip ?_
      refine hK6 _ _ ?_
      refine vw_sc 0 [] ?_
      simp only [bs, ↓vopx, ↓vop, Nat.reduceBEq, thenV, flat, Nat.reduceLT, opII, hl, h0, h1, h7, h_i, wocs, ↓goc, ↓woc, ↓vopm0]
      repeat ((with_reducible refine And.intro ?_ ?_); · exact ⟨by omega, by omega⟩)
      refine ⟨l.length - (i + 1), by omega, i + 1, rfl, by omega, ?_⟩
      try simp only [ev_hit, ev_miss, Nat.reduceBEq, lpv, hl, h0, h1, h7, h_i, if_true, if_false, Nat.reduceEqDiff, Nat.reduceLT, true_and, and_true]
      repeat ((with_reducible refine And.intro ?_ ?_); · trivial)
      exact any_take hp hno hc16
  · clear hA hB A B
    have han : i = l.length := by omega
    subst han
    refine vw_exit ?_
    simp only [thenV, blockV, if_true]
    refine hK2 _ _ ?_
    refine vsk fun K10 hK10 => ?_
    refine vw_sc 0 [] ?_
    simp only [bs, ↓vopx, ↓vop, thenV, flat, wocs, ↓goc, ↓woc, ↓vopm0]
    refine hK10 _ _ ?_
    refine vw_ret ?_
    rw [List.take_length] at hno
    refine hQ _ _ _ (.inr rfl) (donek_tmp (v := I (-1)) ?_ rfl ⟨rfl, -1, rfl, ?_⟩)
    try simp only [ev_hit, lpv, hl, Nat.reduceLT]
    rw [hno]; rfl
set_option maxRecDepth 20000 in
theorem containsPairs_ (s : Sg) (l : List (Int × Int)) (hl0 : l.length < 1000000000) (g : Nat) (caps : List V) (hg : isFn Tryd.prog g) (P : Int × Int → Bool) (hP : ∀ p, p ∈ l → DCall Tryd.prog g ([.agg [I p.1, I p.2]] ++ caps) s (Bo (P p)) s) : DCall Tryd.prog 19 [.t (tPairs l), .clo g caps] s (Bo (l.any P)) (s) := by
  refine dcall_of_body Tryd.func19 rfl fun Q hQ => ?_
  obtain ⟨e, he, hl, h0, h1⟩ : ∃ e : Env, ([.t (tPairs l), .clo g caps] ++ List.replicate (Tryd.f19.ntmps - ([.t (tPairs l), .clo g caps] : List V).length) .junk) = e ∧ e.length = 9 ∧ ev e (.tmp 0) = .t (tPairs l) ∧ ev e (.tmp 1) = .clo g caps := ⟨_, rfl, rfl, rfl, rfl⟩
  rw [he]
  clear he
  refine vsk fun K1 hK1 => ?_
  refine vw_sc 0 [] ?_
  simp only [bs, ↓vopx, ↓vop, thenV, flat, wocs, ↓goc, ↓woc, ↓vopm0]
  refine hK1 _ _ ?_
  refine vsk fun K2 hK2 => ?_
  refine vw_sc 0 [.stop] ?_
  simp only [bs, ↓vopx, ↓vop, Nat.reduceBEq, thenV, Nat.reduceLT, opII, opSS, hl, h0, h1, wocs, ↓goc, ↓woc, ↓vopm0, ↓callC, calleeV, ↓farC]
  refine ⟨Tryd.is33, (idxPairs_ s l hl0 g caps hg P hP).mono fun v s2 hv => ?_⟩
  obtain ⟨rfl, z, rfl, hz⟩ := hv
  try simp only [bs, Nat.reduceBEq, flat, Nat.reduceLT, hl, h0, h1, Hold]
  refine hK2 _ _ ?_
  refine vw_ret ?_
  refine hQ _ _ _ (.inr rfl) (Done.toS (done_tmp ?_ fun n b hn h => h))
  try simp only [ev_hit, lpv, hl, hz, Nat.reduceLT]
set_option maxRecDepth 20000 in
theorem arrow_ (a b : Ob) (f : List Int) (ha1 : a.labels.length < 1000000000) (ha2 : a.pairs.length < 1000000000) (hb1 : b.labels.length < 1000000000) (hb2 : b.pairs.length < 1000000000) (_hfl : f.length < 1000000000) : PCall Tryd.prog 8 [vObj a, vObj b, .t (tInts f)] (Bo (arrS a b f)) := by
  refine pcall_of_body Tryd.func8 rfl fun s Q hQ => ?_
  obtain ⟨e, he, hl, h0, h1, h2⟩ : ∃ e : Env, ([vObj a, vObj b, .t (tInts f)] ++ List.replicate (Tryd.f8.ntmps - ([vObj a, vObj b, .t (tInts f)] : List V).length) .junk) = e ∧ e.length = 63 ∧ ev e (.tmp 0) = vObj a ∧ ev e (.tmp 1) = vObj b ∧ ev e (.tmp 2) = .t (tInts f) := ⟨_, rfl, rfl, rfl, rfl, rfl⟩
  rw [he]
  clear he
  have hne1 : ¬ s.next = s.next + 1 := by omega
  have hne2 : ¬ s.next = s.next + 1 + 1 := by omega
  have hne3 : ¬ s.next + 1 = s.next + 1 + 1 := by omega
  refine vsk fun K1 hK1 => ?_
  refine vw_sc 0 [] ?_
  simp only [bs, ↓vopx, ↓vop, Nat.reduceBEq, thenV, flat, V.cells, h0, h1, h2, wocs, ↓goc, ↓woc, ↓vopm0]
  refine hK1 _ _ ?_
  refine vsk fun K2 hK2 => ?_
  refine vsk fun K3 hK3 => ?_
  rcases (show (checkS a == 0) = false ∨ ((checkS a == 0) = true ∧ (checkS b == 0) = false) ∨ ((checkS a == 0) = true ∧ (checkS b == 0) = true ∧ f.length ≠ a.labels.length) ∨ ((checkS a == 0) = true ∧ (checkS b == 0) = true ∧ f.length = a.labels.length) by cases (checkS a == 0) <;> cases (checkS b == 0) <;> simp; omega) with hca | ⟨hca, hcb⟩ | ⟨hca, hcb, hlen⟩ | ⟨hca, hcb, hlen⟩
  · refine vw_sc 0 [.pur (Bo (checkS a == 0))] ?_
    simp only [bs, Nat.reduceAdd, ↓vopx, ↓vop, Nat.reduceBEq, thenV, flat, Nat.reduceLT, dLoad, vpart, gtmp, hl, wocs, ↓goc, ↓woc, ↓vopm0, ↓callC, ↓pick_tf, calleeV, Tryd.ag26, Tryd.sz26, hne1, hne2, hca]
    repeat ((with_reducible refine And.intro ?_ ?_); · exact ⟨Tryd.is17, by simpa only [hca] using isOb_ a ha1 ha2⟩)
    refine hK3 _ _ ?_
    refine vck fun A B hA hB => ?_
    simp only [condV, ev_hit, lpv, Nat.reduceLT, true_implies, reduceCtorEq, false_implies, and_true, hl]
    refine hA ?_
    clear hA hB A B
    refine vsk fun K4 hK4 => ?_
    refine vw_sc 0 [] ?_
    simp only [bs, ↓vopx, ↓vop, thenV, flat, wocs, ↓goc, ↓woc, ↓vopm0]
    refine hK4 _ _ ?_
    refine vw_ret ?_
    refine hQ _ _ _ (.inr rfl) (done_tmp ?_ fun n b hn h => by simp [Sg.add, show n ≠ s.next by omega, show n ≠ s.next + 1 by omega, show n ≠ s.next + 1 + 1 by omega, h])
    try simp only [ev_hit, lpv, hl, Nat.reduceLT]
    rw [show arrS a b f = false from by simp [arrS, hca]]
  · refine vw_sc 0 [.pur (Bo (checkS a == 0)), .pur (Bo (checkS b == 0))] ?_
    simp only [bs, Nat.reduceAdd, ↓vopx, ↓vop, Nat.reduceBEq, thenV, flat, Nat.reduceLT, dLoad, vpart, gtmp, hl, wocs, ↓goc, ↓woc, ↓vopm0, ↓callC, ↓pick_ff, ↓pick_tf, calleeV, Tryd.ag26, Tryd.sz26, hne1, hne2, hne3, hca, hcb]
    repeat ((with_reducible refine And.intro ?_ ?_); · first | exact ⟨Tryd.is17, by simpa only [hca] using isOb_ a ha1 ha2⟩ | exact ⟨Tryd.is17, by simpa only [hcb] using isOb_ b hb1 hb2⟩)
    refine hK3 _ _ ?_
    refine vck fun A B hA hB => ?_
    simp only [condV, ev_hit, lpv, Nat.reduceLT, true_implies, reduceCtorEq, false_implies, and_true, hl]
    refine hA ?_
    clear hA hB A B
    refine vsk fun K5 hK5 => ?_
    refine vw_sc 0 [] ?_
    simp only [bs, ↓vopx, ↓vop, thenV, flat, wocs, ↓goc, ↓woc, ↓vopm0]
    refine hK5 _ _ ?_
    refine vw_ret ?_
    refine hQ _ _ _ (.inr rfl) (done_tmp ?_ fun n b hn h => by simp [Sg.add, show n ≠ s.next by omega, show n ≠ s.next + 1 by omega, show n ≠ s.next + 1 + 1 by omega, h])
    try simp only [ev_hit, lpv, hl, Nat.reduceLT]
    rw [show arrS a b f = false from by simp [arrS, hcb]]
  · have hlb : ((f.length : Int) != (a.labels.length : Int)) = true := by simp; omega
    refine vw_sc 0 [.pur (Bo (checkS a == 0)), .pur (Bo (checkS b == 0))] ?_
    simp only [bs, Nat.reduceAdd, ↓vopx, ↓vop, Nat.reduceBEq, thenV, flat, Nat.reduceLT, dLoad, vpart, opII, gtmp, hl, wocs, ↓goc, ↓woc, ↓vopm0, ↓callC, ↓pick_ff, calleeV, Tryd.ag23, Tryd.ag26, Tryd.ag27, Tryd.fd26_0, Tryd.sz23, Tryd.sz26, Tryd.sz27, Tryd.un23, Tryd.un27, len_tStrs, len_tInts, hne1, hne2, hne3, hca, hcb, hlb]
    repeat ((with_reducible refine And.intro ?_ ?_); · first | exact ⟨Tryd.is17, by simpa only [hca] using isOb_ a ha1 ha2⟩ | exact ⟨Tryd.is17, by simpa only [hcb] using isOb_ b hb1 hb2⟩)
    refine hK3 _ _ ?_
    refine vck fun A B hA hB => ?_
    simp only [condV, ev_hit, lpv, Nat.reduceLT, true_implies, reduceCtorEq, false_implies, and_true, hl]
    refine hA ?_
    clear hA hB A B
    refine vsk fun K6 hK6 => ?_
    refine vw_sc 0 [] ?_
    simp only [bs, ↓vopx, ↓vop, thenV, flat, wocs, ↓goc, ↓woc, ↓vopm0]
    refine hK6 _ _ ?_
    refine vw_ret ?_
    refine hQ _ _ _ (.inr rfl) (done_tmp ?_ fun n b hn h => by simp [Sg.add, show n ≠ s.next by omega, show n ≠ s.next + 1 by omega, show n ≠ s.next + 1 + 1 by omega, h])
    try simp only [ev_hit, lpv, hl, Nat.reduceLT]
    rw [show arrS a b f = false from by simp [arrS, allY_len hlen]]
  · have hlb : ((f.length : Int) != (a.labels.length : Int)) = false := by simp [hlen]
    refine vw_sc 0 [.pur (Bo (checkS a == 0)), .pur (Bo (checkS b == 0))] ?_
    simp only [bs, Nat.reduceAdd, ↓vopx, ↓vop, Nat.reduceBEq, thenV, flat, Nat.reduceLT, dLoad, vpart, opII, gtmp, hl, wocs, ↓goc, ↓woc, ↓vopm0, ↓callC, ↓pick_ff, calleeV, Tryd.ag23, Tryd.ag26, Tryd.ag27, Tryd.fd26_0, Tryd.sz23, Tryd.sz26, Tryd.sz27, Tryd.un23, Tryd.un27, len_tStrs, len_tInts, hne1, hne2, hne3, hca, hcb, hlb]
    repeat ((with_reducible refine And.intro ?_ ?_); · first | exact ⟨Tryd.is17, by simpa only [hca] using isOb_ a ha1 ha2⟩ | exact ⟨Tryd.is17, by simpa only [hcb] using isOb_ b hb1 hb2⟩)
    refine hK3 _ _ ?_
    refine vck fun A B hA hB => ?_
    simp only [condV, ev_hit, lpv, Nat.reduceLT, true_implies, reduceCtorEq, false_implies, true_and, hl]
    refine hB ?_
    clear hA hB A B
    refine vw_skip ?_
    refine hK2 _ _ ?_
    refine vsk fun K7 hK7 => ?_
    refine vsk fun K8 hK8 => ?_
    refine vw_sc 0 [] ?_
    simp only [bs, ↓vopx, ↓vop, Nat.reduceBEq, thenV, flat, Nat.reduceLT, dLoad, vpart, hl, wocs, ↓goc, ↓woc, ↓vopm0, Tryd.ag27, Tryd.sz27, Tryd.un27, len_tInts]
    refine hK8 _ _ ?_
    refine vw_block ?_
    refine vw_loop (fun mm e' s' => ∃ i : Nat, mm = f.length - i ∧ i ≤ f.length ∧ e'.length = 63 ∧ ev e' (.tmp 3) = .ptr s.next 0 ∧ ev e' (.tmp 4) = .ptr (s.next + 1) 0 ∧ ev e' (.tmp 5) = .ptr (s.next + 1 + 1) 0 ∧ ev e' (.tmp 26) = .t (tInts f) ∧ ev e' (.tmp 27) = I f.length ∧ ev e' (.tmp 28) = I i ∧ s' = ((s.add (.box 26 [.t (tStrs a.labels), .t (tPairs a.pairs)])).add (.box 26 [.t (tStrs b.labels), .t (tPairs b.pairs)])).add (.box 27 [.t (tInts f)]) ∧ ∀ (j : Nat) (y : Int) (la : ByteArray), j < i → f[j]? = some y → a.labels[j]? = some la → mapOK b y la = true) (⟨0, rfl, Nat.zero_le _, ?_⟩) ?_
    · try simp only [ev_hit, ev_miss, Nat.reduceBEq, lpv, hl, Nat.reduceLT, true_and]
      repeat ((with_reducible refine And.intro ?_ ?_); · trivial)
      exact fun j y la h => by omega
    rintro mm e _ ⟨i, rfl, hle_i, hl, hb3, hb4, hb5, hf26, hf27, h_i, rfl, hall⟩
    refine vsk fun K9 hK9 => ?_
    refine vw_sc 0 [] ?_
    simp only [thenV, opII, hf27, h_i, wocs, ↓goc, ↓woc]
    refine hK9 _ _ ?_
    refine vsk fun K10 hK10 => ?_
    refine vck fun A B hA hB => ?_
    simp only [condV, ev_hit, Nat.reduceLT, decide_eq_true_eq, decide_eq_false_iff_not, hl]
    refine ⟨fun hc29 => hA ?_, fun hc29 => hB ?_⟩
    · clear hA hB A B
      refine vw_skip ?_
      refine hK10 _ _ ?_
      refine vsk fun K11 hK11 => ?_
      refine vw_block ?_
      refine vsk fun K12 hK12 => ?_
      have hlt : i < f.length := by omega
      obtain ⟨y, hy⟩ : ∃ y, f[i]? = some y := ⟨_, List.getElem?_eq_getElem hlt⟩
      obtain ⟨la, hla⟩ : ∃ x, a.labels[i]? = some x := ⟨_, List.getElem?_eq_getElem (by omega)⟩
      refine vw_sc 0 [] ?_
      simp only [bs, ↓vopx, ↓vop, Nat.reduceBEq, thenV, Nat.reduceLT, dLoad, vpart, hl, hf26, h_i, wocs, ↓goc, ↓woc, ↓vopm0, Tryd.ag3, Tryd.sz3, Tryd.un27, hy]
      repeat ((with_reducible refine And.intro ?_ ?_); · (with_reducible assumption))
      refine hK12 _ _ ?_
      refine vsk fun K13 hK13 => ?_
      rcases (show y < 0 ∨ (¬ y < 0 ∧ y ≥ b.labels.length) ∨ (¬ y < 0 ∧ ¬ y ≥ b.labels.length) by omega) with hy1 | ⟨hy1, hy2⟩ | ⟨hy1, hy2⟩
      · refine vw_chain Tryd.mixed 20 [0, 0, 0, 0, 0, 1, 0, 0, 0, 0, 0, 1, 0, 1, 1, 0, 1, 0, 1, 1] [] [] 0 (by decide +kernel) (by simp [lpv, hl]) rfl ?_
        simp only [bs, ↓vopx, ↓vop, Nat.reduceBEq, thenV, flat, Nat.reduceLT, opII, opSS, gtmp, hl, wocs, ↓goc, ↓woc, ↓vopm0, ↓pick_tf, ↓farC, chn, ↓goq, ↓woq, List.zip_cons_cons, List.zip_nil_right, hy1]
        refine hK13 _ _ ?_
        refine vck fun A B hA hB => ?_
        simp only [condV, ev_hit, lpv, Nat.reduceLT, true_implies, reduceCtorEq, false_implies, and_true, hl]
        refine hA ?_
        clear hA hB A B
        refine vsk fun K14 hK14 => ?_
        refine vw_sc 0 [] ?_
        simp only [bs, ↓vopx, ↓vop, thenV, flat, wocs, ↓goc, ↓woc, ↓vopm0]
        refine hK14 _ _ ?_
        refine vw_ret ?_
        refine hQ _ _ _ (.inr rfl) (done_tmp ?_ fun n b hn h => by simp [Sg.add, show n ≠ s.next by omega, show n ≠ s.next + 1 by omega, show n ≠ s.next + 1 + 1 by omega, h])
        try simp only [ev_hit, lpv, hl, Nat.reduceLT]
        rw [show arrS a b f = false from by unfold arrS; rw [allY_bad hy hla (by unfold mapOK; simp; omega)]; simp]
      · refine vw_chain Tryd.mixed 20 [0, 0, 0, 0, 0, 1, 0, 0, 0, 0, 0, 1, 0, 1, 1, 0, 1, 0, 1, 1] [] [] 0 (by decide +kernel) (by simp [lpv, hl]) rfl ?_
        simp only [bs, ↓vopx, ↓vop, Nat.reduceBEq, thenV, flat, Nat.reduceLT, dLoad, vpart, opII, opSS, gtmp, hl, hb4, wocs, ↓goc, ↓woc, ↓vopm0, ↓vopm1, ↓pick_ff, ↓pick_tf, ↓farC, chn, ↓goq, ↓woq, List.zip_cons_cons, List.zip_nil_right, Tryd.ag23, Tryd.fd26_0, Tryd.sz23, Tryd.un23, len_tStrs, hne3, hy1, hy2]
        refine hK13 _ _ ?_
        refine vck fun A B hA hB => ?_
        simp only [condV, ev_hit, lpv, Nat.reduceLT, true_implies, reduceCtorEq, false_implies, and_true, hl]
        refine hA ?_
        clear hA hB A B
        refine vsk fun K15 hK15 => ?_
        refine vw_sc 0 [] ?_
        simp only [bs, ↓vopx, ↓vop, thenV, flat, wocs, ↓goc, ↓woc, ↓vopm0]
        refine hK15 _ _ ?_
        refine vw_ret ?_
        refine hQ _ _ _ (.inr rfl) (done_tmp ?_ fun n b hn h => by simp [Sg.add, show n ≠ s.next by omega, show n ≠ s.next + 1 by omega, show n ≠ s.next + 1 + 1 by omega, h])
        try simp only [ev_hit, lpv, hl, Nat.reduceLT]
        rw [show arrS a b f = false from by unfold arrS; rw [allY_bad hy hla (by unfold mapOK; simp; omega)]; simp]
      · have hyr : 0 ≤ y := by omega
        obtain ⟨lb, hlb2⟩ : ∃ x, b.labels[y.toNat]? = some x := ⟨_, List.getElem?_eq_getElem (by omega)⟩
        refine vw_chain Tryd.mixed 20 [0, 0, 0, 0, 0, 1, 0, 0, 0, 0, 0, 1, 0, 1, 1, 0, 1, 0, 1, 1] [] [] 0 (by decide +kernel) (by simp [lpv, hl]) rfl ?_
        simp only [bs, ↓vopx, ↓vop, Nat.reduceBEq, thenV, flat, Nat.reduceLT, dLoad, vpart, opII, opSS, gtmp, hl, hb3, hb4, wocs, ↓goc, ↓woc, ↓vopm0, ↓vopm1, ↓pick_ff, ↓farC, chn, ↓goq, ↓woq, List.zip_cons_cons, List.zip_nil_right, Tryd.ag23, Tryd.ag9, Tryd.fd26_0, Tryd.sz23, Tryd.sz9, Tryd.un23, len_tStrs, hne1, hne2, hne3, hla, hy1, hy2, hlb2]
        repeat ((with_reducible refine And.intro ?_ ?_); · first | (with_reducible assumption) | omega)
        refine hK13 _ _ ?_
        refine vck fun A B hA hB => ?_
        simp only [condV, ev_hit, lpv, Nat.reduceLT, Bool.not_eq_true', Bool.not_eq_false', beq_iff_eq, beq_eq_false_iff_ne, ne_eq, hl]
        refine ⟨fun hc54 => hA ?_, fun hc54 => hB ?_⟩
        · clear hA hB A B
          refine vsk fun K16 hK16 => ?_
          refine vw_sc 0 [] ?_
          simp only [bs, ↓vopx, ↓vop, thenV, flat, wocs, ↓goc, ↓woc, ↓vopm0]
          refine hK16 _ _ ?_
          refine vw_ret ?_
          refine hQ _ _ _ (.inr rfl) (done_tmp ?_ fun n b hn h => by simp [Sg.add, show n ≠ s.next by omega, show n ≠ s.next + 1 by omega, show n ≠ s.next + 1 + 1 by omega, h])
          try simp only [ev_hit, lpv, hl, Nat.reduceLT]
          rw [show arrS a b f = false from by unfold arrS; rw [allY_bad hy hla (by unfold mapOK; rw [hlb2]; simp [seqB, hc54])]; simp]
        · clear hA hB A B
          have hgood : mapOK b y la = true := by unfold mapOK; rw [hlb2]; simp [seqB, hc54]; omega
          refine vw_skip ?_
          refine hK11 _ _ ?_
          refine vw_sc 0 [] ?_
          simp only [bs, ↓vopx, ↓vop, Nat.reduceBEq, thenV, flat, Nat.reduceLT, opII, hl, hb3, hb4, hb5, hf26, hf27, h_i, wocs, ↓goc, ↓woc, ↓vopm0]
          repeat ((with_reducible refine And.intro ?_ ?_); · exact ⟨by omega, by omega⟩)
          refine ⟨f.length - (i + 1), by omega, i + 1, rfl, by omega, ?_⟩
          try simp only [ev_hit, ev_miss, Nat.reduceBEq, lpv, hl, hb3, hb4, hb5, hf26, hf27, h_i, if_true, if_false, Nat.reduceEqDiff, Nat.reduceLT, true_and, and_true]
          repeat ((with_reducible refine And.intro ?_ ?_); · trivial)
          intro j x z hj h1 h2
          rcases Nat.lt_succ_iff_lt_or_eq.1 hj with hj | rfl
          · exact hall j x z hj h1 h2
          · rw [hy] at h1; rw [hla] at h2; cases h1; cases h2; exact hgood
    · clear hA hB A B
      have han : i = f.length := by omega
      subst han
      refine vw_exit ?_
      simp only [thenV, blockV, if_true]
      refine hK7 _ _ ?_
      refine vsk fun K17 hK17 => ?_
      have hmap : allY (mapOK b) f a.labels = true := allY_good hlen fun j y la h1 h2 => hall j y la (by have := (List.getElem?_eq_some_iff.1 h1).1; omega) h1 h2
      have hoa := checkS_zero.1 (by simpa using hca)
      have hob := checkS_zero.1 (by simpa using hcb)
      refine vw_sc 0 [.stop] ?_
      simp only [bs, Nat.reduceAdd, ↓vopx, ↓vop, Nat.reduceBEq, thenV, Nat.reduceLT, V.cells, dLoad, vpart, hl, hb4, wocs, ↓goc, ↓woc, ↓vopm0, ↓callC, calleeV, Tryd.ag26, Tryd.sz26, hne3]
      refine ⟨Tryd.is18, (objRel_ _ b hb1 hb2 hob).mono fun v s2 hv => ?_⟩
      obtain ⟨c, na1, rp1, rq1, rfl, hR, hF, hk, hnx⟩ := hv
      have hmA : s2.m s.next = some (.box 26 [.t (tStrs a.labels), .t (tPairs a.pairs)]) := hk _ _ (by simp [Sg.add]; omega) (by simp [Sg.add]; omega)
      have hmF : s2.m (s.next + 1 + 1) = some (.box 27 [.t (tInts f)]) := hk _ _ (by simp [Sg.add]) (by simp [Sg.add])
      have hks : Keep s s2 := ((((Keep.refl s).add (Nat.le_refl _) _).add (by simp [Sg.add]) _).add (by simp [Sg.add]; omega) _).trans (by simp [Sg.add]; omega) hk
      have hnx2 : s.next + 1 + 1 + 1 ≤ s2.next := by simpa [Sg.add] using hnx
      try simp only [bs, Nat.reduceBEq, Nat.reduceLT, hl, Tryd.sz47, Tryd.zv47, Hold]
      refine hK17 _ _ ?_
      refine vsk fun K18 hK18 => ?_
      refine vw_env2 fun e2 sb hE2 hSb => ?_
      subst hE2
      have hn0 : ¬ s.next = s2.next := by omega
      have hbA : sb.m s.next = some (.box 26 [.t (tStrs a.labels), .t (tPairs a.pairs)]) := by rw [hSb]; simp [Sg.set, Sg.add, hn0, hmA]
      have hbF : sb.m (s.next + 1 + 1) = some (.box 27 [.t (tInts f)]) := by rw [hSb]; simp [Sg.set, Sg.add, show ¬ s.next + 1 + 1 = s2.next by omega, hmF]
      have hbb3 : sb.m s2.next = some (.box 47 [.ptr c 0]) := by rw [hSb]; simp [Sg.set]
      have hsbn : sb.next = s2.next + 1 := by rw [hSb]; rfl
      have hkb : Keep s2 sb := by rw [hSb]; exact ((Keep.refl s2).add (Nat.le_refl _) _).set (Nat.le_refl _) _
      have hRb := hR.keep hkb (by omega)
      clear hSb
      refine vw_sc 0 [.det (Bo (a.pairs.any fun p => !(mxOf b.pairs (fAt f p.1) (fAt f p.2)))) sb] ?_
      simp only [bs, ↓vopx, ↓vop, Nat.reduceBEq, thenV, Nat.reduceLT, dLoad, vpart, hl, hb3, hb5, wocs, ↓goc, ↓woc, ↓vopm0, ↓callC, calleeV, Tryd.ag24, Tryd.fd26_1, Tryd.sz24, hbA, capOk, List.all_cons, List.all_nil, Bool.and_self]
      repeat ((with_reducible refine And.intro ?_ ?_); · first | (with_reducible assumption) | omega | exact ⟨by omega, by omega⟩ | exact ⟨Tryd.is19, containsPairs_ sb a.pairs ha2 20 _ Tryd.is20 _ fun p hpm => by
    have hin : (0 ≤ p.1 ∧ p.1 < a.labels.length) ∧ (0 ≤ p.2 ∧ p.2 < a.labels.length) := by have := (List.all_eq_true.1 hoa.inb) p hpm; simpa only [inB, Bool.and_eq_true, decide_eq_true_eq] using this
    obtain ⟨x, hx⟩ : ∃ x, f[p.1.toNat]? = some x := ⟨_, List.getElem?_eq_getElem (by omega)⟩
    obtain ⟨y, hy⟩ : ∃ x, f[p.2.toNat]? = some x := ⟨_, List.getElem?_eq_getElem (by omega)⟩
    have hxr : 0 ≤ x ∧ x < b.labels.length := by have := allY_at hmap hx (List.getElem?_eq_getElem (show p.1.toNat < a.labels.length by omega)); simp only [mapOK, Bool.and_eq_true, decide_eq_true_eq] at this; exact this.1
    have hyr : 0 ≤ y ∧ y < b.labels.length := by have := allY_at hmap hy (List.getElem?_eq_getElem (show p.2.toNat < a.labels.length by omega)); simp only [mapOK, Bool.and_eq_true, decide_eq_true_eq] at this; exact this.1
    have hfx : fAt f p.1 = x.toNat := by simp [fAt, hx]
    have hfy : fAt f p.2 = y.toNat := by simp [fAt, hy]
    rw [hfx, hfy]
    exact arrowCl_ sb s2.next (s.next + 1 + 1) c _ _ na1 rp1 rq1 hRb f hbb3 hbF (by omega) (by omega) p x y ⟨hin.1.1, hin.2.1⟩ hx hy hxr hyr⟩ | with_reducible rfl | (repeat' first | exact Keep.refl _ | refine Keep.add ?_ ?_ _ | refine Keep.set ?_ ?_ _ | exact Nat.le_refl _ | (simp only [Sg.add, Sg.set, Sg.del]; omega)))
      refine hK18 _ _ ?_
      refine vw_ret ?_
      refine hQ _ _ _ (.inr rfl) (done_tmp ?_ (hks.trans (by omega) hkb))
      try simp only [ev_hit, lpv, hl, Nat.reduceLT]
      rw [show arrS a b f = !(a.pairs.any fun p => !(mxOf b.pairs (fAt f p.1) (fAt f p.2))) from by unfold arrS; rw [hca, hcb, hmap, all_notany]; rfl]
end Go.Proofs

open Go Go.V
namespace Go.Proofs
structure ProU (s : Sg) (p m : Nat) (l : List Int) : Prop where
  hp : s.m p = some (.box 104 [.loc m 0 l.length])
  hm : s.m m = some (.arr 1 3 (l.map TI))
  lp : p < s.next
  lm : m < s.next
theorem ProU.ne {s : Sg} {p m : Nat} {l : List Int} (h : ProU s p m l) : p ≠ m := fun e => by have := h.hp; rw [e, h.hm] at this; cases this
theorem ProU.keep {s s' : Sg} {p m : Nat} {l : List Int} (h : ProU s p m l) (hk : Keep s s') (hn : s.next ≤ s'.next) : ProU s' p m l :=
  ⟨hk _ _ h.lp h.hp, hk _ _ h.lm h.hm, Nat.lt_of_lt_of_le h.lp hn, Nat.lt_of_lt_of_le h.lm hn⟩
theorem ProU.put {s : Sg} {p m : Nat} {l : List Int} (h : ProU s p m l) {i : Nat} (hi : i < l.length) (x : Int) : ProU (s.set m (.arr 1 3 (setAll (l.map TI) i [TI x]))) p m (l.set i x) := by
  refine ⟨by simp [Sg.set, h.ne, h.hp], ?_, h.lp, h.lm⟩
  rw [setAll_one _ _ _ (by simpa using hi)]
  simp [Sg.set, List.map_set]
theorem ProU.setO {s : Sg} {p m : Nat} {l : List Int} (h : ProU s p m l) {x : Nat} (h1 : x ≠ p) (h2 : x ≠ m) (b : Blk) : ProU (s.set x b) p m l :=
  ⟨by simp [Sg.set, Ne.symm h1, h.hp], by simp [Sg.set, Ne.symm h2, h.hm], h.lp, h.lm⟩
theorem ProU.delO {s : Sg} {p m : Nat} {l : List Int} (h : ProU s p m l) {x : Nat} (h1 : x ≠ p) (h2 : x ≠ m) : ProU (s.del x) p m l :=
  ⟨by simp [Sg.del, Ne.symm h1, h.hp], by simp [Sg.del, Ne.symm h2, h.hm], h.lp, h.lm⟩
structure UF (l R : List Int) : Prop where
  len : R.length = l.length
  wf : wfU l
  root : ∀ (i : Nat), l[i]? = some (i : Int) → R[i]? = some (i : Int)
  step : ∀ (i : Nat) (z : Int), l[i]? = some z → z ≠ i → R[i]? = R[z.toNat]?
theorem UF.le {l R : List Int} (h : UF l R) : ∀ (i : Nat) (r : Int), R[i]? = some r → (0 ≤ r ∧ r ≤ i) ∧ R[r.toNat]? = some r := by
  intro i
  induction i using Nat.strongRecOn with
  | _ i ih =>
    intro r hr
    have hi : i < l.length := by rw [← h.len]; exact (List.getElem?_eq_some_iff.1 hr).1
    obtain ⟨z, hz⟩ : ∃ z, l[i]? = some z := ⟨_, List.getElem?_eq_getElem hi⟩
    have hw := h.wf i z hz
    by_cases hzi : z = i
    · subst hzi
      have := h.root i hz
      rw [this] at hr; cases hr
      exact ⟨by omega, by simpa using this⟩
    · have hs := h.step i z hz hzi
      obtain ⟨h1, h2⟩ := ih z.toNat (by omega) r (by rw [← hs]; exact hr)
      exact ⟨by omega, h2⟩
theorem UF.compress {l R : List Int} (h : UF l R) {a : Nat} {r : Int} (hr : R[a]? = some r) : UF (l.set a r) R := by
  obtain ⟨h1, h2⟩ := h.le a r hr
  have ha : a < l.length := by rw [← h.len]; exact (List.getElem?_eq_some_iff.1 hr).1
  refine ⟨by simp [h.len], fun i z hz => ?_, fun i hz => ?_, fun i z hz hzi => ?_⟩
  · by_cases hia : a = i
    · subst hia; rw [List.getElem?_set_self ha] at hz; cases hz; exact h1
    · rw [List.getElem?_set_ne hia] at hz; exact h.wf i z hz
  · by_cases hia : a = i
    · subst hia; rw [List.getElem?_set_self ha] at hz; cases hz; exact hr
    · rw [List.getElem?_set_ne hia] at hz; exact h.root i hz
  · by_cases hia : a = i
    · subst hia; rw [List.getElem?_set_self ha] at hz; cases hz; rw [hr, h2]
    · rw [List.getElem?_set_ne hia] at hz; exact h.step i z hz hzi
theorem UF.join {l R : List Int} (h : UF l R) {a b : Nat} {x y : Int} (hx : R[a]? = some x) (hy : R[b]? = some y) (hxy : x ≠ y) : UF (l.set (max x y).toNat (min x y)) (joinL R a b) := by
  obtain ⟨x1, x2⟩ := h.le a x hx
  obtain ⟨y1, y2⟩ := h.le b y hy
  have ga : R.getD a 0 = x := by rw [List.getD_eq_getElem?_getD, hx]; rfl
  have gb : R.getD b 0 = y := by rw [List.getD_eq_getElem?_getD, hy]; rfl
  unfold joinL
  rw [ga, gb]
  obtain ⟨M, hM⟩ : ∃ M : Nat, (max x y) = (M : Int) := ⟨(max x y).toNat, by omega⟩
  obtain ⟨N, hN⟩ : ∃ N : Nat, (min x y) = (N : Int) := ⟨(min x y).toNat, by omega⟩
  have hMR : R[M]? = some (M : Int) := by
    rcases Int.le_total x y with hle | hle
    · have : y = (M : Int) := by omega
      rw [this] at y2; simpa using y2
    · have : x = (M : Int) := by omega
      rw [this] at x2; simpa using x2
  have hNR : R[N]? = some (N : Int) := by
    rcases Int.le_total x y with hle | hle
    · have : x = (N : Int) := by omega
      rw [this] at x2; simpa using x2
    · have : y = (N : Int) := by omega
      rw [this] at y2; simpa using y2
  have hNM : N < M := by omega
  rw [hM, hN, Int.toNat_natCast]
  have hMl : M < l.length := by rw [← h.len]; exact (List.getElem?_eq_some_iff.1 hMR).1
  refine ⟨by simp [h.len], fun i z hz => ?_, fun i hz => ?_, fun i z hz hzi => ?_⟩
  · by_cases hia : M = i
    · subst hia; rw [List.getElem?_set_self hMl] at hz; cases hz; omega
    · rw [List.getElem?_set_ne hia] at hz; exact h.wf i z hz
  · by_cases hia : M = i
    · subst hia; rw [List.getElem?_set_self hMl] at hz; cases hz; omega
    · rw [List.getElem?_set_ne hia] at hz
      have := h.root i hz
      rw [List.getElem?_map, this]
      simp only [Option.map_some]
      rw [if_neg (by omega)]
  · by_cases hia : M = i
    · subst hia
      rw [List.getElem?_set_self hMl] at hz; cases hz
      rw [List.getElem?_map, List.getElem?_map, hMR, Int.toNat_natCast, hNR]
      simp only [Option.map_some, if_true]
      rw [if_neg (by omega)]
    · rw [List.getElem?_set_ne hia] at hz
      rw [List.getElem?_map, List.getElem?_map, h.step i z hz hzi]
theorem UF.range (n : Nat) : UF (rangeI n) (rangeI n) := by
  have hz : ∀ (i : Nat) (z : Int), (rangeI n)[i]? = some z → z = i := fun i z h => by
    unfold rangeI at h
    rw [List.getElem?_map] at h
    have hi : i < n := by
      rcases Nat.lt_or_ge i n with h1 | h1
      · exact h1
      · rw [List.getElem?_eq_none (by simpa using h1)] at h; cases h
    rw [List.getElem?_range hi] at h; cases h; rfl
  exact ⟨rfl, fun i z h => by rw [hz i z h]; omega, fun i h => h, fun i z h hn => absurd (hz i z h) hn⟩
def ProR (s : Sg) (p m : Nat) (R : List Int) : Prop := ∃ l, ProU s p m l ∧ UF l R
theorem ProR.keep {s s' : Sg} {p m : Nat} {R : List Int} (h : ProR s p m R) (hk : Keep s s') (hn : s.next ≤ s'.next) : ProR s' p m R := let ⟨l, h1, h2⟩ := h; ⟨l, h1.keep hk hn, h2⟩
def NewQ (s : Sg) (n : Nat) (v : V) (s' : Sg) : Prop := ∃ p m, v = .ptr p 0 ∧ ProR s' p m (rangeI n) ∧ s.next ≤ p ∧ s.next ≤ m ∧ Keep s s' ∧ s.next ≤ s'.next
def But (s : Sg) (m : Nat) (s' : Sg) : Prop := (∀ j, j < s.next → j ≠ m → s'.m j = s.m j) ∧ s.next ≤ s'.next
def rgO (n i : Nat) : List Int := rangeI i ++ List.replicate (n - i) 0
theorem rgO_length {n i : Nat} (h : i ≤ n) : (rgO n i).length = n := by simp [rgO, rangeI_length]; omega
theorem rgO_zero (n : Nat) : rgO n 0 = List.replicate n 0 := by simp [rgO, rangeI]
theorem rgO_end (n : Nat) : rgO n n = rangeI n := by simp [rgO]
theorem rgO_set {n i : Nat} (h : i < n) : (rgO n i).set i (i : Int) = rgO n (i + 1) := by
  unfold rgO
  rw [List.set_append_right _ _ (by simp [rangeI_length]), rangeI_length, Nat.sub_self, show n - i = (n - (i + 1)) + 1 by omega, List.replicate_succ, List.set_cons_zero, rangeI_succ]
  simp
theorem add2_set (s : Sg) (A A' B : Blk) : ((s.add A).add B).set s.next A' = (s.add A').add B := by
  unfold Sg.set Sg.add
  simp only [Sg.mk.injEq, true_and]
  funext j
  by_cases h1 : j = s.next
  · subst h1; simp
  · simp [h1]
structure WayI (n0 cb ub p m : Nat) (l : List Int) (Iv Jv : Nat → Sg → Prop) : Prop where
  hI : ∀ a s, Iv a s → a < l.length ∧ s.m cb = some (.box 3 [I a])
  hJ : ∀ a s, Jv a s → a < l.length ∧ s.m cb = some (.box 3 [I a]) ∧ s.m ub = some (.box 73 [.ptr p 0]) ∧ s.m p = some (.box 104 [.loc m 0 l.length]) ∧ s.m m = some (.arr 1 3 (l.map TI))
  hset : ∀ a s (b : Nat), Jv a s → l[a]? = some (b : Int) → b ≠ a → Iv b (s.set cb (.box 3 [I b]))
  hY : ∀ a s, Iv a s → YCall Tryd.prog n0 [I a] s fun v s' => v = Bo true ∧ Jv a s'
set_option maxRecDepth 20000 in
theorem unNew_ (s : Sg) (n : Nat) (hn : n ≤ 1000) : VCall Tryd.prog 36 [I n] s (NewQ s n) := by
  refine kcall_of_body Tryd.func36 rfl fun Q hQ => ?_
  obtain ⟨e, he, hl, h0⟩ : ∃ e : Env, ([I n] ++ List.replicate (Tryd.f36.ntmps - ([I n] : List V).length) .junk) = e ∧ e.length = 28 ∧ ev e (.tmp 0) = I n := ⟨_, rfl, rfl, rfl⟩
  rw [he]
  clear he
  have hmax : max (n : Int) 0 = n := by omega
  have hmin : min (n : Int) 1000 = n := by omega
  have hrep : repl [TI 0] n = (List.replicate n (0 : Int)).map TI := by rw [repl_one]; simp
  have hnn : s.next + 1 ≠ s.next := by omega
  have hnn2 : s.next ≠ s.next + 1 := by omega
  refine vsk fun K1 hK1 => ?_
  refine vw_sc 0 [] ?_
  simp only [bs, ↓vopx, ↓vop, thenV, flat, wocs, ↓goc, ↓woc, ↓vopm0]
  refine hK1 _ _ ?_
  refine vsk fun K2 hK2 => ?_
  refine vw_sc 0 [] ?_
  simp only [bs, vparts, gfill, ↓vopx, ↓vop, Nat.reduceBEq, thenV, flat, Nat.reduceLT, V.cells, hl, h0, wocs, ↓goc, ↓woc, ↓vopm0, Tryd.sl27, Tryd.st104, hmin, hmax]
  repeat ((with_reducible refine And.intro ?_ ?_); · omega)
  refine hK2 _ _ ?_
  refine vsk fun K3 hK3 => ?_
  refine vsk fun K4 hK4 => ?_
  refine vw_sc 0 [] ?_
  simp only [bs, dSure, ↓vopx, ↓vop, thenV, flat, Nat.reduceLT, dLoad, vpart, hl, wocs, ↓goc, ↓woc, ↓vopm0, Tryd.ag27, Tryd.fd104_0, Tryd.sz27, Tryd.un27]
  refine hK4 _ _ ?_
  refine vw_block ?_
  refine vw_loop (fun mm e' s' => ∃ i : Nat, mm = n - i ∧ i ≤ n ∧ e'.length = 28 ∧ ev e' (.tmp 3) = .ptr (s.next + 1) 0 ∧ ev e' (.tmp 15) = I n ∧ ev e' (.tmp 16) = I i ∧ s' = (s.add (.arr 1 3 ((rgO n i).map TI))).add (.box 104 [.loc s.next 0 n]) ∧ True) (⟨0, rfl, Nat.zero_le _, ?_⟩) ?_
  · try simp only [ev_hit, ev_miss, Nat.reduceBEq, lpv, hl, Nat.reduceLT, true_and, and_true]
    repeat ((with_reducible refine And.intro ?_ ?_); · trivial)
    rw [rgO_zero, ← hrep]
  rintro mm e _ ⟨i, rfl, hle_i, hl, h3, h15, h_i, rfl, _⟩
  refine vsk fun K5 hK5 => ?_
  refine vw_sc 0 [] ?_
  simp only [thenV, opII, h15, h_i, wocs, ↓goc, ↓woc]
  refine hK5 _ _ ?_
  refine vsk fun K6 hK6 => ?_
  refine vck fun A B hA hB => ?_
  simp only [condV, ev_hit, Nat.reduceLT, decide_eq_true_eq, decide_eq_false_iff_not, hl]
  refine ⟨fun hc17 => hA ?_, fun hc17 => hB ?_⟩
  · clear hA hB A B
    refine vw_skip ?_
    refine hK6 _ _ ?_
    refine vsk fun K7 hK7 => ?_
    refine vw_block ?_
    refine vsk fun K8 hK8 => ?_
    refine vw_sc 0 [] ?_
    simp only [bs, ↓vopx, ↓vop, Nat.reduceBEq, thenV, Nat.reduceLT, hl, h_i, wocs, ↓goc, ↓woc, ↓vopm0]
    refine hK8 _ _ ?_
    have hlo := rgO_length (n := n) (i := i) (by omega)
    refine vw_sc 0 [] ?_
    simp only [bs, dSure, ↓vopx, ↓vop, Nat.reduceBEq, thenV, blockV, Nat.reduceLT, V.cells, dLoad, vpart, Sg.frzL, Sg.frz1, hl, h3, wocs, ↓goc, ↓woc, ↓vopm0, Tryd.ag27, Tryd.fd104_0, Tryd.sz27, Tryd.sz3, Tryd.un27, hlo, hnn, hnn2]
    repeat ((with_reducible refine And.intro ?_ ?_); · first | (with_reducible assumption) | omega)
    refine hK7 _ _ ?_
    refine vw_sc 0 [] ?_
    simp only [bs, ↓vopx, ↓vop, Nat.reduceBEq, thenV, flat, Nat.reduceLT, opII, hl, h3, h15, h_i, wocs, ↓goc, ↓woc, ↓vopm0]
    repeat ((with_reducible refine And.intro ?_ ?_); · exact ⟨by omega, by omega⟩)
    refine ⟨n - (i + 1), by omega, i + 1, rfl, by omega, ?_⟩
    try simp only [ev_hit, ev_miss, Nat.reduceBEq, lpv, hl, h3, h15, h_i, if_true, if_false, Nat.reduceEqDiff, Nat.reduceLT, true_and, and_true]
    repeat ((with_reducible refine And.intro ?_ ?_); · trivial)
    rw [add2_set, setAll_one _ _ _ (by rw [List.length_map, rgO_length (by omega)]; omega), ← List.map_set, rgO_set (by omega)]
  · clear hA hB A B
    have han : n = i := by omega
    subst han
    refine vw_exit ?_
    simp only [thenV, blockV, if_true]
    refine hK3 _ _ ?_
    refine vsk fun K9 hK9 => ?_
    refine vw_sc 0 [] ?_
    simp only [bs, ↓vopx, ↓vop, Nat.reduceBEq, thenV, Nat.reduceLT, hl, h3, wocs, ↓goc, ↓woc, ↓vopm0]
    refine hK9 _ _ ?_
    refine vw_ret ?_
    refine hQ _ _ _ (.inr rfl) (donek_tmp (v := .ptr (s.next + 1) 0) ?_ rfl ⟨s.next + 1, s.next, rfl, ⟨rangeI n, ⟨by simp [Sg.add, rangeI_length], by simp [Sg.add, rgO_end], by simp [Sg.add], by simp [Sg.add]; omega⟩, UF.range n⟩, by omega, Nat.le_refl _, ((Keep.refl s).add (Nat.le_refl _) _).add (by simp [Sg.add]) _, by simp [Sg.add]; omega⟩)
    try simp only [ev_hit, lpv, hl, Nat.reduceLT]
set_option maxRecDepth 20000 in
theorem way_ (s : Sg) (p a : Nat) : VCall Tryd.prog 79 [.ptr p 0, I a] s (fun v s' => v = .clo 87 [.ptr (s.next + 1) 0, .ptr s.next 0] ∧ s' = (s.add (.box 73 [.ptr p 0])).add (.box 3 [I a])) := by
  refine kcall_of_body Tryd.func79 rfl fun Q hQ => ?_
  obtain ⟨e, he, hl, h0, h1⟩ : ∃ e : Env, ([.ptr p 0, I a] ++ List.replicate (Tryd.f79.ntmps - ([.ptr p 0, I a] : List V).length) .junk) = e ∧ e.length = 6 ∧ ev e (.tmp 0) = .ptr p 0 ∧ ev e (.tmp 1) = I a := ⟨_, rfl, rfl, rfl, rfl⟩
  rw [he]
  clear he
  refine vsk fun K1 hK1 => ?_
  refine vw_sc 0 [] ?_
  simp only [bs, ↓vopx, ↓vop, Nat.reduceBEq, thenV, flat, V.cells, h0, h1, wocs, ↓goc, ↓woc, ↓vopm0]
  refine hK1 _ _ ?_
  refine vsk fun K2 hK2 => ?_
  refine vw_sc 0 [] ?_
  simp only [bs, ↓vopx, ↓vop, Nat.reduceBEq, thenV, Nat.reduceLT, hl, wocs, ↓goc, ↓woc, ↓vopm0, capOk, List.all_cons, List.all_nil, Bool.and_self]
  refine hK2 _ _ ?_
  refine vw_ret ?_
  refine hQ _ _ _ (.inr rfl) (donek_tmp (v := .clo 87 [.ptr (s.next + 1) 0, .ptr s.next 0]) ?_ rfl ⟨rfl, rfl⟩)
  try simp only [ev_hit, lpv, hl, Nat.reduceLT]
set_option maxRecDepth 20000 in
theorem way1_ (n0 cb ub p m : Nat) (l : List Int) (hwf : wfU l) (Iv Jv : Nat → Sg → Prop) (E : WayI n0 cb ub p m l Iv Jv) (a0 : Nat) (s : Sg) (hs0 : Iv a0 s) : VCall Tryd.prog 87 [.yl n0, .ptr cb 0, .ptr ub 0] s (fun _ s' => ∃ a : Nat, Jv a s' ∧ l[a]? = some (a : Int)) := by
  refine kcall_of_body Tryd.func87 rfl fun Q hQ => ?_
  obtain ⟨e, he, hl, h0, h1, h2⟩ : ∃ e : Env, ([.yl n0, .ptr cb 0, .ptr ub 0] ++ List.replicate (Tryd.f87.ntmps - ([.yl n0, .ptr cb 0, .ptr ub 0] : List V).length) .junk) = e ∧ e.length = 25 ∧ ev e (.tmp 0) = .yl n0 ∧ ev e (.tmp 1) = .ptr cb 0 ∧ ev e (.tmp 2) = .ptr ub 0 := ⟨_, rfl, rfl, rfl, rfl, rfl⟩
  rw [he]
  clear he
  refine vw_block ?_
  refine vw_loop (fun mm e' s' => ∃ a : Nat, a = mm ∧ e'.length = 25 ∧ ev e' (.tmp 0) = .yl n0 ∧ ev e' (.tmp 1) = .ptr cb 0 ∧ ev e' (.tmp 2) = .ptr ub 0 ∧ Iv a s') (⟨a0, rfl, ?_⟩) ?_
  · exact ⟨hl, h0, h1, h2, hs0⟩
  rintro mm e s1 ⟨a, rfl, hl, h0, h1, h2, hiv⟩
  refine vsk fun K1 hK1 => ?_
  refine vsk fun K2 hK2 => ?_
  obtain ⟨hal, hcb⟩ := E.hI _ _ hiv
  refine vw_phase Tryd.mixed ?_
  refine phase_chain 0 2 4 [0, 1] [] [.stop] 0 (by decide +kernel) (by simp [hl]) rfl ?_
  simp only [bs, ↓vopx, ↓vop, Nat.reduceBEq, Nat.reduceLT, dLoad, vpart, hl, h0, h1, Nat.reduceSub, wocs, ↓goc, ↓woc, ↓vopm0, ↓vopm1, ↓callC, calleeV, ↓yieldC, chn, ↓goq, ↓woq, List.zip_cons_cons, List.zip_nil_right, Tryd.ag3, Tryd.sz3, hcb]
  refine YCall.mono (E.hY _ _ hiv) fun v s2 hv => ?_
  obtain ⟨rfl, hjv⟩ := hv
  obtain ⟨-, hcb2, hub, hp, hm⟩ := E.hJ _ _ hjv
  obtain ⟨z, hz⟩ : ∃ z, l[a]? = some z := ⟨_, List.getElem?_eq_getElem hal⟩
  have hw := hwf a z hz
  try simp only [bs, Nat.reduceLT, hl, h0, Hold]
  refine phase_chain 4 12 14 [1, 0, 0, 1, 1, 1, 1, 1] [] [] 0 (by decide +kernel) (by simp [lpv, hl]) rfl ?_
  simp only [bs, dSure, ↓vopx, ↓vop, Nat.reduceBEq, flat, Nat.reduceLT, dLoad, vpart, opII, opSS, gtmp, hl, h1, h2, Nat.reduceSub, wocs, ↓goc, ↓woc, ↓vopm0, ↓vopm1, ↓pick_tt, ↓farC, chn, ↓goq, ↓woq, List.zip_cons_cons, List.zip_nil_right, Tryd.ag27, Tryd.ag3, Tryd.ag73, Tryd.fd104_0, Tryd.sz27, Tryd.sz3, Tryd.sz73, Tryd.un27, hcb2, hub, hp, hm, hz]
  repeat ((with_reducible refine And.intro ?_ ?_); · omega)
  refine phase_end ?_
  try simp only [thenV]
  refine hK2 _ _ ?_
  refine vck fun A B hA hB => ?_
  simp only [condV, ev_hit, lpv, Nat.reduceLT, bne_iff_ne, bne_eq_false_iff_eq, ne_eq, hl]
  refine ⟨fun hc17 => hA ?_, fun hc17 => hB ?_⟩
  · clear hA hB A B
    refine vw_skip ?_
    refine hK1 _ _ ?_
    refine vw_block ?_
    refine vw_chain Tryd.mixed 5 [1, 0, 0, 1, 1] [] [] 0 (by decide +kernel) (by simp [lpv, hl]) rfl ?_
    simp only [bs, dSure, ↓vopx, ↓vop, Nat.reduceBEq, thenV, blockV, Nat.reduceLT, V.cells, dLoad, vpart, hl, h0, h1, h2, wocs, ↓goc, ↓woc, ↓vopm0, ↓vopm1, chn, ↓goq, ↓woq, List.zip_cons_cons, List.zip_nil_right, Tryd.ag27, Tryd.ag3, Tryd.ag73, Tryd.fd104_0, Tryd.sz27, Tryd.sz3, Tryd.sz73, Tryd.un27, hcb2, hub, hp, hm, hz]
    repeat ((with_reducible refine And.intro ?_ ?_); · omega)
    obtain ⟨b, rfl⟩ : ∃ b : Nat, z = (b : Int) := ⟨z.toNat, by omega⟩
    have hba : b ≠ a := fun e0 => hc17 (by rw [e0])
    refine ⟨b, by omega, b, rfl, ?_⟩
    try simp only [ev_hit, ev_miss, Nat.reduceBEq, lpv, hl, h0, h1, h2, if_true, if_false, Nat.reduceEqDiff, Nat.reduceLT, true_and, and_true]
    exact E.hset _ _ b hjv hz hba
  · clear hA hB A B
    refine vw_exit ?_
    simp only [thenV, blockV, if_true]
    exact hQ _ _ _ (.inl rfl) ⟨[], rfl, rfl, a, hjv, by rw [hz]; simpa using hc17⟩
end Go.Proofs

open Go Go.V
namespace Go.Proofs
structure LeI (s : Sg) (lp : Blk) (p m : Nat) (l R : List Int) (r : Int) (n0 a : Nat) (s' : Sg) : Prop where
  hu : ProU s' p m l
  b5 : ∃ y, s'.m s.next = some (.box 3 [y])
  bu : s'.m (s.next + 1) = some (.box 73 [.ptr p 0])
  bc : s'.m (s.next + 1 + 1) = some (.box 3 [I a])
  hl : s'.m n0 = some lp
  same : ∀ j, j < s.next → s'.m j = s.m j
  nx : s'.next = n0 + 1
  hr : R[a]? = some r
theorem LeI.move {s : Sg} {lp : Blk} {p m : Nat} {l R : List Int} {r : Int} {n0 a : Nat} {s' : Sg} (h : LeI s lp p m l R r n0 a s') (hn : n0 = s.next + 3) (hp : p < s.next) (hm : m < s.next) {y : V} (h5 : s'.m s.next = some (.box 3 [y])) (hU : UF l R) {b : Nat} (hb : l[a]? = some (b : Int)) (hne : b ≠ a) : LeI s lp p m l R r n0 b (s'.set (s.next + 1 + 1) (.box 3 [I b])) := by
  refine ⟨h.hu.setO (by omega) (by omega) _, ⟨y, ?_⟩, ?_, ?_, ?_, fun j hj => ?_, h.nx, ?_⟩
  · rw [m_set, if_neg (by omega)]; exact h5
  · rw [m_set, if_neg (by omega)]; exact h.bu
  · rw [m_set, if_pos rfl]
  · rw [m_set, if_neg (by omega)]; exact h.hl
  · rw [m_set, if_neg (by omega)]; exact h.same j hj
  · rw [← h.hr]; exact (hU.step a b hb (by omega)).symm
def LeastU (s : Sg) (p m : Nat) (R : List Int) (r : Int) (v : V) (s' : Sg) : Prop := v = I r ∧ ProR s' p m R ∧ But s m s'
theorem But.trans {s s1 s2 : Sg} {m : Nat} (h : But s m s1) (k : But s1 m s2) : But s m s2 := ⟨fun j hj hm => by rw [k.1 j (by have := h.2; omega) hm, h.1 j hj hm], Nat.le_trans h.2 k.2⟩
theorem But.keep {s0 s s' : Sg} {m : Nat} (h : But s m s') (hm : s0.next ≤ m) (hk : Keep s0 s) (hn : s0.next ≤ s.next) : Keep s0 s' := fun n b hlt hb => by
  rw [h.1 n (by omega) (by omega)]; exact hk n b hlt hb
def JoinQ (s : Sg) (p m : Nat) (R : List Int) (v : V) (s' : Sg) : Prop := (∃ b, v = Bo b) ∧ ProR s' p m R ∧ But s m s'
def PlacesQ (s : Sg) (p m : Nat) (R : List Int) (v : V) (s' : Sg) : Prop := v = .t (tInts (placesL R)) ∧ ProR s' p m R ∧ But s m s'
theorem joinL_length (l : List Int) (a b : Nat) : (joinL l a b).length = l.length := by simp [joinL]
set_option maxRecDepth 20000 in
theorem unLeast_ (s : Sg) (p m : Nat) (l R : List Int) (hu : ProU s p m l) (hU : UF l R) (a : Nat) (r : Int) (har : R[a]? = some r) : VCall Tryd.prog 60 [.ptr p 0, I a] s (LeastU s p m R r) := by
  refine kcall_of_body Tryd.func60 rfl fun Q hQ => ?_
  obtain ⟨e, he, hl, h0, h1⟩ : ∃ e : Env, ([.ptr p 0, I a] ++ List.replicate (Tryd.f60.ntmps - ([.ptr p 0, I a] : List V).length) .junk) = e ∧ e.length = 32 ∧ ev e (.tmp 0) = .ptr p 0 ∧ ev e (.tmp 1) = I a := ⟨_, rfl, rfl, rfl, rfl⟩
  rw [he]
  clear he
  have ha : a < l.length := by rw [← hU.len]; exact (List.getElem?_eq_some_iff.1 har).1
  have hp0 := hu.hp
  have hm0 := hu.hm
  have hlp := hu.lp
  have hlm := hu.lm
  have n1 : ¬ ((a : Int) < 0) := by omega
  have n3 : ¬ ((a : Int) ≥ l.length) := by omega
  refine vsk fun K1 hK1 => ?_
  refine vw_sc 0 [] ?_
  simp only [bs, ↓vopx, ↓vop, thenV, flat, wocs, ↓goc, ↓woc, ↓vopm0]
  refine hK1 _ _ ?_
  refine vsk fun K2 hK2 => ?_
  refine vsk fun K3 hK3 => ?_
  refine vw_sc 0 [] ?_
  simp only [bs, dSure, ↓vopx, ↓vop, Nat.reduceBEq, thenV, flat, Nat.reduceLT, dLoad, vpart, opII, gtmp, hl, h0, h1, wocs, ↓goc, ↓woc, ↓vopm0, ↓pick_ff, Tryd.ag27, Tryd.fd104_0, Tryd.sz27, Tryd.un27, n1, n3, hp0]
  refine hK3 _ _ ?_
  refine vck fun A B hA hB => ?_
  simp only [condV, ev_hit, lpv, Nat.reduceLT, true_implies, reduceCtorEq, false_implies, true_and, hl]
  refine hB ?_
  clear hA hB A B
  refine vw_skip ?_
  refine hK2 _ _ ?_
  refine vsk fun K4 hK4 => ?_
  refine vw_sc 0 [] ?_
  simp only [bs, ↓vopx, ↓vop, Nat.reduceBEq, thenV, Nat.reduceLT, V.cells, hl, h1, wocs, ↓goc, ↓woc, ↓vopm0, Tryd.sz3, Tryd.zv3]
  refine hK4 _ _ ?_
  refine vsk fun K5 hK5 => ?_
  refine vsk fun K6 hK6 => ?_
  refine vw_sc 0 [.stop] ?_
  simp only [bs, ↓vopx, ↓vop, Nat.reduceBEq, thenV, Nat.reduceLT, hl, h0, h1, wocs, ↓goc, ↓woc, ↓vopm0, ↓callC, calleeV]
  refine ⟨Tryd.is79, (way_ _ p a).mono fun v s2 hv => ?_⟩
  obtain ⟨rfl, rfl⟩ := hv
  try simp only [bs, Nat.reduceBEq, h0, h1, Hold]
  refine hK6 _ _ ?_
  refine vw_block ?_
  refine vw_env2 fun e1 s3 hE hS => ?_
  have hlE : e1.length = 32 := by rw [hE]; simp only [lpv, hl]
  have h0E : ev e1 (.tmp 0) = .ptr p 0 := by rw [hE]; simp only [ev_miss, Nat.reduceBEq, h0]
  have h1E : ev e1 (.tmp 1) = I a := by rw [hE]; simp only [ev_miss, Nat.reduceBEq, h1]
  have h5E : ev e1 (.tmp 5) = .ptr s.next 0 := by rw [hE]; simp only [ev_hit, ev_miss, Nat.reduceBEq, lpv, hl, Nat.reduceLT]
  have h21E : ev e1 (.tmp 21) = .clo 87 [.ptr (s.next + 1 + 1) 0, .ptr (s.next + 1) 0] := by rw [hE]; simp only [ev_hit, lpv, hl, Nat.reduceLT]
  clear hE
  have h3n : s3.next = s.next + 3 := by rw [hS]; rfl
  have h3o : ∀ j, j < s.next → s3.m j = s.m j := fun j hj => by rw [hS]; simp [Sg.set, Sg.add, show j ≠ s.next by omega, show j ≠ s.next + 1 by omega, show j ≠ s.next + 1 + 1 by omega]
  have h35 : s3.m s.next = some (.box 3 [I a]) := by rw [hS]; simp [Sg.set, Sg.add]
  have h3u : s3.m (s.next + 1) = some (.box 73 [.ptr p 0]) := by rw [hS]; simp [Sg.set, Sg.add]
  have h3c : s3.m (s.next + 1 + 1) = some (.box 3 [I a]) := by rw [hS]; simp [Sg.set, Sg.add]
  clear hS
  refine vw_range (g := 87) (caps := [.ptr (s.next + 1 + 1) 0, .ptr (s.next + 1) 0]) h21E Tryd.func87 rfl (by decide) fun s4 h4e h4n h4m h4l => ?_
  have hst : LeI s _ p m l R r s3.next a s4 := ⟨⟨by rw [h4m p (by omega), h3o p hlp]; exact hp0, by rw [h4m m (by omega), h3o m hlm]; exact hm0, by omega, by omega⟩, ⟨_, by rw [h4m _ (by omega)]; exact h35⟩, by rw [h4m _ (by omega)]; exact h3u, by rw [h4m _ (by omega)]; exact h3c, h4l, fun j hj => by rw [h4m j (by omega)]; exact h3o j hj, h4n, har⟩
  refine (way1_ s3.next (s.next + 1 + 1) (s.next + 1) p m l hU.wf (fun a s' => LeI s _ p m l R r s3.next a s') (fun a s' => LeI s _ p m l R r s3.next a s' ∧ s'.m s.next = some (.box 3 [I a])) ⟨fun a s' h => ⟨by rw [← hU.len]; exact (List.getElem?_eq_some_iff.1 h.hr).1, h.bc⟩, fun a s' h => ⟨by rw [← hU.len]; exact (List.getElem?_eq_some_iff.1 h.1.hr).1, h.1.bc, h.1.bu, h.1.hu.hp, h.1.hu.hm⟩, fun a s' b h hb hne => h.1.move h3n hlp hlm h.2 hU hb hne, fun a2 s5 hp5 => ?_⟩ a s4 hst).mono fun v s6 h6 => ?_
  rotate_left
  · obtain ⟨a2, ⟨hp6, h65⟩, hroot⟩ := h6
    refine ⟨none, .ready, hp6.hl, by simp, ?_⟩
    have q4 : ¬ s.next = m := by omega
    simp only []
    refine hK5 _ _ ?_
    refine vsk fun K7 hK7 => ?_
    have hra : r = (a2 : Int) := by have h1 := hU.root a2 hroot; rw [hp6.hr] at h1; exact Option.some.inj h1
    have q1 : ¬ p = s3.next := by omega
    have q2 : ¬ m = s3.next := by omega
    have q3 : ¬ s.next = s3.next := by omega
    have hp7 := hp6.hu.hp
    have hm7 := hp6.hu.hm
    refine vw_chain Tryd.mixed 6 [0, 0, 0, 1, 0, 1] [] [] 0 (by decide +kernel) (by simp [hlE]) rfl ?_
    simp only [bs, dSure, ↓vopx, ↓vop, Nat.reduceBEq, thenV, Nat.reduceLT, V.cells, dLoad, vpart, Sg.frzL, Sg.frz1, hlE, h0E, h1E, h5E, wocs, ↓goc, ↓woc, ↓vopm0, ↓vopm1, chn, ↓goq, ↓woq, List.zip_cons_cons, List.zip_nil_right, Tryd.ag27, Tryd.ag3, Tryd.fd104_0, Tryd.sz27, Tryd.sz3, Tryd.un27, q1, q2, q3, hp7, hm7, h65]
    repeat ((with_reducible refine And.intro ?_ ?_); · omega)
    refine hK7 _ _ ?_
    refine vsk fun K8 hK8 => ?_
    refine vw_sc 0 [] ?_
    simp only [bs, ↓vopx, ↓vop, Nat.reduceBEq, thenV, Nat.reduceLT, dLoad, vpart, hlE, h5E, wocs, ↓goc, ↓woc, ↓vopm0, Tryd.ag3, Tryd.sz3, q3, q4, h65]
    refine hK8 _ _ ?_
    refine vw_ret ?_
    subst hra
    refine hQ _ _ _ (.inr rfl) (donek_tmp (v := I a2) ?_ rfl ⟨rfl, ⟨_, (hp6.hu.delO (x := s3.next) (by omega) (by omega)).put ha a2, hU.compress har⟩, fun j hj hjm => ?_, ?_⟩)
    try simp only [ev_hit, lpv, hlE, Nat.reduceLT]
    · simp [Sg.set, Sg.del, hjm, show ¬ j = s3.next by omega, hp6.same j hj]
    · simp [Sg.set, Sg.del, hp6.nx]; omega
  obtain ⟨y, hy⟩ := hp5.b5
  refine ycall_of hp5.hl rfl fun KA hKA => ?_
  rw [show (#[22] : Array Tmp).toList = [22] from rfl, setps_one]
  refine vw_sc 0 [] ?_
  simp only [bs, ↓vopx, ↓vop, thenV, Nat.reduceLT, hlE, wocs, ↓goc, ↓woc, ↓vopm0]
  refine hKA _ _ hp5.hl ?_
  refine vw_env2 fun e2 sd hE2 hSd => ?_
  subst hE2
  have hbx : sd.m s.next = some (.box 3 [y]) := by rw [hSd]; simp [Sg.set, show ¬ s.next = s3.next by omega, hy]
  have hsn : sd.next = s5.next := by rw [hSd]; rfl
  have hso : ∀ j, j ≠ s3.next → sd.m j = s5.m j := fun j hj => by rw [hSd]; simp [Sg.set, hj]
  refine vw_block ?_
  refine vw_sc 0 [] ?_
  simp only [bs, ↓vopx, ↓vop, Nat.reduceBEq, blockV, Nat.reduceLT, V.cells, hlE, h5E, wocs, ↓goc, ↓woc, ↓vopm0, Tryd.sz3, hbx]
  refine And.intro (by simp [hSd, Sg.set, show ¬ s3.next = s.next by omega]) (And.intro rfl ⟨⟨⟨?_, ?_, ?_, ?_⟩, ⟨I a2, ?_⟩, ?_, ?_, ?_, fun j hj => ?_, ?_, hp5.hr⟩, ?_⟩)
  · simp [Sg.set, show ¬ p = s3.next by omega, show ¬ p = s.next by omega, hso p (by omega), hp5.hu.hp]
  · simp [Sg.set, show ¬ m = s3.next by omega, show ¬ m = s.next by omega, hso m (by omega), hp5.hu.hm]
  · simp [Sg.set, hsn]; have := hp5.hu.lp; omega
  · simp [Sg.set, hsn]; have := hp5.hu.lm; omega
  · simp [Sg.set, show ¬ s.next = s3.next by omega]
  · simp [Sg.set, show ¬ s.next + 1 = s3.next by omega, hso (s.next + 1) (by omega), hp5.bu]
  · simp [Sg.set, show ¬ s.next + 1 + 1 = s3.next by omega, hso (s.next + 1 + 1) (by omega), hp5.bc]
  · simp [Sg.set]
  · simp [Sg.set, show ¬ j = s3.next by omega, show ¬ j = s.next by omega, hso j (by omega), hp5.same j hj]
  · simp [Sg.set, hsn, hp5.nx]
  · simp [Sg.set, show ¬ s.next = s3.next by omega]
end Go.Proofs

open Go Go.V
namespace Go.Proofs
theorem getD_of {R : List Int} {a : Nat} {x : Int} (h : R[a]? = some x) : R.getD a 0 = x := by rw [List.getD_eq_getElem?_getD, h]; rfl
theorem UF.wfR {l R : List Int} (h : UF l R) : wfU R := fun i z hz => (h.le i z hz).1
theorem setAll_TI2 (l : List Int) {i : Nat} (h : i < l.length) (x : Int) : setAll (l.map TI) i [TI x] = (l.set i x).map TI := by
  rw [setAll_one _ _ _ (by simpa using h)]; simp [List.map_set]
structure PlI (s : Sg) (p m : Nat) (R : List Int) (i : Nat) (s' : Sg) : Prop where
  pr : ProR s' p m R
  out : s'.m s.next = some (.arr 1 3 ((plO R i).map TI))
  same : ∀ j, j < s.next → j ≠ m → s'.m j = s.m j
  nx : s.next < s'.next
theorem PlI.put {s : Sg} {p m : Nat} {R : List Int} {i : Nat} {s1 s2 : Sg} (h : PlI s p m R i s1) (hp2 : ProR s2 p m R) (hb2 : But s1 m s2) (hi : i < R.length) (hlp : p < s.next) (hlm : m < s.next) (v : Int) (hv : (plO R i).set i v = plO R (i + 1)) :
    PlI s p m R (i + 1) (s2.set s.next (.arr 1 3 (setAll ((plO R i).map TI) i [TI v]))) := by
  obtain ⟨l2, a2, b2⟩ := hp2
  refine ⟨⟨l2, a2.setO (by omega) (by omega) _, b2⟩, ?_, fun j hj hjm => ?_, ?_⟩
  · rw [setAll_TI2 _ (by rw [plO_length (by omega)]; exact hi), hv, m_set, if_pos rfl]
  · rw [m_set, if_neg (by omega), hb2.1 j (by have := h.nx; omega) hjm]; exact h.same j hj hjm
  · have := h.nx; have := hb2.2; show s.next < s2.next; omega
set_option maxRecDepth 20000 in
theorem unJoin_ (s : Sg) (p m : Nat) (R : List Int) (hp : ProR s p m R) (a b : Nat) (ha : a < R.length) (hb : b < R.length) : VCall Tryd.prog 37 [.ptr p 0, I a, I b] s (JoinQ s p m (joinL R a b)) := by
  refine kcall_of_body Tryd.func37 rfl fun Q hQ => ?_
  obtain ⟨e, he, hl, h0, h1, h2⟩ : ∃ e : Env, ([.ptr p 0, I a, I b] ++ List.replicate (Tryd.f37.ntmps - ([.ptr p 0, I a, I b] : List V).length) .junk) = e ∧ e.length = 37 ∧ ev e (.tmp 0) = .ptr p 0 ∧ ev e (.tmp 1) = I a ∧ ev e (.tmp 2) = I b := ⟨_, rfl, rfl, rfl, rfl, rfl⟩
  rw [he]
  clear he
  obtain ⟨l, hu, hU⟩ := hp
  obtain ⟨x, hx⟩ : ∃ x, R[a]? = some x := ⟨_, List.getElem?_eq_getElem ha⟩
  obtain ⟨y, hy⟩ : ∃ y, R[b]? = some y := ⟨_, List.getElem?_eq_getElem hb⟩
  have hxb := (hU.le a x hx).1
  have hyb := (hU.le b y hy).1
  have nx : (x == -1) = false := by simp; omega
  have ny : (y == -1) = false := by simp; omega
  refine vsk fun K1 hK1 => ?_
  refine vw_sc 0 [] ?_
  simp only [bs, ↓vopx, ↓vop, thenV, flat, wocs, ↓goc, ↓woc, ↓vopm0]
  refine hK1 _ _ ?_
  refine vsk fun K2 hK2 => ?_
  refine vw_sc 0 [.stop, .stop] ?_
  simp only [bs, ↓vopx, ↓vop, Nat.reduceBEq, thenV, Nat.reduceLT, hl, h0, h1, wocs, ↓goc, ↓woc, ↓vopm0, ↓callC, calleeV, ↓yieldC]
  refine ⟨Tryd.is60, (unLeast_ s p m l R hu hU a x hx).mono fun v s2 hv => ?_⟩
  obtain ⟨rfl, ⟨l2, hu2, hU2⟩, hb2⟩ := hv
  try simp only [bs, Nat.reduceBEq, Nat.reduceLT, hl, h0, h1, h2, Hold]
  refine ⟨Tryd.is60, (unLeast_ s2 p m l2 R hu2 hU2 b y hy).mono fun v s3 hv => ?_⟩
  obtain ⟨rfl, ⟨l3, hu3, hU3⟩, hb3⟩ := hv
  try simp only [bs, dstT, srcT, Nat.reduceLeDiff, Nat.reduceAdd, vparts, gfill, repl, Sg.frzP, dSure, wops, ↓gow, ↓wop, vops, ↓gop, ↓vopx, ↓vop, Nat.reduceBEq, thenV, blockV, flat, Nat.reduceEqDiff, Nat.reduceLT, V.cells, dLoad, vpart, opII, opSS, gtmp, Sg.frzL, Sg.frz1, reduceCtorEq, hl, h0, h1, h2, wocs, ↓goc, ↓woc, ↓vopm0, ↓vopm1, ↓vopm2, ↓callC, ↓pick_tt, ↓pick_ff, ↓pick_tf, ↓pick_ft, calleeV, ↓yieldC, ↓farC, List.append_nil, nx, ny, Hold]
  refine hK2 _ _ ?_
  refine vsk fun K3 hK3 => ?_
  refine vsk fun K4 hK4 => ?_
  refine vw_sc 0 [] ?_
  simp only [bs, ↓vopx, ↓vop, Nat.reduceBEq, thenV, flat, Nat.reduceLT, opII, gtmp, hl, wocs, ↓goc, ↓woc, ↓vopm0, ↓pick_ff, nx, ny]
  refine hK4 _ _ ?_
  refine vck fun A B hA hB => ?_
  simp only [condV, ev_hit, lpv, Nat.reduceLT, beq_iff_eq, beq_eq_false_iff_ne, ne_eq, hl]
  refine ⟨fun hxy => hA ?_, fun hxy => hB ?_⟩
  · clear hA hB A B
    refine vsk fun K5 hK5 => ?_
    refine vw_sc 0 [] ?_
    simp only [bs, ↓vopx, ↓vop, thenV, flat, wocs, ↓goc, ↓woc, ↓vopm0]
    refine hK5 _ _ ?_
    refine vw_ret ?_
    refine hQ _ _ _ (.inr rfl) (donek_tmp (v := Bo false) ?_ rfl ⟨⟨_, rfl⟩, ?_, hb2.trans hb3⟩)
    try simp only [ev_hit, lpv, hl, Nat.reduceLT]
    rw [joinL_same (by rw [getD_of hx, getD_of hy, hxy])]; exact ⟨l3, hu3, hU3⟩
  · clear hA hB A B
    refine vw_skip ?_
    refine hK3 _ _ ?_
    refine vsk fun K6 hK6 => ?_
    have hp3 := hu3.hp
    have hm3 := hu3.hm
    have hll : l3.length = R.length := hU3.len.symm
    have hmx : 0 ≤ max x y := by omega
    have hml : (max x y).toNat < l3.length := by omega
    refine vw_sc 0 [] ?_
    simp only [bs, dSure, ↓vopx, ↓vop, Nat.reduceBEq, thenV, Nat.reduceLT, V.cells, dLoad, vpart, Sg.frzL, Sg.frz1, hl, h0, wocs, ↓goc, ↓woc, ↓vopm0, Tryd.ag27, Tryd.fd104_0, Tryd.sz27, Tryd.sz3, Tryd.un27, hp3, hm3, hmx]
    repeat ((with_reducible refine And.intro ?_ ?_); · omega)
    refine hK6 _ _ ?_
    refine vsk fun K7 hK7 => ?_
    refine vw_sc 0 [] ?_
    simp only [bs, ↓vopx, ↓vop, thenV, flat, wocs, ↓goc, ↓woc, ↓vopm0]
    refine hK7 _ _ ?_
    refine vw_ret ?_
    refine hQ _ _ _ (.inr rfl) (donek_tmp (v := Bo true) ?_ rfl ⟨⟨_, rfl⟩, ⟨_, hu3.put hml (min x y), hU3.join hx hy hxy⟩, fun j hj hjm => ?_, ?_⟩)
    try simp only [ev_hit, lpv, hl, Nat.reduceLT]
    · rw [m_set, if_neg hjm]; exact (hb2.trans hb3).1 j hj hjm
    · exact (hb2.trans hb3).2
set_option maxRecDepth 20000 in
theorem unPlaces_ (s : Sg) (p m : Nat) (R : List Int) (hp : ProR s p m R) (hR : R.length ≤ 1000) : VCall Tryd.prog 61 [.ptr p 0] s (PlacesQ s p m R) := by
  refine kcall_of_body Tryd.func61 rfl fun Q hQ => ?_
  obtain ⟨e, he, hl, h0⟩ : ∃ e : Env, ([.ptr p 0] ++ List.replicate (Tryd.f61.ntmps - ([.ptr p 0] : List V).length) .junk) = e ∧ e.length = 39 ∧ ev e (.tmp 0) = .ptr p 0 := ⟨_, rfl, rfl, rfl⟩
  rw [he]
  clear he
  obtain ⟨l, hu, hU⟩ := hp
  have hp0 := hu.hp
  have hlp := hu.lp
  have hlm := hu.lm
  have hll : l.length = R.length := hU.len.symm
  rw [hll] at hp0
  have hrep : repl [TI 0] R.length = (List.replicate R.length (0 : Int)).map TI := by rw [repl_one]; simp
  have hwf := hU.wfR
  refine vsk fun K1 hK1 => ?_
  refine vw_sc 0 [] ?_
  simp only [bs, ↓vopx, ↓vop, thenV, flat, wocs, ↓goc, ↓woc, ↓vopm0]
  refine hK1 _ _ ?_
  refine vsk fun K2 hK2 => ?_
  refine vw_sc 0 [] ?_
  simp only [bs, dSure, ↓vopx, ↓vop, Nat.reduceBEq, thenV, Nat.reduceLT, dLoad, vpart, hl, h0, wocs, ↓goc, ↓woc, ↓vopm0, Tryd.ag27, Tryd.fd104_0, Tryd.sl27, Tryd.sz27, Tryd.un27, hp0]
  repeat ((with_reducible refine And.intro ?_ ?_); · omega)
  refine hK2 _ _ ?_
  refine vsk fun K3 hK3 => ?_
  refine vw_sc 0 [] ?_
  simp only [bs, ↓vopx, ↓vop, thenV, flat, wocs, ↓goc, ↓woc, ↓vopm0]
  refine hK3 _ _ ?_
  refine vsk fun K4 hK4 => ?_
  refine vsk fun K5 hK5 => ?_
  refine vw_sc 0 [] ?_
  simp only [bs, ↓vopx, ↓vop, Nat.reduceBEq, thenV, flat, Nat.reduceLT, hl, wocs, ↓goc, ↓woc, ↓vopm0]
  refine hK5 _ _ ?_
  refine vw_block ?_
  refine vw_loop (fun mm e' s' => ∃ i : Nat, mm = R.length - i ∧ i ≤ R.length ∧ e'.length = 39 ∧ ev e' (.tmp 0) = .ptr p 0 ∧ ev e' (.tmp 3) = .loc s.next 0 R.length ∧ ev e' (.tmp 14) = I R.length ∧ ev e' (.tmp 4) = I (plS R i).2 ∧ ev e' (.tmp 15) = I i ∧ True ∧ PlI s p m R i s') (⟨0, rfl, Nat.zero_le _, ?_⟩) ?_
  · try simp only [ev_hit, ev_miss, Nat.reduceBEq, lpv, hl, h0, Nat.reduceLT, true_and]
    repeat ((with_reducible refine And.intro ?_ ?_); · trivial)
    refine ⟨⟨l, ?_, hU⟩, ?_, fun j hj hjm => ?_, ?_⟩
    · exact hu.keep ((Keep.refl s).add (Nat.le_refl _) _) (by simp [Sg.add])
    · simp [Sg.add, plO_zero, hrep]
    · simp [Sg.add, show j ≠ s.next by omega]
    · simp [Sg.add]
  rintro mm e s1 ⟨i, rfl, hle_i, hl, h0, h3, h14, h4, h_i, hst, hpl⟩
  refine vsk fun K6 hK6 => ?_
  refine vw_sc 0 [] ?_
  simp only [thenV, opII, h14, h_i, wocs, ↓goc, ↓woc]
  refine hK6 _ _ ?_
  refine vsk fun K7 hK7 => ?_
  refine vck fun A B hA hB => ?_
  simp only [condV, ev_hit, Nat.reduceLT, decide_eq_true_eq, decide_eq_false_iff_not, hl]
  refine ⟨fun hc16 => hA ?_, fun hc16 => hB ?_⟩
  · clear hA hB A B
    refine vw_skip ?_
    refine hK7 _ _ ?_
    refine vsk fun K8 hK8 => ?_
    refine vw_block ?_
    refine vsk fun K9 hK9 => ?_
    refine vw_sc 0 [] ?_
    simp only [bs, ↓vopx, ↓vop, Nat.reduceBEq, thenV, Nat.reduceLT, hl, h_i, wocs, ↓goc, ↓woc, ↓vopm0]
    refine hK9 _ _ ?_
    refine vsk fun K10 hK10 => ?_
    have hlt : i < R.length := by omega
    obtain ⟨r, hr⟩ : ∃ r, R[i]? = some r := ⟨_, List.getElem?_eq_getElem hlt⟩
    obtain ⟨l1, hu1, hU1⟩ := hpl.pr
    refine vw_sc 0 [.stop] ?_
    simp only [bs, ↓vopx, ↓vop, Nat.reduceBEq, thenV, Nat.reduceLT, hl, h0, wocs, ↓goc, ↓woc, ↓vopm0, ↓callC, calleeV]
    refine ⟨Tryd.is60, (unLeast_ s1 p m l1 R hu1 hU1 i r hr).mono fun v s2 hv => ?_⟩
    obtain ⟨rfl, hp2, hb2⟩ := hv
    have hnm : ¬ s.next = m := by omega
    have ho2 : s2.m s.next = some (.arr 1 3 ((plO R i).map TI)) := by rw [hb2.1 s.next hpl.nx hnm]; exact hpl.out
    have hrb := hwf i r hr
    have hgr : R.getD i 0 = r := getD_of hr
    have hlo := plO_length (l := R) (i := i) (by omega)
    have hple := plS_le R i
    try simp only [bs, Nat.reduceBEq, Nat.reduceLT, hl, h0, Hold]
    refine hK10 _ _ ?_
    refine vsk fun K11 hK11 => ?_
    refine vw_sc 0 [] ?_
    simp only [bs, ↓vopx, ↓vop, Nat.reduceBEq, thenV, Nat.reduceLT, opII, hl, wocs, ↓goc, ↓woc, ↓vopm0]
    refine hK11 _ _ ?_
    refine vck fun A B hA hB => ?_
    simp only [condV, ev_hit, lpv, Nat.reduceLT, decide_eq_true_eq, decide_eq_false_iff_not, hl]
    refine ⟨fun hri0 => hA ?_, fun hri0 => hB ?_⟩
    · clear hA hB A B
      have hri : r.toNat < i := by omega
      have hpg := plO_get (l := R) hri
      refine vw_sc 0 [] ?_
      simp only [bs, ↓vopx, ↓vop, Nat.reduceBEq, thenV, blockV, Nat.reduceLT, V.cells, dLoad, vpart, Sg.frzL, Sg.frz1, hl, h3, wocs, ↓goc, ↓woc, ↓vopm0, Tryd.ag3, Tryd.sz3, Tryd.un27, ho2, hpg, hlo]
      repeat ((with_reducible refine And.intro ?_ ?_); · first | (with_reducible assumption) | omega)
      refine hK8 _ _ ?_
      refine vw_sc 0 [] ?_
      simp only [bs, ↓vopx, ↓vop, Nat.reduceBEq, thenV, flat, Nat.reduceLT, opII, hl, h0, h3, h14, h4, h_i, wocs, ↓goc, ↓woc, ↓vopm0]
      repeat ((with_reducible refine And.intro ?_ ?_); · exact ⟨by omega, by omega⟩)
      refine ⟨R.length - (i + 1), by omega, i + 1, rfl, by omega, ?_⟩
      try simp only [ev_hit, ev_miss, Nat.reduceBEq, lpv, hl, h0, h3, h14, h4, h_i, if_true, if_false, Nat.reduceEqDiff, Nat.reduceLT, true_and, and_true]
      first
       | (have hne : R.getD i 0 ≠ (i : Int) := (by rw [hgr]; omega); exact ⟨by rw [plS_other2 hne], by push_cast; rfl, hpl.put hp2 hb2 hlt hlp hlm _ (by have := plO_other hlt hne; rw [hgr] at this; exact this)⟩)
       | (have heq : R.getD i 0 = (i : Int) := (by rw [hgr]; omega); exact ⟨by rw [plS_root2 heq]; push_cast; rfl, by push_cast; rfl, hpl.put hp2 hb2 hlt hlp hlm _ (plO_root hlt heq)⟩)
    · clear hA hB A B
      refine vsk fun K12 hK12 => ?_
      refine vw_sc 0 [] ?_
      simp only [bs, ↓vopx, ↓vop, Nat.reduceBEq, thenV, Nat.reduceLT, V.cells, Sg.frzL, Sg.frz1, hl, h3, h4, wocs, ↓goc, ↓woc, ↓vopm0, Tryd.sz3, Tryd.un27, ho2, hlo]
      repeat ((with_reducible refine And.intro ?_ ?_); · first | (with_reducible assumption) | omega)
      refine hK12 _ _ ?_
      refine vw_sc 0 [] ?_
      simp only [bs, ↓vopx, ↓vop, Nat.reduceBEq, thenV, blockV, flat, Nat.reduceLT, opII, hl, h4, wocs, ↓goc, ↓woc, ↓vopm0]
      repeat ((with_reducible refine And.intro ?_ ?_); · exact ⟨by omega, by omega⟩)
      refine hK8 _ _ ?_
      refine vw_sc 0 [] ?_
      simp only [bs, ↓vopx, ↓vop, Nat.reduceBEq, thenV, flat, Nat.reduceLT, opII, hl, h0, h3, h14, h_i, wocs, ↓goc, ↓woc, ↓vopm0]
      repeat ((with_reducible refine And.intro ?_ ?_); · exact ⟨by omega, by omega⟩)
      refine ⟨R.length - (i + 1), by omega, i + 1, rfl, by omega, ?_⟩
      try simp only [ev_hit, ev_miss, Nat.reduceBEq, lpv, hl, h0, h3, h14, h4, h_i, if_true, if_false, Nat.reduceEqDiff, Nat.reduceLT, true_and, and_true]
      first
       | (have hne : R.getD i 0 ≠ (i : Int) := (by rw [hgr]; omega); exact ⟨by rw [plS_other2 hne], by push_cast; rfl, hpl.put hp2 hb2 hlt hlp hlm _ (by have := plO_other hlt hne; rw [hgr] at this; exact this)⟩)
       | (have heq : R.getD i 0 = (i : Int) := (by rw [hgr]; omega); exact ⟨by rw [plS_root2 heq]; push_cast; rfl, by push_cast; rfl, hpl.put hp2 hb2 hlt hlp hlm _ (plO_root hlt heq)⟩)
  · clear hA hB A B
    have han : R.length = i := by omega
    rw [← han] at hpl
    refine vw_exit ?_
    simp only [thenV, blockV, if_true]
    refine hK4 _ _ ?_
    refine vsk fun K13 hK13 => ?_
    refine VW.freeze 3 (n := s.next) (len := R.length) (k := 1) (el := 3) (cs := (placesL R).map TI) ?_ ?_ (by simp [placesL, plS_length]) ?_
    · try simp only [ev_miss, Nat.reduceBEq, h3]
    · have := hpl.out; rw [plO_end] at this; exact this
    refine vw_sc 0 [] ?_
    simp only [bs, ↓vopx, ↓vop, thenV, Nat.reduceLT, hl, wocs, ↓goc, ↓woc, ↓vopm0]
    refine hK13 _ _ ?_
    refine vw_ret ?_
    obtain ⟨l1, hu1, hU1⟩ := hpl.pr
    refine hQ _ _ _ (.inr rfl) (donek_tmp (v := .t (tInts (placesL R))) ?_ rfl ⟨rfl, ⟨l1, hu1.delO (by omega) (by omega), hU1⟩, fun j hj hjm => ?_, ?_⟩)
    try simp only [ev_hit, lpv, hl, Nat.reduceLT]
    · rw [m_del, if_neg (by omega)]; exact hpl.same j hj hjm
    · exact Nat.le_of_lt hpl.nx
end Go.Proofs

open Go Go.V
namespace Go.Proofs
abbrev ocells (o : Ob) : List T := [tStrs o.labels, tPairs o.pairs]
abbrev tObjs (l : List Ob) : T := .sl 2 (l.flatMap ocells)
abbrev tMat (l : List (List Int)) : T := .sl 1 (l.map tInts)
theorem flatO_length (l : List Ob) : (l.flatMap ocells).length = l.length * 2 := by
  induction l with
  | nil => rfl
  | cons a l ih => simp only [List.flatMap_cons, List.length_append, ih, List.length_cons, List.length_nil]; omega
theorem len_tObjs (l : List Ob) : vlen (.t (tObjs l)) = some l.length := by
  simp only [vlen, flatO_length]; congr 1; omega
theorem len_tMat (l : List (List Int)) : vlen (.t (tMat l)) = some l.length := by simp [vlen]
theorem dropO {l : List Ob} {i : Nat} {o : Ob} (h : l[i]? = some o) : (((l.flatMap ocells).map V.t).drop (i * 2)).take 2 = [.t (tStrs o.labels), .t (tPairs o.pairs)] := by
  induction l generalizing i with
  | nil => simp at h
  | cons a l ih =>
    cases i with
    | zero => simp at h; subst h; simp
    | succ i =>
      have := ih (i := i) (by simpa using h)
      rw [show (i + 1) * 2 = i * 2 + 2 by omega]
      simpa using this
structure ValF (n0 : Nat) (C : Sg → Prop) (vals : Nat → List V) (len : Nat) (Iv : (Nat → Prop) → Nat → Sg → Prop) (F : Sg → Prop) : Prop where
  hI : ∀ X k s, Iv X k s → C s ∧ ∀ x, X x → x < s.next
  hadd : ∀ X k s b, Iv X k s → Iv (fun m => X m ∨ m = s.next) k (s.add b)
  hset : ∀ X k s x b, Iv X k s → X x → Iv X k (s.set x b)
  hY : ∀ X k s, k < len → Iv X k s → YCall Tryd.prog n0 (vals k) s fun v s' => (v = Bo true ∧ Iv X (k + 1) s') ∨ (v = Bo false ∧ F s')
def objV (l : List Ob) (k : Nat) : List V := match l[k]? with | some o => [vObj o] | none => []
def intsV (l : List (List Int)) (k : Nat) : List V := match l[k]? with | some c => [.t (tInts c)] | none => []
set_option maxRecDepth 20000 in
theorem valObjs_ (s : Sg) (l : List Ob) : VCall Tryd.prog 39 [.t (tObjs l)] s (fun v s' => v = .clo 66 [.ptr s.next 0] ∧ s' = s.add (.box 77 [.t (tObjs l)])) := by
  refine kcall_of_body Tryd.func39 rfl fun Q hQ => ?_
  obtain ⟨e, he, hl, h0⟩ : ∃ e : Env, ([.t (tObjs l)] ++ List.replicate (Tryd.f39.ntmps - ([.t (tObjs l)] : List V).length) .junk) = e ∧ e.length = 4 ∧ ev e (.tmp 0) = .t (tObjs l) := ⟨_, rfl, rfl, rfl⟩
  rw [he]
  clear he
  refine vsk fun K1 hK1 => ?_
  refine vw_sc 0 [] ?_
  simp only [bs, ↓vopx, ↓vop, thenV, flat, V.cells, h0, wocs, ↓goc, ↓woc, ↓vopm0]
  refine hK1 _ _ ?_
  refine vsk fun K2 hK2 => ?_
  refine vw_sc 0 [] ?_
  simp only [bs, ↓vopx, ↓vop, Nat.reduceBEq, thenV, Nat.reduceLT, hl, wocs, ↓goc, ↓woc, ↓vopm0, capOk, List.all_cons, List.all_nil, Bool.and_self]
  refine hK2 _ _ ?_
  refine vw_ret ?_
  refine hQ _ _ _ (.inr rfl) (donek_tmp (v := .clo 66 [.ptr s.next 0]) ?_ rfl ⟨rfl, rfl⟩)
  try simp only [ev_hit, lpv, hl, Nat.reduceLT]
set_option maxRecDepth 20000 in
theorem valObjs1_ (n0 cb : Nat) (l : List Ob) (hl0 : l.length < 1000000000) (Iv : (Nat → Prop) → Nat → Sg → Prop) (F : Sg → Prop) (E : ValF n0 (fun s => s.m cb = some (.box 77 [.t (tObjs l)])) (objV l) l.length Iv F) (s : Sg) (hs0 : Iv (fun _ => False) 0 s) : VCall Tryd.prog 66 [.yl n0, .ptr cb 0] s (fun _ s' => (∃ X, Iv X l.length s') ∨ F s') := by
  refine kcall_of_body Tryd.func66 rfl fun Q hQ => ?_
  obtain ⟨e, he, hl, h0, h1⟩ : ∃ e : Env, ([.yl n0, .ptr cb 0] ++ List.replicate (Tryd.f66.ntmps - ([.yl n0, .ptr cb 0] : List V).length) .junk) = e ∧ e.length = 16 ∧ ev e (.tmp 0) = .yl n0 ∧ ev e (.tmp 1) = .ptr cb 0 := ⟨_, rfl, rfl, rfl, rfl⟩
  rw [he]
  clear he
  have hcb := (E.hI _ _ s hs0).1
  refine vsk fun K1 hK1 => ?_
  refine vw_sc 0 [] ?_
  simp only [bs, ↓vopx, ↓vop, thenV, flat, Nat.reduceLT, dLoad, vpart, hl, h1, wocs, ↓goc, ↓woc, ↓vopm0, Tryd.ag77, Tryd.sz77, Tryd.un77, len_tObjs, hcb]
  refine hK1 _ _ ?_
  refine vw_block ?_
  refine vw_loop (fun mm e' s' => ∃ k : Nat, mm = l.length - k ∧ k ≤ l.length ∧ e'.length = 16 ∧ ev e' (.tmp 0) = .yl n0 ∧ ev e' (.tmp 1) = .ptr cb 0 ∧ ev e' (.tmp 5) = .t (tObjs l) ∧ ev e' (.tmp 6) = I l.length ∧ ev e' (.tmp 7) = I k ∧ True ∧ ∃ X, Iv X k s') (⟨0, rfl, Nat.zero_le _, ?_⟩) ?_
  · try simp only [ev_hit, ev_miss, Nat.reduceBEq, lpv, hl, h0, h1, Nat.reduceLT, true_and]
    repeat ((with_reducible refine And.intro ?_ ?_); · trivial)
    all_goals (exact ⟨_, hs0⟩)
  rintro mm e s1 ⟨k, rfl, hle_k, hl, h0, h1, h5, h6, h_k, hst, ⟨X, hiv⟩⟩
  refine vsk fun K2 hK2 => ?_
  refine vw_sc 0 [] ?_
  simp only [thenV, opII, h6, h_k, wocs, ↓goc, ↓woc]
  refine hK2 _ _ ?_
  refine vsk fun K3 hK3 => ?_
  refine vck fun A B hA hB => ?_
  simp only [condV, ev_hit, Nat.reduceLT, decide_eq_true_eq, decide_eq_false_iff_not, hl]
  refine ⟨fun hc8 => hA ?_, fun hc8 => hB ?_⟩
  · clear hA hB A B
    refine vw_skip ?_
    refine hK3 _ _ ?_
    refine vsk fun K4 hK4 => ?_
    refine vw_block ?_
    refine vsk fun K5 hK5 => ?_
    have hlt : k < l.length := by omega
    obtain ⟨o, ho⟩ : ∃ o, l[k]? = some o := ⟨_, List.getElem?_eq_getElem hlt⟩
    have g0 := dropO ho
    have hfl := flatO_length l
    have hi2 : k * 2 < l.length * 2 := by omega
    refine vw_sc 0 [] ?_
    simp only [bs, Nat.reduceAdd, ↓vopx, ↓vop, Nat.reduceBEq, thenV, Nat.reduceLT, V.cells, dLoad, vpart, hl, h5, h_k, wocs, ↓goc, ↓woc, ↓vopm0, Tryd.ag26, Tryd.sz26, Tryd.un77, Tryd.zv26, g0, hfl, hi2]
    refine hK5 _ _ ?_
    refine vsk fun K6 hK6 => ?_
    refine vw_env2 fun e2 sb hE2 hSb => ?_
    subst hE2
    have hivb : Iv (fun m => X m ∨ m = s1.next) k sb := by rw [hSb]; exact E.hset _ _ _ _ _ (E.hadd _ _ s1 _ hiv) (.inr rfl)
    have hbx : sb.m s1.next = some (.box 26 [.t (tStrs o.labels), .t (tPairs o.pairs)]) := by rw [hSb]; simp [Sg.set]
    have hY := E.hY _ k sb hlt hivb
    have hpv : objV l k = [vObj o] := by unfold objV; rw [ho]
    rw [hpv] at hY
    refine vw_sc 0 [.stop] ?_
    simp only [bs, Nat.reduceAdd, ↓vopx, ↓vop, Nat.reduceBEq, thenV, Nat.reduceLT, dLoad, vpart, hl, h0, wocs, ↓goc, ↓woc, ↓vopm0, calleeV, ↓yieldC, Tryd.ag26, Tryd.sz26, hbx]
    refine YCall.mono hY fun v s2 hv => ?_
    obtain ⟨b, rfl, hb⟩ := yes_no hv
    try simp only [bs, Nat.reduceBEq, Nat.reduceLT, hl, h0, Hold]
    refine hK6 _ _ ?_
    refine vck fun A B hA hB => ?_
    simp only [condV, ev_hit, lpv, Nat.reduceLT, Bool.not_eq_true', Bool.not_eq_false', hl]
    refine ⟨fun hc14 => hA ?_, fun hc14 => hB ?_⟩
    · clear hA hB A B
      refine vw_ret ?_
      rcases hb with ⟨rfl, _⟩ | ⟨_, hF⟩
      · simp at hc14
      · exact hQ _ _ _ (.inr rfl) ⟨[], rfl, rfl, .inr hF⟩
    · clear hA hB A B
      have hiv2 : ∃ X, Iv X (k + 1) s2 := by rcases hb with ⟨_, h⟩ | ⟨rfl, _⟩; exact ⟨_, h⟩; simp at hc14
      refine vw_skip ?_
      refine hK4 _ _ ?_
      refine vw_sc 0 [] ?_
      simp only [bs, ↓vopx, ↓vop, Nat.reduceBEq, thenV, flat, Nat.reduceLT, opII, hl, h0, h1, h5, h6, h_k, wocs, ↓goc, ↓woc, ↓vopm0]
      repeat ((with_reducible refine And.intro ?_ ?_); · exact ⟨by omega, by omega⟩)
      refine ⟨l.length - (k + 1), by omega, k + 1, rfl, by omega, ?_⟩
      try simp only [ev_hit, ev_miss, Nat.reduceBEq, lpv, hl, h0, h1, h5, h6, h_k, if_true, if_false, Nat.reduceEqDiff, Nat.reduceLT, true_and, and_true]
      repeat ((with_reducible refine And.intro ?_ ?_); · trivial)
      exact hiv2
  · clear hA hB A B
    have han : l.length = k := by omega
    refine vw_exit ?_
    simp only [thenV, blockV, if_true]
    rw [← han] at hiv
    exact hQ _ _ _ (.inl rfl) ⟨[], rfl, rfl, .inl ⟨X, hiv⟩⟩
set_option maxRecDepth 20000 in
theorem valMat_ (s : Sg) (l : List (List Int)) : VCall Tryd.prog 65 [.t (tMat l)] s (fun v s' => v = .clo 83 [.ptr s.next 0] ∧ s' = s.add (.box 56 [.t (tMat l)])) := by
  refine kcall_of_body Tryd.func65 rfl fun Q hQ => ?_
  obtain ⟨e, he, hl, h0⟩ : ∃ e : Env, ([.t (tMat l)] ++ List.replicate (Tryd.f65.ntmps - ([.t (tMat l)] : List V).length) .junk) = e ∧ e.length = 4 ∧ ev e (.tmp 0) = .t (tMat l) := ⟨_, rfl, rfl, rfl⟩
  rw [he]
  clear he
  refine vsk fun K1 hK1 => ?_
  refine vw_sc 0 [] ?_
  simp only [bs, ↓vopx, ↓vop, thenV, flat, V.cells, h0, wocs, ↓goc, ↓woc, ↓vopm0]
  refine hK1 _ _ ?_
  refine vsk fun K2 hK2 => ?_
  refine vw_sc 0 [] ?_
  simp only [bs, ↓vopx, ↓vop, Nat.reduceBEq, thenV, Nat.reduceLT, hl, wocs, ↓goc, ↓woc, ↓vopm0, capOk, List.all_cons, List.all_nil, Bool.and_self]
  refine hK2 _ _ ?_
  refine vw_ret ?_
  refine hQ _ _ _ (.inr rfl) (donek_tmp (v := .clo 83 [.ptr s.next 0]) ?_ rfl ⟨rfl, rfl⟩)
  try simp only [ev_hit, lpv, hl, Nat.reduceLT]
set_option maxRecDepth 20000 in
theorem valMat1_ (n0 cb : Nat) (l : List (List Int)) (hl0 : l.length < 1000000000) (Iv : (Nat → Prop) → Nat → Sg → Prop) (F : Sg → Prop) (E : ValF n0 (fun s => s.m cb = some (.box 56 [.t (tMat l)])) (intsV l) l.length Iv F) (s : Sg) (hs0 : Iv (fun _ => False) 0 s) : VCall Tryd.prog 83 [.yl n0, .ptr cb 0] s (fun _ s' => (∃ X, Iv X l.length s') ∨ F s') := by
  refine kcall_of_body Tryd.func83 rfl fun Q hQ => ?_
  obtain ⟨e, he, hl, h0, h1⟩ : ∃ e : Env, ([.yl n0, .ptr cb 0] ++ List.replicate (Tryd.f83.ntmps - ([.yl n0, .ptr cb 0] : List V).length) .junk) = e ∧ e.length = 16 ∧ ev e (.tmp 0) = .yl n0 ∧ ev e (.tmp 1) = .ptr cb 0 := ⟨_, rfl, rfl, rfl, rfl⟩
  rw [he]
  clear he
  have hcb := (E.hI _ _ s hs0).1
  refine vsk fun K1 hK1 => ?_
  refine vw_sc 0 [] ?_
  simp only [bs, ↓vopx, ↓vop, thenV, flat, Nat.reduceLT, dLoad, vpart, hl, h1, wocs, ↓goc, ↓woc, ↓vopm0, Tryd.ag56, Tryd.sz56, Tryd.un56, len_tMat, hcb]
  refine hK1 _ _ ?_
  refine vw_block ?_
  refine vw_loop (fun mm e' s' => ∃ k : Nat, mm = l.length - k ∧ k ≤ l.length ∧ e'.length = 16 ∧ ev e' (.tmp 0) = .yl n0 ∧ ev e' (.tmp 1) = .ptr cb 0 ∧ ev e' (.tmp 5) = .t (tMat l) ∧ ev e' (.tmp 6) = I l.length ∧ ev e' (.tmp 7) = I k ∧ True ∧ ∃ X, Iv X k s') (⟨0, rfl, Nat.zero_le _, ?_⟩) ?_
  · try simp only [ev_hit, ev_miss, Nat.reduceBEq, lpv, hl, h0, h1, Nat.reduceLT, true_and]
    repeat ((with_reducible refine And.intro ?_ ?_); · trivial)
    all_goals (exact ⟨_, hs0⟩)
  rintro mm e s1 ⟨k, rfl, hle_k, hl, h0, h1, h5, h6, h_k, hst, ⟨X, hiv⟩⟩
  refine vsk fun K2 hK2 => ?_
  refine vw_sc 0 [] ?_
  simp only [thenV, opII, h6, h_k, wocs, ↓goc, ↓woc]
  refine hK2 _ _ ?_
  refine vsk fun K3 hK3 => ?_
  refine vck fun A B hA hB => ?_
  simp only [condV, ev_hit, Nat.reduceLT, decide_eq_true_eq, decide_eq_false_iff_not, hl]
  refine ⟨fun hc8 => hA ?_, fun hc8 => hB ?_⟩
  · clear hA hB A B
    refine vw_skip ?_
    refine hK3 _ _ ?_
    refine vsk fun K4 hK4 => ?_
    refine vw_block ?_
    refine vsk fun K5 hK5 => ?_
    have hlt : k < l.length := by omega
    obtain ⟨c, hc⟩ : ∃ c, l[k]? = some c := ⟨_, List.getElem?_eq_getElem hlt⟩
    refine vw_sc 0 [] ?_
    simp only [bs, ↓vopx, ↓vop, Nat.reduceBEq, thenV, Nat.reduceLT, dLoad, vpart, hl, h5, h_k, wocs, ↓goc, ↓woc, ↓vopm0, Tryd.ag27, Tryd.sz27, Tryd.un56, hc]
    repeat ((with_reducible refine And.intro ?_ ?_); · (with_reducible assumption))
    refine hK5 _ _ ?_
    refine vsk fun K6 hK6 => ?_
    have hY := E.hY _ k s1 hlt hiv
    have hpv : intsV l k = [.t (tInts c)] := by unfold intsV; rw [hc]
    rw [hpv] at hY
    refine vw_sc 0 [.stop] ?_
    simp only [bs, ↓vopx, ↓vop, Nat.reduceBEq, thenV, Nat.reduceLT, hl, h0, wocs, ↓goc, ↓woc, ↓vopm0, calleeV, ↓yieldC]
    refine YCall.mono hY fun v s2 hv => ?_
    obtain ⟨b, rfl, hb⟩ := yes_no hv
    try simp only [bs, Nat.reduceBEq, Nat.reduceLT, hl, h0, Hold]
    refine hK6 _ _ ?_
    refine vck fun A B hA hB => ?_
    simp only [condV, ev_hit, lpv, Nat.reduceLT, Bool.not_eq_true', Bool.not_eq_false', hl]
    refine ⟨fun hc14 => hA ?_, fun hc14 => hB ?_⟩
    · clear hA hB A B
      refine vw_ret ?_
      rcases hb with ⟨rfl, _⟩ | ⟨_, hF⟩
      · simp at hc14
      · exact hQ _ _ _ (.inr rfl) ⟨[], rfl, rfl, .inr hF⟩
    · clear hA hB A B
      have hiv2 : ∃ X, Iv X (k + 1) s2 := by rcases hb with ⟨_, h⟩ | ⟨rfl, _⟩; exact ⟨_, h⟩; simp at hc14
      refine vw_skip ?_
      refine hK4 _ _ ?_
      refine vw_sc 0 [] ?_
      simp only [bs, ↓vopx, ↓vop, Nat.reduceBEq, thenV, flat, Nat.reduceLT, opII, hl, h0, h1, h5, h6, h_k, wocs, ↓goc, ↓woc, ↓vopm0]
      repeat ((with_reducible refine And.intro ?_ ?_); · exact ⟨by omega, by omega⟩)
      refine ⟨l.length - (k + 1), by omega, k + 1, rfl, by omega, ?_⟩
      try simp only [ev_hit, ev_miss, Nat.reduceBEq, lpv, hl, h0, h1, h5, h6, h_k, if_true, if_false, Nat.reduceEqDiff, Nat.reduceLT, true_and, and_true]
      repeat ((with_reducible refine And.intro ?_ ?_); · trivial)
      exact hiv2
  · clear hA hB A B
    have han : l.length = k := by omega
    refine vw_exit ?_
    simp only [thenV, blockV, if_true]
    rw [← han] at hiv
    exact hQ _ _ _ (.inl rfl) ⟨[], rfl, rfl, .inl ⟨X, hiv⟩⟩
end Go.Proofs

open Go Go.V
namespace Go.Proofs
def sumT (l : List Ob) (k : Nat) : Nat := ((l.take k).map fun o => o.labels.length).sum
theorem sumT_succ {l : List Ob} {k : Nat} {o : Ob} (h : l[k]? = some o) : sumT l (k + 1) = sumT l k + o.labels.length := by
  unfold sumT
  rw [List.take_add_one, h]
  simp
theorem sumT_le (l : List Ob) (k : Nat) : sumT l k ≤ sumT l l.length := by
  by_cases h : k ≤ l.length
  · have : ∀ d, k + d ≤ l.length → sumT l k ≤ sumT l (k + d) := fun d => by
      induction d with
      | zero => intro _; exact Nat.le_refl _
      | succ d ih =>
        intro hd
        obtain ⟨o, ho⟩ : ∃ o, l[k + d]? = some o := ⟨_, List.getElem?_eq_getElem (by omega)⟩
        have := sumT_succ ho
        have := ih (by omega)
        rw [show k + (d + 1) = k + d + 1 by omega]; omega
    have := this (l.length - k) (by omega)
    rwa [show k + (l.length - k) = l.length by omega] at this
  · unfold sumT
    rw [List.take_of_length_le (by omega), List.take_of_length_le (Nat.le_refl _)]; exact Nat.le_refl _
def largeS (l : List Ob) : Bool := decide (40 < sumT l l.length)
structure LgI (s : Sg) (lp : Blk) (l : List Ob) (n0 : Nat) (X : Nat → Prop) (k : Nat) (s' : Sg) : Prop where
  b2 : s'.m s.next = some (.box 4 [Bo false])
  b3 : s'.m (s.next + 1) = some (.box 3 [I (40 - (sumT l k : Int))])
  bc : s'.m (s.next + 1 + 1) = some (.box 77 [.t (tObjs l)])
  hl : s'.m n0 = some lp
  same : ∀ j, j < s.next → s'.m j = s.m j
  nx : n0 < s'.next
  hs : sumT l k ≤ 40
  hX : ∀ x, X x → n0 < x ∧ x < s'.next
structure LgF (s : Sg) (lp : Blk) (l : List Ob) (n0 : Nat) (s' : Sg) : Prop where
  b2 : s'.m s.next = some (.box 4 [Bo true])
  hl : s'.m n0 = some lp
  same : ∀ j, j < s.next → s'.m j = s.m j
  big : 40 < sumT l l.length
def doneOf : Blk → Blk
  | .lp e ps asg bd _ _ => .lp e ps asg bd .done (some .ret)
  | x => x
variable {s : Sg} {lp : Blk} {l : List Ob} {n0 : Nat} {X : Nat → Prop} {k : Nat} {s' : Sg}
theorem LgI.add (h : LgI s lp l n0 X k s') (hn : n0 = s.next + 3) (b : Blk) : LgI s lp l n0 (fun x => X x ∨ x = s'.next) k (s'.add b) := by
  have h1 := h.nx
  refine ⟨by simp [Sg.add, show s.next ≠ s'.next by omega, h.b2], by simp [Sg.add, show s.next + 1 ≠ s'.next by omega, h.b3], by simp [Sg.add, show s.next + 1 + 1 ≠ s'.next by omega, h.bc], by simp [Sg.add, show n0 ≠ s'.next by omega, h.hl], fun j hj => by simp [Sg.add, show j ≠ s'.next by omega, h.same j hj], by simp [Sg.add]; omega, h.hs, fun x hx => ?_⟩
  rcases hx with hx | rfl
  · have := h.hX x hx; exact ⟨this.1, by simp [Sg.add]; omega⟩
  · exact ⟨h1, by simp [Sg.add]⟩
theorem LgI.set (h : LgI s lp l n0 X k s') (hn : n0 = s.next + 3) {x : Nat} (hx : X x) (b : Blk) : LgI s lp l n0 X k (s'.set x b) := by
  have h1 := h.hX x hx
  exact ⟨by simp [Sg.set, show s.next ≠ x by omega, h.b2], by simp [Sg.set, show s.next + 1 ≠ x by omega, h.b3], by simp [Sg.set, show s.next + 1 + 1 ≠ x by omega, h.bc], by simp [Sg.set, show n0 ≠ x by omega, h.hl], fun j hj => by simp [Sg.set, show j ≠ x by omega, h.same j hj], h.nx, h.hs, h.hX⟩
def LgI.F (_ : LgI s lp l n0 X k s') : Sg → Prop := LgF s (doneOf lp) l n0
set_option maxRecDepth 20000 in
theorem large_ (l : List Ob) (hl0 : l.length ≤ 1000) (hlo : ∀ o ∈ l, o.labels.length < 1000000000) : PCall Tryd.prog 24 [.t (tObjs l)] (Bo (largeS l)) := by
  refine pcall_of_body Tryd.func24 rfl fun s Q hQ => ?_
  obtain ⟨e, he, hl, h0⟩ : ∃ e : Env, ([.t (tObjs l)] ++ List.replicate (Tryd.f24.ntmps - ([.t (tObjs l)] : List V).length) .junk) = e ∧ e.length = 15 ∧ ev e (.tmp 0) = .t (tObjs l) := ⟨_, rfl, rfl, rfl⟩
  rw [he]
  clear he
  have n0_ : ¬ s.next = s.next + 1 + 1 := by omega
  refine vsk fun K1 hK1 => ?_
  refine vw_sc 0 [] ?_
  simp only [bs, ↓vopx, ↓vop, thenV, wocs, ↓goc, ↓woc, ↓vopm0, Tryd.zv4]
  refine hK1 _ _ ?_
  refine vsk fun K2 hK2 => ?_
  refine vw_sc 0 [] ?_
  simp only [bs, ↓vopx, ↓vop, thenV, flat, Nat.reduceLT, V.cells, hl, wocs, ↓goc, ↓woc, ↓vopm0, Tryd.sz3, Tryd.zv3]
  refine hK2 _ _ ?_
  refine vsk fun K3 hK3 => ?_
  refine vsk fun K4 hK4 => ?_
  refine vw_sc 0 [.stop] ?_
  simp only [bs, ↓vopx, ↓vop, Nat.reduceBEq, thenV, Nat.reduceLT, hl, h0, wocs, ↓goc, ↓woc, ↓vopm0, ↓callC, calleeV]
  refine ⟨Tryd.is39, (valObjs_ _ l).mono fun v s2 hv => ?_⟩
  obtain ⟨rfl, rfl⟩ := hv
  try simp only [bs, Nat.reduceBEq, h0, Hold]
  refine hK4 _ _ ?_
  refine vw_block ?_
  refine vw_env2 fun e1 s3 hE hS => ?_
  have hlE : e1.length = 15 := by rw [hE]; simp only [lpv, hl]
  have h2E : ev e1 (.tmp 2) = .ptr s.next 0 := by rw [hE]; simp only [ev_hit, ev_miss, Nat.reduceBEq, hl, Nat.reduceLT]
  have h3E : ev e1 (.tmp 3) = .ptr (s.next + 1) 0 := by rw [hE]; simp only [ev_hit, ev_miss, Nat.reduceBEq, lpv, hl, Nat.reduceLT]
  have h6E : ev e1 (.tmp 6) = .clo 66 [.ptr (s.next + 1 + 1) 0] := by rw [hE]; simp only [ev_hit, lpv, hl, Nat.reduceLT]
  clear hE
  have h3n : s3.next = s.next + 3 := by rw [hS]; rfl
  have h3o : ∀ j, j < s.next → s3.m j = s.m j := fun j hj => by rw [hS]; simp [Sg.set, Sg.add, show j ≠ s.next by omega, show j ≠ s.next + 1 by omega, show j ≠ s.next + 1 + 1 by omega]
  have h32 : s3.m s.next = some (.box 4 [Bo false]) := by rw [hS]; simp [Sg.set, Sg.add] <;> omega
  have h33 : s3.m (s.next + 1) = some (.box 3 [I 40]) := by rw [hS]; simp [Sg.set, Sg.add] <;> omega
  have h3c : s3.m (s.next + 1 + 1) = some (.box 77 [.t (tObjs l)]) := by rw [hS]; simp [Sg.set, Sg.add] <;> omega
  clear hS
  refine vw_range (g := 66) (caps := [.ptr (s.next + 1 + 1) 0]) h6E Tryd.func66 rfl (by decide) fun s4 h4e h4n h4m h4l => ?_
  have hst : LgI s _ l s3.next (fun _ => False) 0 s4 := ⟨by rw [h4m _ (by omega)]; exact h32, by rw [h4m _ (by omega)]; simpa [sumT] using h33, by rw [h4m _ (by omega)]; exact h3c, h4l, fun j hj => by rw [h4m j (by omega)]; exact h3o j hj, by omega, by simp [sumT], fun x hx => hx.elim⟩
  refine (valObjs1_ s3.next (s.next + 1 + 1) l (by omega) _ hst.F ⟨fun X k s5 hp => ⟨hp.bc, fun x hx => (hp.hX x hx).2⟩, fun X k s5 b hp => hp.add h3n b, fun X k s5 x b hp hx => hp.set h3n hx b, fun X k s5 hkl hp5 => ?_⟩ s4 hst).mono fun v s6 h6 => ?_
  rotate_left
  · rcases h6 with ⟨X, hp6⟩ | hF6
    rotate_left
    · refine ⟨some .ret, .done, hF6.hl, by simp, ?_⟩
      refine vw_ret ?_
      have hfb := hF6.b2
      have n5 : ¬ s.next = s3.next := by omega
      have hbig : largeS l = true := decide_eq_true hF6.big
      rw [hbig] at hQ
      refine hQ _ _ _ (.inr rfl) ?_
      refine done_flat (vs := [Bo true]) ?_ rfl (by simp [pack, nm, nm2, nm1, nm0]) (fun n b hn h => by rw [m_del, if_neg (by omega), hF6.same n hn]; exact h)
      show vres Tryd.prog _ _ [.cell 2 4] = _
      simp only [vres_cell, vres_nil, h2E, m_del, n5, hfb, Tryd.sz4, Tryd.ag4, dLoad, vpart, if_false]
      rfl
    refine ⟨none, .ready, hp6.hl, by simp, ?_⟩
    have n3 : ¬ s.next = s3.next := by omega
    simp only []
    refine hK3 _ _ ?_
    refine vsk fun K5 hK5 => ?_
    refine vw_sc 0 [] ?_
    simp only [bs, ↓vopx, ↓vop, thenV, flat, V.cells, h2E, wocs, ↓goc, ↓woc, ↓vopm0, Tryd.sz4, hp6.b2, n3]
    refine hK5 _ _ ?_
    refine vw_ret ?_
    have hsm : largeS l = false := by have := hp6.hs; unfold largeS; simp; omega
    rw [hsm] at hQ
    refine hQ _ _ _ (.inr rfl) ?_
    refine done_flat (vs := [Bo false]) ?_ rfl (by simp [pack, nm, nm2, nm1, nm0]) (fun n b hn h => by rw [m_set, if_neg (by omega), m_del, if_neg (by omega), hp6.same n hn]; exact h)
    show vres Tryd.prog _ _ [.cell 2 4] = _
    simp only [vres_cell, vres_nil, h2E, Tryd.sz4, Tryd.ag4, dLoad, m_set, vpart, if_true]
    rfl
  obtain ⟨o, ho⟩ : ∃ o, l[k]? = some o := ⟨_, List.getElem?_eq_getElem hkl⟩
  have hpv : objV l k = [vObj o] := by unfold objV; rw [ho]
  rw [hpv]
  have hol := hlo o (List.mem_of_getElem? ho)
  have hss := sumT_succ ho
  have hs5 := hp5.hs
  have hnx5 := hp5.nx
  have hn35 : s3.next ≠ s5.next := by omega
  refine ycall_of hp5.hl rfl fun KA hKA => ?_
  rw [show (#[7] : Array Tmp).toList = [7] from rfl, setps_one]
  refine vw_sc 0 [] ?_
  simp only [bs, Nat.reduceAdd, ↓vopx, ↓vop, Nat.reduceBEq, thenV, Nat.reduceLT, V.cells, hlE, wocs, ↓goc, ↓woc, ↓vopm0, Tryd.sz26, Tryd.zv26]
  refine hKA _ _ (by simp [Sg.set, Sg.add, hn35, hp5.hl]) ?_
  refine vw_env2 fun e2 sd hE2 hSd => ?_
  subst hE2
  have hdo : ∀ m, m ≠ s3.next → m ≠ s5.next → sd.m m = s5.m m := fun m h1 h2 => by rw [hSd]; simp [Sg.set, Sg.add, h1, h2]
  have hsdn : sd.next = s5.next + 1 := by rw [hSd]; rfl
  have hb2 : sd.m s.next = some (.box 4 [Bo false]) := by rw [hdo _ (by omega) (by omega)]; exact hp5.b2
  have hb3 : sd.m (s.next + 1) = some (.box 3 [I (40 - (sumT l k : Int))]) := by rw [hdo _ (by omega) (by omega)]; exact hp5.b3
  have hbx : sd.m s5.next = some (.box 26 [.t (tStrs o.labels), .t (tPairs o.pairs)]) := by rw [hSd]; simp [Sg.set, Sg.add, hn35.symm]
  have n1 : ¬ s.next = s.next + 1 := by omega
  have n2 : ¬ s5.next = s.next + 1 := by omega
  refine vw_block ?_
  refine vsk fun K6 hK6 => ?_
  refine vw_sc 0 [] ?_
  simp only [bs, ↓vopx, ↓vop, Nat.reduceBEq, thenV, Nat.reduceLT, V.cells, dLoad, vpart, opII, hlE, h3E, wocs, ↓goc, ↓woc, ↓vopm0, Tryd.ag23, Tryd.ag3, Tryd.fd26_0, Tryd.sz23, Tryd.sz3, Tryd.un23, len_tStrs, hb3, hbx]
  repeat ((with_reducible refine And.intro ?_ ?_); · exact ⟨by omega, by omega⟩)
  refine hK6 _ _ ?_
  refine vsk fun K7 hK7 => ?_
  refine vw_sc 0 [] ?_
  simp only [bs, ↓vopx, ↓vop, Nat.reduceBEq, thenV, flat, Nat.reduceLT, dLoad, vpart, opII, hlE, h3E, wocs, ↓goc, ↓woc, ↓vopm0, Tryd.ag3, Tryd.sz3, hb3]
  refine hK7 _ _ ?_
  refine vck fun A B hA hB => ?_
  simp only [condV, ev_hit, lpv, Nat.reduceLT, decide_eq_true_eq, decide_eq_false_iff_not, hlE]
  refine ⟨fun hc14 => hA ?_, fun hc14 => hB ?_⟩
  · clear hA hB A B
    refine vsk fun K8 hK8 => ?_
    refine vw_sc 0 [] ?_
    simp only [bs, ↓vopx, ↓vop, Nat.reduceBEq, thenV, flat, V.cells, h2E, wocs, ↓goc, ↓woc, ↓vopm0, Tryd.sz4, hb2, n1]
    refine hK8 _ _ ?_
    refine vw_ret ?_
    refine And.intro (by rw [m_set, if_neg (by omega), m_set, if_neg (by omega), hSd]; exact if_pos rfl) (.inr ⟨rfl, ⟨?_, by rw [m_set, if_pos rfl]; rfl, fun j hj => ?_, ?_⟩⟩)
    · rw [m_set, if_neg (by omega), m_set, if_pos rfl]
    · rw [m_set, if_neg (by omega), m_set, if_neg (by omega), m_set, if_neg (by omega), hdo _ (by omega) (by omega)]; exact hp5.same j hj
    · have := sumT_le l (k + 1); rw [hss] at this; omega
  · clear hA hB A B
    refine vw_skip ?_
    refine And.intro (by rw [m_set, if_neg (by omega), hSd]; exact if_pos rfl) (.inl ⟨rfl, ⟨?_, ?_, ?_, by rw [m_set, if_pos rfl], fun j hj => ?_, ?_, ?_, fun x hx => ?_⟩⟩)
    · rw [m_set, if_neg (by omega), m_set, if_neg (by omega)]; exact hb2
    · rw [m_set, if_neg (by omega), m_set, if_pos rfl, hss]; congr 4; push_cast; omega
    · rw [m_set, if_neg (by omega), m_set, if_neg (by omega), hdo _ (by omega) (by omega)]; exact hp5.bc
    · rw [m_set, if_neg (by omega), m_set, if_neg (by omega), hdo _ (by omega) (by omega)]; exact hp5.same j hj
    · show s3.next < sd.next; omega
    · rw [hss]; omega
    · have := hp5.hX x hx; exact ⟨this.1, by show x < sd.next; omega⟩
end Go.Proofs
