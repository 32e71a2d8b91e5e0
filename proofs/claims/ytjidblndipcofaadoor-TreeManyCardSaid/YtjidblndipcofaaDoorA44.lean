/- Lemmas on the way to the statement of this claim; no conditions. -/
import Derived.KernelRfl
import Derived.Test.YtjidblndipcofaaDoorA01
import Derived.Test.YtjidblndipcofaaDoorA32
import Derived.Test.YtjidblndipcofaaDoorA33
import Derived.Test.YtjidblndipcofaaDoorA34
import Derived.Test.YtjidblndipcofaaDoorA35
import Derived.Test.YtjidblndipcofaaDoorA40
import Derived.Test.YtjidblndipcofaaDoorA42
import Derived.Test.YtjidblndipcofaaDoorA43
open Go Go.V
namespace Go.Proofs
def fromB (lo : Nat) (g : Nat → Bool) : Nat → Bool := fun j => decide (lo ≤ j) && g j
theorem from_step {g : Nat → Bool} {lo : Nat} (h0 : wordB (fromB lo g) 64 ≠ 0) : lo ≤ Lib.ctz 64 (wordB (fromB lo g) 64) ∧ Lib.ctz 64 (wordB (fromB lo g) 64) < 64 ∧ g (Lib.ctz 64 (wordB (fromB lo g) 64)) = true ∧
    (∀ j, lo ≤ j → j < Lib.ctz 64 (wordB (fromB lo g) 64) → g j = false) ∧ wordB (fromB lo g) 64 &&& (wordB (fromB lo g) 64 - 1) = wordB (fromB (Lib.ctz 64 (wordB (fromB lo g) 64) + 1) g) 64 := by
  have hlt := wordB_lt (fromB lo g) 64
  have h1 := ctz_bit h0 hlt
  obtain ⟨_, _, h2⟩ := ctz_form h0 hlt
  have h3 := fun j hj => ctz_low h0 hlt (j := j) hj
  have h4 := low_clear h0 hlt
  generalize Lib.ctz 64 (wordB (fromB lo g) 64) = k at h1 h2 h3 h4
  rw [wordB_testBit] at h1
  simp only [fromB, Bool.and_eq_true, decide_eq_true_eq] at h1
  refine ⟨h1.2.1, h2, h1.2.2, fun j hj hjk => ?_, ?_⟩
  · have := h3 j hjk
    rw [wordB_testBit] at this
    have h5 : j < 64 := by omega
    simpa [fromB, hj, h5] using this
  · apply Nat.eq_of_testBit_eq
    intro j
    rw [h4 j, wordB_testBit, wordB_testBit]
    unfold fromB
    by_cases hj : j < 64
    · simp only [hj, decide_true, Bool.true_and]
      rcases Nat.lt_trichotomy j k with hjk | hjk | hjk
      · by_cases hlo : lo ≤ j
        · have h5 := h3 j hjk
          rw [wordB_testBit] at h5
          have h6 : g j = false := by simpa [fromB, hlo, hj] using h5
          simp [h6]
        · have : ¬ k + 1 ≤ j := by omega
          simp [hlo, this]
      · subst hjk; simp; intro hh; omega
      · have e1 : lo ≤ j := by omega
        have e2 : k + 1 ≤ j := by omega
        have e3 : j ≠ k := by omega
        simp [e1, e2, e3]
    · simp [hj]
theorem from_zero {g : Nat → Bool} {lo : Nat} (h : wordB (fromB lo g) 64 = 0) (j : Nat) (h1 : lo ≤ j) (h2 : j < 64) : g j = false := by
  have := wordB_testBit (fromB lo g) 64 j
  rw [h, Nat.zero_testBit] at this
  simpa [fromB, h1, h2] using this
theorem skip_to {I : Nat → Sg → Prop} {f : Nat → Bool} {n : Nat} (hs : ∀ k s, k < n → f k = false → I k s → I (k + 1) s) {s : Sg} {a : Nat} : ∀ (b : Nat), a ≤ b → b ≤ n → (∀ j, a ≤ j → j < b → f j = false) → I a s → I b s
  | 0, h, _, _, hI => by obtain rfl : a = 0 := by omega
                         exact hI
  | b + 1, h, hb, hf, hI => by
    rcases Nat.lt_or_ge b a with h1 | h1
    · obtain rfl : a = b + 1 := by omega
      exact hI
    · exact hs b s (by omega) (hf b h1 (by omega)) (skip_to hs b h1 (by omega) (fun j h2 h3 => hf j h2 (by omega)) hI)
theorem skip_word {Iv : Nat → Sg → Prop} {f : Nat → Bool} {n : Nat} (hs : ∀ k s, k < n → f k = false → Iv k s → Iv (k + 1) s) {s : Sg} {k lo hi : Nat} (hI : Iv (min (k * 64 + lo) n) s) (hlo : lo ≤ hi)
    (hz : ∀ j, lo ≤ j → j < hi → (decide (k * 64 + j < n) && f (k * 64 + j)) = false) : Iv (min (k * 64 + hi) n) s := by
  refine skip_to hs (a := min (k * 64 + lo) n) _ (by omega) (by omega) (fun j h5 h6 => ?_) hI
  have h8 : j < n := by omega
  have h7 := hz (j - k * 64) (by omega) (by omega)
  have e : k * 64 + (j - k * 64) = j := by omega
  rw [e] at h7
  simpa [h8] using h7
theorem far_sub1 (P : Program) (t : TypeId) (x y : Operand) (a : Nat) (h0 : a ≠ 0) (ha : a < 18446744073709551616) : opFar .sub (U a) (.t (.v (.int .u64 1))) P t x y (.int .u64 ((a - 1 : Nat) : Int)) := by
  refine .inl ⟨_, _, rfl, rfl, ?_⟩
  have : IntKind.u64.wrap ((a : Int) - 1) = ((a - 1 : Nat) : Int) := by rw [IntKind.wrap_u64]; omega
  rw [← this]; rfl
theorem from0 (n : Nat) (f : Nat → Bool) (k : Nat) : rowWord n f k = wordB (fromB 0 fun j => decide (k * 64 + j < n) && f (k * 64 + j)) 64 := by
  unfold rowWord
  congr 1
def EachK (I : Nat → Sg → Prop) (F : Sg → Prop) (n : Nat) (_ : V) (s' : Sg) : Prop := I n s' ∨ F s'
set_option maxRecDepth 20000 in
theorem bitsEach_ (s : Sg) (p : Nat) : VCall Tryd.prog 88 [.ptr p 0] s (fun v s' => v = .clo 92 [.ptr s.next 0] ∧ s' = s.add (.box 127 [.ptr p 0])) := by
  refine kcall_of_body Tryd.func88 rfl fun Q hQ => ?_
  obtain ⟨e, he, hl, h0⟩ : ∃ e : Env, ([.ptr p 0] ++ List.replicate (Tryd.f88.ntmps - ([.ptr p 0] : List V).length) .junk) = e ∧ e.length = 4 ∧ ev e (.tmp 0) = .ptr p 0 := ⟨_, rfl, rfl, rfl⟩
  rw [he]
  clear he
  refine vsk fun K1 hK1 => ?_
  refine vw_sc 0 [] ?_
  simp only [bs, ↓vopx, ↓vop, thenV, flat, V.cells, h0, wocs, ↓goc, ↓woc, ↓vopm0]
  refine hK1 _ _ ?_
  refine vsk fun K2 hK2 => ?_
  refine vw_sc 0 [] ?_
  simp only [bs, ↓vopx, ↓vop, Nat.reduceBEq, thenV, Nat.reduceLT, hl, wocs, ↓goc, ↓woc, ↓vopm0, capOk, List.all_cons, List.all_nil, Bool.and_self]
  refine hK2 _ _ ?_
  refine vw_ret ?_
  refine hQ _ _ _ (.inr rfl) (donek_tmp (v := .clo 92 [.ptr s.next 0]) ?_ rfl ⟨rfl, rfl⟩)
  try simp only [ev_hit, lpv, hl, Nat.reduceLT]
set_option maxRecDepth 20000 in
theorem bitsEach1_ (n0 cb p q n : Nat) (f : Nat → Bool) (Iv : Nat → Sg → Prop) (F : Sg → Prop) (hI : ∀ k s, Iv k s → s.m cb = some (.box 127 [.ptr p 0]) ∧ RowR s p q n f) (hsk : ∀ k s, k < n → f k = false → Iv k s → Iv (k + 1) s) (hY : ∀ k s, k < n → f k = true → Iv k s → YCall Tryd.prog n0 [I k] s fun v s' => (v = Bo true ∧ Iv (k + 1) s') ∨ (v = Bo false ∧ F s')) (s : Sg) (hs0 : Iv 0 s) : VCall Tryd.prog 92 [.yl n0, .ptr cb 0] s (EachK Iv F n) := by
  refine kcall_of_body Tryd.func92 rfl fun Q hQ => ?_
  obtain ⟨e, he, hl, h0, h1⟩ : ∃ e : Env, ([.yl n0, .ptr cb 0] ++ List.replicate (Tryd.f92.ntmps - ([.yl n0, .ptr cb 0] : List V).length) .junk) = e ∧ e.length = 32 ∧ ev e (.tmp 0) = .yl n0 ∧ ev e (.tmp 1) = .ptr cb 0 := ⟨_, rfl, rfl, rfl, rfl⟩
  rw [he]
  clear he
  obtain ⟨hcb, hrow⟩ := hI 0 s hs0
  have hle := hrow.le
  refine vsk fun K1 hK1 => ?_
  refine vsk fun K2 hK2 => ?_
  refine vw_sc 0 [.far (.bool false)] ?_
  simp only [bs, ↓vopx, ↓vop, thenV, flat, Nat.reduceLT, dLoad, vpart, hl, h1, wocs, ↓goc, ↓woc, ↓vopm0, ↓farC, Tryd.ag127, Tryd.sz127, hcb]
  repeat ((with_reducible refine And.intro ?_ ?_); · exact .inr (.inr ⟨⟨_, Tryd.underlying127⟩, .inl rfl, rfl, .inl ⟨⟨_, _, rfl⟩, rfl⟩⟩))
  refine hK2 _ _ ?_
  refine vck fun A B hA hB => ?_
  simp only [condV, ev_hit, lpv, Nat.reduceLT, true_implies, reduceCtorEq, false_implies, true_and, hl]
  refine hB ?_
  clear hA hB A B
  refine vw_skip ?_
  refine hK1 _ _ ?_
  refine vsk fun K3 hK3 => ?_
  refine vw_sc 0 [] ?_
  simp only [bs, dSure, ↓vopx, ↓vop, Nat.reduceBEq, thenV, flat, Nat.reduceLT, dLoad, vpart, hl, h1, wocs, ↓goc, ↓woc, ↓vopm0, Tryd.ag127, Tryd.ag142, Tryd.fd144_1, Tryd.sz127, Tryd.sz142, Tryd.un142, hcb, hrow.hp]
  refine hK3 _ _ ?_
  refine vw_block ?_
  refine vw_loop (fun mm e' s' => ∃ k : Nat, mm = nW n - k ∧ k ≤ nW n ∧ e'.length = 32 ∧ ev e' (.tmp 0) = .yl n0 ∧ ev e' (.tmp 1) = .ptr cb 0 ∧ ev e' (.tmp 10) = .loc q 0 (nW n) ∧ ev e' (.tmp 11) = I (nW n) ∧ ev e' (.tmp 12) = I k ∧ Iv (min (k * 64) n) s') (⟨0, rfl, Nat.zero_le _, ?_⟩) ?_
  · try simp only [ev_hit, ev_miss, Nat.reduceBEq, lpv, hl, h0, h1, Nat.reduceLT, true_and]
    repeat ((with_reducible refine And.intro ?_ ?_); · trivial)
    all_goals (simpa using hs0)
  rintro mm e s1 ⟨k, rfl, hle_k, hl, h0, h1, h10, h11, h_k, hI1⟩
  refine vsk fun K4 hK4 => ?_
  refine vw_sc 0 [] ?_
  simp only [thenV, opII, h11, h_k, wocs, ↓goc, ↓woc]
  refine hK4 _ _ ?_
  refine vsk fun K5 hK5 => ?_
  refine vck fun A B hA hB => ?_
  simp only [condV, ev_hit, Nat.reduceLT, decide_eq_true_eq, decide_eq_false_iff_not, hl]
  refine ⟨fun hc13 => hA ?_, fun hc13 => hB ?_⟩
  · clear hA hB A B
    refine vw_skip ?_
    refine hK5 _ _ ?_
    refine vsk fun K6 hK6 => ?_
    refine vw_block ?_
    refine vsk fun K7 hK7 => ?_
    obtain ⟨hcb1, hrow1⟩ := hI _ s1 hI1
    have hq1 := hrow1.hq
    have hlt : k < nW n := by omega
    have hw := rowW_get (n := n) (f := f) hlt
    refine vw_sc 0 [] ?_
    simp only [bs, ↓vopx, ↓vop, Nat.reduceBEq, thenV, Nat.reduceLT, dLoad, vpart, hl, h10, h_k, wocs, ↓goc, ↓woc, ↓vopm0, Tryd.ag123, Tryd.sz123, Tryd.un142, hq1, hw]
    repeat ((with_reducible refine And.intro ?_ ?_); · (with_reducible assumption))
    refine hK7 _ _ ?_
    refine vw_block ?_
    refine vw_loop (fun mm e' s' => ∃ lo : Nat, mm = 64 - lo ∧ lo ≤ 64 ∧ e'.length = 32 ∧ ev e' (.tmp 0) = .yl n0 ∧ ev e' (.tmp 1) = .ptr cb 0 ∧ ev e' (.tmp 10) = .loc q 0 (nW n) ∧ ev e' (.tmp 11) = I (nW n) ∧ ev e' (.tmp 12) = I k ∧ ev e' (.tmp 3) = I k ∧ ev e' (.tmp 4) = U (wordB (fromB lo fun j => decide (k * 64 + j < n) && f (k * 64 + j)) 64) ∧ Iv (min (k * 64 + lo) n) s') (⟨0, rfl, Nat.zero_le _, ?_⟩) ?_
    · try simp only [ev_hit, ev_miss, Nat.reduceBEq, lpv, hl, h0, h1, h10, h11, h_k, Nat.reduceLT, true_and]
      repeat ((with_reducible refine And.intro ?_ ?_); · trivial)
      all_goals first | exact hI1 | exact ⟨by rw [from0], hI1⟩
    rintro mm e s1 ⟨lo, rfl, hle_lo, hl, h0, h1, h10, h11, h_k, h3, h4, hI1⟩
    refine vsk fun K8 hK8 => ?_
    refine vsk fun K9 hK9 => ?_
    refine vw_sc 0 [.far (.bool (((wordB (fromB lo fun j => decide (k * 64 + j < n) && f (k * 64 + j)) 64 : Nat) : Int) != 0))] ?_
    simp only [bs, ↓vopx, ↓vop, thenV, flat, Nat.reduceLT, hl, h4, wocs, ↓goc, ↓woc, ↓vopm0, ↓farC]
    repeat ((with_reducible refine And.intro ?_ ?_); · exact far_une _ _ _ _ _ _)
    refine hK9 _ _ ?_
    refine vck fun A B hA hB => ?_
    simp only [condV, ev_hit, lpv, Nat.reduceLT, bne_iff_ne, bne_eq_false_iff_eq, ne_eq, hl]
    refine ⟨fun hc18 => hA ?_, fun hc18 => hB ?_⟩
    · clear hA hB A B
      refine vw_skip ?_
      refine hK8 _ _ ?_
      refine vsk fun K10 hK10 => ?_
      refine vw_block ?_
      refine vsk fun K11 hK11 => ?_
      obtain ⟨hcb1, hrow1⟩ := hI _ s1 hI1
      obtain ⟨w, hwd⟩ : ∃ w, w = wordB (fromB lo fun j => decide (k * 64 + j < n) && f (k * 64 + j)) 64 := ⟨_, rfl⟩
      rw [← hwd] at h4 hc18
      have hw0 : w ≠ 0 := by intro h; apply hc18; rw [h]; rfl
      have hwlt : w < 18446744073709551616 := by rw [hwd]; exact wordB_lt _ 64
      obtain ⟨f1, f2, f3, f4, f5⟩ := from_step (by rw [← hwd]; exact hw0)
      rw [← hwd] at f1 f2 f3 f4 f5
      simp only [Bool.and_eq_true, decide_eq_true_eq] at f3
      have hkn := f3.1
      have hnw : k < nW n := by omega
      have hn16 : nW n ≤ 16 := by unfold nW; omega
      have hIc := skip_word hsk hI1 f1 f4
      rw [show min (k * 64 + Lib.ctz 64 w) n = k * 64 + Lib.ctz 64 w from by omega] at hIc
      have hcast : (k : Int) * 64 + (Lib.ctz 64 w : Nat) = ((k * 64 + Lib.ctz 64 w : Nat) : Int) := by push_cast; rfl
      refine vw_sc 0 [.pur (I (Lib.ctz 64 w)), .stop] ?_
      simp only [bs, ↓vopx, ↓vop, Nat.reduceBEq, thenV, flat, Nat.reduceLT, opII, hl, h0, h3, h4, wocs, ↓goc, ↓woc, ↓vopm0, ↓callC, calleeV, ↓yieldC, hcast]
      refine ⟨by constructor <;> omega, ⟨Tryd.is93, tz_ w hwlt⟩, by constructor <;> omega, YCall.mono (hY _ s1 hkn f3.2 hIc) fun v s2 hv => ?_⟩
      obtain ⟨b, rfl, hb⟩ := yes_no hv
      try simp only [bs, Nat.reduceBEq, Nat.reduceLT, hl, h0, h3, h4, hcast, Hold]
      refine hK11 _ _ ?_
      refine vck fun A B hA hB => ?_
      simp only [condV, ev_hit, lpv, Nat.reduceLT, Bool.not_eq_true', Bool.not_eq_false', hl]
      refine ⟨fun hc30 => hA ?_, fun hc30 => hB ?_⟩
      · clear hA hB A B
        refine vw_ret ?_
        rcases hb with ⟨rfl, _⟩ | ⟨_, hF⟩
        · simp at hc30
        · exact hQ _ _ _ (.inr rfl) ⟨[], rfl, rfl, .inr hF⟩
      · clear hA hB A B
        have hI2 : Iv (k * 64 + Lib.ctz 64 w + 1) s2 := by rcases hb with ⟨_, h⟩ | ⟨rfl, _⟩; exact h; simp at hc30
        refine vw_skip ?_
        refine hK10 _ _ ?_
        refine vw_sc 0 [.far (.int .u64 ((w - 1 : Nat) : Int)), .far (.int .u64 ((w &&& (w - 1) : Nat) : Int))] ?_
        simp only [bs, ↓vopx, ↓vop, Nat.reduceBEq, thenV, flat, Nat.reduceLT, hl, h0, h1, h10, h11, h_k, h3, h4, wocs, ↓goc, ↓woc, ↓vopm0, ↓farC]
        repeat ((with_reducible refine And.intro ?_ ?_); · first | exact far_sub1 _ _ _ _ _ hw0 hwlt | exact far_and _ _ _ _ _ _ hwlt (by omega))
        refine ⟨64 - (Lib.ctz 64 w + 1), by omega, Lib.ctz 64 w + 1, rfl, by omega, ?_⟩
        try simp only [ev_hit, ev_miss, Nat.reduceBEq, lpv, hl, h0, h1, h10, h11, h_k, h3, if_true, if_false, Nat.reduceEqDiff, Nat.reduceLT, true_and, and_true]
        exact ⟨by rw [f5], by rw [show min (k * 64 + (Lib.ctz 64 w + 1)) n = k * 64 + Lib.ctz 64 w + 1 from by omega]; exact hI2⟩
    · clear hA hB A B
      refine vw_exit ?_
      simp only [thenV, blockV, if_true, if_false, Nat.reduceEqDiff, reduceCtorEq]
      refine hK6 _ _ ?_
      refine vw_sc 0 [] ?_
      simp only [bs, ↓vopx, ↓vop, Nat.reduceBEq, thenV, flat, Nat.reduceLT, opII, hl, h0, h1, h10, h11, h_k, wocs, ↓goc, ↓woc, ↓vopm0]
      repeat ((with_reducible refine And.intro ?_ ?_); · (repeat' first | exact Keep.refl _ | refine Keep.add ?_ ?_ _ | refine Keep.set ?_ ?_ _ | exact Nat.le_refl _ | (simp only [Sg.add, Sg.set, Sg.del]; omega)))
      refine ⟨by constructor <;> (have : nW n ≤ 16 := by unfold nW; omega) <;> omega, nW n - (k + 1), by omega, k + 1, rfl, by omega, by push_cast; rfl, ?_⟩
      have hz := from_zero (g := fun j => decide (k * 64 + j < n) && f (k * 64 + j)) (lo := lo) (by have := hc18; omega)
      rw [show (k + 1) * 64 = k * 64 + 64 from by omega]
      exact skip_word hsk hI1 hle_lo hz
  · clear hA hB A B
    have hkn : k = nW n := by omega
    refine vw_exit ?_
    simp only [thenV, blockV, if_true]
    have hfin : min (k * 64) n = n := by unfold nW at hkn; omega
    rw [hfin] at hI1
    exact hQ _ _ _ (.inl rfl) ⟨[], rfl, rfl, .inl hI1⟩
end Go.Proofs

open Go Go.V
namespace Go.Proofs
def orB (f g : Nat → Bool) (k : Nat) : Nat → Bool := fun j => f j || (decide (j < k) && g j)
def anyK (f g : Nat → Bool) (k : Nat) : Bool := (List.range k).any fun j => g j && !f j
theorem orB_zero (f g : Nat → Bool) : orB f g 0 = f := by funext j; simp [orB]
theorem orB_skip {f g : Nat → Bool} {k : Nat} (h : g k = false ∨ f k = true) : orB f g (k + 1) = orB f g k := by
  funext j
  unfold orB
  by_cases hj : j = k
  · subst hj; rcases h with h | h <;> simp [h]
  · have : (j < k + 1) ↔ (j < k) := by omega
    simp only [this]
theorem orB_put {f g : Nat → Bool} {k : Nat} (h : g k = true) : updB (orB f g k) k true = orB f g (k + 1) := by
  funext j
  unfold updB orB
  by_cases hj : j = k
  · subst hj; simp [h]
  · have : (j < k + 1) ↔ (j < k) := by omega
    simp only [if_neg hj, this]
theorem orB_self (f g : Nat → Bool) (k : Nat) : orB f g k k = f k := by simp [orB]
theorem orB_same (f : Nat → Bool) (k : Nat) : orB f f k = f := by funext j; unfold orB; cases f j <;> simp
theorem anyK_skip {f g : Nat → Bool} {k : Nat} (h : g k = false ∨ f k = true) : anyK f g (k + 1) = anyK f g k := by
  unfold anyK; rw [List.range_succ, List.any_append]
  rcases h with h | h <;> simp [h]
theorem anyK_put {f g : Nat → Bool} {k : Nat} (h : g k = true) (hf : f k = false) : anyK f g (k + 1) = true := by
  unfold anyK; rw [List.range_succ, List.any_append]; simp [h, hf]
structure OrI (s4 : Sg) (q v n : Nat) (f g : Nat → Bool) (k : Nat) (s' : Sg) : Prop where
  nx : s'.next = s4.next
  fr : ∀ m, m ≠ q → m ≠ v → s'.m m = s4.m m
  hq : s'.m q = some (.arr 1 123 (rowW n (orB f g k)))
  hv : s'.m v = some (.box 4 [Bo (anyK f g k)])
theorem OrI.skip {s4 : Sg} {q v n : Nat} {f g : Nat → Bool} {k : Nat} {s' : Sg} (h : OrI s4 q v n f g k s') (hk : g k = false ∨ f k = true) : OrI s4 q v n f g (k + 1) s' :=
  ⟨h.nx, h.fr, by rw [orB_skip hk]; exact h.hq, by rw [anyK_skip hk]; exact h.hv⟩
theorem OrI.put {s4 : Sg} {q v n : Nat} {f g : Nat → Bool} {k : Nat} {s5 : Sg} {nl : Nat} {rec : Blk} (h : OrI s4 q v n f g k s5) (hl : s4.m nl = some rec) (hg : g k = true) (hf : f k = false) (hqn : q ≠ nl) (hvn : v ≠ nl) (hqv : q ≠ v) (b1 : Blk) :
    OrI s4 q v n f g (k + 1) ((((s5.set nl b1).set q (.arr 1 123 (rowW n (updB (orB f g k) k true)))).set v (.box 4 [Bo true])).set nl rec) := by
  refine ⟨h.nx, fun m h1 h2 => ?_, ?_, ?_⟩
  · by_cases hm : m = nl
    · subst hm; simp [Sg.set, hl]
    · simp [Sg.set, hm, h1, h2, h.fr m h1 h2]
  · rw [← orB_put hg]; simp [Sg.set, hqn, hqv]
  · rw [anyK_put hg hf]; simp [Sg.set, hvn]
theorem dones_or {s s' : Sg} {q k t : Nat} {el : TypeId} {cs : List T} {e' : Env} {res : T} (hv : ev e' (.tmp t) = .t res) (hq : q < s.next) (hq' : s'.m q = some (.arr k el cs)) (hm : ∀ n, n < s.next → n ≠ q → s'.m n = s.m n) :
    DoneS Tryd.prog s [.tmp t] (.t res) (s.set q (.arr k el cs)) e' s' := by
  refine dones_tmp hv rfl (fun n b hb => ?_) fun n b hn hb => ?_
  · simp only [Sg.set] at hb
    split at hb
    · rename_i h; subst h; exact .inl hq
    · exact .inr hb
  · simp only [Sg.set] at hb
    split at hb
    · rename_i h; subst h; cases hb; exact ⟨hq', .inr trivial⟩
    · rename_i h; exact ⟨(hm n hn h).trans hb, .inl hb⟩
set_option maxRecDepth 20000 in
theorem bitsOr_ (s : Sg) (p q n : Nat) (f : Nat → Bool) (h : RowR s p q n f) (p1 q1 : Nat) (g : Nat → Bool) (hg1 : RowR s p1 q1 n g) (hpl : p < s.next) (hql : q < s.next) (hpl1 : p1 < s.next) (hql1 : q1 < s.next) (hal : q1 = q → g = f) : DCall Tryd.prog 78 [.ptr p 0, .ptr p1 0] s (Bo (anyK f g n)) (s.set q (.arr 1 123 (rowW n (orB f g n)))) := by
  refine dcall_of_body Tryd.func78 rfl fun Q hQ => ?_
  obtain ⟨e, he, hl, h0, h1⟩ : ∃ e : Env, ([.ptr p 0, .ptr p1 0] ++ List.replicate (Tryd.f78.ntmps - ([.ptr p 0, .ptr p1 0] : List V).length) .junk) = e ∧ e.length = 23 ∧ ev e (.tmp 0) = .ptr p 0 ∧ ev e (.tmp 1) = .ptr p1 0 := ⟨_, rfl, rfl, rfl, rfl⟩
  rw [he]
  clear he
  have hle := h.le
  refine vsk fun K1 hK1 => ?_
  refine vw_sc 0 [] ?_
  simp only [bs, ↓vopx, ↓vop, thenV, flat, V.cells, h0, wocs, ↓goc, ↓woc, ↓vopm0]
  refine hK1 _ _ ?_
  refine vsk fun K2 hK2 => ?_
  refine vw_sc 0 [] ?_
  simp only [bs, ↓vopx, ↓vop, thenV, flat, Nat.reduceLT, V.cells, hl, wocs, ↓goc, ↓woc, ↓vopm0, Tryd.sz4, Tryd.zv4]
  refine hK2 _ _ ?_
  refine vsk fun K3 hK3 => ?_
  refine vsk fun K4 hK4 => ?_
  refine vw_sc 0 [.stop] ?_
  simp only [bs, ↓vopx, ↓vop, Nat.reduceBEq, thenV, Nat.reduceLT, hl, h1, wocs, ↓goc, ↓woc, ↓vopm0, ↓callC, calleeV]
  refine ⟨Tryd.is88, (bitsEach_ _ p1).mono fun v s2 hv => ?_⟩
  obtain ⟨rfl, rfl⟩ := hv
  try simp only [bs, Nat.reduceBEq, h1, Hold]
  refine hK4 _ _ ?_
  refine vw_block ?_
  refine vw_env2 fun e1 s3 hE hS => ?_
  have hlE : e1.length = 23 := by rw [hE]; simp only [lpv, hl]
  have h2E : ev e1 (.tmp 2) = .ptr s.next 0 := by rw [hE]; simp only [ev_hit, ev_miss, Nat.reduceBEq, hl, Nat.reduceLT]
  have h5E : ev e1 (.tmp 5) = .ptr (s.next + 1) 0 := by rw [hE]; simp only [ev_hit, ev_miss, Nat.reduceBEq, lpv, hl, Nat.reduceLT]
  have h8E : ev e1 (.tmp 8) = .clo 92 [.ptr (s.next + 2) 0] := by rw [hE]; simp only [ev_hit, lpv, hl, Nat.reduceLT]
  clear hE
  have h3n : s3.next = s.next + 3 := by rw [hS]; rfl
  have h3a : s3.m s.next = some (.box 127 [.ptr p 0]) := by rw [hS]; simp [Sg.add, Sg.set] <;> omega
  have h3b : s3.m (s.next + 1) = some (.box 4 [Bo false]) := by rw [hS]; simp [Sg.add, Sg.set] <;> omega
  have h3c : s3.m (s.next + 2) = some (.box 127 [.ptr p1 0]) := by rw [hS]; simp [Sg.add, Sg.set] <;> omega
  have h3m : ∀ m, m < s.next → s3.m m = s.m m := fun m hm => by rw [hS]; simp [Sg.add, Sg.set, show m ≠ s.next by omega, show m ≠ s.next + 1 by omega, show m ≠ s.next + 2 by omega]
  clear hS
  refine vw_range (g := 92) (caps := [.ptr (s.next + 2) 0]) h8E Tryd.func92 rfl (by decide) fun s4 h4e h4n h4m h4l => ?_
  have hpq : p ≠ q := fun e => by have := h.hp; rw [e, h.hq] at this; cases this
  have hp1q : p1 ≠ q := fun e => by have := hg1.hp; rw [e, h.hq] at this; cases this
  have hI : ∀ k s5, OrI s4 q (s.next + 1) n f g k s5 → s5.m (s.next + 2) = some (.box 127 [.ptr p1 0]) ∧ RowR s5 p1 q1 n g := by
    intro k s5 hk
    refine ⟨by rw [hk.fr _ (by omega) (by omega), h4m _ (by omega), h3c], by rw [hk.fr _ hp1q (by omega), h4m _ (by omega), h3m _ hpl1]; exact hg1.hp, ?_, hle⟩
    by_cases hqq : q1 = q
    · rw [hqq, hk.hq, hal hqq, orB_same]
    · rw [hk.fr _ hqq (by omega), h4m _ (by omega), h3m _ hql1]; exact hg1.hq
  have hst : OrI s4 q (s.next + 1) n f g 0 s4 := ⟨rfl, fun m _ _ => rfl, by rw [h4m _ (by omega), h3m _ hql, orB_zero]; exact h.hq, by rw [h4m _ (by omega), h3b]; simp [anyK]⟩
  refine (bitsEach1_ s3.next (s.next + 2) p1 q1 n g (OrI s4 q (s.next + 1) n f g) (fun _ => False) hI (fun k s5 hkn hg hk => hk.skip (.inl hg)) (fun k s5 hkn hg hk => ?_) s4 hst).mono fun v s6 h6 => ?_
  rotate_left
  · rcases h6 with h6 | h6
    rotate_left
    · exact h6.elim
    refine ⟨none, .ready, by rw [h6.fr _ (by omega) (by omega)]; exact h4l, by simp, ?_⟩
    have hvn : ¬ s.next + 1 = s3.next := by omega
    simp only []
    refine hK3 _ _ ?_
    refine vsk fun K5 hK5 => ?_
    refine vw_sc 0 [] ?_
    simp only [bs, ↓vopx, ↓vop, thenV, Nat.reduceLT, dLoad, vpart, hlE, h5E, wocs, ↓goc, ↓woc, ↓vopm0, Tryd.ag4, Tryd.sz4, hvn, h6.hv]
    refine hK5 _ _ ?_
    refine vw_ret ?_
    refine hQ _ _ _ (.inr rfl) (dones_or ?_ hql (by simp [Sg.del, show q ≠ s3.next by omega, h6.hq]) fun m hm hmq => ?_)
    try simp only [ev_hit, lpv, hlE, Nat.reduceLT]
    simp only [Sg.del, show ¬ m = s3.next from by omega, if_false]
    rw [h6.fr m hmq (by omega), h4m _ (by omega), h3m _ hm]
  have hlpk := (hk.fr s3.next (by omega) (by omega)).trans h4l
  refine ycall_of hlpk rfl fun KA hKA => ?_
  rw [show (#[9] : Array Tmp).toList = [9] from rfl, setps_one]
  refine vw_sc 0 [] ?_
  simp only [bs, ↓vopx, ↓vop, thenV, Nat.reduceLT, hlE, wocs, ↓goc, ↓woc, ↓vopm0]
  refine hKA _ _ hlpk ?_
  have hkr : 0 ≤ (k : Int) ∧ (k : Int) < n := by omega
  have hbr0 : s5.m s.next = some (.box 127 [.ptr p 0]) := by rw [hk.fr _ (by omega) (by omega), h4m _ (by omega), h3a]
  have hpp : s5.m p = some (.box 144 [I n, .loc q 0 (nW n)]) := by rw [hk.fr _ hpq (by omega), h4m _ (by omega), h3m _ hpl]; exact h.hp
  have hn0q : s3.next ≠ q := by omega
  have hn0p : p ≠ s3.next := by omega
  have hn0s : s.next ≠ s3.next := by omega
  have hn0v : s.next + 1 ≠ s3.next := by omega
  have hvq : ¬ s.next + 1 = q := by omega
  refine vw_env2 fun e2 sb hE2 hSb => ?_
  subst hE2
  have hrb : RowR sb p q n (orB f g k) := ⟨by rw [hSb]; simp [Sg.set, hn0p, hpp], by rw [hSb]; simp [Sg.set, hn0q.symm, hk.hq], hle⟩
  have hbr : sb.m s.next = some (.box 127 [.ptr p 0]) := by rw [hSb]; simp [Sg.set, hn0s, hbr0]
  have hvb : sb.m (s.next + 1) = some (.box 4 [Bo (anyK f g k)]) := by rw [hSb]; simp [Sg.set, hn0v, hk.hv]
  have hnb : sb.next = s5.next := by rw [hSb]; rfl
  have hk1 := hk.nx
  refine vw_block ?_
  refine vsk fun K6 hK6 => ?_
  rcases Bool.eq_false_or_eq_true (f k) with hfk | hfk
  · refine vw_sc 0 [.det (Bo (decide (0 ≤ (k : Int) ∧ (k : Int) < n))) sb, .det (Bo (decide (0 ≤ (k : Int) ∧ (k : Int) < n) && orB f g k (k : Int).toNat)) sb] ?_
    simp only [bs, ↓vopx, ↓vop, Nat.reduceBEq, thenV, flat, Nat.reduceLT, dLoad, vpart, gtmp, hlE, h2E, wocs, ↓goc, ↓woc, ↓vopm0, ↓callC, ↓pick_tt, calleeV, Tryd.ag127, Tryd.sz127, orB_self, Bool.and_true, hbr, hkr, hfk]
    repeat ((with_reducible refine And.intro ?_ ?_); · first | exact ⟨Tryd.is87, by simpa only [hkr, and_self, decide_true] using bitsThere_ sb p n _ hrb.hp k⟩ | exact ⟨Tryd.is79, by simpa [hkr, orB_self, hfk] using bitsHas_ sb p q n _ hrb k⟩)
    refine hK6 _ _ ?_
    refine vck fun A B hA hB => ?_
    simp only [condV, ev_hit, lpv, Nat.reduceLT, true_implies, reduceCtorEq, false_implies, true_and, hlE]
    refine hB ?_
    clear hA hB A B
    refine vw_skip ?_
    refine And.intro (by rw [hSb]; simp [Sg.set]) (Or.inl (And.intro rfl ?_))
    rw [hSb]
    first
    | (rw [set_set, set_self hlpk]; exact hk.skip (.inr hfk))
    | exact hk.put h4l hg hfk (by omega) (by omega) (by omega) _
  · refine vw_sc 0 [.det (Bo (decide (0 ≤ (k : Int) ∧ (k : Int) < n))) sb, .det (Bo (decide (0 ≤ (k : Int) ∧ (k : Int) < n) && orB f g k (k : Int).toNat)) sb] ?_
    simp only [bs, ↓vopx, ↓vop, Nat.reduceBEq, thenV, flat, Nat.reduceLT, dLoad, vpart, gtmp, hlE, h2E, wocs, ↓goc, ↓woc, ↓vopm0, ↓callC, ↓pick_tt, calleeV, Tryd.ag127, Tryd.sz127, orB_self, Bool.and_false, hbr, hkr, hfk]
    repeat ((with_reducible refine And.intro ?_ ?_); · first | exact ⟨Tryd.is87, by simpa only [hkr, and_self, decide_true] using bitsThere_ sb p n _ hrb.hp k⟩ | exact ⟨Tryd.is79, by simpa [hkr, orB_self, hfk] using bitsHas_ sb p q n _ hrb k⟩)
    refine hK6 _ _ ?_
    refine vck fun A B hA hB => ?_
    simp only [condV, ev_hit, lpv, Nat.reduceLT, true_implies, reduceCtorEq, false_implies, and_true, hlE]
    refine hA ?_
    clear hA hB A B
    refine vsk fun K7 hK7 => ?_
    refine vw_sc 0 [.det (.tup []) (sb.set q (.arr 1 123 (rowW n (updB (orB f g k) k true))))] ?_
    simp only [bs, ↓vopx, ↓vop, Nat.reduceBEq, thenV, flat, Nat.reduceLT, dLoad, vpart, hlE, h2E, wocs, ↓goc, ↓woc, ↓vopm0, ↓callC, calleeV, Tryd.ag127, Tryd.sz127, hbr]
    repeat ((with_reducible refine And.intro ?_ ?_); · exact ⟨Tryd.is76, bitsPut_ sb p q n _ hrb (by omega) k hkn⟩)
    refine hK7 _ _ ?_
    refine vw_sc 0 [] ?_
    simp only [bs, ↓vopx, ↓vop, Nat.reduceBEq, blockV, flat, V.cells, h5E, wocs, ↓goc, ↓woc, ↓vopm0, Tryd.sz4, hvq, hvb]
    refine And.intro (by rw [hSb]; simp [Sg.set, hn0q, hn0v.symm]) (Or.inl (And.intro rfl ?_))
    rw [hSb]
    first
    | (rw [set_set, set_self hlpk]; exact hk.skip (.inr hfk))
    | exact hk.put h4l hg hfk (by omega) (by omega) (by omega) _
end Go.Proofs

open Go Go.V
namespace Go.Proofs
structure RelP (s : Sg) (p n : Nat) (M : Mx) (na : Nat) (rp rq : Nat → Nat) : Prop where
  hp : s.m p = some (.box 126 [.loc na 0 n])
  ha : s.m na = some (.box 127 ((List.range n).map fun i => .ptr (rp i) 0))
  hr : ∀ i, i < n → s.m (rp i) = some (.box 144 [I n, .loc (rq i) 0 (nW n)])
  hw : ∀ i, i < n → s.m (rq i) = some (.arr 1 123 (rowW n (M i)))
  inj : ∀ i j, i < n → j < n → rq i = rq j → i = j
  le : n ≤ 200
  lp : p < s.next
  la : na < s.next
  lr : ∀ i, i < n → rp i < s.next
  lq : ∀ i, i < n → rq i < s.next
theorem RelP.row {s : Sg} {p n : Nat} {M : Mx} {na : Nat} {rp rq : Nat → Nat} (h : RelP s p n M na rp rq) {i : Nat} (hi : i < n) : RowR s (rp i) (rq i) n (M i) := ⟨h.hr i hi, h.hw i hi, by have := h.le; omega⟩
theorem rowW_congr {n : Nat} {f g : Nat → Bool} (h : ∀ j, j < n → f j = g j) : rowW n f = rowW n g := by
  have key : ∀ k, rowWord n f k = rowWord n g k := by
    intro k
    have : (fun j => decide (k * 64 + j < n) && f (k * 64 + j)) = (fun j => decide (k * 64 + j < n) && g (k * 64 + j)) := by
      funext j
      by_cases hj : k * 64 + j < n
      · rw [h _ hj]
      · simp [hj]
    simp only [rowWord, this]
  simp only [rowW, key]
theorem RelP.congr {s : Sg} {p n : Nat} {M M' : Mx} {na : Nat} {rp rq : Nat → Nat} (h : RelP s p n M na rp rq) (hm : ∀ x y, x < n → y < n → M x y = M' x y) : RelP s p n M' na rp rq :=
  ⟨h.hp, h.ha, h.hr, fun i hi => by rw [h.hw i hi, rowW_congr fun j hj => hm i j hi hj], h.inj, h.le, h.lp, h.la, h.lr, h.lq⟩
theorem RelP.keep {s s' : Sg} {p n : Nat} {M : Mx} {na : Nat} {rp rq : Nat → Nat} (h : RelP s p n M na rp rq) (hk : Keep s s') (hn : s.next ≤ s'.next) : RelP s' p n M na rp rq :=
  ⟨hk _ _ h.lp h.hp, hk _ _ h.la h.ha, fun i hi => hk _ _ (h.lr i hi) (h.hr i hi), fun i hi => hk _ _ (h.lq i hi) (h.hw i hi), h.inj, h.le, Nat.lt_of_lt_of_le h.lp hn, Nat.lt_of_lt_of_le h.la hn, fun i hi => Nat.lt_of_lt_of_le (h.lr i hi) hn, fun i hi => Nat.lt_of_lt_of_le (h.lq i hi) hn⟩
theorem RelP.put {s : Sg} {p n : Nat} {M : Mx} {na : Nat} {rp rq : Nat → Nat} (h : RelP s p n M na rp rq) {a : Nat} (ha : a < n) (g : Nat → Bool) :
    RelP (s.set (rq a) (.arr 1 123 (rowW n g))) p n (fun x => if x = a then g else M x) na rp rq := by
  have h1 : p ≠ rq a := fun e => by have := h.hp; rw [e, h.hw a ha] at this; cases this
  have h2 : na ≠ rq a := fun e => by have := h.ha; rw [e, h.hw a ha] at this; cases this
  refine ⟨by simp [Sg.set, h1, h.hp], by simp [Sg.set, h2, h.ha], fun i hi => ?_, fun i hi => ?_, h.inj, h.le, h.lp, h.la, h.lr, h.lq⟩
  · have h3 : rp i ≠ rq a := fun e => by have := h.hr i hi; rw [e, h.hw a ha] at this; cases this
    simp [Sg.set, h3, h.hr i hi]
  · by_cases hia : i = a
    · subst hia; simp [Sg.set]
    · have h3 : rq i ≠ rq a := fun e => hia (h.inj i a hi ha e)
      simp [Sg.set, h3, hia, h.hw i hi]
theorem far_neqnil (P : Program) (t : TypeId) (x y : Operand) (el : TypeId) (hu : P.underlying t = some (.pointer el)) (n off : Nat) : opFar .eql (.ptr n off) (.t (.v (.pointer none))) P t x y (.bool false) := .inr (.inr ⟨⟨el, hu⟩, .inl rfl, rfl, .inl ⟨⟨_, _, rfl⟩, rfl⟩⟩)
set_option maxRecDepth 20000 in
theorem relLen_ (s : Sg) (p n : Nat) (na : Nat) (hp : s.m p = some (.box 126 [.loc na 0 n])) : DCall Tryd.prog 56 [.ptr p 0] s (I n) (s) := by
  refine dcall_of_body Tryd.func56 rfl fun Q hQ => ?_
  obtain ⟨e, he, hl, h0⟩ : ∃ e : Env, ([.ptr p 0] ++ List.replicate (Tryd.f56.ntmps - ([.ptr p 0] : List V).length) .junk) = e ∧ e.length = 10 ∧ ev e (.tmp 0) = .ptr p 0 := ⟨_, rfl, rfl, rfl⟩
  rw [he]
  clear he
  refine vsk fun K1 hK1 => ?_
  refine vw_sc 0 [] ?_
  simp only [bs, ↓vopx, ↓vop, thenV, flat, wocs, ↓goc, ↓woc, ↓vopm0]
  refine hK1 _ _ ?_
  refine vsk fun K2 hK2 => ?_
  refine vsk fun K3 hK3 => ?_
  refine vw_sc 0 [.far (.bool false)] ?_
  simp only [bs, ↓vopx, ↓vop, Nat.reduceBEq, thenV, flat, Nat.reduceLT, hl, h0, wocs, ↓goc, ↓woc, ↓vopm0, ↓farC]
  repeat ((with_reducible refine And.intro ?_ ?_); · exact far_neqnil _ _ _ _ _ Tryd.underlying86 _ _)
  refine hK3 _ _ ?_
  refine vck fun A B hA hB => ?_
  simp only [condV, ev_hit, lpv, Nat.reduceLT, true_implies, reduceCtorEq, false_implies, true_and, hl]
  refine hB ?_
  clear hA hB A B
  refine vw_skip ?_
  refine hK2 _ _ ?_
  refine vsk fun K4 hK4 => ?_
  refine vw_sc 0 [] ?_
  simp only [bs, dSure, ↓vopx, ↓vop, Nat.reduceBEq, thenV, Nat.reduceLT, dLoad, vpart, hl, h0, wocs, ↓goc, ↓woc, ↓vopm0, Tryd.ag124, Tryd.fd126_0, Tryd.sz124, Tryd.un124, hp]
  refine hK4 _ _ ?_
  refine vw_ret ?_
  refine hQ _ _ _ (.inr rfl) (Done.toS (done_tmp ?_ fun n b hn h => h))
  try simp only [ev_hit, lpv, hl, Nat.reduceLT]
set_option maxRecDepth 20000 in
theorem relThere_ (s : Sg) (p n : Nat) (na : Nat) (hp : s.m p = some (.box 126 [.loc na 0 n])) (i : Int) : DCall Tryd.prog 75 [.ptr p 0, I i] s (Bo (decide (0 ≤ i ∧ i < n))) (s) := by
  refine dcall_of_body Tryd.func75 rfl fun Q hQ => ?_
  obtain ⟨e, he, hl, h0, h1⟩ : ∃ e : Env, ([.ptr p 0, I i] ++ List.replicate (Tryd.f75.ntmps - ([.ptr p 0, I i] : List V).length) .junk) = e ∧ e.length = 13 ∧ ev e (.tmp 0) = .ptr p 0 ∧ ev e (.tmp 1) = I i := ⟨_, rfl, rfl, rfl, rfl⟩
  rw [he]
  clear he
  refine vsk fun K1 hK1 => ?_
  refine vw_sc 0 [] ?_
  simp only [bs, ↓vopx, ↓vop, thenV, flat, wocs, ↓goc, ↓woc, ↓vopm0]
  refine hK1 _ _ ?_
  refine vsk fun K2 hK2 => ?_
  rcases Decidable.em (0 ≤ i) with hi | hi
  · refine vw_sc 0 [.det (I n) s] ?_
    simp only [bs, ↓vopx, ↓vop, Nat.reduceBEq, thenV, flat, Nat.reduceLT, opII, gtmp, hl, h0, h1, wocs, ↓goc, ↓woc, ↓vopm0, ↓callC, ↓pick_tt, calleeV, hi]
    repeat ((with_reducible refine And.intro ?_ ?_); · exact ⟨Tryd.is56, relLen_ s p n na hp⟩)
    refine hK2 _ _ ?_
    refine vw_ret ?_
    refine hQ _ _ _ (.inr rfl) (Done.toS (done_tmp ?_ fun n b hn h => h))
    try simp only [ev_hit, lpv, hl, Nat.reduceLT]
    simp [hi]
  · refine vw_sc 0 [] ?_
    simp only [bs, ↓vopx, ↓vop, Nat.reduceBEq, thenV, flat, Nat.reduceLT, opII, gtmp, hl, h1, wocs, ↓goc, ↓woc, ↓vopm0, ↓pick_ft, hi]
    refine hK2 _ _ ?_
    refine vw_ret ?_
    refine hQ _ _ _ (.inr rfl) (Done.toS (done_tmp ?_ fun n b hn h => h))
    try simp only [ev_hit, lpv, hl, Nat.reduceLT]
    simp [hi]
set_option maxRecDepth 20000 in
theorem relHas_ (s : Sg) (p n : Nat) (M : Mx) (na : Nat) (rp rq : Nat → Nat) (h : RelP s p n M na rp rq) (a b : Int) : DCall Tryd.prog 54 [.ptr p 0, I a, I b] s (Bo (decide (0 ≤ a ∧ a < n) && (decide (0 ≤ b ∧ b < n) && M a.toNat b.toNat))) (s) := by
  refine dcall_of_body Tryd.func54 rfl fun Q hQ => ?_
  obtain ⟨e, he, hl, h0, h1, h2⟩ : ∃ e : Env, ([.ptr p 0, I a, I b] ++ List.replicate (Tryd.f54.ntmps - ([.ptr p 0, I a, I b] : List V).length) .junk) = e ∧ e.length = 21 ∧ ev e (.tmp 0) = .ptr p 0 ∧ ev e (.tmp 1) = I a ∧ ev e (.tmp 2) = I b := ⟨_, rfl, rfl, rfl, rfl, rfl⟩
  rw [he]
  clear he
  refine vsk fun K1 hK1 => ?_
  refine vw_sc 0 [] ?_
  simp only [bs, ↓vopx, ↓vop, thenV, flat, wocs, ↓goc, ↓woc, ↓vopm0]
  refine hK1 _ _ ?_
  refine vsk fun K2 hK2 => ?_
  rcases Decidable.em (0 ≤ a ∧ a < n) with ha | ha
  · have hha := h.ha
    have ga : (List.range n)[a.toNat]? = some a.toNat := List.getElem?_range (by omega)
    refine vw_sc 0 [.det (Bo (decide (0 ≤ a ∧ a < n))) s, .det (Bo (decide (0 ≤ b ∧ b < n) && M a.toNat b.toNat)) s] ?_
    simp only [bs, dSure, ↓vopx, ↓vop, Nat.reduceBEq, thenV, flat, Nat.reduceLT, dLoad, vpart, gtmp, hl, h0, h1, h2, wocs, ↓goc, ↓woc, ↓vopm0, ↓callC, ↓pick_tt, calleeV, Tryd.ag127, Tryd.ag124, Tryd.fd126_0, Tryd.sz127, Tryd.sz124, Tryd.un124, h.hp, ha, hha, ga]
    repeat ((with_reducible refine And.intro ?_ ?_); · first | exact ⟨Tryd.is75, by simpa only [ha, and_self, decide_true] using relThere_ s p n na h.hp a⟩ | exact ⟨Tryd.is79, bitsHas_ s _ _ n _ (h.row (i := a.toNat) (by omega)) b⟩)
    refine hK2 _ _ ?_
    refine vw_ret ?_
    refine hQ _ _ _ (.inr rfl) (Done.toS (done_tmp ?_ fun n b hn h => h))
    try simp only [ev_hit, lpv, hl, Nat.reduceLT]
    simp [ha]
  · refine vw_sc 0 [.det (Bo (decide (0 ≤ a ∧ a < n))) s] ?_
    simp only [bs, ↓vopx, ↓vop, Nat.reduceBEq, thenV, flat, Nat.reduceLT, gtmp, hl, h0, h1, wocs, ↓goc, ↓woc, ↓vopm0, ↓callC, ↓pick_ft, calleeV, ha]
    repeat ((with_reducible refine And.intro ?_ ?_); · exact ⟨Tryd.is75, by simpa only [ha, decide_false] using relThere_ s p n na h.hp a⟩)
    refine hK2 _ _ ?_
    refine vw_ret ?_
    refine hQ _ _ _ (.inr rfl) (Done.toS (done_tmp ?_ fun n b hn h => h))
    try simp only [ev_hit, lpv, hl, Nat.reduceLT]
    simp [ha]
end Go.Proofs

open Go Go.V
namespace Go.Proofs
structure FreshP (s : Sg) (p n na : Nat) (rp rq : Nat → Nat) : Prop where
  hp : s.next ≤ p
  ha : s.next ≤ na
  hr : ∀ i, i < n → s.next ≤ rp i
  hq : ∀ i, i < n → s.next ≤ rq i
def NewP (s : Sg) (n : Nat) (M : Mx) (v : V) (s' : Sg) : Prop := ∃ p na rp rq, v = .ptr p 0 ∧ RelP s' p n M na rp rq ∧ FreshP s p n na rp rq ∧ Keep s s' ∧ s.next ≤ s'.next
def cellsP (n i : Nat) (rp : Nat → Nat) : List V := (List.range n).map fun j => if j < i then .ptr (rp j) 0 else .t (.v (.pointer none))
theorem cellsP_length (n i : Nat) (rp : Nat → Nat) : (cellsP n i rp).length = n := by simp [cellsP]
theorem cellsP_zero (n : Nat) (rp : Nat → Nat) : (repl [T.v (Value.pointer none)] n).map V.t = cellsP n 0 rp := by
  rw [repl_one]
  apply List.ext_getElem?
  intro j
  by_cases hj : j < n
  · simp [cellsP, hj]
  · rw [List.getElem?_eq_none (by simp; omega), List.getElem?_eq_none (by simp [cellsP]; omega)]
theorem cellsP_set {n i : Nat} {rp : Nat → Nat} (hi : i < n) (x : Nat) : setAll (cellsP n i rp) i [.ptr x 0] = cellsP n (i + 1) (fun j => if j = i then x else rp j) := by
  rw [setAll_one _ _ _ (by rw [cellsP_length]; exact hi)]
  apply List.ext_getElem?
  intro j
  by_cases hj : j < n
  · rw [List.getElem?_set, cellsP_length]
    have g1 : (cellsP n i rp)[j]? = some (if j < i then .ptr (rp j) 0 else .t (.v (.pointer none))) := get_range _ hj
    have g2 : (cellsP n (i + 1) (fun j => if j = i then x else rp j))[j]? = some (if j < i + 1 then .ptr (if j = i then x else rp j) 0 else .t (.v (.pointer none))) := get_range _ hj
    rw [g1, g2]
    by_cases e : i = j
    · subst e; simp [hi]
    · have e2 : ¬ j = i := fun h => e h.symm
      have e3 : (j < i + 1) ↔ (j < i) := by omega
      simp [e, e2, e3]
  · rw [List.getElem?_eq_none (by rw [List.length_set, cellsP_length]; omega), List.getElem?_eq_none (by rw [cellsP_length]; omega)]
theorem newRow_m {s : Sg} {n m : Nat} (h : m < s.next) : (NewRow s n).m m = s.m m := by
  have h1 : m ≠ s.next := by omega
  have h2 : m ≠ s.next + 1 := by omega
  simp [NewRow, Sg.add, h1, h2]
theorem newRow_keep (s : Sg) (n : Nat) : Keep s (NewRow s n) := fun m b hm hb => by rw [newRow_m hm]; exact hb
structure PartP (s : Sg) (N p n i na : Nat) (rp rq : Nat → Nat) : Prop where
  hp : s.m p = some (.box 126 [.loc na 0 n])
  ha : s.m na = some (.box 127 (cellsP n i rp))
  hr : ∀ j, j < i → s.m (rp j) = some (.box 144 [I n, .loc (rq j) 0 (nW n)])
  hw : ∀ j, j < i → s.m (rq j) = some (.arr 1 123 (rowW n fun _ => false))
  inj : ∀ j k, j < i → k < i → rq j = rq k → j = k
  lp : p < s.next
  la : na < s.next
  lr : ∀ j, j < i → rp j < s.next
  lq : ∀ j, j < i → rq j < s.next
  fp : N ≤ p
  fa : N ≤ na
  fr : ∀ j, j < i → N ≤ rp j
  fq : ∀ j, j < i → N ≤ rq j
theorem PartP.step {s : Sg} {N p n i na : Nat} {rp rq : Nat → Nat} (h : PartP s N p n i na rp rq) (hi : i < n) :
    PartP ((NewRow s n).set na (.box 127 (setAll (cellsP n i rp) i [.ptr (s.next + 1) 0]))) N p n (i + 1) na (fun j => if j = i then s.next + 1 else rp j) (fun j => if j = i then s.next else rq j) := by
  have hlp := h.lp
  have hla := h.la
  have hfa := h.fa
  have hpa : p ≠ na := fun e => by have := h.hp; rw [e, h.ha] at this; cases this
  have e1 : s.next ≠ na := by omega
  have e2 : s.next + 1 ≠ na := by omega
  refine ⟨by simp [Sg.set, hpa, newRow_m h.lp, h.hp], by simp [Sg.set, cellsP_set hi], fun j hj => ?_, fun j hj => ?_, fun j k hj hk e => ?_, by simp [Sg.set, NewRow, Sg.add]; omega, by simp [Sg.set, NewRow, Sg.add]; omega, fun j hj => ?_, fun j hj => ?_, h.fp, h.fa, fun j hj => ?_, fun j hj => ?_⟩
  · by_cases hji : j = i
    · subst hji; simp [Sg.set, NewRow, Sg.add, e2]
    · have h1 := h.lr j (by omega)
      have h2 : rp j ≠ na := fun e => by have := h.hr j (by omega); rw [e, h.ha] at this; cases this
      simp [Sg.set, hji, h2, newRow_m h1, h.hr j (by omega)]
  · by_cases hji : j = i
    · subst hji; simp [Sg.set, NewRow, Sg.add, e1]
    · have h1 := h.lq j (by omega)
      have h2 : rq j ≠ na := fun e => by have := h.hw j (by omega); rw [e, h.ha] at this; cases this
      simp [Sg.set, hji, h2, newRow_m h1, h.hw j (by omega)]
  · by_cases hji : j = i <;> by_cases hki : k = i
    · omega
    · have := h.lq k (by omega); simp only [hji, hki, if_true, if_false] at e; omega
    · have := h.lq j (by omega); simp only [hji, hki, if_true, if_false] at e; omega
    · simp only [hji, hki, if_false] at e; exact h.inj j k (by omega) (by omega) e
  · by_cases hji : j = i
    · simp [hji, Sg.set, NewRow, Sg.add]
    · have := h.lr j (by omega); simp [hji, Sg.set, NewRow, Sg.add]; omega
  · by_cases hji : j = i
    · simp [hji, Sg.set, NewRow, Sg.add]; omega
    · have := h.lq j (by omega); simp [hji, Sg.set, NewRow, Sg.add]; omega
  · by_cases hji : j = i
    · simp [hji]; omega
    · simp [hji, h.fr j (by omega)]
  · by_cases hji : j = i
    · simp [hji]; omega
    · simp [hji, h.fq j (by omega)]
theorem PartP.done {s : Sg} {N p n na : Nat} {rp rq : Nat → Nat} (h : PartP s N p n n na rp rq) (hn : n ≤ 200) : RelP s p n (fun _ _ => false) na rp rq :=
  ⟨h.hp, by rw [h.ha]; congr 2; unfold cellsP; apply List.map_congr_left; intro j hj; rw [if_pos (List.mem_range.1 hj)], h.hr, h.hw, h.inj, hn, h.lp, h.la, h.lr, h.lq⟩
def AddP (s : Sg) (p n : Nat) (M : Mx) (na : Nat) (rp rq : Nat → Nat) (v : V) (s' : Sg) : Prop := (∃ b, v = Bo b) ∧ RelP s' p n M na rp rq ∧ (∀ m, (∀ i, i < n → m ≠ rq i) → s'.m m = s.m m) ∧ s'.next = s.next
theorem AddP.keep {s0 s : Sg} {p n : Nat} {M : Mx} {na : Nat} {rp rq : Nat → Nat} {v : V} {s' : Sg} (h : AddP s p n M na rp rq v s') (hf : ∀ i, i < n → s0.next ≤ rq i) (hk : Keep s0 s) : Keep s0 s' := fun m b hm hb => by
  rw [h.2.2.1 m fun i hi => by have := hf i hi; omega]; exact hk m b hm hb
set_option maxRecDepth 20000 in
theorem relNew_ (s : Sg) (n : Nat) (hn : n ≤ 200) : VCall Tryd.prog 50 [I n] s (NewP s n (fun _ _ => false)) := by
  refine kcall_of_body Tryd.func50 rfl fun Q hQ => ?_
  obtain ⟨e, he, hl, h0⟩ : ∃ e : Env, ([I n] ++ List.replicate (Tryd.f50.ntmps - ([I n] : List V).length) .junk) = e ∧ e.length = 33 ∧ ev e (.tmp 0) = I n := ⟨_, rfl, rfl, rfl⟩
  rw [he]
  clear he
  have hmx : max (n : Int) 0 = n := by omega
  have hmn : min (n : Int) 200 = n := by omega
  refine vsk fun K1 hK1 => ?_
  refine vw_sc 0 [] ?_
  simp only [bs, ↓vopx, ↓vop, thenV, flat, wocs, ↓goc, ↓woc, ↓vopm0]
  refine hK1 _ _ ?_
  refine vsk fun K2 hK2 => ?_
  refine vw_sc 0 [] ?_
  simp only [bs, vparts, gfill, ↓vopx, ↓vop, Nat.reduceBEq, thenV, flat, Nat.reduceLT, V.cells, hl, h0, wocs, ↓goc, ↓woc, ↓vopm0, Tryd.sl124, Tryd.st126, hmx, hmn]
  repeat ((with_reducible refine And.intro ?_ ?_); · omega)
  refine hK2 _ _ ?_
  refine vsk fun K3 hK3 => ?_
  refine vsk fun K4 hK4 => ?_
  refine VW.toBox s.next (ty := 127) (cs := repl [T.v (Value.pointer none)] n) (by simp [Sg.add]) ?_
  refine vw_sc 0 [] ?_
  simp only [bs, dSure, ↓vopx, ↓vop, thenV, flat, Nat.reduceLT, dLoad, vpart, hl, wocs, ↓goc, ↓woc, ↓vopm0, Tryd.ag124, Tryd.fd126_0, Tryd.sz124, Tryd.un124]
  refine hK4 _ _ ?_
  refine vw_block ?_
  refine vw_loop (fun mm e' s' => ∃ i : Nat, mm = n - i ∧ i ≤ n ∧ e'.length = 33 ∧ ev e' (.tmp 3) = .ptr (s.next + 1) 0 ∧ ev e' (.tmp 15) = I n ∧ ev e' (.tmp 16) = I i ∧ True ∧ ∃ rp rq, PartP s' s.next (s.next + 1) n i s.next rp rq ∧ Keep s s' ∧ s.next ≤ s'.next) (⟨0, rfl, Nat.zero_le _, ?_⟩) ?_
  · try simp only [ev_hit, ev_miss, Nat.reduceBEq, lpv, hl, Nat.reduceLT, true_and]
    repeat ((with_reducible refine And.intro ?_ ?_); · trivial)
    exact ⟨fun _ => 0, fun _ => 0, ⟨by simp [Sg.set, Sg.add], by rw [m_set, if_pos rfl, cellsP_zero], fun j h => by omega, fun j h => by omega, fun j k h => by omega, by simp [Sg.set, Sg.add], by simp [Sg.set, Sg.add]; omega, fun j h => by omega, fun j h => by omega, by omega, Nat.le_refl _, fun j h => by omega, fun j h => by omega⟩, (((Keep.refl s).add (Nat.le_refl _) _).add (by simp [Sg.add]) _).set (Nat.le_refl _) _, by simp [Sg.set, Sg.add]; omega⟩
  rintro mm e s1 ⟨i, rfl, hle_i, hl, h3, h15, h_i, hst, ⟨rp, rq, hpart, hkeep, hnx⟩⟩
  refine vsk fun K5 hK5 => ?_
  refine vw_sc 0 [] ?_
  simp only [thenV, opII, h15, h_i, wocs, ↓goc, ↓woc]
  refine hK5 _ _ ?_
  refine vsk fun K6 hK6 => ?_
  refine vck fun A B hA hB => ?_
  simp only [condV, ev_hit, Nat.reduceLT, decide_eq_true_eq, decide_eq_false_iff_not, hl]
  refine ⟨fun hc17 => hA ?_, fun hc17 => hB ?_⟩
  · clear hA hB A B
    refine vw_skip ?_
    refine hK6 _ _ ?_
    refine vsk fun K7 hK7 => ?_
    refine vw_block ?_
    refine vsk fun K8 hK8 => ?_
    refine vw_sc 0 [] ?_
    simp only [bs, ↓vopx, ↓vop, Nat.reduceBEq, thenV, Nat.reduceLT, hl, h_i, wocs, ↓goc, ↓woc, ↓vopm0]
    refine hK8 _ _ ?_
    have hlp := hpart.lp
    have hla := hpart.la
    have hna2 : (NewRow s1 n).m s.next = some (.box 127 (cellsP n i rp)) := by rw [newRow_m hla]; exact hpart.ha
    refine vw_chain Tryd.mixed 11 [0, 0, 0, 2, 0, 0, 0, 0, 1, 0, 3] [.det (.ptr (s1.next + 1) 0) (NewRow s1 n)] [] 0 (by decide +kernel) (by simp [lpv, hl]) rfl ?_
    simp only [bs, dSure, ↓vopx, ↓vop, Nat.reduceBEq, thenV, blockV, Nat.reduceLT, V.cells, dLoad, vpart, hl, h3, wocs, ↓goc, ↓woc, ↓vopm0, ↓vopm1, ↓callC, calleeV, chn, ↓goq, ↓woq, List.zip_cons_cons, List.zip_nil_right, Tryd.ag124, Tryd.fd126_0, Tryd.sz127, Tryd.sz124, Tryd.un124, hpart.hp, hna2, cellsP_length]
    repeat ((with_reducible refine And.intro ?_ ?_); · first | (with_reducible assumption) | omega | exact ⟨Tryd.is74, bitsNew_ s1 n (by omega)⟩ | exact newRow_keep _ _)
    refine hK7 _ _ ?_
    refine vw_sc 0 [] ?_
    simp only [bs, ↓vopx, ↓vop, Nat.reduceBEq, thenV, flat, Nat.reduceLT, opII, hl, h3, h15, h_i, wocs, ↓goc, ↓woc, ↓vopm0]
    repeat ((with_reducible refine And.intro ?_ ?_); · exact ⟨by omega, by omega⟩)
    refine ⟨n - (i + 1), by omega, i + 1, rfl, by omega, ?_⟩
    try simp only [ev_hit, ev_miss, Nat.reduceBEq, lpv, hl, h3, h15, h_i, if_true, if_false, Nat.reduceEqDiff, Nat.reduceLT, true_and, and_true]
    repeat ((with_reducible refine And.intro ?_ ?_); · trivial)
    exact ⟨_, _, hpart.step (by omega), (hkeep.trans hnx (newRow_keep s1 n)).set (Nat.le_refl _) _, by simp [NewRow, Sg.add]; omega⟩
  · clear hA hB A B
    have han : n = i := by omega
    subst han
    refine vw_exit ?_
    simp only [thenV, blockV, if_true]
    refine hK3 _ _ ?_
    refine vsk fun K9 hK9 => ?_
    refine vw_sc 0 [] ?_
    simp only [bs, ↓vopx, ↓vop, Nat.reduceBEq, thenV, Nat.reduceLT, hl, h3, wocs, ↓goc, ↓woc, ↓vopm0]
    refine hK9 _ _ ?_
    refine vw_ret ?_
    refine hQ _ _ _ (.inr rfl) (donek_tmp (v := .ptr (s.next + 1) 0) ?_ rfl ⟨_, _, rp, rq, rfl, hpart.done hn, ⟨hpart.fp, hpart.fa, hpart.fr, hpart.fq⟩, hkeep, hnx⟩)
    try simp only [ev_hit, lpv, hl, Nat.reduceLT]
set_option maxRecDepth 20000 in
theorem relAdd_ (s : Sg) (p n : Nat) (M : Mx) (na : Nat) (rp rq : Nat → Nat) (h : RelP s p n M na rp rq) (a b : Nat) (ha : a < n) (hb : b < n) : VCall Tryd.prog 51 [.ptr p 0, I a, I b] s (AddP s p n (updM M a b true) na rp rq) := by
  refine kcall_of_body Tryd.func51 rfl fun Q hQ => ?_
  obtain ⟨e, he, hl, h0, h1, h2⟩ : ∃ e : Env, ([.ptr p 0, I a, I b] ++ List.replicate (Tryd.f51.ntmps - ([.ptr p 0, I a, I b] : List V).length) .junk) = e ∧ e.length = 32 ∧ ev e (.tmp 0) = .ptr p 0 ∧ ev e (.tmp 1) = I a ∧ ev e (.tmp 2) = I b := ⟨_, rfl, rfl, rfl, rfl, rfl⟩
  rw [he]
  clear he
  have har : 0 ≤ (a : Int) ∧ (a : Int) < n := by omega
  have hbr : 0 ≤ (b : Int) ∧ (b : Int) < n := by omega
  have hpp := h.hp
  have hha := h.ha
  have ga : (List.range n)[a]? = some a := List.getElem?_range ha
  refine vsk fun K1 hK1 => ?_
  refine vw_sc 0 [] ?_
  simp only [bs, ↓vopx, ↓vop, thenV, flat, wocs, ↓goc, ↓woc, ↓vopm0]
  refine hK1 _ _ ?_
  refine vsk fun K2 hK2 => ?_
  refine vsk fun K3 hK3 => ?_
  rcases Bool.eq_false_or_eq_true (M a b) with hM | hM
  · refine vw_sc 0 [.det (Bo (decide (0 ≤ (a : Int) ∧ (a : Int) < n))) s, .det (Bo (decide (0 ≤ (b : Int) ∧ (b : Int) < n))) s, .det (Bo (M a b)) s] ?_
    simp only [bs, ↓vopx, ↓vop, Nat.reduceBEq, thenV, flat, Nat.reduceLT, gtmp, hl, h0, h1, h2, wocs, ↓goc, ↓woc, ↓vopm0, ↓callC, ↓pick_ff, calleeV, har, hbr, and_self, hM]
    repeat ((with_reducible refine And.intro ?_ ?_); · first | exact ⟨Tryd.is75, by simpa only [har, and_self, decide_true] using relThere_ s p n na h.hp a⟩ | exact ⟨Tryd.is75, by simpa only [hbr, and_self, decide_true] using relThere_ s p n na h.hp b⟩ | exact ⟨Tryd.is54, by simpa [har, hbr, hM] using relHas_ s p n M na rp rq h a b⟩)
    refine hK3 _ _ ?_
    refine vck fun A B hA hB => ?_
    simp only [condV, ev_hit, lpv, Nat.reduceLT, true_implies, reduceCtorEq, false_implies, and_true, hl]
    refine hA ?_
    clear hA hB A B
    refine vsk fun K4 hK4 => ?_
    refine vw_sc 0 [] ?_
    simp only [bs, ↓vopx, ↓vop, thenV, flat, wocs, ↓goc, ↓woc, ↓vopm0]
    refine hK4 _ _ ?_
    refine vw_ret ?_
    refine hQ _ _ _ (.inr rfl) (donek_tmp (v := Bo false) ?_ rfl ⟨⟨_, rfl⟩, h.congr fun x y hx hy => by unfold updM; split; (rename_i hxy; rw [hxy.1, hxy.2, hM]); rfl, fun m hm => rfl, rfl⟩)
    try simp only [ev_hit, lpv, hl, Nat.reduceLT]
  · refine vw_sc 0 [.det (Bo (decide (0 ≤ (a : Int) ∧ (a : Int) < n))) s, .det (Bo (decide (0 ≤ (b : Int) ∧ (b : Int) < n))) s, .det (Bo (M a b)) s] ?_
    simp only [bs, ↓vopx, ↓vop, Nat.reduceBEq, thenV, flat, Nat.reduceLT, gtmp, hl, h0, h1, h2, wocs, ↓goc, ↓woc, ↓vopm0, ↓callC, ↓pick_ff, calleeV, har, hbr, and_self, hM]
    repeat ((with_reducible refine And.intro ?_ ?_); · first | exact ⟨Tryd.is75, by simpa only [har, and_self, decide_true] using relThere_ s p n na h.hp a⟩ | exact ⟨Tryd.is75, by simpa only [hbr, and_self, decide_true] using relThere_ s p n na h.hp b⟩ | exact ⟨Tryd.is54, by simpa [har, hbr, hM] using relHas_ s p n M na rp rq h a b⟩)
    refine hK3 _ _ ?_
    refine vck fun A B hA hB => ?_
    simp only [condV, ev_hit, lpv, Nat.reduceLT, true_implies, reduceCtorEq, false_implies, true_and, hl]
    refine hB ?_
    clear hA hB A B
    refine vw_skip ?_
    refine hK2 _ _ ?_
    refine vsk fun K5 hK5 => ?_
    refine vw_sc 0 [.det (.tup []) (s.set (rq a) (.arr 1 123 (rowW n (updB (M a) b true))))] ?_
    simp only [bs, dSure, ↓vopx, ↓vop, Nat.reduceBEq, thenV, flat, Nat.reduceLT, dLoad, vpart, hl, h0, h1, h2, wocs, ↓goc, ↓woc, ↓vopm0, ↓callC, calleeV, Tryd.ag127, Tryd.ag124, Tryd.fd126_0, Tryd.sz127, Tryd.sz124, Tryd.un124, hpp, hha, ga]
    repeat ((with_reducible refine And.intro ?_ ?_); · first | omega | exact ⟨Tryd.is76, bitsPut_ s (rp a) (rq a) n (M a) (h.row ha) (h.lq a ha) b hb⟩)
    refine hK5 _ _ ?_
    refine vsk fun K6 hK6 => ?_
    refine vw_sc 0 [] ?_
    simp only [bs, ↓vopx, ↓vop, thenV, flat, wocs, ↓goc, ↓woc, ↓vopm0]
    refine hK6 _ _ ?_
    refine vw_ret ?_
    have hR := (h.put ha (updB (M a) b true)).congr (M' := updM M a b true) fun x y hx hy => by unfold updM updB; by_cases hxa : x = a <;> by_cases hyb : y = b <;> simp [hxa, hyb]
    refine hQ _ _ _ (.inr rfl) (donek_tmp (v := Bo true) ?_ rfl ⟨⟨_, rfl⟩, hR, fun m hm => by simp [Sg.set, hm a ha], rfl⟩)
    try simp only [ev_hit, lpv, hl, Nat.reduceLT]
end Go.Proofs

open Go Go.V
namespace Go.Proofs
def cpP (M : Mx) (i : Nat) : Mx := fun x y => decide (x < i) && M x y
theorem cpP_step {M : Mx} {i n : Nat} (x y : Nat) (hy : y < n) : (if x = i then orB (cpP M i i) (M i) n else cpP M i x) y = cpP M (i + 1) x y := by
  unfold cpP orB
  by_cases h : x = i
  · subst h; simp [hy]
  · have : (x < i + 1) ↔ (x < i) := by omega
    simp [h, this]
theorem fwB_rowk (M : Mx) (k a y : Nat) : fwB M k a 0 k y = M k y := by
  unfold fwB
  split
  · unfold fwk; cases M k y <;> simp
  · rfl
theorem fwB_or {M : Mx} {k a n : Nat} (h : M a k = true) (x y : Nat) (hy : y < n) : (if x = a then orB (fwB M k a 0 a) (fwB M k a 0 k) n else fwB M k a 0 x) y = fwB M k (a + 1) 0 x y := by
  by_cases hx : x = a
  · subst hx
    rw [if_pos rfl]
    unfold orB
    rw [fwB_rowk]
    simp [fwB, fwk, h, hy]
  · rw [if_neg hx]
    unfold fwB
    have : (x < a ∨ (x = a ∧ y < 0)) ↔ (x < a + 1 ∨ (x = a + 1 ∧ y < 0)) := by omega
    simp only [this]
set_option maxRecDepth 20000 in
theorem relCopy_ (s : Sg) (p n : Nat) (M : Mx) (na : Nat) (rp rq : Nat → Nat) (h : RelP s p n M na rp rq) : VCall Tryd.prog 77 [.ptr p 0] s (NewP s n M) := by
  refine kcall_of_body Tryd.func77 rfl fun Q hQ => ?_
  obtain ⟨e, he, hl, h0⟩ : ∃ e : Env, ([.ptr p 0] ++ List.replicate (Tryd.f77.ntmps - ([.ptr p 0] : List V).length) .junk) = e ∧ e.length = 33 ∧ ev e (.tmp 0) = .ptr p 0 := ⟨_, rfl, rfl, rfl⟩
  rw [he]
  clear he
  have hle := h.le
  refine vsk fun K1 hK1 => ?_
  refine vw_sc 0 [] ?_
  simp only [bs, ↓vopx, ↓vop, thenV, flat, wocs, ↓goc, ↓woc, ↓vopm0]
  refine hK1 _ _ ?_
  refine vsk fun K2 hK2 => ?_
  refine vw_sc 0 [.det (I n) s, .stop] ?_
  simp only [bs, ↓vopx, ↓vop, Nat.reduceBEq, thenV, Nat.reduceLT, hl, h0, wocs, ↓goc, ↓woc, ↓vopm0, ↓callC, calleeV]
  refine ⟨⟨Tryd.is56, relLen_ s p n na h.hp⟩, Tryd.is50, (relNew_ s n hle).mono fun v s2 hv => ?_⟩
  obtain ⟨c, na1, rp1, rq1, rfl, hR, hF, hk, hnx⟩ := hv
  try simp only [bs, Nat.reduceBEq, Nat.reduceLT, hl, h0, Hold]
  refine hK2 _ _ ?_
  refine vsk fun K3 hK3 => ?_
  refine vsk fun K4 hK4 => ?_
  have hRp := hR.hp
  refine vw_sc 0 [] ?_
  simp only [bs, dSure, ↓vopx, ↓vop, thenV, flat, Nat.reduceLT, dLoad, vpart, hl, wocs, ↓goc, ↓woc, ↓vopm0, Tryd.ag124, Tryd.fd126_0, Tryd.sz124, Tryd.un124, hRp]
  refine hK4 _ _ ?_
  refine vw_block ?_
  refine vw_loop (fun mm e' s' => ∃ i : Nat, mm = n - i ∧ i ≤ n ∧ e'.length = 33 ∧ ev e' (.tmp 0) = .ptr p 0 ∧ ev e' (.tmp 3) = .ptr c 0 ∧ ev e' (.tmp 12) = I n ∧ ev e' (.tmp 13) = I i ∧ True ∧ RelP s' c n (cpP M i) na1 rp1 rq1 ∧ Keep s s' ∧ s.next ≤ s'.next) (⟨0, rfl, Nat.zero_le _, ?_⟩) ?_
  · try simp only [ev_hit, ev_miss, Nat.reduceBEq, lpv, hl, h0, Nat.reduceLT, true_and]
    repeat ((with_reducible refine And.intro ?_ ?_); · trivial)
    all_goals (first | exact hnx | exact ⟨hR.congr fun x y hx hy => by simp [cpP], hk, hnx⟩)
  rintro mm e s1 ⟨i, rfl, hle_i, hl, h0, h3, h12, h_i, hst, ⟨hd, hkeep, hnx⟩⟩
  refine vsk fun K5 hK5 => ?_
  refine vw_sc 0 [] ?_
  simp only [thenV, opII, h12, h_i, wocs, ↓goc, ↓woc]
  refine hK5 _ _ ?_
  refine vsk fun K6 hK6 => ?_
  refine vck fun A B hA hB => ?_
  simp only [condV, ev_hit, Nat.reduceLT, decide_eq_true_eq, decide_eq_false_iff_not, hl]
  refine ⟨fun hc14 => hA ?_, fun hc14 => hB ?_⟩
  · clear hA hB A B
    refine vw_skip ?_
    refine hK6 _ _ ?_
    refine vsk fun K7 hK7 => ?_
    refine vw_block ?_
    refine vsk fun K8 hK8 => ?_
    refine vw_sc 0 [] ?_
    simp only [bs, ↓vopx, ↓vop, Nat.reduceBEq, thenV, Nat.reduceLT, hl, h_i, wocs, ↓goc, ↓woc, ↓vopm0]
    refine hK8 _ _ ?_
    have hs := h.keep hkeep hnx
    have xp := hd.hp
    have xa := hd.ha
    have xg : (List.range n)[i]? = some i := List.getElem?_range (by omega)
    have yp := hs.hp
    have ya := hs.ha
    have yg : (List.range n)[i]? = some i := List.getElem?_range (by omega)
    have hlq := h.lq i (by omega)
    have hfq := hF.hq i (by omega)
    refine vw_chain Tryd.mixed 14 [0, 0, 0, 1, 0, 1, 1, 0, 0, 0, 1, 0, 1, 1] [.det (Bo (anyK (cpP M i i) (M i) n)) (s1.set (rq1 i) (.arr 1 123 (rowW n (orB (cpP M i i) (M i) n))))] [] 0 (by decide +kernel) (by simp [lpv, hl]) rfl ?_
    simp only [bs, dSure, ↓vopx, ↓vop, Nat.reduceBEq, thenV, blockV, Nat.reduceLT, dLoad, vpart, hl, h0, h3, wocs, ↓goc, ↓woc, ↓vopm1, ↓callC, calleeV, chn, ↓goq, ↓woq, List.zip_cons_cons, List.zip_nil_right, Tryd.ag127, Tryd.ag124, Tryd.fd126_0, Tryd.sz127, Tryd.sz124, Tryd.un124, xp, xa, xg, yp, ya]
    repeat ((with_reducible refine And.intro ?_ ?_); · first | (with_reducible assumption) | exact ⟨Tryd.is78, bitsOr_ s1 (rp1 i) (rq1 i) n _ (hd.row (by omega)) (rp i) (rq i) _ (hs.row (by omega)) (hd.lr i (by omega)) (hd.lq i (by omega)) (hs.lr i (by omega)) (hs.lq i (by omega)) (fun e => by omega)⟩)
    refine hK7 _ _ ?_
    refine vw_sc 0 [] ?_
    simp only [bs, ↓vopx, ↓vop, Nat.reduceBEq, thenV, flat, Nat.reduceLT, opII, hl, h0, h3, h12, h_i, wocs, ↓goc, ↓woc, ↓vopm0]
    repeat ((with_reducible refine And.intro ?_ ?_); · exact ⟨by omega, by omega⟩)
    refine ⟨n - (i + 1), by omega, i + 1, rfl, by omega, ?_⟩
    try simp only [ev_hit, ev_miss, Nat.reduceBEq, lpv, hl, h0, h3, h12, h_i, if_true, if_false, Nat.reduceEqDiff, Nat.reduceLT, true_and, and_true]
    repeat ((with_reducible refine And.intro ?_ ?_); · trivial)
    exact ⟨(hd.put (by omega) _).congr fun x y hx hy => cpP_step x y hy, hkeep.set (hF.hq i (by omega)) _, hnx⟩
  · clear hA hB A B
    have han : n = i := by omega
    subst han
    refine vw_exit ?_
    simp only [thenV, blockV, if_true]
    refine hK3 _ _ ?_
    refine vsk fun K9 hK9 => ?_
    refine vw_sc 0 [] ?_
    simp only [bs, ↓vopx, ↓vop, Nat.reduceBEq, thenV, Nat.reduceLT, hl, h3, wocs, ↓goc, ↓woc, ↓vopm0]
    refine hK9 _ _ ?_
    refine vw_ret ?_
    refine hQ _ _ _ (.inr rfl) (donek_tmp (v := .ptr c 0) ?_ rfl ⟨c, na1, rp1, rq1, rfl, hd.congr fun x y hx hy => by simp [cpP, hx], hF, hkeep, hnx⟩)
    try simp only [ev_hit, lpv, hl, Nat.reduceLT]
set_option maxRecDepth 20000 in
theorem relClosure_ (s : Sg) (p n : Nat) (M : Mx) (na : Nat) (rp rq : Nat → Nat) (h : RelP s p n M na rp rq) : VCall Tryd.prog 52 [.ptr p 0] s (NewP s n (cloK M n)) := by
  refine kcall_of_body Tryd.func52 rfl fun Q hQ => ?_
  obtain ⟨e, he, hl, h0⟩ : ∃ e : Env, ([.ptr p 0] ++ List.replicate (Tryd.f52.ntmps - ([.ptr p 0] : List V).length) .junk) = e ∧ e.length = 46 ∧ ev e (.tmp 0) = .ptr p 0 := ⟨_, rfl, rfl, rfl⟩
  rw [he]
  clear he
  have hle := h.le
  refine vsk fun K1 hK1 => ?_
  refine vw_sc 0 [] ?_
  simp only [bs, ↓vopx, ↓vop, thenV, flat, wocs, ↓goc, ↓woc, ↓vopm0]
  refine hK1 _ _ ?_
  refine vsk fun K2 hK2 => ?_
  refine vw_sc 0 [.stop] ?_
  simp only [bs, ↓vopx, ↓vop, Nat.reduceBEq, thenV, Nat.reduceLT, hl, h0, wocs, ↓goc, ↓woc, ↓vopm0, ↓callC, calleeV]
  refine ⟨Tryd.is77, (relCopy_ s p n M na rp rq h).mono fun v s2 hv => ?_⟩
  obtain ⟨c, na1, rp1, rq1, rfl, hR, hF, hk, hnx⟩ := hv
  try simp only [bs, Nat.reduceBEq, Nat.reduceLT, hl, h0, Hold]
  refine hK2 _ _ ?_
  refine vsk fun K3 hK3 => ?_
  refine vsk fun K4 hK4 => ?_
  have hRp := hR.hp
  refine vw_sc 0 [] ?_
  simp only [bs, dSure, ↓vopx, ↓vop, thenV, flat, Nat.reduceLT, dLoad, vpart, hl, wocs, ↓goc, ↓woc, ↓vopm0, Tryd.ag124, Tryd.fd126_0, Tryd.sz124, Tryd.un124, hRp]
  refine hK4 _ _ ?_
  refine vw_block ?_
  refine vw_loop (fun mm e' s' => ∃ k : Nat, mm = n - k ∧ k ≤ n ∧ e'.length = 46 ∧ ev e' (.tmp 3) = .ptr c 0 ∧ ev e' (.tmp 12) = I n ∧ ev e' (.tmp 13) = I k ∧ True ∧ RelP s' c n (cloK M k) na1 rp1 rq1 ∧ Keep s s' ∧ s.next ≤ s'.next) (⟨0, rfl, Nat.zero_le _, ?_⟩) ?_
  · try simp only [ev_hit, ev_miss, Nat.reduceBEq, lpv, hl, Nat.reduceLT, true_and]
    repeat ((with_reducible refine And.intro ?_ ?_); · trivial)
    all_goals (first | exact hnx | exact ⟨hd, hkeep, hnx⟩ | exact ⟨hR, hk, hnx⟩)
  rintro mm e s1 ⟨k, rfl, hle_k, hl, h3, h12, h_k, hst, ⟨hd, hkeep, hnx⟩⟩
  refine vsk fun K5 hK5 => ?_
  refine vw_sc 0 [] ?_
  simp only [thenV, opII, h12, h_k, wocs, ↓goc, ↓woc]
  refine hK5 _ _ ?_
  refine vsk fun K6 hK6 => ?_
  refine vck fun A B hA hB => ?_
  simp only [condV, ev_hit, Nat.reduceLT, decide_eq_true_eq, decide_eq_false_iff_not, hl]
  refine ⟨fun hc14 => hA ?_, fun hc14 => hB ?_⟩
  · clear hA hB A B
    refine vw_skip ?_
    refine hK6 _ _ ?_
    refine vsk fun K7 hK7 => ?_
    refine vw_block ?_
    refine vsk fun K8 hK8 => ?_
    refine vw_sc 0 [] ?_
    simp only [bs, ↓vopx, ↓vop, Nat.reduceBEq, thenV, Nat.reduceLT, hl, h_k, wocs, ↓goc, ↓woc, ↓vopm0]
    refine hK8 _ _ ?_
    refine vsk fun K9 hK9 => ?_
    have hdp := hd.hp
    refine vw_sc 0 [] ?_
    simp only [bs, dSure, ↓vopx, ↓vop, Nat.reduceBEq, thenV, flat, Nat.reduceLT, dLoad, vpart, hl, h3, wocs, ↓goc, ↓woc, ↓vopm0, Tryd.ag124, Tryd.fd126_0, Tryd.sz124, Tryd.un124, hdp]
    refine hK9 _ _ ?_
    refine vw_block ?_
    refine vw_loop (fun mm e' s' => ∃ a : Nat, mm = n - a ∧ a ≤ n ∧ e'.length = 46 ∧ ev e' (.tmp 3) = .ptr c 0 ∧ ev e' (.tmp 12) = I n ∧ ev e' (.tmp 13) = I k ∧ ev e' (.tmp 4) = I k ∧ ev e' (.tmp 20) = I n ∧ ev e' (.tmp 21) = I a ∧ True ∧ RelP s' c n (fwB (cloK M k) k a 0) na1 rp1 rq1 ∧ Keep s s' ∧ s.next ≤ s'.next) (⟨0, rfl, Nat.zero_le _, ?_⟩) ?_
    · try simp only [ev_hit, ev_miss, Nat.reduceBEq, lpv, hl, h3, h12, h_k, Nat.reduceLT, true_and]
      repeat ((with_reducible refine And.intro ?_ ?_); · trivial)
      all_goals (first | exact hnx | exact ⟨hd.congr fun x y hx hy => fwB_zero _ _ x y, hkeep, hnx⟩)
    rintro mm e s1 ⟨a, rfl, hle_a, hl, h3, h12, h13, h4, h20, h_a, hst, ⟨hd, hkeep, hnx⟩⟩
    refine vsk fun K10 hK10 => ?_
    refine vw_sc 0 [] ?_
    simp only [thenV, opII, h20, h_a, wocs, ↓goc, ↓woc]
    refine hK10 _ _ ?_
    refine vsk fun K11 hK11 => ?_
    refine vck fun A B hA hB => ?_
    simp only [condV, ev_hit, Nat.reduceLT, decide_eq_true_eq, decide_eq_false_iff_not, hl]
    refine ⟨fun hc22 => hA ?_, fun hc22 => hB ?_⟩
    · clear hA hB A B
      refine vw_skip ?_
      refine hK11 _ _ ?_
      refine vsk fun K12 hK12 => ?_
      refine vw_block ?_
      refine vsk fun K13 hK13 => ?_
      refine vw_sc 0 [] ?_
      simp only [bs, ↓vopx, ↓vop, Nat.reduceBEq, thenV, Nat.reduceLT, hl, h_a, wocs, ↓goc, ↓woc, ↓vopm0]
      refine hK13 _ _ ?_
      refine vsk fun K14 hK14 => ?_
      refine vw_sc 0 [.det (Bo (cloK M k a k)) s1] ?_
      simp only [bs, ↓vopx, ↓vop, Nat.reduceBEq, thenV, Nat.reduceLT, hl, h3, h4, wocs, ↓goc, ↓woc, ↓vopm0, ↓callC, calleeV]
      repeat ((with_reducible refine And.intro ?_ ?_); · exact ⟨Tryd.is54, by simpa [show 0 ≤ (a : Int) ∧ (a : Int) < n from by omega, show 0 ≤ (k : Int) ∧ (k : Int) < n from by omega, fwB_read] using relHas_ s1 c n _ na1 rp1 rq1 hd a k⟩)
      refine hK14 _ _ ?_
      refine vck fun A B hA hB => ?_
      simp only [condV, ev_hit, lpv, Nat.reduceLT, hl]
      refine ⟨fun hc27 => hA ?_, fun hc27 => hB ?_⟩
      · clear hA hB A B
        have xp := hd.hp
        have xa := hd.ha
        have xg : (List.range n)[a]? = some a := List.getElem?_range (by omega)
        have yp := hd.hp
        have ya := hd.ha
        have yg : (List.range n)[k]? = some k := List.getElem?_range (by omega)
        refine vw_chain Tryd.mixed 14 [0, 0, 0, 1, 0, 1, 1, 0, 0, 0, 1, 0, 1, 1] [.det (Bo (anyK (fwB (cloK M k) k a 0 a) (fwB (cloK M k) k a 0 k) n)) (s1.set (rq1 a) (.arr 1 123 (rowW n (orB (fwB (cloK M k) k a 0 a) (fwB (cloK M k) k a 0 k) n))))] [] 0 (by decide +kernel) (by simp [lpv, hl]) rfl ?_
        simp only [bs, dSure, ↓vopx, ↓vop, Nat.reduceBEq, thenV, blockV, Nat.reduceLT, dLoad, vpart, hl, h3, h4, wocs, ↓goc, ↓woc, ↓vopm1, ↓callC, calleeV, chn, ↓goq, ↓woq, List.zip_cons_cons, List.zip_nil_right, Tryd.ag127, Tryd.ag124, Tryd.fd126_0, Tryd.sz127, Tryd.sz124, Tryd.un124, xp, xa, xg, yg]
        repeat ((with_reducible refine And.intro ?_ ?_); · first | (with_reducible assumption) | exact ⟨Tryd.is78, bitsOr_ s1 (rp1 a) (rq1 a) n _ (hd.row (by omega)) (rp1 k) (rq1 k) _ (hd.row (by omega)) (hd.lr a (by omega)) (hd.lq a (by omega)) (hd.lr k (by omega)) (hd.lq k (by omega)) (fun e => by rw [hd.inj k a (by omega) (by omega) e])⟩)
        refine hK12 _ _ ?_
        refine vw_sc 0 [] ?_
        simp only [bs, ↓vopx, ↓vop, Nat.reduceBEq, thenV, flat, Nat.reduceLT, opII, hl, h3, h12, h13, h4, h20, h_a, wocs, ↓goc, ↓woc, ↓vopm0]
        repeat ((with_reducible refine And.intro ?_ ?_); · exact ⟨by omega, by omega⟩)
        refine ⟨n - (a + 1), by omega, a + 1, rfl, by omega, ?_⟩
        try simp only [ev_hit, ev_miss, Nat.reduceBEq, lpv, hl, h3, h12, h13, h4, h20, h_a, if_true, if_false, Nat.reduceEqDiff, Nat.reduceLT, true_and, and_true]
        repeat ((with_reducible refine And.intro ?_ ?_); · trivial)
        first
        | exact ⟨(hd.put (by omega) _).congr fun x y hx hy => fwB_or hc27 x y hy, hkeep.set (hF.hq a (by omega)) _, hnx⟩
        | exact ⟨hd.congr fun x y hx hy => fwB_skip hc27 x y, hkeep, hnx⟩
      · clear hA hB A B
        refine vw_skip ?_
        refine hK12 _ _ ?_
        refine vw_sc 0 [] ?_
        simp only [bs, ↓vopx, ↓vop, Nat.reduceBEq, thenV, flat, Nat.reduceLT, opII, hl, h3, h12, h13, h4, h20, h_a, wocs, ↓goc, ↓woc, ↓vopm0]
        repeat ((with_reducible refine And.intro ?_ ?_); · exact ⟨by omega, by omega⟩)
        refine ⟨n - (a + 1), by omega, a + 1, rfl, by omega, ?_⟩
        try simp only [ev_hit, ev_miss, Nat.reduceBEq, lpv, hl, h3, h12, h13, h4, h20, h_a, if_true, if_false, Nat.reduceEqDiff, Nat.reduceLT, true_and, and_true]
        repeat ((with_reducible refine And.intro ?_ ?_); · trivial)
        first
        | exact ⟨(hd.put (by omega) _).congr fun x y hx hy => fwB_or hc27 x y hy, hkeep.set (hF.hq a (by omega)) _, hnx⟩
        | exact ⟨hd.congr fun x y hx hy => fwB_skip hc27 x y, hkeep, hnx⟩
    · clear hA hB A B
      have han : n = a := by omega
      subst han
      refine vw_exit ?_
      simp only [thenV, blockV, if_true, if_false, Nat.reduceEqDiff, reduceCtorEq]
      refine hK7 _ _ ?_
      refine vw_sc 0 [] ?_
      simp only [bs, ↓vopx, ↓vop, Nat.reduceBEq, thenV, flat, Nat.reduceLT, opII, hl, h3, h12, h13, wocs, ↓goc, ↓woc, ↓vopm0]
      repeat ((with_reducible refine And.intro ?_ ?_); · exact ⟨by omega, by omega⟩)
      refine ⟨n - (k + 1), by omega, k + 1, rfl, by omega, ?_⟩
      try simp only [ev_hit, ev_miss, Nat.reduceBEq, lpv, hl, h3, h12, h_k, if_true, if_false, Nat.reduceEqDiff, Nat.reduceLT, true_and, and_true]
      repeat ((with_reducible refine And.intro ?_ ?_); · trivial)
      exact ⟨hd.congr fun x y hx hy => fwB_done x y hx, hkeep, hnx⟩
  · clear hA hB A B
    have han : n = k := by omega
    subst han
    refine vw_exit ?_
    simp only [thenV, blockV, if_true]
    refine hK3 _ _ ?_
    refine vsk fun K15 hK15 => ?_
    refine vw_sc 0 [] ?_
    simp only [bs, ↓vopx, ↓vop, Nat.reduceBEq, thenV, Nat.reduceLT, hl, h3, wocs, ↓goc, ↓woc, ↓vopm0]
    refine hK15 _ _ ?_
    refine vw_ret ?_
    refine hQ _ _ _ (.inr rfl) (donek_tmp (v := .ptr c 0) ?_ rfl ⟨c, na1, rp1, rq1, rfl, hd, hF, hkeep, hnx⟩)
    try simp only [ev_hit, lpv, hl, Nat.reduceLT]
end Go.Proofs

open Go Go.V
namespace Go.Proofs
structure Ln where
  pa : Int
  nn : Int
  tx : ByteArray
  dd : Bool
structure Fl where
  path : ByteArray
  lines : List Ln
  pairs : List (Int × Int)
abbrev lcells (x : Ln) : List T := [.v (.int .u32 x.pa), TI x.nn, TS x.tx, .v (.bool x.dd)]
abbrev tLines (l : List Ln) : T := .sl 4 (l.flatMap lcells)
abbrev vFile (f : Fl) : V := .agg [.t (TS f.path), .t (tLines f.lines), .t (tPairs f.pairs)]
theorem flatL (l : List Ln) : (l.flatMap lcells).length = l.length * 4 := by
  induction l with
  | nil => rfl
  | cons a l ih => simp only [List.flatMap_cons, List.length_append, ih, List.length_cons, List.length_nil]; omega
theorem len_tLines (l : List Ln) : vlen (.t (tLines l)) = some l.length := by
  simp only [vlen, flatL]; congr 1; omega
theorem dropL {l : List Ln} {i : Nat} {p : Ln} (h : l[i]? = some p) : (((l.flatMap lcells).map V.t).drop (i * 4)).take 4 = (lcells p).map V.t := by
  induction l generalizing i with
  | nil => simp at h
  | cons a l ih =>
    cases i with
    | zero => simp at h; subst h; simp
    | succ i =>
      have := ih (i := i) (by simpa using h)
      rw [show (i + 1) * 4 = i * 4 + 4 by omega]
      simpa using this
theorem atL {l : List Ln} {i : Nat} {p : Ln} (h : l[i]? = some p) : (l.flatMap lcells)[i * 4 + 2]? = some (TS p.tx) := by
  induction l generalizing i with
  | nil => simp at h
  | cons a l ih =>
    cases i with
    | zero => simp at h; subst h; simp
    | succ i =>
      have := ih (i := i) (by simpa using h)
      rw [show (i + 1) * 4 + 2 = i * 4 + 2 + 4 by omega]
      simpa using this
def alvK (l : List Ln) : Nat → List Int
  | 0 => []
  | i + 1 => if (l[i]?).all (fun x => x.dd) = true then alvK l i else alvK l i ++ [(i : Int)]
def alvS (l : List Ln) : List Int := alvK l l.length
theorem alvK_len (l : List Ln) : ∀ i, (alvK l i).length ≤ i
  | 0 => Nat.le_refl _
  | i + 1 => by
    have := alvK_len l i
    simp only [alvK]; split
    · omega
    · simp; omega
theorem alvK_dead {l : List Ln} {i : Nat} {x : Ln} (h : l[i]? = some x) (hd : x.dd = true) : alvK l (i + 1) = alvK l i := by simp [alvK, h, hd]
theorem alvK_alive {l : List Ln} {i : Nat} {x : Ln} (h : l[i]? = some x) (hd : x.dd = false) : alvK l (i + 1) = alvK l i ++ [(i : Int)] := by simp [alvK, h, hd]
theorem GrowI.box {s0 s1 : Sg} {m : Nat} {l : List Int} (h : GrowI s0 s1 m l) (X Y : Blk) : GrowI s0 ((s1.add X).set s1.next Y) m l := by
  obtain ⟨h1, h2, h3⟩ := h
  exact ⟨by rw [m_set, if_neg (by omega), m_add, if_neg (by omega)]; exact h1, h2, by simp only [n_set, n_add]; omega⟩
set_option maxRecDepth 20000 in
theorem stAlive_ (f : Fl) (hf : f.lines.length ≤ 200) : PCall Tryd.prog 53 [vFile f] (.t (tInts (alvS f.lines))) := by
  refine pcall_of_body Tryd.func53 rfl fun s Q hQ => ?_
  obtain ⟨e, he, hl, h0⟩ : ∃ e : Env, ([vFile f] ++ List.replicate (Tryd.f53.ntmps - ([vFile f] : List V).length) .junk) = e ∧ e.length = 23 ∧ ev e (.tmp 0) = vFile f := ⟨_, rfl, rfl, rfl⟩
  rw [he]
  clear he
  refine vsk fun K1 hK1 => ?_
  refine vw_sc 0 [] ?_
  simp only [bs, ↓vopx, ↓vop, thenV, flat, V.cells, h0, wocs, ↓goc, ↓woc, ↓vopm0]
  repeat ((with_reducible refine And.intro ?_ ?_); · first | (with_reducible assumption) | omega | exact ⟨by omega, by omega⟩ | with_reducible rfl | (repeat' first | exact Keep.refl _ | refine Keep.add ?_ ?_ _ | refine Keep.set ?_ ?_ _ | exact Nat.le_refl _ | (simp only [Sg.add, Sg.set, Sg.del]; omega)))
  refine hK1 _ _ ?_
  refine vsk fun K2 hK2 => ?_
  refine vw_sc 0 [] ?_
  simp only [bs, ↓vopx, ↓vop, thenV, flat, wocs, ↓goc, ↓woc, ↓vopm0]
  repeat ((with_reducible refine And.intro ?_ ?_); · first | (with_reducible assumption) | omega | exact ⟨by omega, by omega⟩ | with_reducible rfl | (repeat' first | exact Keep.refl _ | refine Keep.add ?_ ?_ _ | refine Keep.set ?_ ?_ _ | exact Nat.le_refl _ | (simp only [Sg.add, Sg.set, Sg.del]; omega)))
  refine hK2 _ _ ?_
  refine vsk fun K3 hK3 => ?_
  refine vsk fun K4 hK4 => ?_
  refine VW.name 3 1 3 (by omega) (by simp only [ev_hit, lpv, hl, Nat.reduceLT]) ?_
  refine vw_sc 0 [] ?_
  simp only [bs, ↓vopx, ↓vop, Nat.reduceBEq, thenV, flat, Nat.reduceLT, dLoad, vpart, hl, wocs, ↓goc, ↓woc, ↓vopm0, Tryd.ag41, Tryd.fd44_1, Tryd.sz41, Tryd.un41, len_tLines, nns]
  repeat ((with_reducible refine And.intro ?_ ?_); · first | (with_reducible assumption) | omega | exact ⟨by omega, by omega⟩ | with_reducible rfl | (repeat' first | exact Keep.refl _ | refine Keep.add ?_ ?_ _ | refine Keep.set ?_ ?_ _ | exact Nat.le_refl _ | (simp only [Sg.add, Sg.set, Sg.del]; omega)))
  refine hK4 _ _ ?_
  refine vw_block ?_
  refine vw_loop (fun mm e' s' => ∃ i : Nat, mm = f.lines.length - i ∧ i ≤ f.lines.length ∧ e'.length = 23 ∧ ev e' (.tmp 1) = .ptr s.next 0 ∧ ev e' (.tmp 7) = .t (tLines f.lines) ∧ ev e' (.tmp 8) = I f.lines.length ∧ ev e' (.tmp 9) = I i ∧ True ∧ ∃ m, ev e' (.tmp 3) = .loc m 0 (alvK f.lines i).length ∧ GrowI s s' m (alvK f.lines i) ∧ Keep s s' ∧ s.next ≤ s'.next) (⟨0, rfl, Nat.zero_le _, ?_⟩) ?_
  · try simp only [ev_hit, ev_miss, Nat.reduceBEq, lpv, hl, Nat.reduceLT, true_and]
    repeat ((with_reducible refine And.intro ?_ ?_); · first | trivial | assumption | omega | rfl | (push_cast; rfl) | exact ⟨by omega, by omega⟩)
    exact ⟨s.next + 1, rfl, ⟨by rw [m_add, if_pos (by simp only [n_add])]; rfl, by omega, by simp only [n_add]; omega⟩, ((Keep.refl s).add (Nat.le_refl _) _).add (by simp only [n_add]; omega) _, by simp only [n_add]; omega⟩
  rintro mm e s1 ⟨i, rfl, hle_i, hl, h1, h7, h8, h_i, hst, ⟨m, hm3, hgr, hkeep, hnx⟩⟩
  refine vsk fun K5 hK5 => ?_
  refine vw_sc 0 [] ?_
  simp only [thenV, opII, h8, h_i, wocs, ↓goc, ↓woc]
  repeat ((with_reducible refine And.intro ?_ ?_); · first | (with_reducible assumption) | omega | exact ⟨by omega, by omega⟩ | with_reducible rfl | (repeat' first | exact Keep.refl _ | refine Keep.add ?_ ?_ _ | refine Keep.set ?_ ?_ _ | exact Nat.le_refl _ | (simp only [Sg.add, Sg.set, Sg.del]; omega)))
  refine hK5 _ _ ?_
  refine vsk fun K6 hK6 => ?_
  refine vck fun A B hA hB => ?_
  simp only [condV, ev_hit, Nat.reduceLT, decide_eq_true_eq, decide_eq_false_iff_not, hl]
  refine ⟨fun hc10 => hA ?_, fun hc10 => hB ?_⟩
  · clear hA hB A B
    refine vw_skip ?_
    refine hK6 _ _ ?_
    refine vsk fun K7 hK7 => ?_
    refine vw_block ?_
    refine vsk fun K8 hK8 => ?_
    have hlt : i < f.lines.length := by omega
    obtain ⟨x, hx⟩ : ∃ x, f.lines[i]? = some x := ⟨_, List.getElem?_eq_getElem hlt⟩
    have g0 := dropL hx
    have hfl := flatL f.lines
    have hi4 : i * 4 < f.lines.length * 4 := by omega
    refine vw_sc 0 [] ?_
    simp only [bs, Nat.reduceAdd, ↓vopx, ↓vop, Nat.reduceBEq, thenV, Nat.reduceLT, V.cells, dLoad, vpart, hl, h7, h_i, wocs, ↓goc, ↓woc, ↓vopm0, Tryd.ag40, Tryd.sz40, Tryd.un41, Tryd.zv40, g0, hfl, hi4]
    repeat ((with_reducible refine And.intro ?_ ?_); · first | (with_reducible assumption) | omega | exact ⟨by omega, by omega⟩ | with_reducible rfl | (repeat' first | exact Keep.refl _ | refine Keep.add ?_ ?_ _ | refine Keep.set ?_ ?_ _ | exact Nat.le_refl _ | (simp only [Sg.add, Sg.set, Sg.del]; omega)))
    refine hK8 _ _ ?_
    refine vsk fun K9 hK9 => ?_
    refine vw_st2 fun s2 hS2 => ?_
    have hgr2 : GrowI s s2 m (alvK f.lines i) := by rw [hS2]; exact hgr.box _ _
    have hk2 : Keep s s2 := by rw [hS2]; exact (hkeep.add hnx _).set hnx _
    have hn2 : s.next ≤ s2.next := by rw [hS2]; simp only [n_set, n_add]; omega
    have hb5 : s2.m s1.next = some (.box 40 [.t (.v (.int .u32 x.pa)), I x.nn, Str x.tx, Bo x.dd]) := by rw [hS2, m_set, if_pos rfl]; rfl
    clear hS2
    refine vw_sc 0 [] ?_
    simp only [bs, ↓vopx, ↓vop, Nat.reduceBEq, thenV, Nat.reduceLT, dLoad, vpart, hl, wocs, ↓goc, ↓woc, ↓vopm0, Tryd.ag4, Tryd.fd40_2, Tryd.sz4, nns, hb5]
    repeat ((with_reducible refine And.intro ?_ ?_); · first | (with_reducible assumption) | omega | exact ⟨by omega, by omega⟩ | with_reducible rfl | (repeat' first | exact Keep.refl _ | refine Keep.add ?_ ?_ _ | refine Keep.set ?_ ?_ _ | exact Nat.le_refl _ | (simp only [Sg.add, Sg.set, Sg.del]; omega)))
    refine hK9 _ _ ?_
    refine vck fun A B hA hB => ?_
    simp only [condV, ev_hit, lpv, Nat.reduceLT, Bool.not_eq_true', Bool.not_eq_false', hl]
    refine ⟨fun hc16 => hA ?_, fun hc16 => hB ?_⟩
    · clear hA hB A B
      have hal1 := alvK_alive hx (by simpa using hc16)
      have hg0 := hgr2.1
      have hne : ¬ m = s2.next := by have := hgr2.2.2; omega
      have hal := alvK_len f.lines i
      refine vw_sc 0 [] ?_
      simp only [bs, dstT, srcT, Nat.reduceLeDiff, vparts, gfill, repl, Sg.frzP, ↓vopx, ↓vop, Nat.reduceBEq, thenV, blockV, Nat.reduceLT, V.cells, Sg.frzL, Sg.frz1, hl, hm3, wocs, ↓goc, ↓woc, ↓vopm0, Tryd.sl85, hg0, hne, Nat.div_one]
      repeat ((with_reducible refine And.intro ?_ ?_); · first | (with_reducible assumption) | omega | exact ⟨by omega, by omega⟩ | with_reducible rfl | (repeat' first | exact Keep.refl _ | refine Keep.add ?_ ?_ _ | refine Keep.set ?_ ?_ _ | exact Nat.le_refl _ | (simp only [Sg.add, Sg.set, Sg.del]; omega)))
      refine hK7 _ _ ?_
      refine vw_sc 0 [] ?_
      simp only [bs, ↓vopx, ↓vop, Nat.reduceBEq, thenV, flat, Nat.reduceLT, opII, hl, h1, h7, h8, h_i, wocs, ↓goc, ↓woc, ↓vopm0]
      repeat ((with_reducible refine And.intro ?_ ?_); · first | (with_reducible assumption) | omega | exact ⟨by omega, by omega⟩ | with_reducible rfl | (repeat' first | exact Keep.refl _ | refine Keep.add ?_ ?_ _ | refine Keep.set ?_ ?_ _ | exact Nat.le_refl _ | (simp only [Sg.add, Sg.set, Sg.del]; omega)))
      refine ⟨f.lines.length - (i + 1), by omega, i + 1, rfl, by omega, ?_⟩
      try simp only [ev_hit, ev_miss, Nat.reduceBEq, lpv, hl, h1, h7, h8, h_i, hm3, if_true, if_false, Nat.reduceEqDiff, Nat.reduceLT, true_and, and_true]
      repeat ((with_reducible refine And.intro ?_ ?_); · first | trivial | assumption | omega | rfl | (push_cast; rfl) | exact ⟨by omega, by omega⟩)
      rw [hal1]
      first | exact ⟨_, rfl, hgr2, hk2, hn2⟩ | exact ⟨s2.next + 1, by rw [List.length_append]; rfl, hgr2.push hn2 _ i, hgr2.keep hk2 hn2 _ _, by omega⟩
    · clear hA hB A B
      have hal1 := alvK_dead hx (by simpa using hc16)
      refine vw_skip ?_
      refine hK7 _ _ ?_
      refine vw_sc 0 [] ?_
      simp only [bs, ↓vopx, ↓vop, Nat.reduceBEq, thenV, flat, Nat.reduceLT, opII, hl, h1, h7, h8, h_i, hm3, wocs, ↓goc, ↓woc, ↓vopm0]
      repeat ((with_reducible refine And.intro ?_ ?_); · first | (with_reducible assumption) | omega | exact ⟨by omega, by omega⟩ | with_reducible rfl | (repeat' first | exact Keep.refl _ | refine Keep.add ?_ ?_ _ | refine Keep.set ?_ ?_ _ | exact Nat.le_refl _ | (simp only [Sg.add, Sg.set, Sg.del]; omega)))
      refine ⟨f.lines.length - (i + 1), by omega, i + 1, rfl, by omega, ?_⟩
      try simp only [ev_hit, ev_miss, Nat.reduceBEq, lpv, hl, h1, h7, h8, h_i, hm3, if_true, if_false, Nat.reduceEqDiff, Nat.reduceLT, true_and, and_true]
      repeat ((with_reducible refine And.intro ?_ ?_); · first | trivial | assumption | omega | rfl | (push_cast; rfl) | exact ⟨by omega, by omega⟩)
      rw [hal1]
      first | exact ⟨_, rfl, hgr2, hk2, hn2⟩ | exact ⟨s2.next + 1, by rw [List.length_append]; rfl, hgr2.push hn2 _ i, hgr2.keep hk2 hn2 _ _, by omega⟩
  · clear hA hB A B
    have han : i = f.lines.length := by omega
    subst han
    refine vw_exit ?_
    simp only [thenV, blockV, if_true]
    refine hK3 _ _ ?_
    refine vsk fun K10 hK10 => ?_
    refine vw_sc 0 [] ?_
    simp only [bs, ↓vopx, ↓vop, Nat.reduceBEq, thenV, Nat.reduceLT, hl, hm3, wocs, ↓goc, ↓woc, ↓vopm0]
    repeat ((with_reducible refine And.intro ?_ ?_); · first | (with_reducible assumption) | omega | exact ⟨by omega, by omega⟩ | with_reducible rfl | (repeat' first | exact Keep.refl _ | refine Keep.add ?_ ?_ _ | refine Keep.set ?_ ?_ _ | exact Nat.le_refl _ | (simp only [Sg.add, Sg.set, Sg.del]; omega)))
    refine hK10 _ _ ?_
    refine vw_ret ?_
    refine hQ _ _ _ (.inr rfl) (done_loc (n := m) (len := (alvS f.lines).length) ?_ hgr.1 ?_ hgr.2.1 hkeep)
    all_goals try simp only [ev_hit, lpv, hl, Nat.reduceLT]
    all_goals (try simp [alvS])
end Go.Proofs

open Go Go.V
namespace Go.Proofs
def mxW (n : Nat) (l : List (Int × Int)) : Mx := mxOf (l.filter (inB n))
def AddZ (s : Sg) (p n : Nat) (M : Mx) (na : Nat) (rp rq : Nat → Nat) (a b : Int) : V → Sg → Prop :=
  AddP s p n (if inB n (a, b) = true then updM M a.toNat b.toNat true else M) na rp rq
theorem mxW_take {n : Nat} {l : List (Int × Int)} {i : Nat} {p : Int × Int} (h : l[i]? = some p) : mxW n (l.take (i + 1)) = if inB n p = true then updM (mxW n (l.take i)) p.1.toNat p.2.toNat true else mxW n (l.take i) := by
  unfold mxW
  rw [List.take_add_one, h]
  simp only [Option.toList_some, List.filter_append]
  by_cases hp : inB n p = true
  · rw [if_pos hp, ← updM_or, List.filter_cons_of_pos hp, List.filter_nil, mxOf_append]
    funext a b; simp [mxOf]
  · rw [if_neg hp, List.filter_cons_of_neg hp, List.filter_nil, List.append_nil]
def mkB (n : Nat) (M : Mx) (i k : Nat) : Bool := k != i && (!M i k && !M k i)
def mkS (n : Nat) (M : Mx) (i : Nat) : Int := if M i i = true then 33 else if (List.range n).any (mkB n M i) = true then 63 else 32
def totB (n : Nat) (M : Mx) (a b : Nat) : Bool := (M a b && M b a) || (a != b && (!M a b && !M b a))
def totS (n : Nat) (M : Mx) : Bool := (List.range n).all fun a => (List.range n).all fun b => !totB n (cloK M n) a b
def aliM (f : Fl) : Mx := fun i k => cloK (mxW f.lines.length f.pairs) f.lines.length ((alvS f.lines).getD i 0).toNat ((alvS f.lines).getD k 0).toNat
theorem alvK_lt (l : List Ln) : ∀ i, ∀ z ∈ alvK l i, 0 ≤ z ∧ z < i
  | 0, z, h => by simp [alvK] at h
  | i + 1, z, h => by
    have ih := alvK_lt l i
    simp only [alvK] at h
    split at h
    · have := ih z h; omega
    · rcases List.mem_append.1 h with h | h
      · have := ih z h; omega
      · simp at h; omega
theorem alvS_at {l : List Ln} {i : Nat} (h : i < (alvS l).length) : ∃ a : Nat, (alvS l)[i]? = some (a : Int) ∧ a < l.length ∧ ((alvS l).getD i 0).toNat = a := by
  have h1 := List.getElem?_eq_getElem h
  have h2 := alvK_lt l l.length _ (List.getElem_mem h)
  refine ⟨((alvS l)[i]).toNat, ?_, ?_, ?_⟩
  · rw [h1, Int.toNat_of_nonneg h2.1]
  · have := h2.2; omega
  · rw [List.getD_eq_getElem?_getD, h1]; rfl
theorem hasN_ (s : Sg) (p n : Nat) (M : Mx) (na : Nat) (rp rq : Nat → Nat) (h : RelP s p n M na rp rq) {a b : Nat} (ha : a < n) (hb : b < n) : DCall Tryd.prog 54 [.ptr p 0, I a, I b] s (Bo (M a b)) s := by
  have := relHas_ s p n M na rp rq h a b
  rw [show decide (0 ≤ ((a : Nat) : Int) ∧ ((a : Nat) : Int) < n) = true from decide_eq_true (by omega), show decide (0 ≤ ((b : Nat) : Int) ∧ ((b : Nat) : Int) < n) = true from decide_eq_true (by omega)] at this; exact this
def AliP (s : Sg) (f : Fl) (v : V) (s' : Sg) : Prop := ∃ p na rp rq, v = .tup [.t (tInts (alvS f.lines)), .ptr p 0] ∧ RelP s' p (alvS f.lines).length (aliM f) na rp rq ∧ FreshP s p (alvS f.lines).length na rp rq ∧ Keep s s' ∧ s.next ≤ s'.next
set_option maxRecDepth 20000 in
theorem relAddOut_ (s : Sg) (p n : Nat) (M : Mx) (na : Nat) (rp rq : Nat → Nat) (h : RelP s p n M na rp rq) (a b : Int) (ho : (0 ≤ a ∧ a < n) → ¬ (0 ≤ b ∧ b < n)) : DCall Tryd.prog 51 [.ptr p 0, I a, I b] s (Bo false) (s) := by
  refine dcall_of_body Tryd.func51 rfl fun Q hQ => ?_
  obtain ⟨e, he, hl, h0, h1, h2⟩ : ∃ e : Env, ([.ptr p 0, I a, I b] ++ List.replicate (Tryd.f51.ntmps - ([.ptr p 0, I a, I b] : List V).length) .junk) = e ∧ e.length = 32 ∧ ev e (.tmp 0) = .ptr p 0 ∧ ev e (.tmp 1) = I a ∧ ev e (.tmp 2) = I b := ⟨_, rfl, rfl, rfl, rfl, rfl⟩
  rw [he]
  clear he
  refine vsk fun K1 hK1 => ?_
  refine vw_sc 0 [] ?_
  simp only [bs, ↓vopx, ↓vop, thenV, flat, wocs, ↓goc, ↓woc, ↓vopm0]
  repeat ((with_reducible refine And.intro ?_ ?_); · first | (with_reducible assumption) | omega | exact ⟨by omega, by omega⟩ | with_reducible rfl | (repeat' first | exact Keep.refl _ | refine Keep.add ?_ ?_ _ | refine Keep.set ?_ ?_ _ | exact Nat.le_refl _ | (simp only [Sg.add, Sg.set, Sg.del]; omega)))
  refine hK1 _ _ ?_
  refine vsk fun K2 hK2 => ?_
  refine vsk fun K3 hK3 => ?_
  rcases Classical.em (0 ≤ a ∧ a < n) with ha | ha
  · have hb := ho ha
    refine vw_sc 0 [.det (Bo true) s, .det (Bo false) s] ?_
    simp only [bs, ↓vopx, ↓vop, Nat.reduceBEq, thenV, flat, Nat.reduceLT, gtmp, hl, h0, h1, h2, wocs, ↓goc, ↓woc, ↓vopm0, ↓callC, ↓pick_ff, ↓pick_tf, calleeV]
    repeat ((with_reducible refine And.intro ?_ ?_); · first | (with_reducible assumption) | omega | exact ⟨by omega, by omega⟩ | exact ⟨Tryd.is75, by simpa only [ha, and_self, decide_true, decide_false] using relThere_ s p n na h.hp a⟩ | exact ⟨Tryd.is75, by simpa only [hb, and_self, decide_true, decide_false] using relThere_ s p n na h.hp b⟩ | with_reducible rfl | (repeat' first | exact Keep.refl _ | refine Keep.add ?_ ?_ _ | refine Keep.set ?_ ?_ _ | exact Nat.le_refl _ | (simp only [Sg.add, Sg.set, Sg.del]; omega)))
    refine hK3 _ _ ?_
    refine vck fun A B hA hB => ?_
    simp only [condV, ev_hit, lpv, Nat.reduceLT, true_implies, reduceCtorEq, false_implies, and_true, hl]
    refine hA ?_
    clear hA hB A B
    refine vsk fun K4 hK4 => ?_
    refine vw_sc 0 [] ?_
    simp only [bs, ↓vopx, ↓vop, thenV, flat, wocs, ↓goc, ↓woc, ↓vopm0]
    repeat ((with_reducible refine And.intro ?_ ?_); · first | (with_reducible assumption) | omega | exact ⟨by omega, by omega⟩ | with_reducible rfl | (repeat' first | exact Keep.refl _ | refine Keep.add ?_ ?_ _ | refine Keep.set ?_ ?_ _ | exact Nat.le_refl _ | (simp only [Sg.add, Sg.set, Sg.del]; omega)))
    refine hK4 _ _ ?_
    refine vw_ret ?_
    refine hQ _ _ _ (.inr rfl) (Done.toS (done_tmp ?_ fun n b hn h => h))
    try simp only [ev_hit, lpv, hl, Nat.reduceLT]
  · refine vw_sc 0 [.det (Bo false) s] ?_
    simp only [bs, ↓vopx, ↓vop, Nat.reduceBEq, thenV, flat, Nat.reduceLT, gtmp, hl, h0, h1, wocs, ↓goc, ↓woc, ↓vopm0, ↓callC, ↓pick_tf, calleeV]
    repeat ((with_reducible refine And.intro ?_ ?_); · first | (with_reducible assumption) | omega | exact ⟨by omega, by omega⟩ | exact ⟨Tryd.is75, by simpa only [ha, and_self, decide_true, decide_false] using relThere_ s p n na h.hp a⟩ | with_reducible rfl | (repeat' first | exact Keep.refl _ | refine Keep.add ?_ ?_ _ | refine Keep.set ?_ ?_ _ | exact Nat.le_refl _ | (simp only [Sg.add, Sg.set, Sg.del]; omega)))
    refine hK3 _ _ ?_
    refine vck fun A B hA hB => ?_
    simp only [condV, ev_hit, lpv, Nat.reduceLT, true_implies, reduceCtorEq, false_implies, and_true, hl]
    refine hA ?_
    clear hA hB A B
    refine vsk fun K5 hK5 => ?_
    refine vw_sc 0 [] ?_
    simp only [bs, ↓vopx, ↓vop, thenV, flat, wocs, ↓goc, ↓woc, ↓vopm0]
    repeat ((with_reducible refine And.intro ?_ ?_); · first | (with_reducible assumption) | omega | exact ⟨by omega, by omega⟩ | with_reducible rfl | (repeat' first | exact Keep.refl _ | refine Keep.add ?_ ?_ _ | refine Keep.set ?_ ?_ _ | exact Nat.le_refl _ | (simp only [Sg.add, Sg.set, Sg.del]; omega)))
    refine hK5 _ _ ?_
    refine vw_ret ?_
    refine hQ _ _ _ (.inr rfl) (Done.toS (done_tmp ?_ fun n b hn h => h))
    try simp only [ev_hit, lpv, hl, Nat.reduceLT]
set_option maxRecDepth 20000 in
theorem vMark_ (s : Sg) (p n : Nat) (M : Mx) (na : Nat) (rp rq : Nat → Nat) (h : RelP s p n M na rp rq) (i : Nat) (hi : i < n) : DCall Tryd.prog 43 [.ptr p 0, I i] s (.t (.v (.int .u8 (mkS n M i)))) (s) := by
  refine dcall_of_body Tryd.func43 rfl fun Q hQ => ?_
  obtain ⟨e, he, hl, h0, h1⟩ : ∃ e : Env, ([.ptr p 0, I i] ++ List.replicate (Tryd.f43.ntmps - ([.ptr p 0, I i] : List V).length) .junk) = e ∧ e.length = 33 ∧ ev e (.tmp 0) = .ptr p 0 ∧ ev e (.tmp 1) = I i := ⟨_, rfl, rfl, rfl, rfl⟩
  rw [he]
  clear he
  have hle := h.le
  have hp0 := h.hp
  refine vsk fun K1 hK1 => ?_
  refine vw_sc 0 [] ?_
  simp only [bs, ↓vopx, ↓vop, thenV, flat, wocs, ↓goc, ↓woc, ↓vopm0]
  repeat ((with_reducible refine And.intro ?_ ?_); · first | (with_reducible assumption) | omega | exact ⟨by omega, by omega⟩ | with_reducible rfl | (repeat' first | exact Keep.refl _ | refine Keep.add ?_ ?_ _ | refine Keep.set ?_ ?_ _ | exact Nat.le_refl _ | (simp only [Sg.add, Sg.set, Sg.del]; omega)))
  refine hK1 _ _ ?_
  refine vsk fun K2 hK2 => ?_
  refine vsk fun K3 hK3 => ?_
  rcases Bool.eq_false_or_eq_true (M i i) with hM | hM
  · refine vw_sc 0 [.det (Bo (M i i)) s] ?_
    simp only [bs, ↓vopx, ↓vop, Nat.reduceBEq, thenV, Nat.reduceLT, hl, h0, h1, wocs, ↓goc, ↓woc, ↓vopm0, ↓callC, calleeV, hM]
    repeat ((with_reducible refine And.intro ?_ ?_); · first | (with_reducible assumption) | omega | exact ⟨by omega, by omega⟩ | exact ⟨Tryd.is54, by simpa only [hM] using hasN_ s p n M na rp rq h (a := i) (b := i) (by omega) (by omega)⟩ | with_reducible rfl | (repeat' first | exact Keep.refl _ | refine Keep.add ?_ ?_ _ | refine Keep.set ?_ ?_ _ | exact Nat.le_refl _ | (simp only [Sg.add, Sg.set, Sg.del]; omega)))
    refine hK3 _ _ ?_
    refine vck fun A B hA hB => ?_
    simp only [condV, ev_hit, lpv, Nat.reduceLT, true_implies, reduceCtorEq, false_implies, and_true, hl]
    refine hA ?_
    clear hA hB A B
    refine vsk fun K4 hK4 => ?_
    refine vw_sc 0 [] ?_
    simp only [bs, ↓vopx, ↓vop, thenV, flat, wocs, ↓goc, ↓woc, ↓vopm0]
    repeat ((with_reducible refine And.intro ?_ ?_); · first | (with_reducible assumption) | omega | exact ⟨by omega, by omega⟩ | with_reducible rfl | (repeat' first | exact Keep.refl _ | refine Keep.add ?_ ?_ _ | refine Keep.set ?_ ?_ _ | exact Nat.le_refl _ | (simp only [Sg.add, Sg.set, Sg.del]; omega)))
    refine hK4 _ _ ?_
    refine vw_ret ?_
    refine hQ _ _ _ (.inr rfl) (Done.toS (done_tmp ?_ fun n b hn h => h))
    try simp only [ev_hit, lpv, hl, Nat.reduceLT]
    try simp [mkS, hM]
  · refine vw_sc 0 [.det (Bo (M i i)) s] ?_
    simp only [bs, ↓vopx, ↓vop, Nat.reduceBEq, thenV, Nat.reduceLT, hl, h0, h1, wocs, ↓goc, ↓woc, ↓vopm0, ↓callC, calleeV, hM]
    repeat ((with_reducible refine And.intro ?_ ?_); · first | (with_reducible assumption) | omega | exact ⟨by omega, by omega⟩ | exact ⟨Tryd.is54, by simpa only [hM] using hasN_ s p n M na rp rq h (a := i) (b := i) (by omega) (by omega)⟩ | with_reducible rfl | (repeat' first | exact Keep.refl _ | refine Keep.add ?_ ?_ _ | refine Keep.set ?_ ?_ _ | exact Nat.le_refl _ | (simp only [Sg.add, Sg.set, Sg.del]; omega)))
    refine hK3 _ _ ?_
    refine vck fun A B hA hB => ?_
    simp only [condV, ev_hit, lpv, Nat.reduceLT, true_implies, reduceCtorEq, false_implies, true_and, hl]
    refine hB ?_
    clear hA hB A B
    refine vw_skip ?_
    refine hK2 _ _ ?_
    refine vsk fun K5 hK5 => ?_
    refine vsk fun K6 hK6 => ?_
    refine vw_sc 0 [.det (I n) s] ?_
    simp only [bs, ↓vopx, ↓vop, Nat.reduceBEq, thenV, flat, Nat.reduceLT, hl, h0, wocs, ↓goc, ↓woc, ↓vopm0, ↓callC, calleeV]
    repeat ((with_reducible refine And.intro ?_ ?_); · first | (with_reducible assumption) | omega | exact ⟨by omega, by omega⟩ | exact ⟨Tryd.is56, relLen_ s p n na hp0⟩ | with_reducible rfl | (repeat' first | exact Keep.refl _ | refine Keep.add ?_ ?_ _ | refine Keep.set ?_ ?_ _ | exact Nat.le_refl _ | (simp only [Sg.add, Sg.set, Sg.del]; omega)))
    refine hK6 _ _ ?_
    refine vw_block ?_
    refine vw_loop (fun mm e' s' => ∃ k : Nat, mm = n - k ∧ k ≤ n ∧ e'.length = 33 ∧ ev e' (.tmp 0) = .ptr p 0 ∧ ev e' (.tmp 1) = I i ∧ ev e' (.tmp 11) = I n ∧ ev e' (.tmp 12) = I k ∧ s = s' ∧ ∀ x, x < k → mkB n M i x = false) (⟨0, rfl, Nat.zero_le _, ?_⟩) ?_
    · try simp only [ev_hit, ev_miss, Nat.reduceBEq, lpv, hl, h0, h1, Nat.reduceLT, true_and]
      repeat ((with_reducible refine And.intro ?_ ?_); · first | trivial | assumption | omega | rfl | (push_cast; rfl) | exact ⟨by omega, by omega⟩)
      all_goals (exact fun x hx => by omega)
    rintro mm e _ ⟨k, rfl, hle_k, hl, h0, h1, h11, h_k, rfl, hno⟩
    refine vsk fun K7 hK7 => ?_
    refine vw_sc 0 [] ?_
    simp only [thenV, opII, h11, h_k, wocs, ↓goc, ↓woc]
    repeat ((with_reducible refine And.intro ?_ ?_); · first | (with_reducible assumption) | omega | exact ⟨by omega, by omega⟩ | with_reducible rfl | (repeat' first | exact Keep.refl _ | refine Keep.add ?_ ?_ _ | refine Keep.set ?_ ?_ _ | exact Nat.le_refl _ | (simp only [Sg.add, Sg.set, Sg.del]; omega)))
    refine hK7 _ _ ?_
    refine vsk fun K8 hK8 => ?_
    refine vck fun A B hA hB => ?_
    simp only [condV, ev_hit, Nat.reduceLT, decide_eq_true_eq, decide_eq_false_iff_not, hl]
    refine ⟨fun hc13 => hA ?_, fun hc13 => hB ?_⟩
    · clear hA hB A B
      refine vw_skip ?_
      refine hK8 _ _ ?_
      refine vsk fun K9 hK9 => ?_
      refine vw_block ?_
      refine vsk fun K10 hK10 => ?_
      refine vw_sc 0 [] ?_
      simp only [bs, ↓vopx, ↓vop, Nat.reduceBEq, thenV, Nat.reduceLT, hl, h_k, wocs, ↓goc, ↓woc, ↓vopm0]
      repeat ((with_reducible refine And.intro ?_ ?_); · first | (with_reducible assumption) | omega | exact ⟨by omega, by omega⟩ | with_reducible rfl | (repeat' first | exact Keep.refl _ | refine Keep.add ?_ ?_ _ | refine Keep.set ?_ ?_ _ | exact Nat.le_refl _ | (simp only [Sg.add, Sg.set, Sg.del]; omega)))
      refine hK10 _ _ ?_
      refine vsk fun K11 hK11 => ?_
      have hkn : k < n := by omega
      rcases (show k = i ∨ (k ≠ i ∧ M i k = true) ∨ (k ≠ i ∧ M i k = false ∧ M k i = true) ∨ (k ≠ i ∧ M i k = false ∧ M k i = false) by rcases Classical.em (k = i) with e | e <;> cases M i k <;> cases M k i <;> simp [e]) with e | ⟨e, e1⟩ | ⟨e, e1, e2_⟩ | ⟨e, e1, e2_⟩
      · have hb : mkB n M i k = false := by simp [mkB, e]
        have hne : ((k : Int) != (i : Int)) = false := by simp [e]
        refine vw_sc 0 [] ?_
        simp only [bs, ↓vopx, ↓vop, Nat.reduceBEq, thenV, flat, Nat.reduceLT, opII, gtmp, hl, h1, wocs, ↓goc, ↓woc, ↓vopm0, ↓pick_ft, hne]
        repeat ((with_reducible refine And.intro ?_ ?_); · first | (with_reducible assumption) | omega | exact ⟨by omega, by omega⟩ | with_reducible rfl | (repeat' first | exact Keep.refl _ | refine Keep.add ?_ ?_ _ | refine Keep.set ?_ ?_ _ | exact Nat.le_refl _ | (simp only [Sg.add, Sg.set, Sg.del]; omega)))
        refine hK11 _ _ ?_
        refine vck fun A B hA hB => ?_
        simp only [condV, ev_hit, lpv, Nat.reduceLT, true_implies, reduceCtorEq, false_implies, true_and, hl]
        refine hB ?_
        clear hA hB A B
        refine vw_skip ?_
        refine hK9 _ _ ?_
        refine vw_sc 0 [] ?_
        simp only [bs, ↓vopx, ↓vop, Nat.reduceBEq, thenV, flat, Nat.reduceLT, opII, hl, h0, h1, h11, h_k, wocs, ↓goc, ↓woc, ↓vopm0]
        repeat ((with_reducible refine And.intro ?_ ?_); · first | (with_reducible assumption) | omega | exact ⟨by omega, by omega⟩ | with_reducible rfl | (repeat' first | exact Keep.refl _ | refine Keep.add ?_ ?_ _ | refine Keep.set ?_ ?_ _ | exact Nat.le_refl _ | (simp only [Sg.add, Sg.set, Sg.del]; omega)))
        refine ⟨n - (k + 1), by omega, k + 1, rfl, by omega, ?_⟩
        try simp only [ev_hit, ev_miss, Nat.reduceBEq, lpv, hl, h0, h1, h11, h_k, if_true, if_false, Nat.reduceEqDiff, Nat.reduceLT, true_and, and_true]
        repeat ((with_reducible refine And.intro ?_ ?_); · first | trivial | assumption | omega | rfl | (push_cast; rfl) | exact ⟨by omega, by omega⟩)
        intro x hx
        rcases Nat.lt_succ_iff_lt_or_eq.1 hx with hx | rfl
        · exact hno x hx
        · exact hb
      · have hb : mkB n M i k = false := by simp [mkB, e1]
        have hne : ((k : Int) != (i : Int)) = true := by simp; omega
        refine vw_sc 0 [.det (Bo (M i k)) s] ?_
        simp only [bs, ↓vopx, ↓vop, Nat.reduceBEq, thenV, flat, Nat.reduceLT, opII, gtmp, hl, h0, h1, wocs, ↓goc, ↓woc, ↓vopm0, ↓callC, ↓pick_tt, ↓pick_ft, calleeV, hne, e1]
        repeat ((with_reducible refine And.intro ?_ ?_); · first | (with_reducible assumption) | omega | exact ⟨by omega, by omega⟩ | exact ⟨Tryd.is54, by simpa only [e1] using hasN_ s p n M na rp rq h (a := i) (b := k) (by omega) (by omega)⟩ | with_reducible rfl | (repeat' first | exact Keep.refl _ | refine Keep.add ?_ ?_ _ | refine Keep.set ?_ ?_ _ | exact Nat.le_refl _ | (simp only [Sg.add, Sg.set, Sg.del]; omega)))
        refine hK11 _ _ ?_
        refine vck fun A B hA hB => ?_
        simp only [condV, ev_hit, lpv, Nat.reduceLT, true_implies, reduceCtorEq, false_implies, true_and, hl]
        refine hB ?_
        clear hA hB A B
        refine vw_skip ?_
        refine hK9 _ _ ?_
        refine vw_sc 0 [] ?_
        simp only [bs, ↓vopx, ↓vop, Nat.reduceBEq, thenV, flat, Nat.reduceLT, opII, hl, h0, h1, h11, h_k, wocs, ↓goc, ↓woc, ↓vopm0]
        repeat ((with_reducible refine And.intro ?_ ?_); · first | (with_reducible assumption) | omega | exact ⟨by omega, by omega⟩ | with_reducible rfl | (repeat' first | exact Keep.refl _ | refine Keep.add ?_ ?_ _ | refine Keep.set ?_ ?_ _ | exact Nat.le_refl _ | (simp only [Sg.add, Sg.set, Sg.del]; omega)))
        refine ⟨n - (k + 1), by omega, k + 1, rfl, by omega, ?_⟩
        try simp only [ev_hit, ev_miss, Nat.reduceBEq, lpv, hl, h0, h1, h11, h_k, if_true, if_false, Nat.reduceEqDiff, Nat.reduceLT, true_and, and_true]
        repeat ((with_reducible refine And.intro ?_ ?_); · first | trivial | assumption | omega | rfl | (push_cast; rfl) | exact ⟨by omega, by omega⟩)
        intro x hx
        rcases Nat.lt_succ_iff_lt_or_eq.1 hx with hx | rfl
        · exact hno x hx
        · exact hb
      · have hb : mkB n M i k = false := by simp [mkB, e2_]
        have hne : ((k : Int) != (i : Int)) = true := by simp; omega
        refine vw_sc 0 [.det (Bo (M i k)) s, .det (Bo (M k i)) s] ?_
        simp only [bs, ↓vopx, ↓vop, Nat.reduceBEq, thenV, flat, Nat.reduceLT, opII, gtmp, hl, h0, h1, wocs, ↓goc, ↓woc, ↓vopm0, ↓callC, ↓pick_tt, calleeV, hne, e1, e2_]
        repeat ((with_reducible refine And.intro ?_ ?_); · first | (with_reducible assumption) | omega | exact ⟨by omega, by omega⟩ | exact ⟨Tryd.is54, by simpa only [e1] using hasN_ s p n M na rp rq h (a := i) (b := k) (by omega) (by omega)⟩ | exact ⟨Tryd.is54, by simpa only [e2_] using hasN_ s p n M na rp rq h (a := k) (b := i) (by omega) (by omega)⟩ | with_reducible rfl | (repeat' first | exact Keep.refl _ | refine Keep.add ?_ ?_ _ | refine Keep.set ?_ ?_ _ | exact Nat.le_refl _ | (simp only [Sg.add, Sg.set, Sg.del]; omega)))
        refine hK11 _ _ ?_
        refine vck fun A B hA hB => ?_
        simp only [condV, ev_hit, lpv, Nat.reduceLT, true_implies, reduceCtorEq, false_implies, true_and, hl]
        refine hB ?_
        clear hA hB A B
        refine vw_skip ?_
        refine hK9 _ _ ?_
        refine vw_sc 0 [] ?_
        simp only [bs, ↓vopx, ↓vop, Nat.reduceBEq, thenV, flat, Nat.reduceLT, opII, hl, h0, h1, h11, h_k, wocs, ↓goc, ↓woc, ↓vopm0]
        repeat ((with_reducible refine And.intro ?_ ?_); · first | (with_reducible assumption) | omega | exact ⟨by omega, by omega⟩ | with_reducible rfl | (repeat' first | exact Keep.refl _ | refine Keep.add ?_ ?_ _ | refine Keep.set ?_ ?_ _ | exact Nat.le_refl _ | (simp only [Sg.add, Sg.set, Sg.del]; omega)))
        refine ⟨n - (k + 1), by omega, k + 1, rfl, by omega, ?_⟩
        try simp only [ev_hit, ev_miss, Nat.reduceBEq, lpv, hl, h0, h1, h11, h_k, if_true, if_false, Nat.reduceEqDiff, Nat.reduceLT, true_and, and_true]
        repeat ((with_reducible refine And.intro ?_ ?_); · first | trivial | assumption | omega | rfl | (push_cast; rfl) | exact ⟨by omega, by omega⟩)
        intro x hx
        rcases Nat.lt_succ_iff_lt_or_eq.1 hx with hx | rfl
        · exact hno x hx
        · exact hb
      · have hb : mkB n M i k = true := by simp [mkB, e, e1, e2_]
        have hne : ((k : Int) != (i : Int)) = true := by simp; omega
        refine vw_sc 0 [.det (Bo (M i k)) s, .det (Bo (M k i)) s] ?_
        simp only [bs, ↓vopx, ↓vop, Nat.reduceBEq, thenV, flat, Nat.reduceLT, opII, gtmp, hl, h0, h1, wocs, ↓goc, ↓woc, ↓vopm0, ↓callC, ↓pick_tt, calleeV, hne, e1, e2_]
        repeat ((with_reducible refine And.intro ?_ ?_); · first | (with_reducible assumption) | omega | exact ⟨by omega, by omega⟩ | exact ⟨Tryd.is54, by simpa only [e1] using hasN_ s p n M na rp rq h (a := i) (b := k) (by omega) (by omega)⟩ | exact ⟨Tryd.is54, by simpa only [e2_] using hasN_ s p n M na rp rq h (a := k) (b := i) (by omega) (by omega)⟩ | with_reducible rfl | (repeat' first | exact Keep.refl _ | refine Keep.add ?_ ?_ _ | refine Keep.set ?_ ?_ _ | exact Nat.le_refl _ | (simp only [Sg.add, Sg.set, Sg.del]; omega)))
        refine hK11 _ _ ?_
        refine vck fun A B hA hB => ?_
        simp only [condV, ev_hit, lpv, Nat.reduceLT, true_implies, reduceCtorEq, false_implies, and_true, hl]
        refine hA ?_
        clear hA hB A B
        refine vsk fun K12 hK12 => ?_
        refine vw_sc 0 [] ?_
        simp only [bs, ↓vopx, ↓vop, thenV, flat, wocs, ↓goc, ↓woc, ↓vopm0]
        repeat ((with_reducible refine And.intro ?_ ?_); · first | (with_reducible assumption) | omega | exact ⟨by omega, by omega⟩ | with_reducible rfl | (repeat' first | exact Keep.refl _ | refine Keep.add ?_ ?_ _ | refine Keep.set ?_ ?_ _ | exact Nat.le_refl _ | (simp only [Sg.add, Sg.set, Sg.del]; omega)))
        refine hK12 _ _ ?_
        refine vw_ret ?_
        refine hQ _ _ _ (.inr rfl) (Done.toS (done_tmp ?_ fun n b hn h => h))
        try simp only [ev_hit, lpv, hl, Nat.reduceLT]
        rw [show mkS n M i = 63 from by unfold mkS; rw [if_neg (by simp [hM]), if_pos (List.any_eq_true.2 ⟨k, List.mem_range.2 hkn, hb⟩)]]
    · clear hA hB A B
      have han : n = k := by omega
      subst han
      refine vw_exit ?_
      simp only [thenV, blockV, if_true]
      refine hK5 _ _ ?_
      refine vsk fun K13 hK13 => ?_
      refine vw_sc 0 [] ?_
      simp only [bs, ↓vopx, ↓vop, thenV, flat, wocs, ↓goc, ↓woc, ↓vopm0]
      repeat ((with_reducible refine And.intro ?_ ?_); · first | (with_reducible assumption) | omega | exact ⟨by omega, by omega⟩ | with_reducible rfl | (repeat' first | exact Keep.refl _ | refine Keep.add ?_ ?_ _ | refine Keep.set ?_ ?_ _ | exact Nat.le_refl _ | (simp only [Sg.add, Sg.set, Sg.del]; omega)))
      refine hK13 _ _ ?_
      refine vw_ret ?_
      refine hQ _ _ _ (.inr rfl) (Done.toS (done_tmp ?_ fun n b hn h => h))
      try simp only [ev_hit, lpv, hl, Nat.reduceLT]
      rw [show mkS n M i = 32 from by unfold mkS; rw [if_neg (by simp [hM]), if_neg]; intro ha; obtain ⟨x, hx, hb⟩ := List.any_eq_true.1 ha; rw [hno x (List.mem_range.1 hx)] at hb; cases hb]
set_option maxRecDepth 20000 in
theorem oClosed_ (s : Sg) (p n : Nat) (M : Mx) (na : Nat) (rp rq : Nat → Nat) (h : RelP s p n M na rp rq) : VCall Tryd.prog 55 [.ptr p 0] s (NewP s n (cloK M n)) := by
  refine kcall_of_body Tryd.func55 rfl fun Q hQ => ?_
  obtain ⟨e, he, hl, h0⟩ : ∃ e : Env, ([.ptr p 0] ++ List.replicate (Tryd.f55.ntmps - ([.ptr p 0] : List V).length) .junk) = e ∧ e.length = 8 ∧ ev e (.tmp 0) = .ptr p 0 := ⟨_, rfl, rfl, rfl⟩
  rw [he]
  clear he
  refine vsk fun K1 hK1 => ?_
  refine vw_sc 0 [] ?_
  simp only [bs, ↓vopx, ↓vop, thenV, flat, wocs, ↓goc, ↓woc, ↓vopm0]
  repeat ((with_reducible refine And.intro ?_ ?_); · first | (with_reducible assumption) | omega | exact ⟨by omega, by omega⟩ | with_reducible rfl | (repeat' first | exact Keep.refl _ | refine Keep.add ?_ ?_ _ | refine Keep.set ?_ ?_ _ | exact Nat.le_refl _ | (simp only [Sg.add, Sg.set, Sg.del]; omega)))
  refine hK1 _ _ ?_
  refine vsk fun K2 hK2 => ?_
  refine vsk fun K3 hK3 => ?_
  refine vw_sc 0 [.far (.bool false)] ?_
  simp only [bs, ↓vopx, ↓vop, Nat.reduceBEq, thenV, flat, Nat.reduceLT, hl, h0, wocs, ↓goc, ↓woc, ↓vopm0, ↓farC]
  refine ⟨far_neqnil _ _ _ _ _ Tryd.underlying86 _ _, ?_⟩
  refine hK3 _ _ ?_
  refine vck fun A B hA hB => ?_
  simp only [condV, ev_hit, lpv, Nat.reduceLT, true_implies, reduceCtorEq, false_implies, true_and, hl]
  refine hB ?_
  clear hA hB A B
  refine vw_skip ?_
  refine hK2 _ _ ?_
  refine vsk fun K4 hK4 => ?_
  refine vw_sc 0 [.stop] ?_
  simp only [bs, ↓vopx, ↓vop, Nat.reduceBEq, thenV, Nat.reduceLT, hl, h0, wocs, ↓goc, ↓woc, ↓vopm0, ↓callC, calleeV]
  refine ⟨Tryd.is52, (relClosure_ s p n M na rp rq h).mono fun v s2 hv => ?_⟩
  obtain ⟨c, na1, rp1, rq1, rfl, hR, hF, hk, hnx⟩ := hv
  try simp only [bs, Nat.reduceBEq, Nat.reduceLT, hl, h0, Hold]
  refine hK4 _ _ ?_
  refine vw_ret ?_
  refine hQ _ _ _ (.inr rfl) (donek_tmp (v := .ptr c 0) ?_ rfl ⟨c, na1, rp1, rq1, rfl, hR, hF, hk, hnx⟩)
  try simp only [ev_hit, lpv, hl, Nat.reduceLT]
theorem relAddZ_ (s : Sg) (p n : Nat) (M : Mx) (na : Nat) (rp rq : Nat → Nat) (h : RelP s p n M na rp rq) (a b : Int) : VCall Tryd.prog 51 [.ptr p 0, I a, I b] s (AddZ s p n M na rp rq a b) := by
  by_cases ho : (0 ≤ a ∧ a < n) ∧ (0 ≤ b ∧ b < n)
  · have := relAdd_ s p n M na rp rq h a.toNat b.toNat (by omega) (by omega)
    rw [Int.toNat_of_nonneg ho.1.1, Int.toNat_of_nonneg ho.2.1] at this
    unfold AddZ
    rw [if_pos (by simp [inB, ho])]; exact this
  · unfold AddZ
    rw [if_neg (by simp only [inB, Bool.and_eq_true, decide_eq_true_eq]; exact ho)]
    exact (relAddOut_ s p n M na rp rq h a b (by omega)).v ⟨⟨_, rfl⟩, h, fun _ _ => rfl, rfl⟩
end Go.Proofs

open Go Go.V
namespace Go.Proofs
theorem aliM_at {f : Fl} {i k a b : Nat} (hi : ((alvS f.lines).getD i 0).toNat = a) (hk : ((alvS f.lines).getD k 0).toNat = b) : aliM f i k = cloK (mxW f.lines.length f.pairs) f.lines.length a b := by unfold aliM; rw [hi, hk]
set_option maxRecDepth 20000 in
theorem oTotal_ (s : Sg) (p n : Nat) (M : Mx) (na : Nat) (rp rq : Nat → Nat) (h : RelP s p n M na rp rq) : DCall Tryd.prog 40 [.ptr p 0] s (Bo (totS n M)) (s) := by
  refine dcall_of_body Tryd.func40 rfl fun Q hQ => ?_
  obtain ⟨e, he, hl, h0⟩ : ∃ e : Env, ([.ptr p 0] ++ List.replicate (Tryd.f40.ntmps - ([.ptr p 0] : List V).length) .junk) = e ∧ e.length = 49 ∧ ev e (.tmp 0) = .ptr p 0 := ⟨_, rfl, rfl, rfl⟩
  rw [he]
  clear he
  have hle := h.le
  refine vsk fun K1 hK1 => ?_
  refine vw_sc 0 [] ?_
  simp only [bs, ↓vopx, ↓vop, thenV, flat, wocs, ↓goc, ↓woc, ↓vopm0]
  repeat ((with_reducible refine And.intro ?_ ?_); · first | (with_reducible assumption) | omega | exact ⟨by omega, by omega⟩ | with_reducible rfl | (repeat' first | exact Keep.refl _ | refine Keep.add ?_ ?_ _ | refine Keep.set ?_ ?_ _ | exact Nat.le_refl _ | (simp only [Sg.add, Sg.set, Sg.del]; omega)))
  refine hK1 _ _ ?_
  refine vsk fun K2 hK2 => ?_
  refine vw_sc 0 [.stop] ?_
  simp only [bs, ↓vopx, ↓vop, Nat.reduceBEq, thenV, Nat.reduceLT, hl, h0, wocs, ↓goc, ↓woc, ↓vopm0, ↓callC, calleeV]
  refine ⟨Tryd.is55, (oClosed_ s p n M na rp rq h).mono fun v s2 hv => ?_⟩
  obtain ⟨c, na1, rp1, rq1, rfl, hR, hF, hk, hnx⟩ := hv
  try simp only [bs, Nat.reduceBEq, Nat.reduceLT, hl, h0, Hold]
  refine hK2 _ _ ?_
  refine vsk fun K3 hK3 => ?_
  refine vsk fun K4 hK4 => ?_
  have hp2 := hR.hp
  refine vw_sc 0 [.det (I n) s2] ?_
  simp only [bs, ↓vopx, ↓vop, thenV, flat, Nat.reduceLT, hl, wocs, ↓goc, ↓woc, ↓vopm0, ↓callC, calleeV]
  repeat ((with_reducible refine And.intro ?_ ?_); · first | (with_reducible assumption) | omega | exact ⟨by omega, by omega⟩ | exact ⟨Tryd.is56, relLen_ s2 c n na1 hp2⟩ | with_reducible rfl | (repeat' first | exact Keep.refl _ | refine Keep.add ?_ ?_ _ | refine Keep.set ?_ ?_ _ | exact Nat.le_refl _ | (simp only [Sg.add, Sg.set, Sg.del]; omega)))
  refine hK4 _ _ ?_
  refine vw_block ?_
  refine vw_loop (fun mm e' s' => ∃ i : Nat, mm = n - i ∧ i ≤ n ∧ e'.length = 49 ∧ ev e' (.tmp 3) = .ptr c 0 ∧ ev e' (.tmp 9) = I n ∧ ev e' (.tmp 10) = I i ∧ s2 = s' ∧ ∀ x, x < i → ∀ y, y < n → totB n (cloK M n) x y = false) (⟨0, rfl, Nat.zero_le _, ?_⟩) ?_
  · try simp only [ev_hit, ev_miss, Nat.reduceBEq, lpv, hl, Nat.reduceLT, true_and]
    repeat ((with_reducible refine And.intro ?_ ?_); · first | trivial | assumption | omega | rfl | (push_cast; rfl) | exact ⟨by omega, by omega⟩)
    all_goals (exact fun x hx => by omega)
  rintro mm e _ ⟨i, rfl, hle_i, hl, k3, k9, h_i, rfl, hno⟩
  refine vsk fun K5 hK5 => ?_
  refine vw_sc 0 [] ?_
  simp only [thenV, opII, k9, h_i, wocs, ↓goc, ↓woc]
  repeat ((with_reducible refine And.intro ?_ ?_); · first | (with_reducible assumption) | omega | exact ⟨by omega, by omega⟩ | with_reducible rfl | (repeat' first | exact Keep.refl _ | refine Keep.add ?_ ?_ _ | refine Keep.set ?_ ?_ _ | exact Nat.le_refl _ | (simp only [Sg.add, Sg.set, Sg.del]; omega)))
  refine hK5 _ _ ?_
  refine vsk fun K6 hK6 => ?_
  refine vck fun A B hA hB => ?_
  simp only [condV, ev_hit, Nat.reduceLT, decide_eq_true_eq, decide_eq_false_iff_not, hl]
  refine ⟨fun hc11 => hA ?_, fun hc11 => hB ?_⟩
  · clear hA hB A B
    refine vw_skip ?_
    refine hK6 _ _ ?_
    refine vsk fun K7 hK7 => ?_
    refine vw_block ?_
    refine vsk fun K8 hK8 => ?_
    refine vw_sc 0 [] ?_
    simp only [bs, ↓vopx, ↓vop, Nat.reduceBEq, thenV, Nat.reduceLT, hl, h_i, wocs, ↓goc, ↓woc, ↓vopm0]
    repeat ((with_reducible refine And.intro ?_ ?_); · first | (with_reducible assumption) | omega | exact ⟨by omega, by omega⟩ | with_reducible rfl | (repeat' first | exact Keep.refl _ | refine Keep.add ?_ ?_ _ | refine Keep.set ?_ ?_ _ | exact Nat.le_refl _ | (simp only [Sg.add, Sg.set, Sg.del]; omega)))
    refine hK8 _ _ ?_
    refine vsk fun K9 hK9 => ?_
    refine vw_sc 0 [.det (I n) s2] ?_
    simp only [bs, ↓vopx, ↓vop, Nat.reduceBEq, thenV, flat, Nat.reduceLT, hl, k3, wocs, ↓goc, ↓woc, ↓vopm0, ↓callC, calleeV]
    repeat ((with_reducible refine And.intro ?_ ?_); · first | (with_reducible assumption) | omega | exact ⟨by omega, by omega⟩ | exact ⟨Tryd.is56, relLen_ s2 c n na1 hp2⟩ | with_reducible rfl | (repeat' first | exact Keep.refl _ | refine Keep.add ?_ ?_ _ | refine Keep.set ?_ ?_ _ | exact Nat.le_refl _ | (simp only [Sg.add, Sg.set, Sg.del]; omega)))
    refine hK9 _ _ ?_
    refine vw_block ?_
    refine vw_loop (fun mm e' s' => ∃ j : Nat, mm = n - j ∧ j ≤ n ∧ e'.length = 49 ∧ ev e' (.tmp 3) = .ptr c 0 ∧ ev e' (.tmp 4) = I i ∧ ev e' (.tmp 9) = I n ∧ ev e' (.tmp 10) = I i ∧ ev e' (.tmp 14) = I n ∧ ev e' (.tmp 15) = I j ∧ s2 = s' ∧ ∀ y, y < j → totB n (cloK M n) i y = false) (⟨0, rfl, Nat.zero_le _, ?_⟩) ?_
    · try simp only [ev_hit, ev_miss, Nat.reduceBEq, lpv, hl, k3, k9, h_i, Nat.reduceLT, true_and]
      repeat ((with_reducible refine And.intro ?_ ?_); · first | trivial | assumption | omega | rfl | (push_cast; rfl) | exact ⟨by omega, by omega⟩)
      all_goals (exact fun x hx => by omega)
    rintro mm e _ ⟨j, rfl, hle_j, hl, q3, q4, q9, q10, q14, h_j, rfl, hnj⟩
    refine vsk fun K10 hK10 => ?_
    refine vw_sc 0 [] ?_
    simp only [thenV, opII, q14, h_j, wocs, ↓goc, ↓woc]
    repeat ((with_reducible refine And.intro ?_ ?_); · first | (with_reducible assumption) | omega | exact ⟨by omega, by omega⟩ | with_reducible rfl | (repeat' first | exact Keep.refl _ | refine Keep.add ?_ ?_ _ | refine Keep.set ?_ ?_ _ | exact Nat.le_refl _ | (simp only [Sg.add, Sg.set, Sg.del]; omega)))
    refine hK10 _ _ ?_
    refine vsk fun K11 hK11 => ?_
    refine vck fun A B hA hB => ?_
    simp only [condV, ev_hit, Nat.reduceLT, decide_eq_true_eq, decide_eq_false_iff_not, hl]
    refine ⟨fun hc16 => hA ?_, fun hc16 => hB ?_⟩
    · clear hA hB A B
      refine vw_skip ?_
      refine hK11 _ _ ?_
      refine vsk fun K12 hK12 => ?_
      refine vw_block ?_
      refine vsk fun K13 hK13 => ?_
      refine vw_sc 0 [] ?_
      simp only [bs, ↓vopx, ↓vop, Nat.reduceBEq, thenV, Nat.reduceLT, hl, h_j, wocs, ↓goc, ↓woc, ↓vopm0]
      repeat ((with_reducible refine And.intro ?_ ?_); · first | (with_reducible assumption) | omega | exact ⟨by omega, by omega⟩ | with_reducible rfl | (repeat' first | exact Keep.refl _ | refine Keep.add ?_ ?_ _ | refine Keep.set ?_ ?_ _ | exact Nat.le_refl _ | (simp only [Sg.add, Sg.set, Sg.del]; omega)))
      refine hK13 _ _ ?_
      refine vsk fun K14 hK14 => ?_
      have hin : i < n := by omega
      have hjn : j < n := by omega
      rcases (show (cloK M n i j = true ∧ cloK M n j i = true) ∨ (i ≠ j ∧ cloK M n i j = true ∧ cloK M n j i = false) ∨ (i = j ∧ cloK M n i j = false) ∨ (i ≠ j ∧ cloK M n i j = false ∧ cloK M n j i = true) ∨ (i ≠ j ∧ cloK M n i j = false ∧ cloK M n j i = false) by rcases Classical.em (i = j) with e | e <;> cases hA : cloK M n i j <;> cases hB : cloK M n j i <;> simp [e] <;> (subst e; rw [hA] at hB; cases hB)) with ⟨eA, eB⟩ | ⟨e, eA, eB⟩ | ⟨e, eA⟩ | ⟨e, eA, eB⟩ | ⟨e, eA, eB⟩
      · have hb : totB n (cloK M n) i j = true := by simp [totB, eA, eB]
        refine vw_sc 0 [.det (Bo (cloK M n i j)) s2, .det (Bo (cloK M n j i)) s2] ?_
        simp only [bs, ↓vopx, ↓vop, Nat.reduceBEq, thenV, flat, Nat.reduceLT, gtmp, hl, q3, q4, wocs, ↓goc, ↓woc, ↓vopm0, ↓callC, ↓pick_tt, ↓pick_tf, calleeV, eA, eB]
        repeat ((with_reducible refine And.intro ?_ ?_); · first | (with_reducible assumption) | omega | exact ⟨by omega, by omega⟩ | exact ⟨Tryd.is54, by simpa only [eA] using hasN_ s2 c n _ na1 rp1 rq1 hR (a := i) (b := j) (by omega) (by omega)⟩ | exact ⟨Tryd.is54, by simpa only [eB] using hasN_ s2 c n _ na1 rp1 rq1 hR (a := j) (b := i) (by omega) (by omega)⟩ | with_reducible rfl | (repeat' first | exact Keep.refl _ | refine Keep.add ?_ ?_ _ | refine Keep.set ?_ ?_ _ | exact Nat.le_refl _ | (simp only [Sg.add, Sg.set, Sg.del]; omega)))
        refine hK14 _ _ ?_
        refine vck fun A B hA hB => ?_
        simp only [condV, ev_hit, lpv, Nat.reduceLT, true_implies, reduceCtorEq, false_implies, and_true, hl]
        refine hA ?_
        clear hA hB A B
        refine vsk fun K15 hK15 => ?_
        refine vw_sc 0 [] ?_
        simp only [bs, ↓vopx, ↓vop, thenV, flat, wocs, ↓goc, ↓woc, ↓vopm0]
        repeat ((with_reducible refine And.intro ?_ ?_); · first | (with_reducible assumption) | omega | exact ⟨by omega, by omega⟩ | with_reducible rfl | (repeat' first | exact Keep.refl _ | refine Keep.add ?_ ?_ _ | refine Keep.set ?_ ?_ _ | exact Nat.le_refl _ | (simp only [Sg.add, Sg.set, Sg.del]; omega)))
        refine hK15 _ _ ?_
        refine vw_ret ?_
        refine hQ _ _ _ (.inr rfl) (Done.toS (done_tmp ?_ hk))
        try simp only [ev_hit, lpv, hl, Nat.reduceLT]
        rw [show totS n M = false from by unfold totS; rw [List.all_eq_false]; refine ⟨i, List.mem_range.2 (by omega), ?_⟩; rw [Bool.not_eq_true, List.all_eq_false]; exact ⟨j, List.mem_range.2 (by omega), by rw [hb]; simp⟩]
      · have hb : totB n (cloK M n) i j = false := by simp [totB, eA, eB]
        have hne : ((i : Int) != (j : Int)) = true := by simp; omega
        refine vw_sc 0 [.det (Bo (cloK M n i j)) s2, .det (Bo (cloK M n j i)) s2, .det (Bo (cloK M n i j)) s2] ?_
        simp only [bs, ↓vopx, ↓vop, Nat.reduceBEq, thenV, flat, Nat.reduceLT, opII, gtmp, hl, q3, q4, wocs, ↓goc, ↓woc, ↓vopm0, ↓callC, ↓pick_tt, ↓pick_ff, ↓pick_ft, calleeV, eA, eB, hne]
        repeat ((with_reducible refine And.intro ?_ ?_); · first | (with_reducible assumption) | omega | exact ⟨by omega, by omega⟩ | exact ⟨Tryd.is54, by simpa only [eA] using hasN_ s2 c n _ na1 rp1 rq1 hR (a := i) (b := j) (by omega) (by omega)⟩ | exact ⟨Tryd.is54, by simpa only [eB] using hasN_ s2 c n _ na1 rp1 rq1 hR (a := j) (b := i) (by omega) (by omega)⟩ | exact ⟨Tryd.is54, by simpa only [eA] using hasN_ s2 c n _ na1 rp1 rq1 hR (a := i) (b := j) (by omega) (by omega)⟩ | with_reducible rfl | (repeat' first | exact Keep.refl _ | refine Keep.add ?_ ?_ _ | refine Keep.set ?_ ?_ _ | exact Nat.le_refl _ | (simp only [Sg.add, Sg.set, Sg.del]; omega)))
        refine hK14 _ _ ?_
        refine vck fun A B hA hB => ?_
        simp only [condV, ev_hit, lpv, Nat.reduceLT, true_implies, reduceCtorEq, false_implies, true_and, hl]
        refine hB ?_
        clear hA hB A B
        refine vw_skip ?_
        refine hK12 _ _ ?_
        refine vw_sc 0 [] ?_
        simp only [bs, ↓vopx, ↓vop, Nat.reduceBEq, thenV, flat, Nat.reduceLT, opII, hl, q3, q4, q9, q10, q14, h_j, wocs, ↓goc, ↓woc, ↓vopm0]
        repeat ((with_reducible refine And.intro ?_ ?_); · first | (with_reducible assumption) | omega | exact ⟨by omega, by omega⟩ | with_reducible rfl | (repeat' first | exact Keep.refl _ | refine Keep.add ?_ ?_ _ | refine Keep.set ?_ ?_ _ | exact Nat.le_refl _ | (simp only [Sg.add, Sg.set, Sg.del]; omega)))
        refine ⟨n - (j + 1), by omega, j + 1, rfl, by omega, ?_⟩
        try simp only [ev_hit, ev_miss, Nat.reduceBEq, lpv, hl, q3, q4, q9, q10, q14, h_j, if_true, if_false, Nat.reduceEqDiff, Nat.reduceLT, true_and, and_true]
        repeat ((with_reducible refine And.intro ?_ ?_); · first | trivial | assumption | omega | rfl | (push_cast; rfl) | exact ⟨by omega, by omega⟩)
        intro x hx
        rcases Nat.lt_succ_iff_lt_or_eq.1 hx with hx | rfl
        · exact hnj x hx
        · exact hb
      · have hb : totB n (cloK M n) i j = false := by have eA2 := eA; rw [e] at eA2; simp [totB, e, eA2]
        have hne : ((i : Int) != (j : Int)) = false := by simp [e]
        refine vw_sc 0 [.det (Bo (cloK M n i j)) s2] ?_
        simp only [bs, ↓vopx, ↓vop, Nat.reduceBEq, thenV, flat, Nat.reduceLT, opII, gtmp, hl, q3, q4, wocs, ↓goc, ↓woc, ↓vopm0, ↓callC, ↓pick_ff, ↓pick_ft, calleeV, eA, hne]
        repeat ((with_reducible refine And.intro ?_ ?_); · first | (with_reducible assumption) | omega | exact ⟨by omega, by omega⟩ | exact ⟨Tryd.is54, by simpa only [eA] using hasN_ s2 c n _ na1 rp1 rq1 hR (a := i) (b := j) (by omega) (by omega)⟩ | with_reducible rfl | (repeat' first | exact Keep.refl _ | refine Keep.add ?_ ?_ _ | refine Keep.set ?_ ?_ _ | exact Nat.le_refl _ | (simp only [Sg.add, Sg.set, Sg.del]; omega)))
        refine hK14 _ _ ?_
        refine vck fun A B hA hB => ?_
        simp only [condV, ev_hit, lpv, Nat.reduceLT, true_implies, reduceCtorEq, false_implies, true_and, hl]
        refine hB ?_
        clear hA hB A B
        refine vw_skip ?_
        refine hK12 _ _ ?_
        refine vw_sc 0 [] ?_
        simp only [bs, ↓vopx, ↓vop, Nat.reduceBEq, thenV, flat, Nat.reduceLT, opII, hl, q3, q4, q9, q10, q14, h_j, wocs, ↓goc, ↓woc, ↓vopm0]
        repeat ((with_reducible refine And.intro ?_ ?_); · first | (with_reducible assumption) | omega | exact ⟨by omega, by omega⟩ | with_reducible rfl | (repeat' first | exact Keep.refl _ | refine Keep.add ?_ ?_ _ | refine Keep.set ?_ ?_ _ | exact Nat.le_refl _ | (simp only [Sg.add, Sg.set, Sg.del]; omega)))
        refine ⟨n - (j + 1), by omega, j + 1, rfl, by omega, ?_⟩
        try simp only [ev_hit, ev_miss, Nat.reduceBEq, lpv, hl, q3, q4, q9, q10, q14, h_j, if_true, if_false, Nat.reduceEqDiff, Nat.reduceLT, true_and, and_true]
        repeat ((with_reducible refine And.intro ?_ ?_); · first | trivial | assumption | omega | rfl | (push_cast; rfl) | exact ⟨by omega, by omega⟩)
        intro x hx
        rcases Nat.lt_succ_iff_lt_or_eq.1 hx with hx | rfl
        · exact hnj x hx
        · exact hb
      · have hb : totB n (cloK M n) i j = false := by simp [totB, eA, eB]
        have hne : ((i : Int) != (j : Int)) = true := by simp; omega
        refine vw_sc 0 [.det (Bo (cloK M n i j)) s2, .det (Bo (cloK M n i j)) s2, .det (Bo (cloK M n j i)) s2] ?_
        simp only [bs, ↓vopx, ↓vop, Nat.reduceBEq, thenV, flat, Nat.reduceLT, opII, gtmp, hl, q3, q4, wocs, ↓goc, ↓woc, ↓vopm0, ↓callC, ↓pick_tt, ↓pick_ff, ↓pick_ft, calleeV, eA, eB, hne]
        repeat ((with_reducible refine And.intro ?_ ?_); · first | (with_reducible assumption) | omega | exact ⟨by omega, by omega⟩ | exact ⟨Tryd.is54, by simpa only [eA] using hasN_ s2 c n _ na1 rp1 rq1 hR (a := i) (b := j) (by omega) (by omega)⟩ | exact ⟨Tryd.is54, by simpa only [eA] using hasN_ s2 c n _ na1 rp1 rq1 hR (a := i) (b := j) (by omega) (by omega)⟩ | exact ⟨Tryd.is54, by simpa only [eB] using hasN_ s2 c n _ na1 rp1 rq1 hR (a := j) (b := i) (by omega) (by omega)⟩ | with_reducible rfl | (repeat' first | exact Keep.refl _ | refine Keep.add ?_ ?_ _ | refine Keep.set ?_ ?_ _ | exact Nat.le_refl _ | (simp only [Sg.add, Sg.set, Sg.del]; omega)))
        refine hK14 _ _ ?_
        refine vck fun A B hA hB => ?_
        simp only [condV, ev_hit, lpv, Nat.reduceLT, true_implies, reduceCtorEq, false_implies, true_and, hl]
        refine hB ?_
        clear hA hB A B
        refine vw_skip ?_
        refine hK12 _ _ ?_
        refine vw_sc 0 [] ?_
        simp only [bs, ↓vopx, ↓vop, Nat.reduceBEq, thenV, flat, Nat.reduceLT, opII, hl, q3, q4, q9, q10, q14, h_j, wocs, ↓goc, ↓woc, ↓vopm0]
        repeat ((with_reducible refine And.intro ?_ ?_); · first | (with_reducible assumption) | omega | exact ⟨by omega, by omega⟩ | with_reducible rfl | (repeat' first | exact Keep.refl _ | refine Keep.add ?_ ?_ _ | refine Keep.set ?_ ?_ _ | exact Nat.le_refl _ | (simp only [Sg.add, Sg.set, Sg.del]; omega)))
        refine ⟨n - (j + 1), by omega, j + 1, rfl, by omega, ?_⟩
        try simp only [ev_hit, ev_miss, Nat.reduceBEq, lpv, hl, q3, q4, q9, q10, q14, h_j, if_true, if_false, Nat.reduceEqDiff, Nat.reduceLT, true_and, and_true]
        repeat ((with_reducible refine And.intro ?_ ?_); · first | trivial | assumption | omega | rfl | (push_cast; rfl) | exact ⟨by omega, by omega⟩)
        intro x hx
        rcases Nat.lt_succ_iff_lt_or_eq.1 hx with hx | rfl
        · exact hnj x hx
        · exact hb
      · have hb : totB n (cloK M n) i j = true := by simp [totB, eA, eB, e]
        have hne : ((i : Int) != (j : Int)) = true := by simp; omega
        refine vw_sc 0 [.det (Bo (cloK M n i j)) s2, .det (Bo (cloK M n i j)) s2, .det (Bo (cloK M n j i)) s2] ?_
        simp only [bs, ↓vopx, ↓vop, Nat.reduceBEq, thenV, flat, Nat.reduceLT, opII, gtmp, hl, q3, q4, wocs, ↓goc, ↓woc, ↓vopm0, ↓callC, ↓pick_tt, ↓pick_ff, ↓pick_ft, calleeV, eA, eB, hne]
        repeat ((with_reducible refine And.intro ?_ ?_); · first | (with_reducible assumption) | omega | exact ⟨by omega, by omega⟩ | exact ⟨Tryd.is54, by simpa only [eA] using hasN_ s2 c n _ na1 rp1 rq1 hR (a := i) (b := j) (by omega) (by omega)⟩ | exact ⟨Tryd.is54, by simpa only [eA] using hasN_ s2 c n _ na1 rp1 rq1 hR (a := i) (b := j) (by omega) (by omega)⟩ | exact ⟨Tryd.is54, by simpa only [eB] using hasN_ s2 c n _ na1 rp1 rq1 hR (a := j) (b := i) (by omega) (by omega)⟩ | with_reducible rfl | (repeat' first | exact Keep.refl _ | refine Keep.add ?_ ?_ _ | refine Keep.set ?_ ?_ _ | exact Nat.le_refl _ | (simp only [Sg.add, Sg.set, Sg.del]; omega)))
        refine hK14 _ _ ?_
        refine vck fun A B hA hB => ?_
        simp only [condV, ev_hit, lpv, Nat.reduceLT, true_implies, reduceCtorEq, false_implies, and_true, hl]
        refine hA ?_
        clear hA hB A B
        refine vsk fun K16 hK16 => ?_
        refine vw_sc 0 [] ?_
        simp only [bs, ↓vopx, ↓vop, thenV, flat, wocs, ↓goc, ↓woc, ↓vopm0]
        repeat ((with_reducible refine And.intro ?_ ?_); · first | (with_reducible assumption) | omega | exact ⟨by omega, by omega⟩ | with_reducible rfl | (repeat' first | exact Keep.refl _ | refine Keep.add ?_ ?_ _ | refine Keep.set ?_ ?_ _ | exact Nat.le_refl _ | (simp only [Sg.add, Sg.set, Sg.del]; omega)))
        refine hK16 _ _ ?_
        refine vw_ret ?_
        refine hQ _ _ _ (.inr rfl) (Done.toS (done_tmp ?_ hk))
        try simp only [ev_hit, lpv, hl, Nat.reduceLT]
        rw [show totS n M = false from by unfold totS; rw [List.all_eq_false]; refine ⟨i, List.mem_range.2 (by omega), ?_⟩; rw [Bool.not_eq_true, List.all_eq_false]; exact ⟨j, List.mem_range.2 (by omega), by rw [hb]; simp⟩]
    · clear hA hB A B
      have hjn : n = j := by omega
      refine vw_exit ?_
      simp only [thenV, blockV, if_true, if_false, Nat.reduceEqDiff, reduceCtorEq]
      refine hK7 _ _ ?_
      refine vw_sc 0 [] ?_
      simp only [bs, ↓vopx, ↓vop, Nat.reduceBEq, thenV, flat, Nat.reduceLT, opII, hl, q3, q9, q10, wocs, ↓goc, ↓woc, ↓vopm0]
      repeat ((with_reducible refine And.intro ?_ ?_); · first | (with_reducible assumption) | omega | exact ⟨by omega, by omega⟩ | with_reducible rfl | (repeat' first | exact Keep.refl _ | refine Keep.add ?_ ?_ _ | refine Keep.set ?_ ?_ _ | exact Nat.le_refl _ | (simp only [Sg.add, Sg.set, Sg.del]; omega)))
      refine ⟨n - (i + 1), by omega, i + 1, rfl, by omega, ?_⟩
      try simp only [ev_hit, ev_miss, Nat.reduceBEq, lpv, hl, k3, k9, h_i, if_true, if_false, Nat.reduceEqDiff, Nat.reduceLT, true_and, and_true]
      repeat ((with_reducible refine And.intro ?_ ?_); · first | trivial | assumption | omega | rfl | (push_cast; rfl) | exact ⟨by omega, by omega⟩)
      intro x hx
      rcases Nat.lt_succ_iff_lt_or_eq.1 hx with hx | rfl
      · exact hno x hx
      · exact fun y hy => hnj y (by omega)
  · clear hA hB A B
    refine vw_exit ?_
    simp only [thenV, blockV, if_true]
    refine hK3 _ _ ?_
    refine vsk fun K17 hK17 => ?_
    refine vw_sc 0 [] ?_
    simp only [bs, ↓vopx, ↓vop, thenV, flat, wocs, ↓goc, ↓woc, ↓vopm0]
    repeat ((with_reducible refine And.intro ?_ ?_); · first | (with_reducible assumption) | omega | exact ⟨by omega, by omega⟩ | with_reducible rfl | (repeat' first | exact Keep.refl _ | refine Keep.add ?_ ?_ _ | refine Keep.set ?_ ?_ _ | exact Nat.le_refl _ | (simp only [Sg.add, Sg.set, Sg.del]; omega)))
    refine hK17 _ _ ?_
    refine vw_ret ?_
    refine hQ _ _ _ (.inr rfl) (Done.toS (done_tmp ?_ hk))
    try simp only [ev_hit, lpv, hl, Nat.reduceLT]
    rw [show totS n M = true from by unfold totS; rw [List.all_eq_true]; intro x hx; rw [List.all_eq_true]; intro y hy; rw [hno x (by have := List.mem_range.1 hx; omega) y (List.mem_range.1 hy)]; rfl]
end Go.Proofs

open Go Go.V
namespace Go.Proofs
theorem alvS_len (l : List Ln) : (alvS l).length ≤ l.length := alvK_len l l.length
def aliK (f : Fl) (i k : Nat) : Mx := fun x y => (decide (x < i) || (decide (x = i) && decide (y < k))) && aliM f x y
theorem aliK_zero (f : Fl) : aliK f 0 0 = fun _ _ => false := by funext x y; simp [aliK]
theorem aliK_row (f : Fl) {i n x y : Nat} (hy : y < n) : aliK f i n x y = aliK f (i + 1) 0 x y := by
  unfold aliK
  by_cases h : x < i
  · simp [h, Nat.lt_succ_of_lt h]
  · by_cases h2 : x = i
    · subst h2; simp [hy]
    · simp [h, h2, show ¬ x < i + 1 by omega]
theorem aliK_yes {f : Fl} {i k : Nat} (h : aliM f i k = true) : updM (aliK f i k) i k true = aliK f i (k + 1) := by
  funext x y
  unfold updM aliK
  by_cases h1 : x = i ∧ y = k
  · obtain ⟨rfl, rfl⟩ := h1; simp [h]
  · rw [if_neg h1]
    by_cases h2 : x = i
    · subst h2
      have : y ≠ k := fun e => h1 ⟨rfl, e⟩
      simp [show (y < k + 1) = (y < k) from propext (by omega)]
    · simp [h2]
theorem aliK_no {f : Fl} {i k : Nat} (h : aliM f i k = false) : aliK f i k = aliK f i (k + 1) := by
  funext x y
  unfold aliK
  by_cases h1 : x = i ∧ y = k
  · obtain ⟨rfl, rfl⟩ := h1; simp [h]
  · by_cases h2 : x = i
    · subst h2
      have : y ≠ k := fun e => h1 ⟨rfl, e⟩
      simp [show (y < k + 1) = (y < k) from propext (by omega)]
    · simp [h2]
theorem aliK_end (f : Fl) {n x y : Nat} (hx : x < n) : aliK f n 0 x y = aliM f x y := by unfold aliK; simp [hx]
theorem keep_fr {s s1 s2 : Sg} (h : Keep s s1) (hk : ∀ m, m < s.next → s2.m m = s1.m m) : Keep s s2 := fun m b hm hb => by rw [hk m hm]; exact h m b hm hb
set_option maxRecDepth 20000 in
set_option maxHeartbeats 4000000 in
theorem vAlive_ (s : Sg) (f : Fl) (hf : f.lines.length ≤ 200) (hp0 : f.pairs.length < 1000000000) : VCall Tryd.prog 39 [vFile f] s (AliP s f) := by
  refine kcall_of_body Tryd.func39 rfl fun Q hQ => ?_
  obtain ⟨e, he, hl, h0⟩ : ∃ e : Env, ([vFile f] ++ List.replicate (Tryd.f39.ntmps - ([vFile f] : List V).length) .junk) = e ∧ e.length = 64 ∧ ev e (.tmp 0) = vFile f := ⟨_, rfl, rfl, rfl⟩
  rw [he]
  clear he
  have hal := alvS_len f.lines
  refine vsk fun K1 hK1 => ?_
  refine vw_sc 0 [] ?_
  simp only [bs, ↓vopx, ↓vop, thenV, flat, V.cells, h0, wocs, ↓goc, ↓woc, ↓vopm0]
  repeat ((with_reducible refine And.intro ?_ ?_); · first | (with_reducible assumption) | omega | exact ⟨by omega, by omega⟩ | with_reducible rfl | (repeat' first | exact Keep.refl _ | refine Keep.add ?_ ?_ _ | refine Keep.set ?_ ?_ _ | exact Nat.le_refl _ | (simp only [Sg.add, Sg.set, Sg.del]; omega)))
  refine hK1 _ _ ?_
  refine vsk fun K2 hK2 => ?_
  refine vw_st2 fun s0 hS0 => ?_
  have b0 : s0.m s.next = some (.box 44 [.t (TS f.path), .t (tLines f.lines), .t (tPairs f.pairs)]) := by rw [hS0, m_add, if_pos rfl]
  have n0 : s0.next = s.next + 1 := by rw [hS0]; rfl
  have k0 : Keep s s0 := by rw [hS0]; exact (Keep.refl s).add (Nat.le_refl _) _
  clear hS0
  refine vw_sc 0 [.stop] ?_
  simp only [bs, Nat.reduceAdd, ↓vopx, ↓vop, Nat.reduceBEq, thenV, Nat.reduceLT, dLoad, vpart, hl, wocs, ↓goc, ↓woc, ↓vopm0, ↓callC, calleeV, Tryd.ag41, Tryd.fd44_1, Tryd.sz41, Tryd.un41, len_tLines, nns, b0]
  refine ⟨Tryd.is50, (relNew_ s0 f.lines.length hf).mono fun v s2 hv => ?_⟩
  obtain ⟨c, na1, rp1, rq1, rfl, hR, hF, hk, hnx⟩ := hv
  try simp only [bs, Nat.reduceLT, hl, Hold]
  have b2 := hk _ _ (by omega) b0
  refine hK2 _ _ ?_
  refine vsk fun K3 hK3 => ?_
  refine vsk fun K4 hK4 => ?_
  refine vw_sc 0 [] ?_
  simp only [bs, ↓vopx, ↓vop, Nat.reduceBEq, thenV, flat, Nat.reduceLT, dLoad, vpart, hl, wocs, ↓goc, ↓woc, ↓vopm0, Tryd.ag42, Tryd.fd44_2, Tryd.sz42, Tryd.un42, len_tPairs, nns, b2]
  repeat ((with_reducible refine And.intro ?_ ?_); · first | (with_reducible assumption) | omega | exact ⟨by omega, by omega⟩ | with_reducible rfl | (repeat' first | exact Keep.refl _ | refine Keep.add ?_ ?_ _ | refine Keep.set ?_ ?_ _ | exact Nat.le_refl _ | (simp only [Sg.add, Sg.set, Sg.del]; omega)))
  refine hK4 _ _ ?_
  refine vw_block ?_
  refine vw_loop (fun mm e' s' => ∃ i : Nat, mm = f.pairs.length - i ∧ i ≤ f.pairs.length ∧ e'.length = 64 ∧ ev e' (.tmp 1) = .ptr s.next 0 ∧ ev e' (.tmp 4) = .ptr c 0 ∧ ev e' (.tmp 18) = .t (tPairs f.pairs) ∧ ev e' (.tmp 19) = I f.pairs.length ∧ ev e' (.tmp 20) = I i ∧ True ∧ RelP s' c f.lines.length (mxW f.lines.length (f.pairs.take i)) na1 rp1 rq1 ∧ Keep s0 s' ∧ s0.next ≤ s'.next) (⟨0, rfl, Nat.zero_le _, ?_⟩) ?_
  · try simp only [ev_hit, ev_miss, Nat.reduceBEq, lpv, hl, Nat.reduceLT, true_and]
    repeat ((with_reducible refine And.intro ?_ ?_); · first | trivial | assumption | omega | rfl | (push_cast; rfl) | exact ⟨by omega, by omega⟩)
    first | exact ⟨hR.congr fun x y _ _ => by simp [mxW, mxOf], hk, hnx⟩ | exact hnx
  rintro mm e s1 ⟨i, rfl, hle_i, hl, h1, h4, h18, h19, h_i, hst, ⟨hR1, hk1, hn1⟩⟩
  refine vsk fun K5 hK5 => ?_
  refine vw_sc 0 [] ?_
  simp only [thenV, opII, h19, h_i, wocs, ↓goc, ↓woc]
  repeat ((with_reducible refine And.intro ?_ ?_); · first | (with_reducible assumption) | omega | exact ⟨by omega, by omega⟩ | with_reducible rfl | (repeat' first | exact Keep.refl _ | refine Keep.add ?_ ?_ _ | refine Keep.set ?_ ?_ _ | exact Nat.le_refl _ | (simp only [Sg.add, Sg.set, Sg.del]; omega)))
  refine hK5 _ _ ?_
  refine vsk fun K6 hK6 => ?_
  refine vck fun A B hA hB => ?_
  simp only [condV, ev_hit, Nat.reduceLT, decide_eq_true_eq, decide_eq_false_iff_not, hl]
  refine ⟨fun hc21 => hA ?_, fun hc21 => hB ?_⟩
  · clear hA hB A B
    refine vw_skip ?_
    refine hK6 _ _ ?_
    refine vsk fun K7 hK7 => ?_
    refine vw_block ?_
    refine vsk fun K8 hK8 => ?_
    have hlt : i < f.pairs.length := by omega
    obtain ⟨p, hp⟩ : ∃ p, f.pairs[i]? = some p := ⟨_, List.getElem?_eq_getElem hlt⟩
    have g0 := dropP hp
    have hfl := flat_length f.pairs
    have hi2 : i * 2 < f.pairs.length * 2 := by omega
    refine vw_sc 0 [] ?_
    simp only [bs, Nat.reduceAdd, ↓vopx, ↓vop, Nat.reduceBEq, thenV, Nat.reduceLT, V.cells, dLoad, vpart, hl, h18, h_i, wocs, ↓goc, ↓woc, ↓vopm0, Tryd.ag100, Tryd.sz100, Tryd.un42, Tryd.zv100, g0, hfl, hi2]
    repeat ((with_reducible refine And.intro ?_ ?_); · first | (with_reducible assumption) | omega | exact ⟨by omega, by omega⟩ | with_reducible rfl | (repeat' first | exact Keep.refl _ | refine Keep.add ?_ ?_ _ | refine Keep.set ?_ ?_ _ | exact Nat.le_refl _ | (simp only [Sg.add, Sg.set, Sg.del]; omega)))
    refine hK8 _ _ ?_
    refine vw_st2 fun sb hS => ?_
    have hRb : RelP sb c f.lines.length (mxW f.lines.length (f.pairs.take i)) na1 rp1 rq1 := by rw [hS]; exact hR1.keep (((Keep.refl s1).add (Nat.le_refl _) _).set (Nat.le_refl _) _) (by simp only [n_set, n_add]; omega)
    have kb : Keep s0 sb := by rw [hS]; exact (hk1.add hn1 _).set hn1 _
    have nb : s0.next ≤ sb.next := by rw [hS]; simp only [n_set, n_add]; omega
    have bb : sb.m s1.next = some (.box 100 [I p.1, I p.2]) := by rw [hS, m_set, if_pos rfl]; try rfl
    clear hS
    refine vw_sc 0 [.stop] ?_
    simp only [bs, Nat.reduceAdd, ↓vopx, ↓vop, Nat.reduceBEq, thenV, blockV, Nat.reduceLT, dLoad, vpart, hl, h4, wocs, ↓goc, ↓woc, ↓vopm0, ↓callC, calleeV, Tryd.ag3, Tryd.fd100_0, Tryd.fd100_1, Tryd.sz3, nns, bb]
    refine ⟨Tryd.is51, (relAddZ_ sb c f.lines.length _ na1 rp1 rq1 hRb p.1 p.2).mono fun v s3 hv => ?_⟩
    obtain ⟨⟨b, rfl⟩, hR3, hfr3, hn3⟩ := hv
    try simp only [bs, Nat.reduceBEq, h4, Hold]
    have hR3 : RelP s3 c f.lines.length (mxW f.lines.length (f.pairs.take (i + 1))) na1 rp1 rq1 := by rw [mxW_take hp]; exact hR3
    have k3 : Keep s0 s3 := keep_fr kb fun m hm => hfr3 m fun i hi => by have := hF.hq i hi; omega
    refine hK7 _ _ ?_
    refine vw_sc 0 [] ?_
    simp only [bs, ↓vopx, ↓vop, Nat.reduceBEq, thenV, flat, Nat.reduceLT, opII, hl, h1, h4, h18, h19, h_i, wocs, ↓goc, ↓woc, ↓vopm0]
    repeat ((with_reducible refine And.intro ?_ ?_); · first | (with_reducible assumption) | omega | exact ⟨by omega, by omega⟩ | with_reducible rfl | (repeat' first | exact Keep.refl _ | refine Keep.add ?_ ?_ _ | refine Keep.set ?_ ?_ _ | exact Nat.le_refl _ | (simp only [Sg.add, Sg.set, Sg.del]; omega)))
    refine ⟨f.pairs.length - (i + 1), by omega, i + 1, rfl, by omega, ?_⟩
    try simp only [ev_hit, ev_miss, Nat.reduceBEq, lpv, hl, h1, h4, h18, h19, h_i, if_true, if_false, Nat.reduceEqDiff, Nat.reduceLT, true_and, and_true]
    repeat ((with_reducible refine And.intro ?_ ?_); · first | trivial | assumption | omega | rfl | (push_cast; rfl) | exact ⟨by omega, by omega⟩)
    first | exact ⟨hR3, k3, by omega⟩ | omega
  · clear hA hB A B
    have han : i = f.pairs.length := by omega
    subst han
    rw [List.take_length] at hR1
    refine vw_exit ?_
    simp only [thenV, blockV, if_true]
    refine hK3 _ _ ?_
    refine vsk fun K9 hK9 => ?_
    have b7 := hk1 _ _ (by omega) b0
    refine vw_sc 0 [.stop] ?_
    simp only [bs, ↓vopx, ↓vop, Nat.reduceBEq, thenV, Nat.reduceLT, hl, h4, wocs, ↓goc, ↓woc, ↓vopm0, ↓callC, calleeV]
    refine ⟨Tryd.is52, (relClosure_ s1 c f.lines.length _ na1 rp1 rq1 hR1).mono fun v s4 hv => ?_⟩
    obtain ⟨c2, na2, rp2, rq2, rfl, hR4, hF4, hk4, hnx4⟩ := hv
    try simp only [bs, Nat.reduceBEq, Nat.reduceLT, hl, h4, Hold]
    have k4 : Keep s0 s4 := hk1.trans hn1 hk4
    have b4 := k4 _ _ (by omega) b0
    refine hK9 _ _ ?_
    refine vsk fun K10 hK10 => ?_
    refine vw_sc 0 [.pur (.t (tInts (alvS f.lines)))] ?_
    simp only [bs, Nat.reduceAdd, ↓vopx, ↓vop, Nat.reduceBEq, thenV, Nat.reduceLT, dLoad, vpart, hl, h1, wocs, ↓goc, ↓woc, ↓vopm0, ↓callC, calleeV, Tryd.ag44, Tryd.sz44, b4]
    repeat ((with_reducible refine And.intro ?_ ?_); · first | (with_reducible assumption) | omega | exact ⟨by omega, by omega⟩ | exact ⟨Tryd.is53, stAlive_ f hf⟩ | with_reducible rfl | (repeat' first | exact Keep.refl _ | refine Keep.add ?_ ?_ _ | refine Keep.set ?_ ?_ _ | exact Nat.le_refl _ | (simp only [Sg.add, Sg.set, Sg.del]; omega)))
    refine hK10 _ _ ?_
    refine vsk fun K11 hK11 => ?_
    refine vw_sc 0 [.stop] ?_
    simp only [bs, ↓vopx, ↓vop, thenV, Nat.reduceLT, hl, wocs, ↓goc, ↓woc, ↓vopm0, ↓callC, calleeV, len_tInts]
    refine ⟨Tryd.is50, (relNew_ s4 (alvS f.lines).length (by omega)).mono fun v s5 hv => ?_⟩
    obtain ⟨r, na5, rp5, rq5, rfl, hR5, hF5, hk5, hnx5⟩ := hv
    try simp only [bs, Nat.reduceLT, hl, Hold]
    have hC5 := hR4.keep hk5 hnx5
    refine hK11 _ _ ?_
    refine vsk fun K12 hK12 => ?_
    refine vsk fun K13 hK13 => ?_
    refine vw_sc 0 [] ?_
    simp only [bs, ↓vopx, ↓vop, Nat.reduceBEq, thenV, flat, Nat.reduceLT, hl, wocs, ↓goc, ↓woc, ↓vopm0, len_tInts]
    repeat ((with_reducible refine And.intro ?_ ?_); · first | (with_reducible assumption) | omega | exact ⟨by omega, by omega⟩ | with_reducible rfl | (repeat' first | exact Keep.refl _ | refine Keep.add ?_ ?_ _ | refine Keep.set ?_ ?_ _ | exact Nat.le_refl _ | (simp only [Sg.add, Sg.set, Sg.del]; omega)))
    refine hK13 _ _ ?_
    refine vw_block ?_
    refine vw_loop (fun mm e' s' => ∃ i : Nat, mm = (alvS f.lines).length - i ∧ i ≤ (alvS f.lines).length ∧ e'.length = 64 ∧ ev e' (.tmp 4) = .ptr c2 0 ∧ ev e' (.tmp 7) = .t (tInts (alvS f.lines)) ∧ ev e' (.tmp 8) = .ptr r 0 ∧ ev e' (.tmp 38) = .t (tInts (alvS f.lines)) ∧ ev e' (.tmp 39) = I (alvS f.lines).length ∧ ev e' (.tmp 40) = I i ∧ True ∧ RelP s' r (alvS f.lines).length (aliK f i 0) na5 rp5 rq5 ∧ Keep s4 s' ∧ s4.next ≤ s'.next) (⟨0, rfl, Nat.zero_le _, ?_⟩) ?_
    · try simp only [ev_hit, ev_miss, Nat.reduceBEq, lpv, hl, Nat.reduceLT, true_and]
      repeat ((with_reducible refine And.intro ?_ ?_); · first | trivial | assumption | omega | rfl | (push_cast; rfl) | exact ⟨by omega, by omega⟩)
      exact ⟨by rw [aliK_zero]; exact hR5, hk5, hnx5⟩
    rintro mm e s1 ⟨i, rfl, hle_i, hl, q4, q7, q8, q38, q39, h_i, hst, ⟨hRi, hki, hni⟩⟩
    refine vsk fun K14 hK14 => ?_
    refine vw_sc 0 [] ?_
    simp only [thenV, opII, q39, h_i, wocs, ↓goc, ↓woc]
    repeat ((with_reducible refine And.intro ?_ ?_); · first | (with_reducible assumption) | omega | exact ⟨by omega, by omega⟩ | with_reducible rfl | (repeat' first | exact Keep.refl _ | refine Keep.add ?_ ?_ _ | refine Keep.set ?_ ?_ _ | exact Nat.le_refl _ | (simp only [Sg.add, Sg.set, Sg.del]; omega)))
    refine hK14 _ _ ?_
    refine vsk fun K15 hK15 => ?_
    refine vck fun A B hA hB => ?_
    simp only [condV, ev_hit, Nat.reduceLT, decide_eq_true_eq, decide_eq_false_iff_not, hl]
    refine ⟨fun hc41 => hA ?_, fun hc41 => hB ?_⟩
    · clear hA hB A B
      refine vw_skip ?_
      refine hK15 _ _ ?_
      refine vsk fun K16 hK16 => ?_
      refine vw_block ?_
      refine vsk fun K17 hK17 => ?_
      have hil : i < (alvS f.lines).length := by omega
      obtain ⟨a, ha, hal1, haD⟩ := alvS_at hil
      refine vw_sc 0 [] ?_
      simp only [bs, ↓vopx, ↓vop, Nat.reduceBEq, thenV, Nat.reduceLT, dLoad, vpart, hl, q38, h_i, wocs, ↓goc, ↓woc, ↓vopm0, Tryd.ag3, Tryd.sz3, Tryd.un85, ha, hil]
      repeat ((with_reducible refine And.intro ?_ ?_); · first | (with_reducible assumption) | omega | exact ⟨by omega, by omega⟩ | with_reducible rfl | (repeat' first | exact Keep.refl _ | refine Keep.add ?_ ?_ _ | refine Keep.set ?_ ?_ _ | exact Nat.le_refl _ | (simp only [Sg.add, Sg.set, Sg.del]; omega)))
      refine hK17 _ _ ?_
      refine vsk fun K18 hK18 => ?_
      refine vw_sc 0 [] ?_
      simp only [bs, ↓vopx, ↓vop, Nat.reduceBEq, thenV, flat, Nat.reduceLT, hl, q7, wocs, ↓goc, ↓woc, ↓vopm0, len_tInts]
      repeat ((with_reducible refine And.intro ?_ ?_); · first | (with_reducible assumption) | omega | exact ⟨by omega, by omega⟩ | with_reducible rfl | (repeat' first | exact Keep.refl _ | refine Keep.add ?_ ?_ _ | refine Keep.set ?_ ?_ _ | exact Nat.le_refl _ | (simp only [Sg.add, Sg.set, Sg.del]; omega)))
      refine hK18 _ _ ?_
      refine vw_block ?_
      refine vw_loop (fun mm e' s' => ∃ k : Nat, mm = (alvS f.lines).length - k ∧ k ≤ (alvS f.lines).length ∧ e'.length = 64 ∧ ev e' (.tmp 4) = .ptr c2 0 ∧ ev e' (.tmp 7) = .t (tInts (alvS f.lines)) ∧ ev e' (.tmp 8) = .ptr r 0 ∧ ev e' (.tmp 9) = I i ∧ ev e' (.tmp 10) = I a ∧ ev e' (.tmp 38) = .t (tInts (alvS f.lines)) ∧ ev e' (.tmp 39) = I (alvS f.lines).length ∧ ev e' (.tmp 40) = I i ∧ ev e' (.tmp 45) = .t (tInts (alvS f.lines)) ∧ ev e' (.tmp 46) = I (alvS f.lines).length ∧ ev e' (.tmp 47) = I k ∧ True ∧ RelP s' r (alvS f.lines).length (aliK f i k) na5 rp5 rq5 ∧ Keep s4 s' ∧ s4.next ≤ s'.next) (⟨0, rfl, Nat.zero_le _, ?_⟩) ?_
      · try simp only [ev_hit, ev_miss, Nat.reduceBEq, lpv, hl, q4, q7, q8, q38, q39, h_i, Nat.reduceLT, true_and]
        repeat ((with_reducible refine And.intro ?_ ?_); · first | trivial | assumption | omega | rfl | (push_cast; rfl) | exact ⟨by omega, by omega⟩)
        first | exact ⟨hRi, hki, hni⟩ | exact hni
      rintro mm e s6 ⟨k, rfl, hle_k, hl, r4, r7, r8, r9, r10, r38, r39, r40, r45, r46, h_k, hst, ⟨hRk, hkk, hnk⟩⟩
      refine vsk fun K19 hK19 => ?_
      refine vw_sc 0 [] ?_
      simp only [thenV, opII, r46, h_k, wocs, ↓goc, ↓woc]
      repeat ((with_reducible refine And.intro ?_ ?_); · first | (with_reducible assumption) | omega | exact ⟨by omega, by omega⟩ | with_reducible rfl | (repeat' first | exact Keep.refl _ | refine Keep.add ?_ ?_ _ | refine Keep.set ?_ ?_ _ | exact Nat.le_refl _ | (simp only [Sg.add, Sg.set, Sg.del]; omega)))
      refine hK19 _ _ ?_
      refine vsk fun K20 hK20 => ?_
      refine vck fun A B hA hB => ?_
      simp only [condV, ev_hit, Nat.reduceLT, decide_eq_true_eq, decide_eq_false_iff_not, hl]
      refine ⟨fun hc48 => hA ?_, fun hc48 => hB ?_⟩
      · clear hA hB A B
        refine vw_skip ?_
        refine hK20 _ _ ?_
        refine vsk fun K21 hK21 => ?_
        refine vw_block ?_
        refine vsk fun K22 hK22 => ?_
        have hkl : k < (alvS f.lines).length := by omega
        obtain ⟨b, hb, hbl, hbD⟩ := alvS_at hkl
        refine vw_sc 0 [] ?_
        simp only [bs, ↓vopx, ↓vop, Nat.reduceBEq, thenV, Nat.reduceLT, dLoad, vpart, hl, r45, h_k, wocs, ↓goc, ↓woc, ↓vopm0, Tryd.ag3, Tryd.sz3, Tryd.un85, hb, hkl]
        repeat ((with_reducible refine And.intro ?_ ?_); · first | (with_reducible assumption) | omega | exact ⟨by omega, by omega⟩ | with_reducible rfl | (repeat' first | exact Keep.refl _ | refine Keep.add ?_ ?_ _ | refine Keep.set ?_ ?_ _ | exact Nat.le_refl _ | (simp only [Sg.add, Sg.set, Sg.del]; omega)))
        refine hK22 _ _ ?_
        refine vsk fun K23 hK23 => ?_
        have hCk := hR4.keep hkk hnk
        have hM := aliM_at haD hbD
        rcases Bool.eq_false_or_eq_true (cloK (mxW f.lines.length f.pairs) f.lines.length a b) with hc | hc
        · rw [hc] at hM
          refine vw_sc 0 [.det (Bo true) s6] ?_
          simp only [bs, ↓vopx, ↓vop, Nat.reduceBEq, thenV, Nat.reduceLT, hl, r4, r10, wocs, ↓goc, ↓woc, ↓vopm0, ↓callC, calleeV]
          repeat ((with_reducible refine And.intro ?_ ?_); · first | (with_reducible assumption) | omega | exact ⟨by omega, by omega⟩ | exact ⟨Tryd.is54, by simpa only [hc] using hasN_ s6 c2 _ _ na2 rp2 rq2 hCk (a := a) (b := b) hal1 hbl⟩ | with_reducible rfl | (repeat' first | exact Keep.refl _ | refine Keep.add ?_ ?_ _ | refine Keep.set ?_ ?_ _ | exact Nat.le_refl _ | (simp only [Sg.add, Sg.set, Sg.del]; omega)))
          refine hK23 _ _ ?_
          refine vck fun A B hA hB => ?_
          simp only [condV, ev_hit, lpv, Nat.reduceLT, true_implies, reduceCtorEq, false_implies, and_true, hl]
          refine hA ?_
          clear hA hB A B
          refine vw_sc 0 [.stop] ?_
          simp only [bs, ↓vopx, ↓vop, Nat.reduceBEq, thenV, blockV, Nat.reduceLT, hl, r8, r9, wocs, ↓goc, ↓woc, ↓vopm0, ↓callC, calleeV]
          refine ⟨Tryd.is51, (relAdd_ s6 r _ _ na5 rp5 rq5 hRk i k hil hkl).mono fun v s7 hv => ?_⟩
          obtain ⟨⟨bb, rfl⟩, hR7, hfr7, hn7⟩ := hv
          try simp only [bs, Nat.reduceBEq, Nat.reduceLT, hl, r8, r9, Hold]
          refine hK21 _ _ ?_
          refine vw_sc 0 [] ?_
          simp only [bs, ↓vopx, ↓vop, Nat.reduceBEq, thenV, flat, Nat.reduceLT, opII, hl, r4, r7, r8, r9, r10, r38, r39, r40, r45, r46, h_k, wocs, ↓goc, ↓woc, ↓vopm0]
          repeat ((with_reducible refine And.intro ?_ ?_); · first | (with_reducible assumption) | omega | exact ⟨by omega, by omega⟩ | with_reducible rfl | (repeat' first | exact Keep.refl _ | refine Keep.add ?_ ?_ _ | refine Keep.set ?_ ?_ _ | exact Nat.le_refl _ | (simp only [Sg.add, Sg.set, Sg.del]; omega)))
          refine ⟨(alvS f.lines).length - (k + 1), by omega, k + 1, rfl, by omega, ?_⟩
          try simp only [ev_hit, ev_miss, Nat.reduceBEq, lpv, hl, r4, r7, r8, r9, r10, r38, r39, r40, r45, r46, h_k, if_true, if_false, Nat.reduceEqDiff, Nat.reduceLT, true_and, and_true]
          repeat ((with_reducible refine And.intro ?_ ?_); · first | trivial | assumption | omega | rfl | (push_cast; rfl) | exact ⟨by omega, by omega⟩)
          first | exact ⟨by rw [aliK_yes hM] at hR7; exact hR7, keep_fr hkk fun m hm => hfr7 m fun i hi => by have := hF5.hq i hi; omega, by omega⟩ | exact ⟨by rw [← aliK_no hM]; exact hRk, hkk, hnk⟩
        · rw [hc] at hM
          refine vw_sc 0 [.det (Bo false) s6] ?_
          simp only [bs, ↓vopx, ↓vop, Nat.reduceBEq, thenV, Nat.reduceLT, hl, r4, r10, wocs, ↓goc, ↓woc, ↓vopm0, ↓callC, calleeV]
          repeat ((with_reducible refine And.intro ?_ ?_); · first | (with_reducible assumption) | omega | exact ⟨by omega, by omega⟩ | exact ⟨Tryd.is54, by simpa only [hc] using hasN_ s6 c2 _ _ na2 rp2 rq2 hCk (a := a) (b := b) hal1 hbl⟩ | with_reducible rfl | (repeat' first | exact Keep.refl _ | refine Keep.add ?_ ?_ _ | refine Keep.set ?_ ?_ _ | exact Nat.le_refl _ | (simp only [Sg.add, Sg.set, Sg.del]; omega)))
          refine hK23 _ _ ?_
          refine vck fun A B hA hB => ?_
          simp only [condV, ev_hit, lpv, Nat.reduceLT, true_implies, reduceCtorEq, false_implies, true_and, hl]
          refine hB ?_
          clear hA hB A B
          refine vw_skip ?_
          refine hK21 _ _ ?_
          refine vw_sc 0 [] ?_
          simp only [bs, ↓vopx, ↓vop, Nat.reduceBEq, thenV, flat, Nat.reduceLT, opII, hl, r4, r7, r8, r9, r10, r38, r39, r40, r45, r46, h_k, wocs, ↓goc, ↓woc, ↓vopm0]
          repeat ((with_reducible refine And.intro ?_ ?_); · first | (with_reducible assumption) | omega | exact ⟨by omega, by omega⟩ | with_reducible rfl | (repeat' first | exact Keep.refl _ | refine Keep.add ?_ ?_ _ | refine Keep.set ?_ ?_ _ | exact Nat.le_refl _ | (simp only [Sg.add, Sg.set, Sg.del]; omega)))
          refine ⟨(alvS f.lines).length - (k + 1), by omega, k + 1, rfl, by omega, ?_⟩
          try simp only [ev_hit, ev_miss, Nat.reduceBEq, lpv, hl, r4, r7, r8, r9, r10, r38, r39, r40, r45, r46, h_k, if_true, if_false, Nat.reduceEqDiff, Nat.reduceLT, true_and, and_true]
          repeat ((with_reducible refine And.intro ?_ ?_); · first | trivial | assumption | omega | rfl | (push_cast; rfl) | exact ⟨by omega, by omega⟩)
          first | exact ⟨by rw [aliK_yes hM] at hR7; exact hR7, keep_fr hkk fun m hm => hfr7 m fun i hi => by have := hF5.hq i hi; omega, by omega⟩ | exact ⟨by rw [← aliK_no hM]; exact hRk, hkk, hnk⟩
      · clear hA hB A B
        refine vw_exit ?_
        simp only [thenV, blockV, if_true, if_false, Nat.reduceEqDiff]
        refine hK16 _ _ ?_
        refine vw_sc 0 [] ?_
        simp only [bs, ↓vopx, ↓vop, Nat.reduceBEq, thenV, flat, Nat.reduceLT, opII, hl, r4, r7, r8, r38, r39, r40, wocs, ↓goc, ↓woc, ↓vopm0]
        repeat ((with_reducible refine And.intro ?_ ?_); · first | (with_reducible assumption) | omega | exact ⟨by omega, by omega⟩ | with_reducible rfl | (repeat' first | exact Keep.refl _ | refine Keep.add ?_ ?_ _ | refine Keep.set ?_ ?_ _ | exact Nat.le_refl _ | (simp only [Sg.add, Sg.set, Sg.del]; omega)))
        refine ⟨(alvS f.lines).length - (i + 1), by omega, i + 1, rfl, by omega, ?_⟩
        try simp only [ev_hit, ev_miss, Nat.reduceBEq, lpv, hl, q4, q7, q8, q38, q39, h_i, if_true, if_false, Nat.reduceEqDiff, Nat.reduceLT, true_and, and_true]
        repeat ((with_reducible refine And.intro ?_ ?_); · first | trivial | assumption | omega | rfl | (push_cast; rfl) | exact ⟨by omega, by omega⟩)
        have hkl : k = (alvS f.lines).length := by omega
        subst hkl
        exact ⟨hRk.congr fun x y _ hy => aliK_row f hy, hkk, hnk⟩
    · clear hA hB A B
      have han : i = (alvS f.lines).length := by omega
      subst han
      refine vw_exit ?_
      simp only [thenV, blockV, if_true]
      refine hK12 _ _ ?_
      refine vsk fun K24 hK24 => ?_
      refine vw_sc 0 [] ?_
      simp only [bs, ↓vopx, ↓vop, Nat.reduceBEq, thenV, Nat.reduceLT, hl, q7, q8, wocs, ↓goc, ↓woc, ↓vopm0]
      repeat ((with_reducible refine And.intro ?_ ?_); · first | (with_reducible assumption) | omega | exact ⟨by omega, by omega⟩ | with_reducible rfl | (repeat' first | exact Keep.refl _ | refine Keep.add ?_ ?_ _ | refine Keep.set ?_ ?_ _ | exact Nat.le_refl _ | (simp only [Sg.add, Sg.set, Sg.del]; omega)))
      refine hK24 _ _ ?_
      refine vw_ret ?_
      refine hQ _ _ _ (.inr rfl) (donek_pair (v := .t (tInts (alvS f.lines))) (v' := .ptr r 0) ?_ ?_ rfl rfl ⟨r, na5, rp5, rq5, rfl, hRi.congr fun x y hx _ => aliK_end f hx, ⟨by have := hF5.hp; omega, by have := hF5.ha; omega, fun i hi => by have := hF5.hr i hi; omega, fun i hi => by have := hF5.hq i hi; omega⟩, k0.trans (by omega) (k4.trans (by omega) hki), by omega⟩)
      try simp only [ev_hit, ev_miss, Nat.reduceBEq, lpv, hl, Nat.reduceLT]
      try simp only [ev_hit, lpv, hl, Nat.reduceLT]
end Go.Proofs

open Go Go.V
namespace Go.Proofs
def linS (f : Fl) : Bool := totS (alvS f.lines).length (aliM f)
def ahB (M : Mx) (cls : List (List Int)) (i k : Nat) : Bool := k != i && M ((cls.getD k []).getD 0 0).toNat ((cls.getD i []).getD 0 0).toNat
def fstS (M : Mx) (cls : List (List Int)) (i : Nat) : Bool := !((List.range cls.length).any (ahB M cls i))
def ClsOK (n : Nat) (cls : List (List Int)) : Prop := ∀ (k : Nat) (c : List Int), cls[k]? = some c → ∃ a : Nat, c[0]? = some (a : Int) ∧ a < n
theorem clsAt {n : Nat} {cls : List (List Int)} (h : ClsOK n cls) {k : Nat} (hk : k < cls.length) : ∃ (c : List Int) (a : Nat), cls[k]? = some c ∧ c[0]? = some (a : Int) ∧ a < n ∧ ((cls.getD k []).getD 0 0).toNat = a := by
  have h1 := List.getElem?_eq_getElem hk
  obtain ⟨a, h2, h3⟩ := h k _ h1
  refine ⟨_, a, h1, h2, h3, ?_⟩
  have h4 : cls.getD k [] = cls[k] := by rw [List.getD_eq_getElem?_getD, h1]; rfl
  rw [h4, List.getD_eq_getElem?_getD, h2]; rfl
set_option maxRecDepth 20000 in
theorem vLinear_ (f : Fl) (hf : f.lines.length ≤ 200) (hp0 : f.pairs.length < 1000000000) : PCall Tryd.prog 28 [vFile f] (Bo (linS f)) := by
  refine pcall_of_body Tryd.func28 rfl fun s Q hQ => ?_
  obtain ⟨e, he, hl, h0⟩ : ∃ e : Env, ([vFile f] ++ List.replicate (Tryd.f28.ntmps - ([vFile f] : List V).length) .junk) = e ∧ e.length = 12 ∧ ev e (.tmp 0) = vFile f := ⟨_, rfl, rfl, rfl⟩
  rw [he]
  clear he
  refine vsk fun K1 hK1 => ?_
  refine vw_sc 0 [] ?_
  simp only [bs, ↓vopx, ↓vop, thenV, flat, V.cells, h0, wocs, ↓goc, ↓woc, ↓vopm0]
  repeat ((with_reducible refine And.intro ?_ ?_); · first | (with_reducible assumption) | omega | exact ⟨by omega, by omega⟩ | with_reducible rfl | (repeat' first | exact Keep.refl _ | refine Keep.add ?_ ?_ _ | refine Keep.set ?_ ?_ _ | exact Nat.le_refl _ | (simp only [Sg.add, Sg.set, Sg.del]; omega)))
  refine hK1 _ _ ?_
  refine vsk fun K2 hK2 => ?_
  refine vw_st2 fun s0 hS0 => ?_
  have b0 : s0.m s.next = some (.box 44 [.t (TS f.path), .t (tLines f.lines), .t (tPairs f.pairs)]) := by rw [hS0, m_add, if_pos rfl]
  have n0 : s0.next = s.next + 1 := by rw [hS0]; rfl
  have k0 : Keep s s0 := by rw [hS0]; exact (Keep.refl s).add (Nat.le_refl _) _
  clear hS0
  refine vw_sc 0 [.stop] ?_
  simp only [bs, Nat.reduceAdd, ↓vopx, ↓vop, Nat.reduceBEq, thenV, Nat.reduceLT, dLoad, vpart, hl, wocs, ↓goc, ↓woc, ↓vopm0, ↓callC, calleeV, Tryd.ag44, Tryd.sz44, b0]
  refine ⟨Tryd.is39, (vAlive_ s0 f hf hp0).mono fun v s2 hv => ?_⟩
  obtain ⟨c, na1, rp1, rq1, rfl, hR, hF, hk, hnx⟩ := hv
  try simp only [bs, Nat.reduceBEq, Nat.reduceLT, hl, Hold]
  refine hK2 _ _ ?_
  refine vsk fun K3 hK3 => ?_
  refine vw_sc 0 [.det (Bo (linS f)) s2] ?_
  simp only [bs, ↓vopx, ↓vop, thenV, Nat.reduceLT, hl, wocs, ↓goc, ↓woc, ↓vopm0, ↓callC, calleeV]
  repeat ((with_reducible refine And.intro ?_ ?_); · first | (with_reducible assumption) | omega | exact ⟨by omega, by omega⟩ | exact ⟨Tryd.is40, oTotal_ s2 c _ _ na1 rp1 rq1 hR⟩ | with_reducible rfl | (repeat' first | exact Keep.refl _ | refine Keep.add ?_ ?_ _ | refine Keep.set ?_ ?_ _ | exact Nat.le_refl _ | (simp only [Sg.add, Sg.set, Sg.del]; omega)))
  refine hK3 _ _ ?_
  refine vw_ret ?_
  refine hQ _ _ _ (.inr rfl) (done_tmp ?_ (k0.trans (by omega) hk))
  try simp only [ev_hit, lpv, hl, Nat.reduceLT]
end Go.Proofs

open Go Go.V
namespace Go.Proofs
def clB (M : Mx) (i b : Nat) : Bool := decide (i < b) && (M i b && M b i)
def cirC (M : Mx) (i k : Nat) : List Int := (i : Int) :: ((List.range k).filter (clB M i)).map fun (b : Nat) => (b : Int)
def seeC (f : Nat → Bool) (M : Mx) (i k : Nat) : Nat → Bool := fun b => f b || (decide (b < k) && clB M i b)
def cirK (n : Nat) (M : Mx) : Nat → List (List Int) × (Nat → Bool)
  | 0 => ([], fun _ => false)
  | i + 1 => if (cirK n M i).2 i = true then cirK n M i else ((cirK n M i).1 ++ [cirC M i n], seeC (cirK n M i).2 M i n)
def cirS (n : Nat) (M : Mx) : List (List Int) := (cirK n M n).1
theorem cirC_yes {M : Mx} {i k : Nat} (h : clB M i k = true) : cirC M i (k + 1) = cirC M i k ++ [(k : Int)] := by simp [cirC, List.range_succ, List.filter_append, h]
theorem cirC_no {M : Mx} {i k : Nat} (h : clB M i k = false) : cirC M i (k + 1) = cirC M i k := by simp [cirC, List.range_succ, List.filter_append, h]
theorem cirC_len (M : Mx) (i k : Nat) : (cirC M i k).length ≤ k + 1 := by
  have := List.length_filter_le (clB M i) (List.range k)
  simp [cirC] at this ⊢; omega
theorem seeC_yes {f : Nat → Bool} {M : Mx} {i k : Nat} (h : clB M i k = true) : seeC f M i (k + 1) = updB (seeC f M i k) k true := by
  funext b
  unfold updB seeC
  by_cases hb : b = k
  · subst hb; simp [h]
  · simp [hb, show (b < k + 1) = (b < k) from propext (by omega)]
theorem seeC_no {f : Nat → Bool} {M : Mx} {i k : Nat} (h : clB M i k = false) : seeC f M i (k + 1) = seeC f M i k := by
  funext b
  unfold seeC
  by_cases hb : b = k
  · subst hb; simp [h]
  · simp [show (b < k + 1) = (b < k) from propext (by omega)]
theorem cirK_len (n : Nat) (M : Mx) : ∀ i, (cirK n M i).1.length ≤ i
  | 0 => Nat.le_refl _
  | i + 1 => by
    have := cirK_len n M i
    simp only [cirK]; split
    · omega
    · simp; omega
def seenL (n : Nat) (f : Nat → Bool) : List T := (List.range n).map fun j => TBo (f j)
theorem seenL_len (n : Nat) (f : Nat → Bool) : (seenL n f).length = n := by simp [seenL]
theorem seenL_at {n : Nat} (f : Nat → Bool) {i : Nat} (h : i < n) : (seenL n f)[i]? = some (TBo (f i)) := by simp [seenL, h]
theorem seenL_set {n : Nat} (f : Nat → Bool) {i : Nat} (h : i < n) (b : Bool) : setAll (seenL n f) i [TBo b] = seenL n (updB f i b) := by
  rw [setAll_one _ _ _ (by rw [seenL_len]; exact h)]
  apply List.ext_getElem?
  intro j
  rw [List.getElem?_set]
  unfold seenL updB
  by_cases hj : i = j
  · subst hj; simp [h]
  · rw [if_neg hj]
    by_cases hjn : j < n
    · simp [hjn, Ne.symm hj]
    · simp [hjn]
structure CirS (s : Sg) (p n : Nat) (out : List (List Int)) (seen : Nat → Bool) (mo : Nat) (s' : Sg) : Prop where
  hr : s'.m s.next = some (.box 86 [.ptr p 0])
  hs : s'.m (s.next + 2) = some (.box 132 [.loc (s.next + 1) 0 n])
  ha : s'.m (s.next + 1) = some (.arr 1 4 (seenL n seen))
  ho : s'.m mo = some (.arr 1 85 (out.map tInts))
  hk : Keep s s'
  lo : s.next + 2 < mo ∧ mo < s'.next
def CirR (s : Sg) (n : Nat) (M : Mx) (v : V) (s' : Sg) : Prop := ∃ mo, v = .loc mo 0 (cirS n M).length ∧ s'.m mo = some (.arr 1 85 ((cirS n M).map tInts)) ∧ Keep s s' ∧ s.next ≤ mo ∧ mo < s'.next
theorem CirS.fr {s : Sg} {p n : Nat} {out : List (List Int)} {seen : Nat → Bool} {mo : Nat} {s1 s2 : Sg} (h : CirS s p n out seen mo s1) (hn : s1.next ≤ s2.next) (hm : ∀ x, x ≤ s.next + 2 ∨ x = mo → s2.m x = s1.m x) : CirS s p n out seen mo s2 := by
  obtain ⟨h1, h2, h3, h4, h5, h6⟩ := h
  exact ⟨by rw [hm _ (by omega)]; exact h1, by rw [hm _ (by omega)]; exact h2, by rw [hm _ (by omega)]; exact h3, by rw [hm _ (by omega)]; exact h4, fun x b hx hb => by rw [hm _ (by omega)]; exact h5 x b hx hb, h6.1, by omega⟩
structure CirC (s : Sg) (p n : Nat) (out : List (List Int)) (seen : Nat → Bool) (mo i b5 ra n0 : Nat) (lp : Blk) (cls : List Int) (mc : Nat) (s' : Sg) : Prop where
  o : CirS s p n out seen mo s'
  h5 : s'.m b5 = some (.box 3 [I i])
  h6 : s'.m (b5 + 2) = some (.box 85 [.loc mc 0 cls.length])
  hc : s'.m mc = some (.arr 1 3 (cls.map TI))
  hb : s'.m (b5 + 3) = some (.box 127 [.ptr ra 0])
  hl : s'.m n0 = some lp
  l : mo < b5 ∧ n0 = b5 + 4 ∧ n0 < s'.next ∧ b5 < mc ∧ mc < s'.next ∧ mc ≠ b5 + 2 ∧ mc ≠ b5 + 3 ∧ mc ≠ n0
section
variable {s : Sg} {p n : Nat} {out : List (List Int)} {seen : Nat → Bool} {mo i b5 ra n0 : Nat} {lp lp2 : Blk} {cls : List Int} {mc : Nat} {s1 : Sg}
theorem CirC.setl (h : CirC s p n out seen mo i b5 ra n0 lp cls mc s1) (lp2 : Blk) : CirC s p n out seen mo i b5 ra n0 lp2 cls mc (s1.set n0 lp2) := by
  obtain ⟨o, h5, h6, hc, hb, hl, l1, l2, l3, l4, l5, l6, l7, l8⟩ := h
  have lo := o.lo
  refine ⟨o.fr (Nat.le_refl _) fun x hx => by rw [m_set, if_neg (by omega)], ?_, ?_, ?_, ?_, ?_, l1, l2, l3, l4, l5, l6, l7, l8⟩
  · rw [m_set, if_neg (by omega)]; exact h5
  · rw [m_set, if_neg (by omega)]; exact h6
  · rw [m_set, if_neg (by omega)]; exact hc
  · rw [m_set, if_neg (by omega)]; exact hb
  · rw [m_set, if_pos rfl]
theorem CirC.push (h : CirC s p n out seen mo i b5 ra n0 lp cls mc s1) (B : Blk) (z : Int) : CirC s p n out seen mo i b5 ra n0 lp (cls ++ [z]) (s1.next + 1) ((((s1.add B).del mc).add (.arr 1 3 (cls.map TI ++ [TI z]))).set (b5 + 2) (.box 85 [.loc (s1.next + 1) 0 (cls.length + 1)])) := by
  obtain ⟨o, h5, h6, hc, hb, hl, l1, l2, l3, l4, l5, l6, l7, l8⟩ := h
  have lo := o.lo
  have hfr : ∀ x, x < s1.next → x ≠ mc → x ≠ b5 + 2 → ((((s1.add B).del mc).add (.arr 1 3 (cls.map TI ++ [TI z]))).set (b5 + 2) (.box 85 [.loc (s1.next + 1) 0 (cls.length + 1)])).m x = s1.m x := fun x g1 g2 g3 => by
    rw [m_set, if_neg g3, m_add, if_neg (by simp only [n_del, n_add]; omega), m_del, if_neg g2, m_add, if_neg (by omega)]
  refine ⟨o.fr (by simp only [n_set, n_add, n_del]; omega) fun x hx => hfr x (by omega) (by omega) (by omega), ?_, ?_, ?_, ?_, ?_, l1, l2, ?_, ?_, ?_, ?_, ?_, ?_⟩
  · rw [hfr _ (by omega) (by omega) (by omega)]; exact h5
  · rw [m_set, if_pos rfl, List.length_append]; rfl
  · rw [m_set, if_neg (by omega), m_add, if_pos (by simp only [n_del, n_add]), List.map_append]; rfl
  · rw [hfr _ (by omega) (by omega) (by omega)]; exact hb
  · rw [hfr _ (by omega) (by omega) (by omega)]; exact hl
  all_goals first | omega | (simp only [n_set, n_add, n_del]; omega)
theorem CirC.see (h : CirC s p n out seen mo i b5 ra n0 lp cls mc s1) {k : Nat} (hk : k < n) : CirC s p n out (updB seen k true) mo i b5 ra n0 lp cls mc (s1.set (s.next + 1) (.arr 1 4 (seenL n (updB seen k true)))) := by
  obtain ⟨⟨g1, g2, g3, g4, g5, g6⟩, h5, h6, hc, hb, hl, l1, l2, l3, l4, l5, l6, l7, l8⟩ := h
  have hfr : ∀ x, x ≠ s.next + 1 → (s1.set (s.next + 1) (.arr 1 4 (seenL n (updB seen k true)))).m x = s1.m x := fun x hx => by rw [m_set, if_neg hx]
  refine ⟨⟨?_, ?_, ?_, ?_, fun x b hx hb => ?_, g6⟩, ?_, ?_, ?_, ?_, ?_, l1, l2, l3, l4, l5, l6, l7, l8⟩
  · rw [hfr _ (by omega)]; exact g1
  · rw [hfr _ (by omega)]; exact g2
  · rw [m_set, if_pos rfl]
  · rw [hfr _ (by omega)]; exact g4
  · rw [hfr _ (by omega)]; exact g5 x b hx hb
  · rw [hfr _ (by omega)]; exact h5
  · rw [hfr _ (by omega)]; exact h6
  · rw [hfr _ (by omega)]; exact hc
  · rw [hfr _ (by omega)]; exact hb
  · rw [hfr _ (by omega)]; exact hl
theorem CirC.put (h : CirC s p n out seen mo i b5 ra n0 lp cls mc s1) (B : Blk) : CirS s p n (out ++ [cls]) seen (s1.next + 1) (((((s1.del n0).del mc).add B).del mo).add (.arr 1 85 (out.map tInts ++ [tInts cls]))) := by
  obtain ⟨⟨g1, g2, g3, g4, g5, g6⟩, h5, h6, hc, hb, hl, l1, l2, l3, l4, l5, l6, l7, l8⟩ := h
  have hfr : ∀ x, x < s1.next → x ≠ mo → x ≠ mc → x ≠ n0 → (((((s1.del n0).del mc).add B).del mo).add (.arr 1 85 (out.map tInts ++ [tInts cls]))).m x = s1.m x := fun x q1 q2 q3 q4 => by
    rw [m_add, if_neg (by simp only [n_del, n_add]; omega), m_del, if_neg q2, m_add, if_neg (by simp only [n_del]; omega), m_del, if_neg q3, m_del, if_neg q4]
  refine ⟨?_, ?_, ?_, ?_, fun x b hx hb => ?_, by omega, by simp only [n_add, n_del]; omega⟩
  · rw [hfr _ (by omega) (by omega) (by omega) (by omega)]; exact g1
  · rw [hfr _ (by omega) (by omega) (by omega) (by omega)]; exact g2
  · rw [hfr _ (by omega) (by omega) (by omega) (by omega)]; exact g3
  · rw [m_add, if_pos (by simp only [n_del, n_add]), List.map_append]; rfl
  · rw [hfr _ (by omega) (by omega) (by omega) (by omega)]; exact g5 x b hx hb
end
set_option maxRecDepth 20000 in
theorem relBehind_ (s : Sg) (p n : Nat) (M : Mx) (na : Nat) (rp rq : Nat → Nat) (h : RelP s p n M na rp rq) (a : Nat) (ha : a < n) : VCall Tryd.prog 80 [.ptr p 0, I a] s (fun v s' => v = .clo 92 [.ptr s.next 0] ∧ s' = s.add (.box 127 [.ptr (rp a) 0])) := by
  refine kcall_of_body Tryd.func80 rfl fun Q hQ => ?_
  obtain ⟨e, he, hl, h0, h1⟩ : ∃ e : Env, ([.ptr p 0, I a] ++ List.replicate (Tryd.f80.ntmps - ([.ptr p 0, I a] : List V).length) .junk) = e ∧ e.length = 17 ∧ ev e (.tmp 0) = .ptr p 0 ∧ ev e (.tmp 1) = I a := ⟨_, rfl, rfl, rfl, rfl⟩
  rw [he]
  clear he
  have hp0 := h.hp
  have ha0 := h.ha
  have ga : (List.range n)[a]? = some a := List.getElem?_range ha
  refine vsk fun K1 hK1 => ?_
  refine vw_sc 0 [] ?_
  simp only [bs, ↓vopx, ↓vop, thenV, flat, wocs, ↓goc, ↓woc, ↓vopm0]
  repeat ((with_reducible refine And.intro ?_ ?_); · first | (with_reducible assumption) | omega | exact ⟨by omega, by omega⟩ | with_reducible rfl | (repeat' first | exact Keep.refl _ | refine Keep.add ?_ ?_ _ | refine Keep.set ?_ ?_ _ | exact Nat.le_refl _ | (simp only [Sg.add, Sg.set, Sg.del]; omega)))
  refine hK1 _ _ ?_
  refine vsk fun K2 hK2 => ?_
  refine vsk fun K3 hK3 => ?_
  refine vw_sc 0 [.det (Bo true) s] ?_
  simp only [bs, ↓vopx, ↓vop, Nat.reduceBEq, thenV, Nat.reduceLT, hl, h0, h1, wocs, ↓goc, ↓woc, ↓vopm0, ↓callC, calleeV]
  repeat ((with_reducible refine And.intro ?_ ?_); · first | (with_reducible assumption) | omega | exact ⟨by omega, by omega⟩ | exact ⟨Tryd.is75, by have := relThere_ s p n na hp0 a; rw [decide_eq_true (show 0 ≤ (a : Int) ∧ (a : Int) < n by omega)] at this; exact this⟩ | with_reducible rfl | (repeat' first | exact Keep.refl _ | refine Keep.add ?_ ?_ _ | refine Keep.set ?_ ?_ _ | exact Nat.le_refl _ | (simp only [Sg.add, Sg.set, Sg.del]; omega)))
  refine hK3 _ _ ?_
  refine vck fun A B hA hB => ?_
  simp only [condV, ev_hit, lpv, Nat.reduceLT, true_implies, reduceCtorEq, false_implies, true_and, hl]
  refine hB ?_
  clear hA hB A B
  refine vw_skip ?_
  refine hK2 _ _ ?_
  refine vsk fun K4 hK4 => ?_
  refine vw_sc 0 [.stop] ?_
  simp only [bs, Nat.reduceAdd, dSure, ↓vopx, ↓vop, Nat.reduceBEq, thenV, Nat.reduceLT, dLoad, vpart, hl, h0, h1, wocs, ↓goc, ↓woc, ↓vopm0, ↓callC, calleeV, Tryd.ag124, Tryd.ag127, Tryd.fd126_0, Tryd.sz124, Tryd.sz127, Tryd.un124, hp0, ha0, ga]
  refine ⟨by omega, Tryd.is88, (bitsEach_ s (rp a)).mono fun v s2 hv => ?_⟩
  obtain ⟨rfl, rfl⟩ := hv
  try simp only [bs, Nat.reduceBEq, Nat.reduceLT, hl, h0, h1, Hold]
  refine hK4 _ _ ?_
  refine vw_ret ?_
  refine hQ _ _ _ (.inr rfl) (donek_tmp (v := .clo 92 [.ptr s.next 0]) ?_ rfl ⟨rfl, rfl⟩)
  try simp only [ev_hit, lpv, hl, Nat.reduceLT]
set_option maxRecDepth 20000 in
set_option maxHeartbeats 4000000 in
theorem oCircles_ (s : Sg) (p n : Nat) (M : Mx) (na : Nat) (rp rq : Nat → Nat) (h : RelP s p n M na rp rq) : VCall Tryd.prog 57 [.ptr p 0] s (CirR s n M) := by
  refine kcall_of_body Tryd.func57 rfl fun Q hQ => ?_
  obtain ⟨e, he, hl, h0⟩ : ∃ e : Env, ([.ptr p 0] ++ List.replicate (Tryd.f57.ntmps - ([.ptr p 0] : List V).length) .junk) = e ∧ e.length = 48 ∧ ev e (.tmp 0) = .ptr p 0 := ⟨_, rfl, rfl, rfl⟩
  rw [he]
  clear he
  have hle := h.le
  have hlp := h.lp
  refine vsk fun K1 hK1 => ?_
  refine vw_sc 0 [] ?_
  simp only [bs, ↓vopx, ↓vop, thenV, flat, V.cells, h0, wocs, ↓goc, ↓woc, ↓vopm0]
  repeat ((with_reducible refine And.intro ?_ ?_); · first | (with_reducible assumption) | omega | exact ⟨by omega, by omega⟩ | with_reducible rfl | (repeat' first | exact Keep.refl _ | refine Keep.add ?_ ?_ _ | refine Keep.set ?_ ?_ _ | exact Nat.le_refl _ | (simp only [Sg.add, Sg.set, Sg.del]; omega)))
  refine hK1 _ _ ?_
  refine vw_scope ?_
  refine vsk fun K2 hK2 => ?_
  refine vw_sc 0 [] ?_
  simp only [bs, ↓vopx, ↓vop, thenV, flat, wocs, ↓goc, ↓woc, ↓vopm0]
  repeat ((with_reducible refine And.intro ?_ ?_); · first | (with_reducible assumption) | omega | exact ⟨by omega, by omega⟩ | with_reducible rfl | (repeat' first | exact Keep.refl _ | refine Keep.add ?_ ?_ _ | refine Keep.set ?_ ?_ _ | exact Nat.le_refl _ | (simp only [Sg.add, Sg.set, Sg.del]; omega)))
  refine hK2 _ _ ?_
  refine vsk fun K3 hK3 => ?_
  refine vw_sc 0 [.det (I n) (s.add (.box 86 [.ptr p 0]))] ?_
  simp only [bs, ↓vopx, ↓vop, Nat.reduceBEq, thenV, Nat.reduceLT, V.cells, dLoad, vpart, hl, wocs, ↓goc, ↓woc, ↓vopm0, ↓callC, calleeV, Tryd.ag86, Tryd.sl132, Tryd.sz132, Tryd.sz86, Tryd.zv132, nns, repl_one]
  repeat ((with_reducible refine And.intro ?_ ?_); · first | (with_reducible assumption) | omega | exact ⟨by omega, by omega⟩ | exact ⟨Tryd.is56, relLen_ _ p n na (by rw [m_add, if_neg (by omega)]; exact h.hp)⟩ | with_reducible rfl | (repeat' first | exact Keep.refl _ | refine Keep.add ?_ ?_ _ | refine Keep.set ?_ ?_ _ | exact Nat.le_refl _ | (simp only [Sg.add, Sg.set, Sg.del]; omega)))
  refine hK3 _ _ ?_
  refine vsk fun K4 hK4 => ?_
  refine vw_label ?_
  try simp only [thenV]
  refine hK4 _ _ ?_
  refine vsk fun K5 hK5 => ?_
  refine vsk fun K6 hK6 => ?_
  refine VW.name 3 1 85 (by omega) (by simp only [ev_hit, ev_miss, Nat.reduceBEq, lpv, hl, Nat.reduceLT]) ?_
  refine vw_st2 fun s2 hS2 => ?_
  have hC0 : CirS s p n [] (fun _ => false) (s.next + 3) s2 := by
    refine ⟨?_, ?_, ?_, ?_, fun x b hx hb => ?_, by omega, ?_⟩
    · rw [hS2]; simp only [m_set, m_add, n_add, n_set, nns, if_true, if_false]; try rfl
    · rw [hS2]; simp only [m_set, m_add, n_add, n_set, nns, if_true, if_false]; try rfl
    · rw [hS2]; simp only [m_set, m_add, n_add, n_set, nns, if_true, if_false]; rw [seenL, List.map_const', List.length_range]; try simp [repl_one]
    · rw [hS2]; simp only [m_set, m_add, n_add, n_set, nns, if_true, if_false]; try rfl
    · have z1 : ¬ x = s.next := (by omega); have z2 : ¬ x = s.next + 1 := (by omega); have z3 : ¬ x = s.next + 1 + 1 := (by omega); have z4 : ¬ x = s.next + 1 + 1 + 1 := (by omega); rw [hS2]; simp only [m_set, m_add, n_add, n_set, z1, z2, z3, z4, if_false]; exact hb
    · rw [hS2]; simp only [n_add, n_set]; omega
  have xs := hC0.hs
  clear hS2
  refine vw_sc 0 [] ?_
  simp only [bs, ↓vopx, ↓vop, Nat.reduceBEq, thenV, flat, Nat.reduceLT, dLoad, vpart, hl, wocs, ↓goc, ↓woc, ↓vopm0, Tryd.ag132, Tryd.sz132, Tryd.un132, xs]
  repeat ((with_reducible refine And.intro ?_ ?_); · first | (with_reducible assumption) | omega | exact ⟨by omega, by omega⟩ | with_reducible rfl | (repeat' first | exact Keep.refl _ | refine Keep.add ?_ ?_ _ | refine Keep.set ?_ ?_ _ | exact Nat.le_refl _ | (simp only [Sg.add, Sg.set, Sg.del]; omega)))
  refine hK6 _ _ ?_
  refine vw_block ?_
  refine vw_loop (fun mm e' s' => ∃ i : Nat, mm = n - i ∧ i ≤ n ∧ e'.length = 48 ∧ ev e' (.tmp 1) = .ptr s.next 0 ∧ ev e' (.tmp 4) = .ptr (s.next + 2) 0 ∧ ev e' (.tmp 12) = I n ∧ ev e' (.tmp 13) = I i ∧ True ∧ ∃ mo, ev e' (.tmp 3) = .loc mo 0 (cirK n M i).1.length ∧ CirS s p n (cirK n M i).1 (cirK n M i).2 mo s') (⟨0, rfl, Nat.zero_le _, ?_⟩) ?_
  · try simp only [ev_hit, ev_miss, Nat.reduceBEq, lpv, hl, Nat.reduceLT, true_and]
    repeat ((with_reducible refine And.intro ?_ ?_); · first | trivial | assumption | omega | rfl | (push_cast; rfl) | exact ⟨by omega, by omega⟩)
    exact ⟨_, rfl, hC0⟩
  rintro mm e s1 ⟨i, rfl, hle_i, hl, k1, k4, k12, h_i, hst, ⟨mo, k3, hC⟩⟩
  refine vsk fun K7 hK7 => ?_
  refine vw_sc 0 [] ?_
  simp only [thenV, opII, k12, h_i, wocs, ↓goc, ↓woc]
  repeat ((with_reducible refine And.intro ?_ ?_); · first | (with_reducible assumption) | omega | exact ⟨by omega, by omega⟩ | with_reducible rfl | (repeat' first | exact Keep.refl _ | refine Keep.add ?_ ?_ _ | refine Keep.set ?_ ?_ _ | exact Nat.le_refl _ | (simp only [Sg.add, Sg.set, Sg.del]; omega)))
  refine hK7 _ _ ?_
  refine vsk fun K8 hK8 => ?_
  refine vck fun A B hA hB => ?_
  simp only [condV, ev_hit, Nat.reduceLT, decide_eq_true_eq, decide_eq_false_iff_not, hl]
  refine ⟨fun hc14 => hA ?_, fun hc14 => hB ?_⟩
  · clear hA hB A B
    refine vw_skip ?_
    refine hK8 _ _ ?_
    refine vsk fun K9 hK9 => ?_
    refine vw_block ?_
    refine vsk fun K10 hK10 => ?_
    refine vw_sc 0 [] ?_
    simp only [bs, ↓vopx, ↓vop, Nat.reduceBEq, thenV, Nat.reduceLT, V.cells, hl, h_i, wocs, ↓goc, ↓woc, ↓vopm0, Tryd.sz3, Tryd.zv3]
    repeat ((with_reducible refine And.intro ?_ ?_); · first | (with_reducible assumption) | omega | exact ⟨by omega, by omega⟩ | with_reducible rfl | (repeat' first | exact Keep.refl _ | refine Keep.add ?_ ?_ _ | refine Keep.set ?_ ?_ _ | exact Nat.le_refl _ | (simp only [Sg.add, Sg.set, Sg.del]; omega)))
    refine hK10 _ _ ?_
    refine vsk fun K11 hK11 => ?_
    refine vsk fun K12 hK12 => ?_
    have hin : i < n := by omega
    have hlo := hC.lo
    refine vw_st2 fun s5 hS => ?_
    have hC5 : CirS s p n (cirK n M i).1 (cirK n M i).2 mo s5 := by rw [hS]; exact hC.fr (by simp only [n_set, n_add]; omega) fun x hx => by rw [m_set, if_neg (by omega), m_add, if_neg (by omega)]
    have n5 : s5.next = s1.next + 1 := by rw [hS]; simp only [n_set, n_add]
    have b5 : s5.m s1.next = some (.box 3 [I i]) := by rw [hS, m_set, if_pos rfl]; try rfl
    clear hS
    have xs := hC5.hs
    have xa := hC5.ha
    have xl := seenL_len n (cirK n M i).2
    have xg := seenL_at (cirK n M i).2 hin
    rcases Bool.eq_false_or_eq_true ((cirK n M i).2 i) with hsn | hsn
    · have hK : cirK n M (i + 1) = cirK n M i := by simp only [cirK, hsn, if_true]
      refine vw_sc 0 [] ?_
      simp only [bs, ↓vopx, ↓vop, Nat.reduceBEq, thenV, Nat.reduceLT, dLoad, vpart, hl, k4, wocs, ↓goc, ↓woc, ↓vopm0, Tryd.ag132, Tryd.ag3, Tryd.ag4, Tryd.sz132, Tryd.sz3, Tryd.sz4, Tryd.un132, xs, xa, xg, b5, hsn]
      repeat ((with_reducible refine And.intro ?_ ?_); · first | (with_reducible assumption) | omega | exact ⟨by omega, by omega⟩ | with_reducible rfl | (repeat' first | exact Keep.refl _ | refine Keep.add ?_ ?_ _ | refine Keep.set ?_ ?_ _ | exact Nat.le_refl _ | (simp only [Sg.add, Sg.set, Sg.del]; omega)))
      refine hK12 _ _ ?_
      refine vck fun A B hA hB => ?_
      simp only [condV, ev_hit, lpv, Nat.reduceLT, true_implies, reduceCtorEq, false_implies, and_true, hl]
      refine hA ?_
      clear hA hB A B
      refine vw_exit ?_
      simp only [thenV, blockV, noGoto, if_true, if_false, reduceCtorEq]
      refine hK9 _ _ ?_
      refine vw_sc 0 [] ?_
      simp only [bs, ↓vopx, ↓vop, Nat.reduceBEq, thenV, flat, Nat.reduceLT, opII, hl, k1, k4, k12, h_i, k3, wocs, ↓goc, ↓woc, ↓vopm0]
      repeat ((with_reducible refine And.intro ?_ ?_); · first | (with_reducible assumption) | omega | exact ⟨by omega, by omega⟩ | with_reducible rfl | (repeat' first | exact Keep.refl _ | refine Keep.add ?_ ?_ _ | refine Keep.set ?_ ?_ _ | exact Nat.le_refl _ | (simp only [Sg.add, Sg.set, Sg.del]; omega)))
      refine ⟨n - (i + 1), by omega, i + 1, rfl, by omega, ?_⟩
      try simp only [ev_hit, ev_miss, Nat.reduceBEq, lpv, hl, k1, k4, k12, h_i, k3, if_true, if_false, Nat.reduceEqDiff, Nat.reduceLT, true_and, and_true]
      repeat ((with_reducible refine And.intro ?_ ?_); · first | trivial | assumption | omega | rfl | (push_cast; rfl) | exact ⟨by omega, by omega⟩)
      simp only [hK]
      first | exact ⟨_, rfl, hC5⟩ | exact ⟨s6.next + 1, by rw [List.length_append]; rfl, h6.put _⟩
    · have hK : cirK n M (i + 1) = ((cirK n M i).1 ++ [cirC M i n], seeC (cirK n M i).2 M i n) := by simp only [cirK, hsn]; rfl
      refine vw_sc 0 [] ?_
      simp only [bs, ↓vopx, ↓vop, Nat.reduceBEq, thenV, Nat.reduceLT, dLoad, vpart, hl, k4, wocs, ↓goc, ↓woc, ↓vopm0, Tryd.ag132, Tryd.ag3, Tryd.ag4, Tryd.sz132, Tryd.sz3, Tryd.sz4, Tryd.un132, xs, xa, xg, b5, hsn]
      repeat ((with_reducible refine And.intro ?_ ?_); · first | (with_reducible assumption) | omega | exact ⟨by omega, by omega⟩ | with_reducible rfl | (repeat' first | exact Keep.refl _ | refine Keep.add ?_ ?_ _ | refine Keep.set ?_ ?_ _ | exact Nat.le_refl _ | (simp only [Sg.add, Sg.set, Sg.del]; omega)))
      refine hK12 _ _ ?_
      refine vck fun A B hA hB => ?_
      simp only [condV, ev_hit, lpv, Nat.reduceLT, true_implies, reduceCtorEq, false_implies, true_and, hl]
      refine hB ?_
      clear hA hB A B
      refine vw_skip ?_
      refine hK11 _ _ ?_
      refine vsk fun K13 hK13 => ?_
      refine vw_sc 0 [] ?_
      simp only [bs, Nat.reduceLeDiff, vparts, gfill, repl, Sg.frzP, ↓vopx, ↓vop, Nat.reduceBEq, thenV, Nat.reduceLT, V.cells, dLoad, vpart, Sg.frzL, Sg.frz1, hl, wocs, ↓goc, ↓woc, ↓vopm0, Tryd.ag3, Tryd.sl85, Tryd.sz3, Tryd.sz85, Tryd.zv85, nns, b5]
      repeat ((with_reducible refine And.intro ?_ ?_); · first | (with_reducible assumption) | omega | exact ⟨by omega, by omega⟩ | with_reducible rfl | (repeat' first | exact Keep.refl _ | refine Keep.add ?_ ?_ _ | refine Keep.set ?_ ?_ _ | exact Nat.le_refl _ | (simp only [Sg.add, Sg.set, Sg.del]; omega)))
      refine hK13 _ _ ?_
      refine vsk fun K14 hK14 => ?_
      refine vsk fun K15 hK15 => ?_
      refine vw_st2 fun s7 hS => ?_
      have c7 : s7.m (s1.next + 2) = some (.box 85 [.loc (s1.next + 1) 0 1]) := by rw [hS]; simp only [m_set, m_add, n_add, n5, nns, if_true, if_false]; try rfl
      have d7 : s7.m (s1.next + 1) = some (.arr 1 3 [TI i]) := by rw [hS]; simp only [m_set, m_add, n_add, n5, nns, if_true, if_false]; try rfl
      have n7 : s7.next = s1.next + 3 := by rw [hS]; simp only [n_set, n_add, n5]
      have f7 : ∀ x, x < s1.next + 1 → s7.m x = s5.m x := fun x hx => by have z1 : ¬ x = s1.next + 1 := (by omega); have z2 : ¬ x = s1.next + 1 + 1 := (by omega); rw [hS]; simp only [m_set, m_add, n_add, n5, z1, z2, if_false]
      clear hS
      have hC7 := hC5.fr (s2 := s7) (by omega) fun x hx => f7 x (by omega)
      have b7 : s7.m s1.next = some (.box 3 [I i]) := (f7 _ (by omega)).trans b5
      have xr := hC7.hr
      refine vw_sc 0 [.stop] ?_
      simp only [bs, ↓vopx, ↓vop, Nat.reduceBEq, thenV, Nat.reduceLT, dLoad, vpart, hl, k1, wocs, ↓goc, ↓woc, ↓vopm0, ↓callC, calleeV, Tryd.ag86, Tryd.ag3, Tryd.sz86, Tryd.sz3, xr, b7]
      refine ⟨Tryd.is80, (relBehind_ s7 p n M na rp rq (h.keep hC7.hk (by omega)) i hin).mono fun v s8 hv => ?_⟩
      obtain ⟨rfl, rfl⟩ := hv
      try simp only [Hold]
      refine hK15 _ _ ?_
      refine vw_block ?_
      refine vw_env2 fun e1 s3 hE hS => ?_
      have hlE : e1.length = 48 := by rw [hE]; simp only [lpv, hl]
      have k1E : ev e1 (.tmp 1) = .ptr s.next 0 := by rw [hE]; simp only [ev_miss, Nat.reduceBEq, k1]
      have k3E : ev e1 (.tmp 3) = .loc mo 0 (cirK n M i).1.length := by rw [hE]; simp only [ev_miss, Nat.reduceBEq, k3]
      have k4E : ev e1 (.tmp 4) = .ptr (s.next + 2) 0 := by rw [hE]; simp only [ev_miss, Nat.reduceBEq, k4]
      have h5E : ev e1 (.tmp 5) = .ptr s1.next 0 := by rw [hE]; simp only [ev_hit, ev_miss, Nat.reduceBEq, lpv, hl, Nat.reduceLT]
      have h6E : ev e1 (.tmp 6) = .ptr (s5.next + 1) 0 := by rw [hE]; simp only [ev_hit, ev_miss, Nat.reduceBEq, lpv, hl, Nat.reduceLT]
      have k12E : ev e1 (.tmp 12) = I n := by rw [hE]; simp only [ev_miss, Nat.reduceBEq, k12]
      have h_iE : ev e1 (.tmp 13) = I i := by rw [hE]; simp only [ev_miss, Nat.reduceBEq, h_i]
      have h24E : ev e1 (.tmp 24) = .clo 92 [.ptr s7.next 0] := by rw [hE]; simp only [ev_hit, lpv, hl, Nat.reduceLT]
      clear hE
      rw [n5] at h6E
      have h6E : ev e1 (.tmp 6) = .ptr (s1.next + 2) 0 := h6E
      rw [n7] at h24E
      have n3 : s3.next = s1.next + 4 := by rw [hS]; simp only [n_add]; omega
      have f3 : ∀ x, x < s1.next + 3 → s3.m x = s7.m x := fun x hx => by rw [hS, m_add, if_neg (by omega)]
      have b3 : s3.m (s1.next + 3) = some (.box 127 [.ptr (rp i) 0]) := by rw [hS, m_add, if_pos (by omega)]
      clear hS
      refine vw_range (g := 92) (caps := [.ptr (s1.next + 3) 0]) h24E Tryd.func92 rfl (by decide) fun s4 h4e h4n h4m h4l => ?_
      obtain ⟨lp0, hlp0⟩ : ∃ lp0, s4.m s3.next = some lp0 := ⟨_, h4l⟩
      have hst : CirC s p n (cirK n M i).1 (seeC (cirK n M i).2 M i 0) mo i s1.next (rp i) s3.next lp0 (cirC M i 0) (s1.next + 1) s4 := by
        have hz : seeC (cirK n M i).2 M i 0 = (cirK n M i).2 := by funext b; simp [seeC]
        rw [hz]
        refine ⟨hC7.fr (by omega) fun x hx => by rw [h4m _ (by omega)]; exact f3 x (by omega), by rw [h4m _ (by omega)]; exact (f3 _ (by omega)).trans b7, by rw [h4m _ (by omega)]; exact (f3 _ (by omega)).trans c7, by rw [h4m _ (by omega)]; exact (f3 _ (by omega)).trans d7, by rw [h4m _ (by omega)]; exact b3, hlp0, by omega, by omega, by omega, by omega, by omega, by omega, by omega, by omega⟩
      refine (bitsEach1_ s3.next (s1.next + 3) (rp i) (rq i) n (M i) (fun k s5 => ∃ mc, CirC s p n (cirK n M i).1 (seeC (cirK n M i).2 M i k) mo i s1.next (rp i) s3.next lp0 (cirC M i k) mc s5) (fun _ => False) (fun k s5 hk => ?_) (fun k s5 hkn hg hk => ?_) (fun k s5 hkn hg hk => ?_) s4 ⟨_, hst⟩).mono fun v s6 h6 => ?_
      · obtain ⟨mc, hk⟩ := hk; exact ⟨hk.hb, (h.keep hk.o.hk (by have := hk.o.lo; omega)).row hin⟩
      · obtain ⟨mc, hk⟩ := hk; have hb : clB M i k = false := (by simp [clB, hg]); exact ⟨mc, by rw [seeC_no hb, cirC_no hb]; exact hk⟩
      rotate_left
      · rcases h6 with h6 | h6
        rotate_left
        · exact h6.elim
        obtain ⟨mc, h6⟩ := h6
        refine ⟨none, .ready, h6.hl.trans (hlp0.symm.trans h4l), by simp, ?_⟩
        simp only []
        refine hK14 _ _ ?_
        have y6 := h6.h6
        have yc := h6.hc
        have yo := h6.o.ho
        have yl := h6.l
        have ylo := h6.o.lo
        have hcl := cirC_len M i n
        have hol := cirK_len n M i
        have w1 : ¬ s1.next + 2 = s3.next := by omega
        have w2 : ¬ mc = s3.next := by omega
        have w3 : ¬ mo = s3.next := by omega
        have w4 : ¬ mo = mc := by omega
        have w5 : ¬ mo = s6.next := by omega
        have w6 : ¬ s6.next = mo := by omega
        have w7 : ¬ mc = mo := by omega
        have htk : List.take (cirC M i n).length (List.map TI (cirC M i n)) = List.map TI (cirC M i n) := List.take_of_length_le (by rw [List.length_map]; exact Nat.le_refl _)
        refine vw_sc 0 [] ?_
        simp only [bs, dstT, srcT, Nat.reduceLeDiff, vparts, gfill, repl, Sg.frzP, ↓vopx, ↓vop, Nat.reduceBEq, thenV, blockV, Nat.reduceLT, V.cells, dLoad, vpart, Sg.frzL, Sg.frz1, hlE, k3E, h6E, wocs, ↓goc, ↓woc, ↓vopm0, Tryd.ag85, Tryd.sl106, Tryd.sz85, htk, y6, yc, yo, w1, w2, w3, w4, w5, Nat.div_one]
        repeat ((with_reducible refine And.intro ?_ ?_); · first | (with_reducible assumption) | omega | exact ⟨by omega, by omega⟩ | with_reducible rfl | (repeat' first | exact Keep.refl _ | refine Keep.add ?_ ?_ _ | refine Keep.set ?_ ?_ _ | exact Nat.le_refl _ | (simp only [Sg.add, Sg.set, Sg.del]; omega)))
        refine hK9 _ _ ?_
        refine vw_sc 0 [] ?_
        simp only [bs, ↓vopx, ↓vop, Nat.reduceBEq, thenV, flat, Nat.reduceLT, opII, hlE, k1E, k4E, k12E, h_iE, wocs, ↓goc, ↓woc, ↓vopm0]
        repeat ((with_reducible refine And.intro ?_ ?_); · first | (with_reducible assumption) | omega | exact ⟨by omega, by omega⟩ | with_reducible rfl | (repeat' first | exact Keep.refl _ | refine Keep.add ?_ ?_ _ | refine Keep.set ?_ ?_ _ | exact Nat.le_refl _ | (simp only [Sg.add, Sg.set, Sg.del]; omega)))
        refine ⟨n - (i + 1), by omega, i + 1, rfl, by omega, ?_⟩
        try simp only [ev_hit, ev_miss, Nat.reduceBEq, lpv, hl, k1, k4, k12, h_i, k3, if_true, if_false, Nat.reduceEqDiff, Nat.reduceLT, true_and, and_true]
        repeat ((with_reducible refine And.intro ?_ ?_); · first | trivial | assumption | omega | rfl | (push_cast; rfl) | exact ⟨by omega, by omega⟩)
        simp only [hK]
        first | exact ⟨_, rfl, hC5⟩ | exact ⟨s6.next + 1, by rw [List.length_append]; rfl, h6.put _⟩
      obtain ⟨mc, hk⟩ := hk
      refine ycall_of (hk.hl.trans (hlp0.symm.trans h4l)) rfl fun KA hKA => ?_
      rw [show (#[25] : Array Tmp).toList = [25] from rfl, setps_one]
      refine vw_sc 0 [] ?_
      simp only [bs, ↓vopx, ↓vop, thenV, Nat.reduceLT, hlE, wocs, ↓goc, ↓woc, ↓vopm0]
      repeat ((with_reducible refine And.intro ?_ ?_); · first | (with_reducible assumption) | omega | exact ⟨by omega, by omega⟩ | with_reducible rfl | (repeat' first | exact Keep.refl _ | refine Keep.add ?_ ?_ _ | refine Keep.set ?_ ?_ _ | exact Nat.le_refl _ | (simp only [Sg.add, Sg.set, Sg.del]; omega)))
      refine hKA _ _ (hk.hl.trans (hlp0.symm.trans h4l)) ?_
      refine vw_env2 fun e2 sc hE2 hSc => ?_
      subst hE2
      obtain ⟨lpb, hSc2⟩ : ∃ lpb, sc = s5.set s3.next lpb := ⟨_, hSc⟩
      have hCc : CirC s p n (cirK n M i).1 (seeC (cirK n M i).2 M i k) mo i s1.next (rp i) s3.next lpb (cirC M i k) mc sc := by rw [hSc2]; exact hk.setl _
      have hcn := hCc.l
      have hcl0 := hCc.o.lo
      clear hSc2
      refine vw_block ?_
      refine vsk fun K16 hK16 => ?_
      have y5 := hCc.h5
      have yr := hCc.o.hr
      have hgt : decide ((k : Int) > (i : Int)) = decide (i < k) := decide_eq_decide.2 (by omega)
      rcases (show (i < k) ∧ M k i = true ∨ (i < k) ∧ M k i = false ∨ ¬ i < k by rcases Classical.em (i < k) with e | e <;> cases M k i <;> simp [e]) with ⟨e, e6⟩ | ⟨e, e6⟩ | e
      · have hb : clB M i k = true := by simp [clB, e, e6, hg]
        refine vw_sc 0 [.det (Bo true) sc] ?_
        simp only [bs, ↓vopx, ↓vop, Nat.reduceBEq, thenV, flat, Nat.reduceLT, dLoad, vpart, opII, gtmp, hlE, k1E, h5E, wocs, ↓goc, ↓woc, ↓vopm0, ↓callC, ↓pick_tt, calleeV, Tryd.ag86, Tryd.ag3, Tryd.sz86, Tryd.sz3, y5, yr, hgt, e]
        repeat ((with_reducible refine And.intro ?_ ?_); · first | (with_reducible assumption) | omega | exact ⟨by omega, by omega⟩ | exact ⟨Tryd.is54, by simpa only [e6] using hasN_ sc p n M na rp rq (h.keep hCc.o.hk (by omega)) hkn hin⟩ | with_reducible rfl | (repeat' first | exact Keep.refl _ | refine Keep.add ?_ ?_ _ | refine Keep.set ?_ ?_ _ | exact Nat.le_refl _ | (simp only [Sg.add, Sg.set, Sg.del]; omega)))
        refine hK16 _ _ ?_
        refine vck fun A B hA hB => ?_
        simp only [condV, ev_hit, lpv, Nat.reduceLT, true_implies, reduceCtorEq, false_implies, and_true, hlE]
        refine hA ?_
        clear hA hB A B
        refine vsk fun K17 hK17 => ?_
        have y6 := hCc.h6
        have yc := hCc.hc
        have yl := hCc.l
        have hcl := cirC_len M i k
        have w1 : ¬ mc = sc.next := by omega
        have w2 : ¬ s1.next + 2 = sc.next := by omega
        have w3 : ¬ s1.next + 2 = mc := by omega
        have w4 : ¬ s1.next + 2 = sc.next + 1 := by omega
        refine vw_sc 0 [] ?_
        simp only [bs, dstT, srcT, Nat.reduceLeDiff, vparts, gfill, repl, Sg.frzP, ↓vopx, ↓vop, Nat.reduceBEq, thenV, Nat.reduceLT, V.cells, dLoad, vpart, Sg.frzL, Sg.frz1, hlE, h6E, wocs, ↓goc, ↓woc, ↓vopm0, Tryd.ag85, Tryd.sl85, Tryd.sz85, y6, yc, w1, w2, w3, w4, Nat.div_one]
        repeat ((with_reducible refine And.intro ?_ ?_); · first | (with_reducible assumption) | omega | exact ⟨by omega, by omega⟩ | with_reducible rfl | (repeat' first | exact Keep.refl _ | refine Keep.add ?_ ?_ _ | refine Keep.set ?_ ?_ _ | exact Nat.le_refl _ | (simp only [Sg.add, Sg.set, Sg.del]; omega)))
        refine hK17 _ _ ?_
        refine vw_st2 fun sd hS => ?_
        have hCd : CirC s p n (cirK n M i).1 (seeC (cirK n M i).2 M i k) mo i s1.next (rp i) s3.next lpb (cirC M i k ++ [(k : Int)]) (sc.next + 1) sd := by rw [hS]; exact hCc.push _ _
        clear hS
        have xs2 := hCd.o.hs
        have xa2 := hCd.o.ha
        have xl2 := seenL_len n (seeC (cirK n M i).2 M i k)
        have hse := seenL_set (seeC (cirK n M i).2 M i k) hkn true
        refine vw_sc 0 [] ?_
        simp only [bs, ↓vopx, ↓vop, Nat.reduceBEq, blockV, flat, Nat.reduceLT, V.cells, dLoad, vpart, Sg.frzL, Sg.frz1, hlE, k4E, wocs, ↓goc, ↓woc, ↓vopm0, Tryd.ag132, Tryd.sz132, Tryd.sz4, Tryd.un132, hse, xs2, xa2, xl2]
        repeat ((with_reducible refine And.intro ?_ ?_); · first | (with_reducible assumption) | omega | exact ⟨by omega, by omega⟩ | with_reducible rfl | (repeat' first | exact Keep.refl _ | refine Keep.add ?_ ?_ _ | refine Keep.set ?_ ?_ _ | exact Nat.le_refl _ | (simp only [Sg.add, Sg.set, Sg.del]; omega)))
        show _ ∧ _
        first
        | (have hCe := hCd.see hkn; refine And.intro (by rw [hCe.hl, ← hCc.hl, hSc]; exact if_pos rfl) (Or.inl (And.intro rfl ⟨sc.next + 1, ?_⟩)); rw [seeC_yes hb, cirC_yes hb, Option.some.inj (h4l.symm.trans hlp0)]; exact hCe.setl _)
        | (refine And.intro (by rw [hSc]; exact if_pos rfl) (Or.inl (And.intro rfl ⟨mc, ?_⟩)); rw [seeC_no hb, cirC_no hb, Option.some.inj (h4l.symm.trans hlp0)]; exact hCc.setl _)
      · have hb : clB M i k = false := by simp [clB, e6]
        refine vw_sc 0 [.det (Bo false) sc] ?_
        simp only [bs, ↓vopx, ↓vop, Nat.reduceBEq, thenV, flat, Nat.reduceLT, dLoad, vpart, opII, gtmp, hlE, k1E, h5E, wocs, ↓goc, ↓woc, ↓vopm0, ↓callC, ↓pick_tt, calleeV, Tryd.ag86, Tryd.ag3, Tryd.sz86, Tryd.sz3, y5, yr, hgt, e]
        repeat ((with_reducible refine And.intro ?_ ?_); · first | (with_reducible assumption) | omega | exact ⟨by omega, by omega⟩ | exact ⟨Tryd.is54, by simpa only [e6] using hasN_ sc p n M na rp rq (h.keep hCc.o.hk (by omega)) hkn hin⟩ | with_reducible rfl | (repeat' first | exact Keep.refl _ | refine Keep.add ?_ ?_ _ | refine Keep.set ?_ ?_ _ | exact Nat.le_refl _ | (simp only [Sg.add, Sg.set, Sg.del]; omega)))
        refine hK16 _ _ ?_
        refine vck fun A B hA hB => ?_
        simp only [condV, ev_hit, lpv, Nat.reduceLT, true_implies, reduceCtorEq, false_implies, true_and, hlE]
        refine hB ?_
        clear hA hB A B
        refine vw_skip ?_
        show _ ∧ _
        first
        | (have hCe := hCd.see hkn; refine And.intro (by rw [hCe.hl, ← hCc.hl, hSc]; exact if_pos rfl) (Or.inl (And.intro rfl ⟨sc.next + 1, ?_⟩)); rw [seeC_yes hb, cirC_yes hb, Option.some.inj (h4l.symm.trans hlp0)]; exact hCe.setl _)
        | (refine And.intro (by rw [hSc]; exact if_pos rfl) (Or.inl (And.intro rfl ⟨mc, ?_⟩)); rw [seeC_no hb, cirC_no hb, Option.some.inj (h4l.symm.trans hlp0)]; exact hCc.setl _)
      · have hb : clB M i k = false := by simp [clB, e]
        refine vw_sc 0 [] ?_
        simp only [bs, ↓vopx, ↓vop, Nat.reduceBEq, thenV, flat, Nat.reduceLT, dLoad, vpart, opII, gtmp, hlE, h5E, wocs, ↓goc, ↓woc, ↓vopm0, ↓pick_ft, Tryd.ag3, Tryd.sz3, y5, hgt, e]
        repeat ((with_reducible refine And.intro ?_ ?_); · first | (with_reducible assumption) | omega | exact ⟨by omega, by omega⟩ | with_reducible rfl | (repeat' first | exact Keep.refl _ | refine Keep.add ?_ ?_ _ | refine Keep.set ?_ ?_ _ | exact Nat.le_refl _ | (simp only [Sg.add, Sg.set, Sg.del]; omega)))
        refine hK16 _ _ ?_
        refine vck fun A B hA hB => ?_
        simp only [condV, ev_hit, lpv, Nat.reduceLT, true_implies, reduceCtorEq, false_implies, true_and, hlE]
        refine hB ?_
        clear hA hB A B
        refine vw_skip ?_
        show _ ∧ _
        first
        | (have hCe := hCd.see hkn; refine And.intro (by rw [hCe.hl, ← hCc.hl, hSc]; exact if_pos rfl) (Or.inl (And.intro rfl ⟨sc.next + 1, ?_⟩)); rw [seeC_yes hb, cirC_yes hb, Option.some.inj (h4l.symm.trans hlp0)]; exact hCe.setl _)
        | (refine And.intro (by rw [hSc]; exact if_pos rfl) (Or.inl (And.intro rfl ⟨mc, ?_⟩)); rw [seeC_no hb, cirC_no hb, Option.some.inj (h4l.symm.trans hlp0)]; exact hCc.setl _)
  · clear hA hB A B
    have hin : i = n := by omega
    subst hin
    refine vw_exit ?_
    simp only [thenV, blockV, noGoto, if_true]
    refine hK5 _ _ ?_
    refine vsk fun K18 hK18 => ?_
    refine vw_sc 0 [] ?_
    simp only [bs, ↓vopx, ↓vop, Nat.reduceBEq, thenV, Nat.reduceLT, hl, k3, wocs, ↓goc, ↓woc, ↓vopm0]
    repeat ((with_reducible refine And.intro ?_ ?_); · first | (with_reducible assumption) | omega | exact ⟨by omega, by omega⟩ | with_reducible rfl | (repeat' first | exact Keep.refl _ | refine Keep.add ?_ ?_ _ | refine Keep.set ?_ ?_ _ | exact Nat.le_refl _ | (simp only [Sg.add, Sg.set, Sg.del]; omega)))
    refine hK18 _ _ ?_
    refine vw_ret ?_
    show Q _ _ _
    have hlo := hC.lo
    refine hQ _ _ _ (.inr rfl) (donek_tmp (v := .loc mo 0 (cirS i M).length) ?_ rfl ⟨mo, rfl, hC.ho, hC.hk, by omega, by omega⟩)
    try simp only [ev_hit, lpv, hl, Nat.reduceLT]
    all_goals rfl
end Go.Proofs
