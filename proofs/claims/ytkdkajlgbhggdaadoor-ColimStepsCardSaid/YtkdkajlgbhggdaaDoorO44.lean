/- Lemmas on the way to the statement of this claim; no conditions. -/
import Derived.KernelRfl
import Derived.Laws.StructEq
import Derived.Test.YtkdkajlgbhggdaaDoorO28
import Derived.Test.YtkdkajlgbhggdaaDoorO29
import Derived.Test.YtkdkajlgbhggdaaDoorO30
import Derived.Test.YtkdkajlgbhggdaaDoorO41
import Derived.Test.YtkdkajlgbhggdaaDoorO42
open Go Go.V
namespace Go.Proofs
def seqB (a b : ByteArray) : Bool := a.toList == b.toList
theorem o1x {l : List (Int × Int)} {i : Nat} {p : Int × Int} (h : l[i]? = some p) : (((l.flatMap j8q).map V.t).drop (i * 2)).take 2 = [I p.1, I p.2] := by
 induction l generalizing i with
 | nil => simp at h
 | cons a l ih =>
  cases i with
  | zero => simp at h; subst h; simp
  | succ i =>
   have := ih (i := i) (by simpa using h)
   rw [show (i + 1) * 2 = i * 2 + 2 by omega]
   simpa using this
theorem t8q (s : Sg) (c d : Blk) {n : Nat} {b : Blk} (hn : n < s.next) (h : s.m n = some b) : ((s.add c).add d).m n = some b := l8q _ d (Nat.lt_succ_of_lt hn) (l8q s c hn h)
end Go.Proofs

open Go Go.V
namespace Go.Proofs
abbrev Mx := Nat → Nat → Bool
def fwk (M : Mx) (k : Nat) : Mx := fun a b => M a b || (M a k && M k b)
def cloK (M : Mx) (k : Nat) : Mx := (List.range k).foldl fwk M
def u5z (n : Nat) (M : Mx) : Bool := (List.range n).all fun a => (List.range n).all fun b => M a b == cloK M n a b
def rowOf (n : Nat) (M : Mx) (a : Nat) : List (Int × Int) := ((List.range n).filter fun b => M a b).map fun (b : Nat) => ((a : Int), (b : Int))
def f6q (n : Nat) (M : Mx) : List (Int × Int) := (List.range n).flatMap (rowOf n M)
def inB (n : Nat) (p : Int × Int) : Bool := decide (0 ≤ p.1 ∧ p.1 < n) && decide (0 ≤ p.2 ∧ p.2 < n)
def mxOf (l : List (Int × Int)) : Mx := fun a b => l.any fun p => p.1.toNat == a && p.2.toNat == b
theorem n5q (M : Mx) (k : Nat) : cloK M (k + 1) = fwk (cloK M k) k := by simp [cloK, List.range_succ]
theorem r8z {M : Mx} {a b : Nat} (h : M a b = true) : ∀ k, cloK M k a b = true
 | 0 => h
 | k + 1 => by rw [n5q]; simp [fwk, r8z h k]
theorem v5z {M : Mx} {j : Nat} : ∀ {k : Nat}, j ≤ k → ∀ {a b : Nat}, cloK M j a b = true → cloK M k a b = true
 | 0, h, a, b, hh => by obtain rfl : j = 0 := by omega
                        exact hh
 | k + 1, h, a, b, hh => by
  rcases Nat.lt_or_ge k j with h1 | h1
  ·obtain rfl : j = k + 1 := by omega
   exact hh
  ·rw [n5q]; simp [fwk, v5z h1 hh]
def v7q (n : Nat) (M : Mx) : Prop := ∀ a b, M a b = true → a < n ∧ b < n
theorem i6x {n : Nat} {M : Mx} {k : Nat} (h : v7q n M) : v7q n (fwk M k) := by
 intro a b hab
 simp only [fwk, Bool.or_eq_true, Bool.and_eq_true] at hab
 rcases hab with h1 | ⟨h1, h2⟩
 ·exact h a b h1
 ·exact ⟨(h _ _ h1).1, (h _ _ h2).2⟩
theorem m9q {n : Nat} {M : Mx} (h : v7q n M) : ∀ k, v7q n (cloK M k)
 | 0 => h
 | k + 1 => by rw [n5q]; exact i6x (m9q h k)
def l3x (M : Mx) : Prop := ∀ a k b, M a k = true → M k b = true → M a b = true
theorem p2x {M : Mx} (h : l3x M) (k : Nat) : fwk M k = M := by
 funext a b
 simp only [fwk]
 cases hab : M a b with
 | true => rfl
 | false =>
  cases h1 : M a k with
  | false => rfl
  | true =>
   cases h2 : M k b with
   | false => rfl
   | true => rw [h a k b h1 h2] at hab; cases hab
theorem o7z {M : Mx} (h : l3x M) : ∀ k, cloK M k = M
 | 0 => rfl
 | k + 1 => by rw [n5q, o7z h k, p2x h]
theorem c3z {n : Nat} {M : Mx} (hw : v7q n M) : u5z n M = true ↔ l3x M := by
 constructor
 ·intro h a k b h1 h2
  simp only [u5z, List.all_eq_true, List.mem_range, beq_iff_eq] at h
  have ha := (hw _ _ h1).1
  have hk := (hw _ _ h1).2
  have hb := (hw _ _ h2).2
  rw [h a ha b hb]
  refine v5z (j := k + 1) (by omega) ?_
  rw [n5q]
  simp [fwk, r8z h1, r8z h2]
 ·intro h
  simp only [u5z, List.all_eq_true, List.mem_range, beq_iff_eq]
  intro a _ b _
  rw [o7z h]
theorem k6z (l m : List (Int × Int)) : mxOf (l ++ m) = fun a b => mxOf l a b || mxOf m a b := by
 funext a b; simp [mxOf]
theorem t0q {l : List (Int × Int)} {i : Nat} {p : Int × Int} (h : l[i]? = some p) : mxOf (l.take (i + 1)) = fun a b => mxOf (l.take i) a b || (p.1.toNat == a && p.2.toNat == b) := by
 rw [List.take_add_one, h, k6z]
 funext a b; simp [mxOf]
theorem q0q {n : Nat} {l : List (Int × Int)} (h : ∀ p ∈ l, inB n p = true) : v7q n (mxOf l) := by
 intro a b hab
 simp only [mxOf, List.any_eq_true, Bool.and_eq_true, beq_iff_eq] at hab
 obtain ⟨p, hp, rfl, rfl⟩ := hab
 have := h p hp
 simp only [inB, Bool.and_eq_true, decide_eq_true_eq] at this
 omega
theorem u8q {n : Nat} {M : Mx} {p : Int × Int} : p ∈ f6q n M ↔ ∃ a b : Nat, a < n ∧ b < n ∧ M a b = true ∧ p = ((a : Int), (b : Int)) := by
 simp only [f6q, rowOf, List.mem_flatMap, List.mem_range, List.mem_map, List.mem_filter]
 constructor
 ·rintro ⟨a, ha, b, ⟨hb, hm⟩, rfl⟩; exact ⟨a, b, ha, hb, hm, rfl⟩
 ·rintro ⟨a, b, ha, hb, hm, rfl⟩; exact ⟨a, ha, b, ⟨hb, hm⟩, rfl⟩
def pltB (p q : Int × Int) : Bool := decide (p.1 < q.1) || (decide (p.1 = q.1) && decide (p.2 < q.2))
def i8q : List (Int × Int) → Bool
 | p :: q :: l => pltB p q && i8q (q :: l)
 | _ => true
theorem t4q : ∀ {l : List (Int × Int)} {i : Nat} {p q : Int × Int}, l[i]? = some p → l[i + 1]? = some q → pltB p q = false → i8q l = false
 | [], i, p, q, h, _, _ => by simp at h
 | [x], i, p, q, _, h, _ => by simp at h
 | x :: y :: l, 0, p, q, h1, h2, h3 => by simp at h1 h2; subst h1; subst h2; simp [i8q, h3]
 | x :: y :: l, i + 1, p, q, h1, h2, h3 => by simp [i8q, t4q (l := y :: l) (i := i) (by simpa using h1) (by simpa using h2) h3]
theorem v0q : ∀ {l : List (Int × Int)}, (∀ (i : Nat) (p q : Int × Int), l[i]? = some p → l[i + 1]? = some q → pltB p q = true) → i8q l = true
 | [], _ => rfl
 | [x], _ => rfl
 | x :: y :: l, h => by
  simp only [i8q, Bool.and_eq_true]
  exact ⟨h 0 x y rfl rfl, v0q fun i p q h1 h2 => h (i + 1) p q (by simpa using h1) (by simpa using h2)⟩
end Go.Proofs

open Go Go.V
namespace Go.Proofs
def outV (n o : Nat) : V := if n = 0 then .t (.v (.slice none 0 0)) else .loc o 0 n
abbrev TBo (b : Bool) : T := .v (.bool b)
def bRow (n : Nat) (M : Mx) (a : Nat) : List T := (List.range n).map fun b => TBo (M a b)
structure RefR (s : Sg) (p n : Nat) (M : Mx) (o : Nat) (r : Nat → Nat) : Prop where
 hp : s.m p = some (.box 119 [I n, outV n o])
 ho : 0 < n → s.m o = some (.box 49 ((List.range n).map fun i => .loc (r i) 0 n))
 hr : ∀ i, i < n → s.m (r i) = some (.arr 1 4 (bRow n M i))
 inj : ∀ i j, i < n → j < n → r i = r j → i = j
 le : n ≤ 200
 lp : p < s.next
 lo : 0 < n → o < s.next
 lr : ∀ i, i < n → r i < s.next
theorem k0z {α : Type} (f : Nat → α) {n i : Nat} (h : i < n) : ((List.range n).map f)[i]? = some (f i) := by
 rw [List.getElem?_map, List.getElem?_range h]; rfl
set_option maxRecDepth 20000 in
theorem v4q (s : Sg) (p n : Nat) (v : V) (a : Int) (hp : s.m p = some (.box 119 [I n, v])) : k4q Tryd.prog 110 [.ptr p 0, I a] s (Bo (decide (0 ≤ a ∧ a < n))) (s) := by
 refine d3q Tryd.func110 rfl fun Q hQ => ?_
 obtain ⟨e, he, hl, h0, h1⟩ : ∃ e : Env, ([.ptr p 0, I a] ++ List.replicate (Tryd.f110.ntmps - ([.ptr p 0, I a] : List V).length) .junk) = e ∧ e.length = 15 ∧ ev e (.tmp 0) = .ptr p 0 ∧ ev e (.tmp 1) = I a := ⟨_, rfl, rfl, rfl, rfl⟩
 rw [he]
 clear he
 refine vsk fun K1 hK1 => ?_
 refine a3q 0 [] ?_
 simp only [bs, ↓vopx, ↓vop, a1q, flat, wocs, ↓goc, ↓woc, ↓a2q]
 refine hK1 _ _ ?_
 refine vsk fun K2 hK2 => ?_
 rcases Decidable.em (0 ≤ a) with ha | ha
 ·refine a3q 0 [] ?_
  simp only [bs, e9q, ↓vopx, ↓vop, Nat.reduceBEq, a1q, flat, Nat.reduceLT, a7q, a8q, opII, gtmp, hl, h0, h1, wocs, ↓goc, ↓woc, ↓a2q, ↓g1q, Tryd.ag3, Tryd.fd119_0, Tryd.sz3, hp, ha]
  refine hK2 _ _ ?_
  refine b3q ?_
  refine hQ _ _ _ (.inr rfl) (Done.toS (b2q ?_ fun n b hn h => h))
  simp only [a0q, lpv, hl, Nat.reduceLT]
  simp [ha]
 ·refine a3q 0 [] ?_
  simp only [bs, ↓vopx, ↓vop, Nat.reduceBEq, a1q, flat, Nat.reduceLT, opII, gtmp, hl, h1, wocs, ↓goc, ↓woc, ↓a2q, ↓o1q, ha]
  refine hK2 _ _ ?_
  refine b3q ?_
  refine hQ _ _ _ (.inr rfl) (Done.toS (b2q ?_ fun n b hn h => h))
  simp only [a0q, lpv, hl, Nat.reduceLT]
  simp [ha]
set_option maxRecDepth 20000 in
theorem refHas_ (s : Sg) (p n : Nat) (M : Mx) (o : Nat) (r : Nat → Nat) (h : RefR s p n M o r) (a b : Int) : k4q Tryd.prog 85 [.ptr p 0, I a, I b] s (Bo (decide (0 ≤ a ∧ a < n) && decide (0 ≤ b ∧ b < n) && M a.toNat b.toNat)) (s) := by
 refine d3q Tryd.func85 rfl fun Q hQ => ?_
 obtain ⟨e, he, hl, h0, h1, h2⟩ : ∃ e : Env, ([.ptr p 0, I a, I b] ++ List.replicate (Tryd.f85.ntmps - ([.ptr p 0, I a, I b] : List V).length) .junk) = e ∧ e.length = 27 ∧ ev e (.tmp 0) = .ptr p 0 ∧ ev e (.tmp 1) = I a ∧ ev e (.tmp 2) = I b := ⟨_, rfl, rfl, rfl, rfl, rfl⟩
 rw [he]
 clear he
 refine vsk fun K1 hK1 => ?_
 refine a3q 0 [] ?_
 simp only [bs, ↓vopx, ↓vop, a1q, flat, wocs, ↓goc, ↓woc, ↓a2q]
 refine hK1 _ _ ?_
 refine vsk fun K2 hK2 => ?_
 rcases (show (¬ (0 ≤ a ∧ a < n)) ∨ ((0 ≤ a ∧ a < n) ∧ ¬ (0 ≤ b ∧ b < n)) ∨ ((0 ≤ a ∧ a < n) ∧ (0 ≤ b ∧ b < n)) by omega) with ha | ⟨ha, hb⟩ | ⟨ha, hb⟩
 ·refine a3q 0 [.det (Bo (decide (0 ≤ a ∧ a < n))) s] ?_
  simp only [bs, ↓vopx, ↓vop, Nat.reduceBEq, a1q, flat, Nat.reduceLT, gtmp, hl, h0, h1, wocs, ↓goc, ↓woc, ↓a2q, ↓c4q, ↓o1q, a6q, ha]
  repeat ((with_reducible refine And.intro ?_ ?_); · exact ⟨Tryd.is110, by simpa [*] using v4q s p n _ a h.hp⟩)
  refine hK2 _ _ ?_
  refine b3q ?_
  refine hQ _ _ _ (.inr rfl) (Done.toS (b2q ?_ fun n b hn h => h))
  simp only [a0q, lpv, hl, Nat.reduceLT]
  simp [*]
 ·refine a3q 0 [.det (Bo (decide (0 ≤ a ∧ a < n))) s, .det (Bo (decide (0 ≤ b ∧ b < n))) s] ?_
  simp only [bs, ↓vopx, ↓vop, Nat.reduceBEq, a1q, flat, Nat.reduceLT, gtmp, hl, h0, h1, h2, wocs, ↓goc, ↓woc, ↓a2q, ↓c4q, ↓g1q, ↓o1q, a6q, ha, hb]
  repeat ((with_reducible refine And.intro ?_ ?_); · first | exact ⟨Tryd.is110, by simpa [*] using v4q s p n _ a h.hp⟩ | exact ⟨Tryd.is110, by simpa [*] using v4q s p n _ b h.hp⟩)
  refine hK2 _ _ ?_
  refine b3q ?_
  refine hQ _ _ _ (.inr rfl) (Done.toS (b2q ?_ fun n b hn h => h))
  simp only [a0q, lpv, hl, Nat.reduceLT]
  simp [*]
 ·have hn : ¬ n = 0 := by omega
  have ho := h.ho (by omega)
  have hr := h.hr a.toNat (by omega)
  have ga : (List.range n)[a.toNat]? = some a.toNat := List.getElem?_range (by omega)
  have gb : (List.range n)[b.toNat]? = some b.toNat := List.getElem?_range (by omega)
  refine a3q 0 [.det (Bo (decide (0 ≤ a ∧ a < n))) s, .det (Bo (decide (0 ≤ b ∧ b < n))) s] ?_
  simp only [bs, e9q, ↓vopx, ↓vop, Nat.reduceBEq, a1q, flat, Nat.reduceLT, a7q, a8q, gtmp, hl, h0, h1, h2, wocs, ↓goc, ↓woc, ↓a2q, ↓c4q, ↓g1q, a6q, Tryd.ag117, Tryd.ag4, Tryd.ag49, Tryd.fd119_1, Tryd.sz117, Tryd.sz4, Tryd.sz49, Tryd.un117, Tryd.un49, h.hp, ha, hb, outV, hn, ho, hr, ga, gb, bRow]
  repeat ((with_reducible refine And.intro ?_ ?_); · first | exact ⟨Tryd.is110, by simpa [*] using v4q s p n _ a h.hp⟩ | exact ⟨Tryd.is110, by simpa [*] using v4q s p n _ b h.hp⟩)
  refine hK2 _ _ ?_
  refine b3q ?_
  refine hQ _ _ _ (.inr rfl) (Done.toS (b2q ?_ fun n b hn h => h))
  simp only [a0q, lpv, hl, Nat.reduceLT]
  simp [*]
end Go.Proofs

open Go Go.V
namespace Go.Proofs
theorem e7x (x y : Operand) (a b : Bool) : g3z .neq (Bo a) (Bo b) Tryd.prog 4 x y (.bool (a != b)) := .inl ⟨_, _, rfl, rfl, by cases a <;> cases b <;> kernel_rfl⟩
def n8z (n : Nat) (M M' : Mx) : Bool := (List.range n).all fun a => (List.range n).all fun b => M a b == M' a b
theorem b2j {n : Nat} {M M' : Mx} {a b : Nat} (ha : a < n) (hb : b < n) (h : M a b ≠ M' a b) : n8z n M M' = false := by
 rw [Bool.eq_false_iff]
 intro hh
 simp only [n8z, List.all_eq_true, List.mem_range, beq_iff_eq] at hh
 exact h (hh a ha b hb)
theorem r0x {n : Nat} {M M' : Mx} (h : ∀ a b, a < n → b < n → M a b = M' a b) : n8z n M M' = true := by
 simp only [n8z, List.all_eq_true, List.mem_range, beq_iff_eq]
 exact fun a ha b hb => h a b ha hb
set_option maxRecDepth 20000 in
theorem c7j (s : Sg) (p n : Nat) (M : Mx) (o : Nat) (r : Nat → Nat) (h : RefR s p n M o r) (p1 : Nat) (M1 : Mx) (o1 : Nat) (r1 : Nat → Nat) (h' : RefR s p1 n M1 o1 r1) : k4q Tryd.prog 128 [.ptr p 0, .ptr p1 0] s (Bo (n8z n M M1)) (s) := by
 refine d3q Tryd.func128 rfl fun Q hQ => ?_
 obtain ⟨e, he, hl, h0, h1⟩ : ∃ e : Env, ([.ptr p 0, .ptr p1 0] ++ List.replicate (Tryd.f128.ntmps - ([.ptr p 0, .ptr p1 0] : List V).length) .junk) = e ∧ e.length = 53 ∧ ev e (.tmp 0) = .ptr p 0 ∧ ev e (.tmp 1) = .ptr p1 0 := ⟨_, rfl, rfl, rfl, rfl⟩
 rw [he]
 clear he
 have hnle := h.le
 refine vsk fun K1 hK1 => ?_
 refine a3q 0 [] ?_
 simp only [bs, ↓vopx, ↓vop, a1q, flat, wocs, ↓goc, ↓woc, ↓a2q]
 refine hK1 _ _ ?_
 refine vsk fun K2 hK2 => ?_
 refine vsk fun K3 hK3 => ?_
 refine d2q Tryd.mixed 8 [0, 0, 0, 1, 0, 0, 0, 1] [] [] 0 (by decide +kernel) (by simp [lpv, hl]) rfl ?_
 simp only [bs, e9q, ↓vopx, ↓vop, Nat.reduceBEq, a1q, Nat.reduceLT, a7q, a8q, opII, opSS, hl, h0, h1, wocs, ↓goc, ↓woc, ↓e7q, ↓farC, chn, ↓goq, ↓woq, List.zip_cons_cons, List.zip_nil_right, Tryd.ag3, Tryd.fd119_0, Tryd.sz3, h.hp, h'.hp, bne_self_eq_false]
 refine hK3 _ _ ?_
 refine vck fun A B hA hB => ?_
 simp only [b5q, a0q, lpv, Nat.reduceLT, true_implies, reduceCtorEq, false_implies, true_and, hl]
 refine hB ?_
 clear hA hB A B
 refine b1q ?_
 refine hK2 _ _ ?_
 refine vsk fun K4 hK4 => ?_
 refine vsk fun K5 hK5 => ?_
 refine a3q 0 [] ?_
 simp only [bs, ↓vopx, ↓vop, a1q, flat, wocs, ↓goc, ↓woc, ↓a2q]
 refine hK5 _ _ ?_
 refine a5q ?_
 refine d0q (fun mm e' s' => ∃ a : Nat, mm = n - a ∧ a ≤ n ∧ e'.length = 53 ∧ ev e' (.tmp 0) = .ptr p 0 ∧ ev e' (.tmp 1) = .ptr p1 0 ∧ ev e' (.tmp 5) = I a ∧ s = s' ∧ ∀ x y, x < a → y < n → M x y = M1 x y) (⟨0, rfl, Nat.zero_le _, ?_⟩) ?_
 ·try simp only [a0q, a4q, Nat.reduceBEq, lpv, hl, h0, h1, Nat.reduceLT, true_and]
  repeat ((with_reducible refine And.intro ?_ ?_); · trivial)
  exact fun x y hx => by omega
 rintro mm e _ ⟨a, rfl, hle_a, hl, h0, h1, h_a, rfl, ha⟩
 refine vsk fun K6 hK6 => ?_
 refine vsk fun K7 hK7 => ?_
 refine a3q 0 [] ?_
 simp only [bs, e9q, ↓vopx, ↓vop, Nat.reduceBEq, a1q, Nat.reduceLT, a7q, a8q, opII, hl, h0, h_a, wocs, ↓goc, ↓woc, ↓a2q, Tryd.ag3, Tryd.fd119_0, Tryd.sz3, h.hp]
 refine hK7 _ _ ?_
 refine vck fun A B hA hB => ?_
 simp only [b5q, a0q, lpv, Nat.reduceLT, decide_eq_true_eq, decide_eq_false_iff_not, hl]
 refine ⟨fun hc21 => hA ?_, fun hc21 => hB ?_⟩
 ·clear hA hB A B
  refine b1q ?_
  refine hK6 _ _ ?_
  refine vsk fun K8 hK8 => ?_
  refine a5q ?_
  refine vsk fun K9 hK9 => ?_
  refine a3q 0 [] ?_
  simp only [bs, ↓vopx, ↓vop, a1q, flat, wocs, ↓goc, ↓woc, ↓a2q]
  refine hK9 _ _ ?_
  refine a5q ?_
  refine d0q (fun mm e' s' => ∃ b : Nat, mm = n - b ∧ b ≤ n ∧ e'.length = 53 ∧ ev e' (.tmp 0) = .ptr p 0 ∧ ev e' (.tmp 1) = .ptr p1 0 ∧ ev e' (.tmp 5) = I a ∧ ev e' (.tmp 6) = I b ∧ s = s' ∧ ∀ y, y < b → M a y = M1 a y) (⟨0, rfl, Nat.zero_le _, ?_⟩) ?_
  ·try simp only [a0q, a4q, Nat.reduceBEq, lpv, hl, h0, h1, h_a, Nat.reduceLT, true_and]
   repeat ((with_reducible refine And.intro ?_ ?_); · trivial)
   exact fun y hy => by omega
  rintro mm e _ ⟨b, rfl, hle_b, hl, h0, h1, h_a, h_b, rfl, hb⟩
  refine vsk fun K10 hK10 => ?_
  refine vsk fun K11 hK11 => ?_
  refine a3q 0 [] ?_
  simp only [bs, e9q, ↓vopx, ↓vop, Nat.reduceBEq, a1q, Nat.reduceLT, a7q, a8q, opII, hl, h0, h_b, wocs, ↓goc, ↓woc, ↓a2q, Tryd.ag3, Tryd.fd119_0, Tryd.sz3, h.hp]
  refine hK11 _ _ ?_
  refine vck fun A B hA hB => ?_
  simp only [b5q, a0q, lpv, Nat.reduceLT, decide_eq_true_eq, decide_eq_false_iff_not, hl]
  refine ⟨fun hc29 => hA ?_, fun hc29 => hB ?_⟩
  ·clear hA hB A B
   refine b1q ?_
   refine hK10 _ _ ?_
   refine vsk fun K12 hK12 => ?_
   refine a5q ?_
   refine vsk fun K13 hK13 => ?_
   have hn : ¬ n = 0 := by omega
   have ho := h.ho (by omega)
   have hr := h.hr a (by omega)
   have ho1 := h'.ho (by omega)
   have hr1 := h'.hr a (by omega)
   have ga : (List.range n)[a]? = some a := List.getElem?_range (by omega)
   have gb : (List.range n)[b]? = some b := List.getElem?_range (by omega)
   refine d2q Tryd.mixed 20 [0, 0, 0, 1, 0, 1, 1, 0, 1, 1, 0, 0, 0, 1, 0, 1, 1, 0, 1, 1] [.far (.bool (M a b != M1 a b))] [] 0 (by decide +kernel) (by simp [lpv, hl]) rfl ?_
   simp only [bs, e9q, ↓vopx, ↓vop, Nat.reduceBEq, a1q, Nat.reduceLT, a7q, a8q, opII, opSS, hl, h0, h1, h_a, h_b, wocs, ↓goc, ↓woc, ↓e7q, ↓farC, chn, ↓goq, ↓woq, List.zip_cons_cons, List.zip_nil_right, Tryd.ag117, Tryd.ag4, Tryd.ag49, Tryd.fd119_1, Tryd.sz117, Tryd.sz4, Tryd.sz49, Tryd.un117, Tryd.un49, h.hp, h'.hp, outV, hn, ho, hr, ho1, hr1, ga, gb, bRow]
   repeat ((with_reducible refine And.intro ?_ ?_); · first | (with_reducible assumption) | exact e7x _ _ _ _)
   refine hK13 _ _ ?_
   refine vck fun A B hA hB => ?_
   simp only [b5q, a0q, lpv, Nat.reduceLT, bne_iff_ne, bne_eq_false_iff_eq, ne_eq, hl]
   refine ⟨fun hc52 => hA ?_, fun hc52 => hB ?_⟩
   ·clear hA hB A B
    refine vsk fun K14 hK14 => ?_
    refine a3q 0 [] ?_
    simp only [bs, ↓vopx, ↓vop, a1q, flat, wocs, ↓goc, ↓woc, ↓a2q]
    refine hK14 _ _ ?_
    refine b3q ?_
    refine hQ _ _ _ (.inr rfl) (Done.toS (b2q ?_ fun n b hn h => h))
    try simp only [a0q, lpv, hl, Nat.reduceLT]
    rw [b2j (a := a) (b := b) (by omega) (by omega) hc52]
   ·clear hA hB A B
    refine b1q ?_
    refine hK12 _ _ ?_
    refine a3q 0 [] ?_
    simp only [bs, ↓vopx, ↓vop, Nat.reduceBEq, a1q, flat, Nat.reduceLT, opII, hl, h0, h1, h_a, h_b, wocs, ↓goc, ↓woc, ↓a2q]
    repeat ((with_reducible refine And.intro ?_ ?_); · exact ⟨by omega, by omega⟩)
    refine ⟨n - (b + 1), by omega, b + 1, rfl, by omega, ?_⟩
    try simp only [a0q, a4q, Nat.reduceBEq, lpv, hl, h0, h1, h_a, h_b, if_true, if_false, Nat.reduceEqDiff, Nat.reduceLT, true_and, and_true]
    repeat ((with_reducible refine And.intro ?_ ?_); · trivial)
    intro y hy
    rcases Nat.lt_succ_iff_lt_or_eq.1 hy with hy | rfl
    ·exact hb y hy
    ·exact hc52
  ·clear hA hB A B
   have hbn : b = n := by omega
   refine c8q ?_
   simp only [a1q, c0q, if_true, if_false, Nat.reduceEqDiff, reduceCtorEq]
   refine hK8 _ _ ?_
   refine a3q 0 [] ?_
   simp only [bs, ↓vopx, ↓vop, Nat.reduceBEq, a1q, flat, Nat.reduceLT, opII, hl, h0, h1, h_a, wocs, ↓goc, ↓woc, ↓a2q]
   repeat ((with_reducible refine And.intro ?_ ?_); · exact ⟨by omega, by omega⟩)
   refine ⟨n - (a + 1), by omega, a + 1, rfl, by omega, ?_⟩
   try simp only [a0q, a4q, Nat.reduceBEq, lpv, hl, h0, h1, h_a, if_true, if_false, Nat.reduceEqDiff, Nat.reduceLT, true_and, and_true]
   repeat ((with_reducible refine And.intro ?_ ?_); · trivial)
   intro x y hx hy
   rcases Nat.lt_succ_iff_lt_or_eq.1 hx with hx | rfl
   ·exact ha x y hx hy
   ·exact hb y (by omega)
 ·clear hA hB A B
  have han : a = n := by omega
  subst han
  refine c8q ?_
  simp only [a1q, c0q, if_true]
  refine hK4 _ _ ?_
  refine vsk fun K15 hK15 => ?_
  refine a3q 0 [] ?_
  simp only [bs, ↓vopx, ↓vop, a1q, flat, wocs, ↓goc, ↓woc, ↓a2q]
  refine hK15 _ _ ?_
  refine b3q ?_
  refine hQ _ _ _ (.inr rfl) (Done.toS (b2q ?_ fun n b hn h => h))
  try simp only [a0q, lpv, hl, Nat.reduceLT]
  rw [r0x fun x y hx hy => ha x y hx hy]
end Go.Proofs

open Go Go.V
namespace Go.Proofs
structure FreshR (s : Sg) (p n o : Nat) (r : Nat → Nat) : Prop where
 hp : s.next ≤ p
 ho : 0 < n → s.next ≤ o
 hr : ∀ i, i < n → s.next ≤ r i
def NewR (s : Sg) (n : Nat) (M : Mx) (v : V) (s' : Sg) : Prop := ∃ p o r, v = .ptr p 0 ∧ RefR s' p n M o r ∧ FreshR s p n o r ∧ Keep s s' ∧ s.next ≤ s'.next
theorem h1q (n : Nat) (M : Mx) (a : Nat) : (bRow n M a).length = n := by simp [bRow]
theorem l9q {n : Nat} {M : Mx} {a b : Nat} (hb : b < n) : (bRow n M a)[b]? = some (TBo (M a b)) := k0z _ hb
theorem o5z {n : Nat} {M M' : Mx} {a : Nat} (h : ∀ b, b < n → M a b = M' a b) : bRow n M a = bRow n M' a := by
 apply List.ext_getElem?
 intro j
 by_cases hj : j < n
 ·rw [l9q hj, l9q hj, h j hj]
 ·rw [List.getElem?_eq_none (by rw [h1q]; omega), List.getElem?_eq_none (by rw [h1q]; omega)]
theorem x5q (n a : Nat) : repl [TBo false] n = bRow n (fun _ _ => false) a := by
 rw [n4q]
 apply List.ext_getElem?
 intro j
 by_cases hj : j < n
 ·rw [l9q hj]; simp [hj]
 ·rw [List.getElem?_eq_none (by simp; omega), List.getElem?_eq_none (by rw [h1q]; omega)]
def updM (M : Mx) (a b : Nat) (v : Bool) : Mx := fun x y => if x = a ∧ y = b then v else M x y
theorem x6x {n : Nat} {M : Mx} {a b : Nat} {v : Bool} (hb : b < n) : setAll (bRow n M a) b [TBo v] = bRow n (updM M a b v) a := by
 rw [h7q _ _ _ (by rw [h1q]; exact hb)]
 apply List.ext_getElem?
 intro j
 by_cases hj : j < n
 ·rw [l9q hj, List.getElem?_set, h1q, l9q hj]
  by_cases hbj : b = j
  ·subst hbj; simp [updM, hb]
  ·simp [updM, hbj, Ne.symm hbj]
 ·rw [List.getElem?_eq_none (by rw [List.length_set, h1q]; omega), List.getElem?_eq_none (by rw [h1q]; omega)]
theorem RefR.congr {s : Sg} {p n : Nat} {M M' : Mx} {o : Nat} {r : Nat → Nat} (h : RefR s p n M o r) (hm : ∀ x y, x < n → y < n → M x y = M' x y) : RefR s p n M' o r :=
 ⟨h.hp, h.ho, fun i hi => by rw [h.hr i hi, o5z fun b hb => hm i b hi hb], h.inj, h.le, h.lp, h.lo, h.lr⟩
theorem RefR.put {s : Sg} {p n : Nat} {M : Mx} {o : Nat} {r : Nat → Nat} (h : RefR s p n M o r) {a b : Nat} (ha : a < n) (hb : b < n) (v : Bool) :
 RefR (s.set (r a) (.arr 1 4 (setAll (bRow n M a) b [TBo v]))) p n (updM M a b v) o r := by
 have h1 : p ≠ r a := fun e => by have := h.hp; rw [e, h.hr a ha] at this; cases this
 have h2 : o ≠ r a := fun e => by have := h.ho (by omega); rw [e, h.hr a ha] at this; cases this
 refine ⟨by simp [Sg.set, h1, h.hp], fun hn => by simp [Sg.set, h2, h.ho hn], fun i hi => ?_, h.inj, h.le, h.lp, h.lo, h.lr⟩
 by_cases hia : i = a
 ·subst hia
  simp only [Sg.set, if_true]
  rw [x6x hb]
 ·have h3 : r i ≠ r a := fun e => hia (h.inj i a hi ha e)
  simp only [Sg.set, h3, if_false]
  rw [h.hr i hi, o5z fun y hy => ?_]
  simp [updM, hia]
theorem RefR.keep {s s' : Sg} {p n : Nat} {M : Mx} {o : Nat} {r : Nat → Nat} (h : RefR s p n M o r) (hk : Keep s s') (hn : s.next ≤ s'.next) : RefR s' p n M o r :=
 ⟨hk _ _ h.lp h.hp, fun hn0 => hk _ _ (h.lo hn0) (h.ho hn0), fun i hi => hk _ _ (h.lr i hi) (h.hr i hi), h.inj, h.le, Nat.lt_of_lt_of_le h.lp hn, fun hn0 => Nat.lt_of_lt_of_le (h.lo hn0) hn, fun i hi => Nat.lt_of_lt_of_le (h.lr i hi) hn⟩
structure PartR (s : Sg) (N p n i o : Nat) (r : Nat → Nat) : Prop where
 hp : s.m p = some (.box 119 [I n, outV i o])
 ho : 0 < i → s.m o = some (.box 49 ((List.range i).map fun i => .loc (r i) 0 n))
 hr : ∀ j, j < i → s.m (r j) = some (.arr 1 4 (bRow n (fun _ _ => false) j))
 inj : ∀ j k, j < i → k < i → r j = r k → j = k
 lp : p < s.next
 lo : 0 < i → o < s.next
 lr : ∀ j, j < i → r j < s.next
 fp : N ≤ p
 fo : 0 < i → N ≤ o
 fr : ∀ j, j < i → N ≤ r j
def newN (n : Int) : Nat := (max 0 (min n 200)).toNat
theorem x9z (n : Int) : ((newN n : Nat) : Int) = max 0 (min n 200) := by unfold newN; omega
theorem newN_le (n : Int) : newN n ≤ 200 := by unfold newN; omega
theorem h4z {n : Nat} (h : n ≤ 200) : newN n = n := by unfold newN; omega
theorem PartR.step {s : Sg} {N p n i o : Nat} {r : Nat → Nat} (h : PartR s N p n i o r) {cells : List V} (hc : cells = (List.range i).map fun i => .loc (r i) 0 n) {s1 : Sg} (hs1n : s1.next = s.next + 2)
 (hs1 : ∀ m, m < s.next → m ≠ o → s1.m m = s.m m) (hs2 : s1.m s.next = some (.arr 1 4 (bRow n (fun _ _ => false) i))) :
 PartR ((s1.add (.box 49 (cells ++ [.loc s.next 0 n]))).set p (.box 119 [I n, .loc s1.next 0 (i + 1)])) N p n (i + 1) s1.next (fun j => if j = i then s.next else r j) := by
 subst hc
 have hpn := h.lp
 have hpr : ∀ j, j < i → r j ≠ p := fun j hj e => by have := h.hr j hj; rw [e, h.hp] at this; cases this
 have hor : ∀ j, j < i → r j ≠ o := fun j hj e => by have := h.hr j hj; rw [e, h.ho (by omega)] at this; cases this
 refine ⟨?_, fun _ => ?_, fun j hj => ?_, fun j k hj hk e => ?_, ?_, fun _ => ?_, fun j hj => ?_, h.fp, fun _ => ?_, fun j hj => ?_⟩
 ·simp [Sg.set, outV]
 ·have e1 : s1.next ≠ p := by omega
  simp only [Sg.set, Sg.add, e1, if_false, if_true]
  rw [List.range_succ, List.map_append, List.map_singleton, if_pos rfl]
  congr 3
  apply List.map_congr_left
  intro j hj
  have : j ≠ i := by have := List.mem_range.1 hj; omega
  rw [if_neg this]
 ·by_cases hji : j = i
  ·subst hji
   have e1 : s.next ≠ p := by omega
   have e2 : s.next ≠ s1.next := by omega
   simp only [Sg.set, Sg.add, if_true, e1, e2, if_false]
   exact hs2
  ·have hj' : j < i := by omega
   have l1 := h.lr j hj'
   have e2 : r j ≠ s1.next := by omega
   simp only [Sg.set, Sg.add, hji, hpr j hj', e2, if_false]
   rw [hs1 _ l1 (hor j hj')]
   exact h.hr j hj'
 ·by_cases hji : j = i <;> by_cases hki : k = i
  ·omega
  ·have := h.lr k (by omega); simp only [hji, hki, if_true, if_false] at e; omega
  ·have := h.lr j (by omega); simp only [hji, hki, if_true, if_false] at e; omega
  ·simp only [hji, hki, if_false] at e
   exact h.inj j k (by omega) (by omega) e
 ·simp only [Sg.set, Sg.add]; omega
 ·simp only [Sg.set, Sg.add]; omega
 ·by_cases hji : j = i
  ·simp only [hji, if_true, Sg.set, Sg.add]; omega
  ·have := h.lr j (by omega); simp only [hji, if_false, Sg.set, Sg.add]; omega
 ·have := h.fp; omega
 ·by_cases hji : j = i
  ·have := h.fp; simp only [hji, if_true]; omega
  ·simp only [hji, if_false]; exact h.fr j (by omega)
theorem PartR.done {s : Sg} {N p n o : Nat} {r : Nat → Nat} (h : PartR s N p n n o r) (hn : n ≤ 200) : RefR s p n (fun _ _ => false) o r := ⟨h.hp, h.ho, h.hr, h.inj, hn, h.lp, h.lo, h.lr⟩
set_option maxRecDepth 20000 in
theorem t3z (s : Sg) (n : Int) : g0q Tryd.prog 91 [I n] s (NewR s (newN n) (fun _ _ => false)) := by
 refine b8q Tryd.func91 rfl fun Q hQ => ?_
 obtain ⟨e, he, hl, h0⟩ : ∃ e : Env, ([I n] ++ List.replicate (Tryd.f91.ntmps - ([I n] : List V).length) .junk) = e ∧ e.length = 33 ∧ ev e (.tmp 0) = I n := ⟨_, rfl, rfl, rfl⟩
 rw [he]
 clear he
 have hnc := x9z n
 have hnl := newN_le n
 refine vsk fun K1 hK1 => ?_
 refine a3q 0 [] ?_
 simp only [bs, ↓vopx, ↓vop, a1q, flat, wocs, ↓goc, ↓woc, ↓a2q]
 refine hK1 _ _ ?_
 refine vsk fun K2 hK2 => ?_
 refine a3q 0 [] ?_
 simp only [bs, Nat.reduceLeDiff, Nat.reduceAdd, d8q, g2q, ↓vopx, ↓vop, Nat.reduceBEq, a1q, flat, Nat.reduceLT, V.cells, hl, h0, wocs, ↓goc, ↓woc, ↓a2q, Tryd.st119, ← x9z]
 refine hK2 _ _ ?_
 refine vsk fun K3 hK3 => ?_
 refine vsk fun K4 hK4 => ?_
 refine a3q 0 [] ?_
 simp only [bs, ↓vopx, ↓vop, a1q, flat, wocs, ↓goc, ↓woc, ↓a2q]
 refine hK4 _ _ ?_
 refine a5q ?_
 refine d0q (fun mm e' s' => ∃ i : Nat, mm = newN n - i ∧ i ≤ newN n ∧ e'.length = 33 ∧ ev e' (.tmp 3) = .ptr s.next 0 ∧ ev e' (.tmp 4) = I i ∧ True ∧ ∃ o r, PartR s' s.next s.next (newN n) i o r ∧ Keep s s' ∧ s.next ≤ s'.next) (⟨0, rfl, Nat.zero_le _, ?_⟩) ?_
 ·try simp only [a0q, a4q, Nat.reduceBEq, lpv, hl, Nat.reduceLT, true_and]
  repeat ((with_reducible refine And.intro ?_ ?_); · trivial)
  exact ⟨0, fun _ => 0, ⟨by simp [Sg.add, outV], fun h => by omega, fun j h => by omega, fun j k h => by omega, by simp [Sg.add], fun h => by omega, fun j h => by omega, Nat.le_refl _, fun h => by omega, fun j h => by omega⟩, (Keep.refl s).add (Nat.le_refl _) _, by simp [Sg.add]⟩
 rintro mm e s1 ⟨i, rfl, hle_i, hl, h3, h_i, hst, ⟨o, r, hpart, hkeep, hnx⟩⟩
 refine vsk fun K5 hK5 => ?_
 refine vsk fun K6 hK6 => ?_
 refine a3q 0 [] ?_
 simp only [bs, e9q, ↓vopx, ↓vop, Nat.reduceBEq, a1q, Nat.reduceLT, a7q, a8q, opII, hl, h3, h_i, wocs, ↓goc, ↓woc, ↓a2q, Tryd.ag3, Tryd.fd119_0, Tryd.sz3, hpart.hp]
 refine hK6 _ _ ?_
 refine vck fun A B hA hB => ?_
 simp only [b5q, a0q, lpv, Nat.reduceLT, decide_eq_true_eq, decide_eq_false_iff_not, hl]
 refine ⟨fun hc15 => hA ?_, fun hc15 => hB ?_⟩
 ·clear hA hB A B
  refine b1q ?_
  refine hK5 _ _ ?_
  refine vsk fun K7 hK7 => ?_
  refine a5q ?_
  have hlp := hpart.lp
  have hne0 : ¬ s.next = s1.next := by omega
  have hne1 : ¬ s.next = s1.next + 1 := by omega
  have hne2 : ¬ s.next = s1.next + 2 := by omega
  have hne3 : ¬ s.next = s1.next + 3 := by omega
  rcases Nat.eq_zero_or_pos i with hi0 | hi0
  ·have ho0 : outV i o = .t (.v (.slice none 0 0)) := by simp [outV, hi0]
   refine d2q Tryd.mixed 12 [0, 0, 0, 0, 2, 0, 0, 0, 1, 3, 4, 6] [] [] 0 (by decide +kernel) (by simp [lpv, hl]) rfl ?_
   simp only [bs, Nat.reduceLeDiff, Nat.reduceAdd, d8q, g2q, repl, e9q, ↓vopx, ↓vop, Nat.reduceBEq, a1q, c0q, Nat.reduceLT, V.cells, a7q, a8q, hl, h3, wocs, ↓goc, ↓woc, ↓a2q, ↓e7q, ↓l0x, chn, ↓goq, ↓woq, List.zip_cons_cons, List.zip_nil_right, ↓vopb, srcB, dstB, Tryd.ag117, Tryd.ag3, Tryd.fd119_0, Tryd.fd119_1, Tryd.sl117, Tryd.sl49, Tryd.sz117, Tryd.sz3, Nat.add_assoc, hne0, hne1, hne2, ho0, hpart.hp]
   repeat ((with_reducible refine And.intro ?_ ?_); · first | omega | (repeat' first | exact Keep.refl _ | refine Keep.add ?_ ?_ _ | refine Keep.set ?_ ?_ _ | exact Nat.le_refl _ | (simp only [Sg.add]; omega)))
   refine hK7 _ _ ?_
   refine a3q 0 [] ?_
   simp only [bs, ↓vopx, ↓vop, Nat.reduceBEq, a1q, flat, Nat.reduceLT, opII, hl, h3, h_i, wocs, ↓goc, ↓woc, ↓a2q]
   repeat ((with_reducible refine And.intro ?_ ?_); · exact ⟨by omega, by omega⟩)
   refine ⟨newN n - (i + 1), by omega, i + 1, rfl, by omega, ?_⟩
   try simp only [a0q, a4q, Nat.reduceBEq, lpv, hl, h3, h_i, if_true, if_false, Nat.reduceEqDiff, Nat.reduceLT, true_and, and_true]
   repeat ((with_reducible refine And.intro ?_ ?_); · trivial)
   first
   | (subst hi0; exact ⟨_, _, hpart.step (cells := []) rfl (s1 := (s1.add (.arr 1 4 (repl [TBo false] (newN n)))).add (.box 49 [.loc s1.next 0 (newN n)])) rfl (fun m h1 h2 => by simp [Sg.add, show ¬ m = s1.next from by omega, show ¬ m = s1.next + 1 from by omega]) (by simp [Sg.add, x5q _ 0]), (((hkeep.add hnx _).add (by simp only [c9q]; omega) _).add (by simp only [c9q]; omega) _).set (Nat.le_refl _) _, by omega⟩)
   | exact ⟨_, _, hpart.step rfl (s1 := ((s1.add (.arr 1 4 (repl [TBo false] (newN n)))).add (.box 49 [.loc s1.next 0 (newN n)])).del o) rfl (fun m h1 h2 => by simp [Sg.add, Sg.del, h2, show ¬ m = s1.next from by omega, show ¬ m = s1.next + 1 from by omega]) (by simp [Sg.add, Sg.del, x5q _ i, show ¬ s1.next = o from by omega]), ((((hkeep.add hnx _).add (by simp only [c9q]; omega) _).del (hpart.fo hi0)).add (by simp only [c9q, e4q]; omega) _).set (Nat.le_refl _) _, by omega⟩
  ·have hlo := hpart.lo hi0
   have hoo := hpart.ho hi0
   have hi1 : outV i o = .loc o 0 i := by simp [outV, show ¬ i = 0 from by omega]
   have hpo : ¬ s.next = o := fun e => by have := hpart.hp; rw [e, hoo] at this; cases this
   have hno0 : ¬ o = s1.next := by omega
   have hno1 : ¬ o = s1.next + 1 := by omega
   refine d2q Tryd.mixed 12 [0, 0, 0, 0, 2, 0, 0, 0, 1, 3, 4, 6] [] [] 0 (by decide +kernel) (by simp [lpv, hl]) rfl ?_
   simp only [bs, Nat.reduceLeDiff, Nat.reduceAdd, d8q, g2q, repl, e9q, ↓vopx, ↓vop, Nat.reduceBEq, a1q, c0q, Nat.reduceLT, V.cells, a7q, a8q, hl, h3, wocs, ↓goc, ↓woc, ↓a2q, ↓e7q, ↓l0x, chn, ↓goq, ↓woq, List.zip_cons_cons, List.zip_nil_right, ↓vopb, srcB, dstB, Tryd.ag117, Tryd.ag3, Tryd.fd119_0, Tryd.fd119_1, Tryd.sl117, Tryd.sl49, Tryd.sz117, Tryd.sz3, Nat.add_assoc, hne0, hne1, hne2, hpart.hp, hi1, hoo, hpo, hno0, hno1]
   repeat ((with_reducible refine And.intro ?_ ?_); · first | omega | (repeat' first | exact Keep.refl _ | refine Keep.add ?_ ?_ _ | refine Keep.set ?_ ?_ _ | exact Nat.le_refl _ | (simp only [Sg.add]; omega)))
   refine hK7 _ _ ?_
   refine a3q 0 [] ?_
   simp only [bs, ↓vopx, ↓vop, Nat.reduceBEq, a1q, flat, Nat.reduceLT, opII, hl, h3, h_i, wocs, ↓goc, ↓woc, ↓a2q]
   repeat ((with_reducible refine And.intro ?_ ?_); · exact ⟨by omega, by omega⟩)
   refine ⟨newN n - (i + 1), by omega, i + 1, rfl, by omega, ?_⟩
   try simp only [a0q, a4q, Nat.reduceBEq, lpv, hl, h3, h_i, if_true, if_false, Nat.reduceEqDiff, Nat.reduceLT, true_and, and_true]
   repeat ((with_reducible refine And.intro ?_ ?_); · trivial)
   first
   | (subst hi0; exact ⟨_, _, hpart.step (cells := []) rfl (s1 := (s1.add (.arr 1 4 (repl [TBo false] (newN n)))).add (.box 49 [.loc s1.next 0 (newN n)])) rfl (fun m h1 h2 => by simp [Sg.add, show ¬ m = s1.next from by omega, show ¬ m = s1.next + 1 from by omega]) (by simp [Sg.add, x5q _ 0]), (((hkeep.add hnx _).add (by simp only [c9q]; omega) _).add (by simp only [c9q]; omega) _).set (Nat.le_refl _) _, by omega⟩)
   | exact ⟨_, _, hpart.step rfl (s1 := ((s1.add (.arr 1 4 (repl [TBo false] (newN n)))).add (.box 49 [.loc s1.next 0 (newN n)])).del o) rfl (fun m h1 h2 => by simp [Sg.add, Sg.del, h2, show ¬ m = s1.next from by omega, show ¬ m = s1.next + 1 from by omega]) (by simp [Sg.add, Sg.del, x5q _ i, show ¬ s1.next = o from by omega]), ((((hkeep.add hnx _).add (by simp only [c9q]; omega) _).del (hpart.fo hi0)).add (by simp only [c9q, e4q]; omega) _).set (Nat.le_refl _) _, by omega⟩
 ·clear hA hB A B
  have hin : i = newN n := by omega
  subst hin
  refine c8q ?_
  simp only [a1q, c0q, if_true]
  refine hK3 _ _ ?_
  refine vsk fun K8 hK8 => ?_
  refine a3q 0 [] ?_
  simp only [bs, ↓vopx, ↓vop, Nat.reduceBEq, a1q, Nat.reduceLT, hl, h3, wocs, ↓goc, ↓woc, ↓a2q]
  refine hK8 _ _ ?_
  refine b3q ?_
  refine hQ _ _ _ (.inr rfl) (d7q (v := .ptr s.next 0) ?_ rfl ⟨s.next, o, r, rfl, hpart.done hnl, ⟨hpart.fp, hpart.fo, hpart.fr⟩, hkeep, hnx⟩)
  try simp only [a0q, lpv, hl, Nat.reduceLT]
end Go.Proofs

open Go Go.V
namespace Go.Proofs
def cpB (M : Mx) (a b : Nat) : Mx := fun x y => decide (x < a ∨ (x = a ∧ y < b)) && M x y
theorem cpB_put (M : Mx) (a b : Nat) (x y : Nat) : updM (cpB M a b) a b (M a b) x y = cpB M a (b + 1) x y := by
 unfold updM cpB
 by_cases h : x = a ∧ y = b
 ·obtain ⟨rfl, rfl⟩ := h; simp
 ·rw [if_neg h]
  congr 1
  apply decide_eq_decide.2
  omega
set_option maxRecDepth 20000 in
theorem c5j (s : Sg) (p n : Nat) (M : Mx) (o : Nat) (r : Nat → Nat) (h : RefR s p n M o r) : g0q Tryd.prog 142 [.ptr p 0] s (NewR s n M) := by
 refine b8q Tryd.func142 rfl fun Q hQ => ?_
 obtain ⟨e, he, hl, h0⟩ : ∃ e : Env, ([.ptr p 0] ++ List.replicate (Tryd.f142.ntmps - ([.ptr p 0] : List V).length) .junk) = e ∧ e.length = 47 ∧ ev e (.tmp 0) = .ptr p 0 := ⟨_, rfl, rfl, rfl⟩
 rw [he]
 clear he
 have hnl := h.le
 have hnn := h4z hnl
 refine vsk fun K1 hK1 => ?_
 refine a3q 0 [] ?_
 simp only [bs, ↓vopx, ↓vop, a1q, flat, wocs, ↓goc, ↓woc, ↓a2q]
 refine hK1 _ _ ?_
 refine vsk fun K2 hK2 => ?_
 refine a3q 0 [.stop] ?_
 simp only [bs, Nat.reduceAdd, e9q, ↓vopx, ↓vop, Nat.reduceBEq, a1q, Nat.reduceLT, a7q, a8q, hl, h0, wocs, ↓goc, ↓woc, ↓a2q, ↓c4q, a6q, Tryd.ag3, Tryd.fd119_0, Tryd.sz3, h.hp]
 refine ⟨Tryd.is91, (t3z s n).mono fun v s2 hv => ?_⟩
 rw [hnn] at hv
 obtain ⟨c, o1, r1, rfl, hR, hF, hk, hnx⟩ := hv
 try simp only [bs, Nat.reduceBEq, Nat.reduceLT, hl, h0, Hold]
 refine hK2 _ _ ?_
 refine vsk fun K3 hK3 => ?_
 refine vsk fun K4 hK4 => ?_
 refine a3q 0 [] ?_
 simp only [bs, ↓vopx, ↓vop, a1q, flat, wocs, ↓goc, ↓woc, ↓a2q]
 refine hK4 _ _ ?_
 refine a5q ?_
 refine d0q (fun mm e' s' => ∃ a : Nat, mm = n - a ∧ a ≤ n ∧ e'.length = 47 ∧ ev e' (.tmp 0) = .ptr p 0 ∧ ev e' (.tmp 3) = .ptr c 0 ∧ ev e' (.tmp 4) = I a ∧ True ∧ RefR s' c n (cpB M a 0) o1 r1 ∧ Keep s s' ∧ s.next ≤ s'.next) (⟨0, rfl, Nat.zero_le _, ?_⟩) ?_
 ·try simp only [a0q, a4q, Nat.reduceBEq, lpv, hl, h0, Nat.reduceLT, true_and]
  repeat ((with_reducible refine And.intro ?_ ?_); · trivial)
  exact ⟨hR.congr fun x y hx hy => by simp [cpB], hk, hnx⟩
 rintro mm e s1 ⟨a, rfl, hle_a, hl, h0, h3, h_a, hst, ⟨hd, hkeep, hnx⟩⟩
 refine vsk fun K5 hK5 => ?_
 refine vsk fun K6 hK6 => ?_
 have hs := h.keep hkeep hnx
 refine a3q 0 [] ?_
 simp only [bs, e9q, ↓vopx, ↓vop, Nat.reduceBEq, a1q, Nat.reduceLT, a7q, a8q, opII, hl, h0, h_a, wocs, ↓goc, ↓woc, ↓a2q, Tryd.ag3, Tryd.fd119_0, Tryd.sz3, hs.hp]
 refine hK6 _ _ ?_
 refine vck fun A B hA hB => ?_
 simp only [b5q, a0q, lpv, Nat.reduceLT, decide_eq_true_eq, decide_eq_false_iff_not, hl]
 refine ⟨fun hc16 => hA ?_, fun hc16 => hB ?_⟩
 ·clear hA hB A B
  refine b1q ?_
  refine hK5 _ _ ?_
  refine vsk fun K7 hK7 => ?_
  refine a5q ?_
  refine vsk fun K8 hK8 => ?_
  refine a3q 0 [] ?_
  simp only [bs, ↓vopx, ↓vop, a1q, flat, wocs, ↓goc, ↓woc, ↓a2q]
  refine hK8 _ _ ?_
  refine a5q ?_
  refine d0q (fun mm e' s' => ∃ b : Nat, mm = n - b ∧ b ≤ n ∧ e'.length = 47 ∧ ev e' (.tmp 0) = .ptr p 0 ∧ ev e' (.tmp 3) = .ptr c 0 ∧ ev e' (.tmp 4) = I a ∧ ev e' (.tmp 5) = I b ∧ True ∧ RefR s' c n (cpB M a b) o1 r1 ∧ Keep s s' ∧ s.next ≤ s'.next) (⟨0, rfl, Nat.zero_le _, ?_⟩) ?_
  ·try simp only [a0q, a4q, Nat.reduceBEq, lpv, hl, h0, h3, h_a, Nat.reduceLT, true_and]
   repeat ((with_reducible refine And.intro ?_ ?_); · trivial)
   first | exact hnx | exact ⟨hd, hkeep, hnx⟩
  rintro mm e s1 ⟨b, rfl, hle_b, hl, h0, h3, h4, h_b, hst, ⟨hd, hkeep, hnx⟩⟩
  refine vsk fun K9 hK9 => ?_
  refine vsk fun K10 hK10 => ?_
  have hs := h.keep hkeep hnx
  refine a3q 0 [] ?_
  simp only [bs, e9q, ↓vopx, ↓vop, Nat.reduceBEq, a1q, Nat.reduceLT, a7q, a8q, opII, hl, h0, h_b, wocs, ↓goc, ↓woc, ↓a2q, Tryd.ag3, Tryd.fd119_0, Tryd.sz3, hs.hp]
  refine hK10 _ _ ?_
  refine vck fun A B hA hB => ?_
  simp only [b5q, a0q, lpv, Nat.reduceLT, decide_eq_true_eq, decide_eq_false_iff_not, hl]
  refine ⟨fun hc24 => hA ?_, fun hc24 => hB ?_⟩
  ·clear hA hB A B
   refine b1q ?_
   refine hK9 _ _ ?_
   refine vsk fun K11 hK11 => ?_
   refine a5q ?_
   have hs := h.keep hkeep hnx
   have xp := hs.hp
   have xv : outV n o = .loc o 0 n := by simp [outV, show ¬ n = 0 from by omega]
   have xo := hs.ho (by omega)
   have xr := hs.hr a (by omega)
   have xb := l9q (n := n) (M := M) (a := a) (b := b) (by omega)
   have xg : (List.range n)[a]? = some a := List.getElem?_range (by omega)
   have yp := hd.hp
   have yv : outV n o1 = .loc o1 0 n := by simp [outV, show ¬ n = 0 from by omega]
   have yo := hd.ho (by omega)
   have yr := hd.hr a (by omega)
   have yb := l9q (n := n) (M := cpB M a b) (a := a) (b := b) (by omega)
   have yg : (List.range n)[a]? = some a := List.getElem?_range (by omega)
   refine d2q Tryd.mixed 18 [0, 0, 0, 1, 0, 1, 1, 0, 0, 0, 0, 1, 0, 1, 1, 0, 1, 1] [] [] 0 (by decide +kernel) (by simp [lpv, hl]) rfl ?_
   simp only [bs, e9q, ↓vopx, ↓vop, Nat.reduceBEq, a1q, c0q, Nat.reduceLT, V.cells, a7q, a8q, Sg.frzL, Sg.frz1, hl, h0, h3, h4, h_b, wocs, ↓goc, ↓woc, ↓a2q, ↓e7q, chn, ↓goq, ↓woq, List.zip_cons_cons, List.zip_nil_right, Tryd.ag117, Tryd.ag4, Tryd.ag49, Tryd.fd119_1, Tryd.sz117, Tryd.sz4, Tryd.sz49, Tryd.un117, Tryd.un49, xp, xv, xo, xr, xb, xg, h1q, yp, yv, yo, yr]
   repeat ((with_reducible refine And.intro ?_ ?_); · first | (with_reducible assumption) | omega)
   refine hK11 _ _ ?_
   refine a3q 0 [] ?_
   simp only [bs, ↓vopx, ↓vop, Nat.reduceBEq, a1q, flat, Nat.reduceLT, opII, hl, h0, h3, h4, h_b, wocs, ↓goc, ↓woc, ↓a2q]
   repeat ((with_reducible refine And.intro ?_ ?_); · exact ⟨by omega, by omega⟩)
   refine ⟨n - (b + 1), by omega, b + 1, rfl, by omega, ?_⟩
   try simp only [a0q, a4q, Nat.reduceBEq, lpv, hl, h0, h3, h4, h_b, if_true, if_false, Nat.reduceEqDiff, Nat.reduceLT, true_and, and_true]
   repeat ((with_reducible refine And.intro ?_ ?_); · trivial)
   exact ⟨(hd.put (by omega) (by omega) _).congr fun x y hx hy => cpB_put M a b x y, hkeep.set (hF.hr a (by omega)) _, hnx⟩
  ·clear hA hB A B
   have hbn : n = b := by omega
   subst hbn
   refine c8q ?_
   simp only [a1q, c0q, if_true, if_false, Nat.reduceEqDiff, reduceCtorEq]
   refine hK7 _ _ ?_
   refine a3q 0 [] ?_
   simp only [bs, ↓vopx, ↓vop, Nat.reduceBEq, a1q, flat, Nat.reduceLT, opII, hl, h0, h3, h4, wocs, ↓goc, ↓woc, ↓a2q]
   repeat ((with_reducible refine And.intro ?_ ?_); · exact ⟨by omega, by omega⟩)
   refine ⟨n - (a + 1), by omega, a + 1, rfl, by omega, ?_⟩
   try simp only [a0q, a4q, Nat.reduceBEq, lpv, hl, h0, h3, h_a, if_true, if_false, Nat.reduceEqDiff, Nat.reduceLT, true_and, and_true]
   repeat ((with_reducible refine And.intro ?_ ?_); · trivial)
   exact ⟨hd.congr fun x y hx hy => by unfold cpB; congr 1; apply decide_eq_decide.2; omega, hkeep, hnx⟩
 ·clear hA hB A B
  have han : n = a := by omega
  subst han
  refine c8q ?_
  simp only [a1q, c0q, if_true]
  refine hK3 _ _ ?_
  refine vsk fun K12 hK12 => ?_
  refine a3q 0 [] ?_
  simp only [bs, ↓vopx, ↓vop, Nat.reduceBEq, a1q, Nat.reduceLT, hl, h3, wocs, ↓goc, ↓woc, ↓a2q]
  refine hK12 _ _ ?_
  refine b3q ?_
  refine hQ _ _ _ (.inr rfl) (d7q (v := .ptr c 0) ?_ rfl ⟨c, o1, r1, rfl, hd.congr fun x y hx hy => by simp [cpB, hx], hF, hkeep, hnx⟩)
  try simp only [a0q, lpv, hl, Nat.reduceLT]
end Go.Proofs

open Go Go.V
namespace Go.Proofs
def fwB (M : Mx) (k a b : Nat) : Mx := fun x y => if x < a ∨ (x = a ∧ y < b) then fwk M k x y else M x y
theorem e9x (M : Mx) (k : Nat) (x y : Nat) : M x y = fwB M k 0 0 x y := by simp [fwB]
theorem h2z (M : Mx) (k a : Nat) : fwB M k a 0 a k = M a k := by simp [fwB]
theorem a6z (M : Mx) (k a b : Nat) : fwB M k a b k b = M k b := by
 unfold fwB
 split
 ·unfold fwk; cases M k b <;> simp
 ·rfl
theorem p0x {M : Mx} {k a b : Nat} (h1 : M a k = true) (h2 : M k b = true) (x y : Nat) : updM (fwB M k a b) a b true x y = fwB M k a (b + 1) x y := by
 unfold updM
 by_cases h : x = a ∧ y = b
 ·obtain ⟨rfl, rfl⟩ := h; simp [fwB, fwk, h1, h2]
 ·rw [if_neg h]
  unfold fwB
  have : (x < a ∨ (x = a ∧ y < b)) ↔ (x < a ∨ (x = a ∧ y < b + 1)) := by omega
  simp only [this]
theorem o9x {M : Mx} {k a b : Nat} (h2 : M k b = false) (x y : Nat) : fwB M k a b x y = fwB M k a (b + 1) x y := by
 unfold fwB
 by_cases h : x = a ∧ y = b
 ·obtain ⟨rfl, rfl⟩ := h; simp [fwk, h2]
 ·have : (x < a ∨ (x = a ∧ y < b)) ↔ (x < a ∨ (x = a ∧ y < b + 1)) := by omega
  simp only [this]
theorem p1x {M : Mx} {k a n : Nat} (x y : Nat) (hy : y < n) : fwB M k a n x y = fwB M k (a + 1) 0 x y := by
 unfold fwB
 have : (x < a ∨ (x = a ∧ y < n)) ↔ (x < a + 1 ∨ (x = a + 1 ∧ y < 0)) := by omega
 simp only [this]
theorem h3z {M : Mx} {k a : Nat} (h1 : M a k = false) (x y : Nat) : fwB M k a 0 x y = fwB M k (a + 1) 0 x y := by
 unfold fwB
 by_cases h : x = a
 ·subst h; simp [fwk, h1]
 ·have : (x < a ∨ (x = a ∧ y < 0)) ↔ (x < a + 1 ∨ (x = a + 1 ∧ y < 0)) := by omega
  simp only [this]
theorem e8x {M : Mx} {k n : Nat} (x y : Nat) (hx : x < n) : fwB (cloK M k) k n 0 x y = cloK M (k + 1) x y := by
 rw [n5q]; simp [fwB, hx]
set_option maxRecDepth 20000 in
theorem l5z (s : Sg) (p n : Nat) (M : Mx) (o : Nat) (r : Nat → Nat) (h : RefR s p n M o r) : g0q Tryd.prog 115 [.ptr p 0] s (NewR s n (cloK M n)) := by
 refine b8q Tryd.func115 rfl fun Q hQ => ?_
 obtain ⟨e, he, hl, h0⟩ : ∃ e : Env, ([.ptr p 0] ++ List.replicate (Tryd.f115.ntmps - ([.ptr p 0] : List V).length) .junk) = e ∧ e.length = 64 ∧ ev e (.tmp 0) = .ptr p 0 := ⟨_, rfl, rfl, rfl⟩
 rw [he]
 clear he
 have hnl := h.le
 refine vsk fun K1 hK1 => ?_
 refine a3q 0 [] ?_
 simp only [bs, ↓vopx, ↓vop, a1q, flat, wocs, ↓goc, ↓woc, ↓a2q]
 refine hK1 _ _ ?_
 refine vsk fun K2 hK2 => ?_
 refine a3q 0 [.stop] ?_
 simp only [bs, ↓vopx, ↓vop, Nat.reduceBEq, a1q, Nat.reduceLT, hl, h0, wocs, ↓goc, ↓woc, ↓a2q, ↓c4q, a6q]
 refine ⟨Tryd.is142, (c5j s p n M o r h).mono fun v s2 hv => ?_⟩
 obtain ⟨c, o1, r1, rfl, hR, hF, hk, hnx⟩ := hv
 try simp only [bs, Nat.reduceBEq, Nat.reduceLT, hl, h0, Hold]
 refine hK2 _ _ ?_
 refine vsk fun K3 hK3 => ?_
 refine vsk fun K4 hK4 => ?_
 refine a3q 0 [] ?_
 simp only [bs, ↓vopx, ↓vop, a1q, flat, wocs, ↓goc, ↓woc, ↓a2q]
 refine hK4 _ _ ?_
 refine a5q ?_
 refine d0q (fun mm e' s' => ∃ k : Nat, mm = n - k ∧ k ≤ n ∧ e'.length = 64 ∧ ev e' (.tmp 3) = .ptr c 0 ∧ ev e' (.tmp 4) = I k ∧ True ∧ RefR s' c n (cloK M k) o1 r1 ∧ Keep s s' ∧ s.next ≤ s'.next) (⟨0, rfl, Nat.zero_le _, ?_⟩) ?_
 ·try simp only [a0q, a4q, Nat.reduceBEq, lpv, hl, Nat.reduceLT, true_and]
  repeat ((with_reducible refine And.intro ?_ ?_); · trivial)
  first | exact hnx | exact ⟨hR, hk, hnx⟩
 rintro mm e s1 ⟨k, rfl, hle_k, hl, h3, h_k, hst, ⟨hd, hkeep, hnx⟩⟩
 refine vsk fun K5 hK5 => ?_
 refine vsk fun K6 hK6 => ?_
 refine a3q 0 [] ?_
 simp only [bs, e9q, ↓vopx, ↓vop, Nat.reduceBEq, a1q, Nat.reduceLT, a7q, a8q, opII, hl, h3, h_k, wocs, ↓goc, ↓woc, ↓a2q, Tryd.ag3, Tryd.fd119_0, Tryd.sz3, hd.hp]
 refine hK6 _ _ ?_
 refine vck fun A B hA hB => ?_
 simp only [b5q, a0q, lpv, Nat.reduceLT, decide_eq_true_eq, decide_eq_false_iff_not, hl]
 refine ⟨fun hc14 => hA ?_, fun hc14 => hB ?_⟩
 ·clear hA hB A B
  refine b1q ?_
  refine hK5 _ _ ?_
  refine vsk fun K7 hK7 => ?_
  refine a5q ?_
  refine vsk fun K8 hK8 => ?_
  refine a3q 0 [] ?_
  simp only [bs, ↓vopx, ↓vop, a1q, flat, wocs, ↓goc, ↓woc, ↓a2q]
  refine hK8 _ _ ?_
  refine a5q ?_
  refine d0q (fun mm e' s' => ∃ a : Nat, mm = n - a ∧ a ≤ n ∧ e'.length = 64 ∧ ev e' (.tmp 3) = .ptr c 0 ∧ ev e' (.tmp 4) = I k ∧ ev e' (.tmp 5) = I a ∧ True ∧ RefR s' c n (fwB (cloK M k) k a 0) o1 r1 ∧ Keep s s' ∧ s.next ≤ s'.next) (⟨0, rfl, Nat.zero_le _, ?_⟩) ?_
  ·try simp only [a0q, a4q, Nat.reduceBEq, lpv, hl, h3, h_k, Nat.reduceLT, true_and]
   repeat ((with_reducible refine And.intro ?_ ?_); · trivial)
   exact ⟨hd.congr fun x y hx hy => e9x _ _ x y, hkeep, hnx⟩
  rintro mm e s1 ⟨a, rfl, hle_a, hl, h3, h4, h_a, hst, ⟨hd, hkeep, hnx⟩⟩
  refine vsk fun K9 hK9 => ?_
  refine vsk fun K10 hK10 => ?_
  refine a3q 0 [] ?_
  simp only [bs, e9q, ↓vopx, ↓vop, Nat.reduceBEq, a1q, Nat.reduceLT, a7q, a8q, opII, hl, h3, h_a, wocs, ↓goc, ↓woc, ↓a2q, Tryd.ag3, Tryd.fd119_0, Tryd.sz3, hd.hp]
  refine hK10 _ _ ?_
  refine vck fun A B hA hB => ?_
  simp only [b5q, a0q, lpv, Nat.reduceLT, decide_eq_true_eq, decide_eq_false_iff_not, hl]
  refine ⟨fun hc22 => hA ?_, fun hc22 => hB ?_⟩
  ·clear hA hB A B
   refine b1q ?_
   refine hK9 _ _ ?_
   refine vsk fun K11 hK11 => ?_
   refine a5q ?_
   refine vsk fun K12 hK12 => ?_
   refine vsk fun K13 hK13 => ?_
   have xp := hd.hp
   have xv : outV n o1 = .loc o1 0 n := by simp [outV, show ¬ n = 0 from by omega]
   have xo := hd.ho (by omega)
   have xr := hd.hr a (by omega)
   have xb := l9q (n := n) (M := fwB (cloK M k) k a 0) (a := a) (b := k) (by omega)
   have xg : (List.range n)[a]? = some a := List.getElem?_range (by omega)
   refine a3q 0 [] ?_
   simp only [bs, e9q, ↓vopx, ↓vop, Nat.reduceBEq, a1q, Nat.reduceLT, a7q, a8q, hl, h3, h4, h_a, wocs, ↓goc, ↓woc, ↓a2q, Tryd.ag117, Tryd.ag4, Tryd.ag49, Tryd.fd119_1, Tryd.sz117, Tryd.sz4, Tryd.sz49, Tryd.un117, Tryd.un49, xp, xv, xo, xr, xb, xg]
   repeat ((with_reducible refine And.intro ?_ ?_); · (with_reducible assumption))
   refine hK13 _ _ ?_
   refine vck fun A B hA hB => ?_
   simp only [b5q, a0q, lpv, Nat.reduceLT, Bool.not_eq_true', Bool.not_eq_false', hl]
   refine ⟨fun hc35 => hA ?_, fun hc35 => hB ?_⟩
   ·clear hA hB A B
    refine c8q ?_
    simp only [a1q, c0q, if_true, if_false, Nat.reduceEqDiff, reduceCtorEq]
    refine hK11 _ _ ?_
    refine a3q 0 [] ?_
    simp only [bs, ↓vopx, ↓vop, Nat.reduceBEq, a1q, flat, Nat.reduceLT, opII, hl, h3, h4, h_a, wocs, ↓goc, ↓woc, ↓a2q]
    repeat ((with_reducible refine And.intro ?_ ?_); · exact ⟨by omega, by omega⟩)
    refine ⟨n - (a + 1), by omega, a + 1, rfl, by omega, ?_⟩
    try simp only [a0q, a4q, Nat.reduceBEq, lpv, hl, h3, h4, h_a, if_true, if_false, Nat.reduceEqDiff, Nat.reduceLT, true_and, and_true]
    repeat ((with_reducible refine And.intro ?_ ?_); · trivial)
    first | exact ⟨hd.congr fun x y hx hy => p1x x y hy, hkeep, hnx⟩ | exact ⟨hd.congr fun x y hx hy => h3z (by simpa [h2z] using hc35) x y, hkeep, hnx⟩
   ·clear hA hB A B
    have hak : cloK M k a k = true := by simpa [h2z] using hc35
    refine b1q ?_
    refine hK12 _ _ ?_
    refine vsk fun K14 hK14 => ?_
    refine a3q 0 [] ?_
    simp only [bs, ↓vopx, ↓vop, a1q, flat, wocs, ↓goc, ↓woc, ↓a2q]
    refine hK14 _ _ ?_
    refine a5q ?_
    refine d0q (fun mm e' s' => ∃ b : Nat, mm = n - b ∧ b ≤ n ∧ e'.length = 64 ∧ ev e' (.tmp 3) = .ptr c 0 ∧ ev e' (.tmp 4) = I k ∧ ev e' (.tmp 5) = I a ∧ ev e' (.tmp 6) = I b ∧ True ∧ RefR s' c n (fwB (cloK M k) k a b) o1 r1 ∧ Keep s s' ∧ s.next ≤ s'.next) (⟨0, rfl, Nat.zero_le _, ?_⟩) ?_
    ·try simp only [a0q, a4q, Nat.reduceBEq, lpv, hl, h3, h4, h_a, Nat.reduceLT, true_and]
     repeat ((with_reducible refine And.intro ?_ ?_); · trivial)
     first | exact hnx | exact ⟨hd, hkeep, hnx⟩
    rintro mm e s1 ⟨b, rfl, hle_b, hl, h3, h4, h5, h_b, hst, ⟨hd, hkeep, hnx⟩⟩
    refine vsk fun K15 hK15 => ?_
    refine vsk fun K16 hK16 => ?_
    refine a3q 0 [] ?_
    simp only [bs, e9q, ↓vopx, ↓vop, Nat.reduceBEq, a1q, Nat.reduceLT, a7q, a8q, opII, hl, h3, h_b, wocs, ↓goc, ↓woc, ↓a2q, Tryd.ag3, Tryd.fd119_0, Tryd.sz3, hd.hp]
    refine hK16 _ _ ?_
    refine vck fun A B hA hB => ?_
    simp only [b5q, a0q, lpv, Nat.reduceLT, decide_eq_true_eq, decide_eq_false_iff_not, hl]
    refine ⟨fun hc41 => hA ?_, fun hc41 => hB ?_⟩
    ·clear hA hB A B
     refine b1q ?_
     refine hK15 _ _ ?_
     refine vsk fun K17 hK17 => ?_
     refine a5q ?_
     refine vsk fun K18 hK18 => ?_
     have xp := hd.hp
     have xv : outV n o1 = .loc o1 0 n := by simp [outV, show ¬ n = 0 from by omega]
     have xo := hd.ho (by omega)
     have xr := hd.hr k (by omega)
     have xb := l9q (n := n) (M := fwB (cloK M k) k a b) (a := k) (b := b) (by omega)
     have xg : (List.range n)[k]? = some k := List.getElem?_range (by omega)
     refine a3q 0 [] ?_
     simp only [bs, e9q, ↓vopx, ↓vop, Nat.reduceBEq, a1q, Nat.reduceLT, a7q, a8q, hl, h3, h4, h_b, wocs, ↓goc, ↓woc, ↓a2q, Tryd.ag117, Tryd.ag4, Tryd.ag49, Tryd.fd119_1, Tryd.sz117, Tryd.sz4, Tryd.sz49, Tryd.un117, Tryd.un49, xp, xv, xo, xr, xb, xg]
     repeat ((with_reducible refine And.intro ?_ ?_); · (with_reducible assumption))
     refine hK18 _ _ ?_
     refine vck fun A B hA hB => ?_
     simp only [b5q, a0q, lpv, Nat.reduceLT, hl]
     refine ⟨fun hc53 => hA ?_, fun hc53 => hB ?_⟩
     ·clear hA hB A B
      have xp := hd.hp
      have xv : outV n o1 = .loc o1 0 n := by simp [outV, show ¬ n = 0 from by omega]
      have xo := hd.ho (by omega)
      have xr := hd.hr a (by omega)
      have xb := l9q (n := n) (M := fwB (cloK M k) k a b) (a := a) (b := b) (by omega)
      have xg : (List.range n)[a]? = some a := List.getElem?_range (by omega)
      refine a3q 0 [] ?_
      simp only [bs, e9q, ↓vopx, ↓vop, Nat.reduceBEq, a1q, c0q, flat, Nat.reduceLT, V.cells, a7q, a8q, Sg.frzL, Sg.frz1, hl, h3, h5, h_b, wocs, ↓goc, ↓woc, ↓a2q, Tryd.ag117, Tryd.ag49, Tryd.fd119_1, Tryd.sz117, Tryd.sz4, Tryd.sz49, Tryd.un117, Tryd.un49, xp, xv, xo, xr, xg, h1q]
      repeat ((with_reducible refine And.intro ?_ ?_); · first | (with_reducible assumption) | omega)
      refine hK17 _ _ ?_
      refine a3q 0 [] ?_
      simp only [bs, ↓vopx, ↓vop, Nat.reduceBEq, a1q, flat, Nat.reduceLT, opII, hl, h3, h4, h5, h_b, wocs, ↓goc, ↓woc, ↓a2q]
      repeat ((with_reducible refine And.intro ?_ ?_); · exact ⟨by omega, by omega⟩)
      refine ⟨n - (b + 1), by omega, b + 1, rfl, by omega, ?_⟩
      try simp only [a0q, a4q, Nat.reduceBEq, lpv, hl, h3, h4, h5, h_b, if_true, if_false, Nat.reduceEqDiff, Nat.reduceLT, true_and, and_true]
      repeat ((with_reducible refine And.intro ?_ ?_); · trivial)
      first | exact ⟨(hd.put (by omega) (by omega) _).congr fun x y hx hy => p0x hak (by simpa [a6z] using hc53) x y, hkeep.set (hF.hr a (by omega)) _, hnx⟩ | exact ⟨hd.congr fun x y hx hy => o9x (by simpa [a6z] using hc53) x y, hkeep, hnx⟩
     ·clear hA hB A B
      refine b1q ?_
      refine hK17 _ _ ?_
      refine a3q 0 [] ?_
      simp only [bs, ↓vopx, ↓vop, Nat.reduceBEq, a1q, flat, Nat.reduceLT, opII, hl, h3, h4, h5, h_b, wocs, ↓goc, ↓woc, ↓a2q]
      repeat ((with_reducible refine And.intro ?_ ?_); · exact ⟨by omega, by omega⟩)
      refine ⟨n - (b + 1), by omega, b + 1, rfl, by omega, ?_⟩
      try simp only [a0q, a4q, Nat.reduceBEq, lpv, hl, h3, h4, h5, h_b, if_true, if_false, Nat.reduceEqDiff, Nat.reduceLT, true_and, and_true]
      repeat ((with_reducible refine And.intro ?_ ?_); · trivial)
      first | exact ⟨(hd.put (by omega) (by omega) _).congr fun x y hx hy => p0x hak (by simpa [a6z] using hc53) x y, hkeep.set (hF.hr a (by omega)) _, hnx⟩ | exact ⟨hd.congr fun x y hx hy => o9x (by simpa [a6z] using hc53) x y, hkeep, hnx⟩
    ·clear hA hB A B
     have hbn : n = b := by omega
     subst hbn
     refine c8q ?_
     simp only [a1q, c0q, if_true, if_false, Nat.reduceEqDiff, reduceCtorEq]
     refine hK11 _ _ ?_
     refine a3q 0 [] ?_
     simp only [bs, ↓vopx, ↓vop, Nat.reduceBEq, a1q, flat, Nat.reduceLT, opII, hl, h3, h4, h5, wocs, ↓goc, ↓woc, ↓a2q]
     repeat ((with_reducible refine And.intro ?_ ?_); · exact ⟨by omega, by omega⟩)
     refine ⟨n - (a + 1), by omega, a + 1, rfl, by omega, ?_⟩
     try simp only [a0q, a4q, Nat.reduceBEq, lpv, hl, h3, h4, h_a, if_true, if_false, Nat.reduceEqDiff, Nat.reduceLT, true_and, and_true]
     repeat ((with_reducible refine And.intro ?_ ?_); · trivial)
     first | exact ⟨hd.congr fun x y hx hy => p1x x y hy, hkeep, hnx⟩ | exact ⟨hd.congr fun x y hx hy => h3z (by simpa [h2z] using hc35) x y, hkeep, hnx⟩
  ·clear hA hB A B
   have han : n = a := by omega
   subst han
   refine c8q ?_
   simp only [a1q, c0q, if_true, if_false, Nat.reduceEqDiff, reduceCtorEq]
   refine hK7 _ _ ?_
   refine a3q 0 [] ?_
   simp only [bs, ↓vopx, ↓vop, Nat.reduceBEq, a1q, flat, Nat.reduceLT, opII, hl, h3, h4, wocs, ↓goc, ↓woc, ↓a2q]
   repeat ((with_reducible refine And.intro ?_ ?_); · exact ⟨by omega, by omega⟩)
   refine ⟨n - (k + 1), by omega, k + 1, rfl, by omega, ?_⟩
   try simp only [a0q, a4q, Nat.reduceBEq, lpv, hl, h3, h_k, if_true, if_false, Nat.reduceEqDiff, Nat.reduceLT, true_and, and_true]
   repeat ((with_reducible refine And.intro ?_ ?_); · trivial)
   exact ⟨hd.congr fun x y hx hy => e8x x y hx, hkeep, hnx⟩
 ·clear hA hB A B
  have han : n = k := by omega
  subst han
  refine c8q ?_
  simp only [a1q, c0q, if_true]
  refine hK3 _ _ ?_
  refine vsk fun K19 hK19 => ?_
  refine a3q 0 [] ?_
  simp only [bs, ↓vopx, ↓vop, Nat.reduceBEq, a1q, Nat.reduceLT, hl, h3, wocs, ↓goc, ↓woc, ↓a2q]
  refine hK19 _ _ ?_
  refine b3q ?_
  refine hQ _ _ _ (.inr rfl) (d7q (v := .ptr c 0) ?_ rfl ⟨c, o1, r1, rfl, hd, hF, hkeep, hnx⟩)
  try simp only [a0q, lpv, hl, Nat.reduceLT]
set_option maxRecDepth 20000 in
theorem t0x (s : Sg) (p n : Nat) (M : Mx) (o : Nat) (r : Nat → Nat) (h : RefR s p n M o r) : k4q Tryd.prog 104 [.ptr p 0] s (Bo (u5z n M)) (s) := by
 refine d3q Tryd.func104 rfl fun Q hQ => ?_
 obtain ⟨e, he, hl, h0⟩ : ∃ e : Env, ([.ptr p 0] ++ List.replicate (Tryd.f104.ntmps - ([.ptr p 0] : List V).length) .junk) = e ∧ e.length = 7 ∧ ev e (.tmp 0) = .ptr p 0 := ⟨_, rfl, rfl, rfl⟩
 rw [he]
 clear he
 refine vsk fun K1 hK1 => ?_
 refine a3q 0 [] ?_
 simp only [bs, ↓vopx, ↓vop, a1q, flat, wocs, ↓goc, ↓woc, ↓a2q]
 refine hK1 _ _ ?_
 refine vsk fun K2 hK2 => ?_
 refine a3q 0 [.stop, .stop] ?_
 simp only [bs, ↓vopx, ↓vop, Nat.reduceBEq, a1q, Nat.reduceLT, hl, h0, wocs, ↓goc, ↓woc, ↓a2q, ↓c4q, a6q, ↓m7q]
 refine ⟨Tryd.is115, (l5z s p n M o r h).mono fun v s2 hv => ?_⟩
 obtain ⟨c, o1, r1, rfl, hR, hF, hk, hnx⟩ := hv
 try simp only [bs, Nat.reduceBEq, Nat.reduceLT, hl, h0, Hold]
 refine ⟨Tryd.is128, (c7j s2 p n M o r (h.keep hk hnx) c _ o1 r1 hR).v ?_⟩
 try simp only [bs, dstT, srcT, Nat.reduceLeDiff, Nat.reduceAdd, d8q, g2q, repl, Sg.frzP, e9q, wops, ↓gow, ↓wop, vops, ↓gop, ↓vopx, ↓vop, Nat.reduceBEq, a1q, c0q, flat, Nat.reduceEqDiff, Nat.reduceLT, V.cells, a7q, a8q, opII, opSS, gtmp, Sg.frzL, Sg.frz1, reduceCtorEq, hl, h0, wocs, ↓goc, ↓woc, ↓a2q, ↓e7q, ↓l0x, ↓c4q, ↓g1q, ↓d1q, ↓e8q, ↓o1q, a6q, ↓m7q, ↓farC, List.append_nil, Hold]
 refine hK2 _ _ ?_
 refine b3q ?_
 refine hQ _ _ _ (.inr rfl) (Done.toS (b2q ?_ hk))
 try simp only [a0q, lpv, hl, Nat.reduceLT]
 rfl
end Go.Proofs

open Go Go.V
namespace Go.Proofs
def rowK (M : Mx) (a b : Nat) : List (Int × Int) := ((List.range b).filter fun y => M a y).map fun (y : Nat) => ((a : Int), (y : Int))
def prB (n : Nat) (M : Mx) (a b : Nat) : List (Int × Int) := (List.range a).flatMap (rowOf n M) ++ rowK M a b
theorem l7z (M : Mx) (a b : Nat) : (rowK M a b).length ≤ b := by
 have := List.length_filter_le (fun y => M a y) (List.range b)
 simpa [rowK] using this
theorem e0z (n : Nat) (M : Mx) : ∀ a b, (prB n M a b).length ≤ a * n + b
 | 0, b => by simpa [prB] using l7z M 0 b
 | a + 1, b => by
  have h1 := e0z n M a n
  have h2 := l7z M (a + 1) b
  have h3 : rowOf n M a = rowK M a n := rfl
  unfold prB at h1 ⊢
  rw [List.range_succ, List.flatMap_append, List.flatMap_singleton, List.length_append, h3, Nat.add_mul, Nat.one_mul]
  omega
theorem e1z {n : Nat} {M : Mx} {a b : Nat} (h : M a b = true) : prB n M a (b + 1) = prB n M a b ++ [((a : Int), (b : Int))] := by
 simp [prB, rowK, List.range_succ, h]
theorem l3z {n : Nat} {M : Mx} {a b : Nat} (h : M a b = false) : prB n M a (b + 1) = prB n M a b := by
 simp [prB, rowK, List.range_succ, h]
theorem d1x (n : Nat) (M : Mx) (a : Nat) : prB n M a n = prB n M (a + 1) 0 := by
 simp only [prB, List.range_succ, List.flatMap_append, List.flatMap_singleton]
 simp [rowK, rowOf]
theorem t0z (n : Nat) (M : Mx) : prB n M n 0 = f6q n M := by simp [prB, rowK, f6q]
def a9x (s0 s : Sg) (m : Nat) (l : List (Int × Int)) : Prop := s.m m = some (.arr 2 84 (l.flatMap j8q)) ∧ s0.next ≤ m ∧ m < s.next
theorem a9x.push {s0 s1 : Sg} {m : Nat} {l : List (Int × Int)} (_h : a9x s0 s1 m l) (hn : s0.next ≤ s1.next) (X : Blk) (p : Int × Int) :
 a9x s0 (((s1.add X).del m).add (.arr 2 84 (l.flatMap j8q ++ [TI p.1, TI p.2]))) (s1.next + 1) (l ++ [p]) := by
 refine ⟨?_, by omega, by simp [Sg.add, Sg.del]⟩
 simp [Sg.add, Sg.del, List.flatMap_append]
theorem a9x.keep {s0 s1 : Sg} {m : Nat} {l : List (Int × Int)} (h : a9x s0 s1 m l) (hk : Keep s0 s1) (hn : s0.next ≤ s1.next) (X Y : Blk) : Keep s0 (((s1.add X).del m).add Y) :=
 ((hk.add hn X).del h.2.1).add (by simp only [c9q, e4q]; omega) Y
set_option maxRecDepth 20000 in
theorem s9x (s : Sg) (p n : Nat) (M : Mx) (o : Nat) (r : Nat → Nat) (h : RefR s p n M o r) : k4q Tryd.prog 116 [.ptr p 0] s (.t (a9q (f6q n M))) (s) := by
 refine d3q Tryd.func116 rfl fun Q hQ => ?_
 obtain ⟨e, he, hl, h0⟩ : ∃ e : Env, ([.ptr p 0] ++ List.replicate (Tryd.f116.ntmps - ([.ptr p 0] : List V).length) .junk) = e ∧ e.length = 39 ∧ ev e (.tmp 0) = .ptr p 0 := ⟨_, rfl, rfl, rfl⟩
 rw [he]
 clear he
 have hnl := h.le
 refine vsk fun K1 hK1 => ?_
 refine a3q 0 [] ?_
 simp only [bs, ↓vopx, ↓vop, a1q, flat, wocs, ↓goc, ↓woc, ↓a2q]
 refine hK1 _ _ ?_
 refine vsk fun K2 hK2 => ?_
 refine a3q 0 [] ?_
 simp only [bs, ↓vopx, ↓vop, a1q, flat, wocs, ↓goc, ↓woc, ↓a2q]
 refine hK2 _ _ ?_
 refine vsk fun K3 hK3 => ?_
 refine vsk fun K4 hK4 => ?_
 refine VW.name 3 2 84 (by omega) (by simp only [a0q, lpv, hl, Nat.reduceLT]) ?_
 refine a3q 0 [] ?_
 simp only [bs, ↓vopx, ↓vop, a1q, flat, wocs, ↓goc, ↓woc, ↓a2q]
 refine hK4 _ _ ?_
 refine a5q ?_
 refine d0q (fun mm e' s' => ∃ a : Nat, mm = n - a ∧ a ≤ n ∧ e'.length = 39 ∧ ev e' (.tmp 0) = .ptr p 0 ∧ ev e' (.tmp 4) = I a ∧ True ∧ ∃ m, ev e' (.tmp 3) = .loc m 0 (prB n M a 0).length ∧ a9x s s' m (prB n M a 0) ∧ Keep s s' ∧ s.next ≤ s'.next) (⟨0, rfl, Nat.zero_le _, ?_⟩) ?_
 ·try simp only [a0q, a4q, Nat.reduceBEq, lpv, hl, h0, Nat.reduceLT, true_and]
  repeat ((with_reducible refine And.intro ?_ ?_); · trivial)
  exact ⟨s.next, rfl, ⟨by simp [Sg.add, prB, rowK], Nat.le_refl _, by simp [Sg.add]⟩, (Keep.refl s).add (Nat.le_refl _) _, by simp [Sg.add]⟩
 rintro mm e s1 ⟨a, rfl, hle_a, hl, h0, h_a, hst, ⟨m, hm3, hgr, hkeep, hnx⟩⟩
 refine vsk fun K5 hK5 => ?_
 refine vsk fun K6 hK6 => ?_
 have hs := h.keep hkeep hnx
 refine a3q 0 [] ?_
 simp only [bs, e9q, ↓vopx, ↓vop, Nat.reduceBEq, a1q, Nat.reduceLT, a7q, a8q, opII, hl, h0, h_a, wocs, ↓goc, ↓woc, ↓a2q, Tryd.ag3, Tryd.fd119_0, Tryd.sz3, hs.hp]
 refine hK6 _ _ ?_
 refine vck fun A B hA hB => ?_
 simp only [b5q, a0q, lpv, Nat.reduceLT, decide_eq_true_eq, decide_eq_false_iff_not, hl]
 refine ⟨fun hc11 => hA ?_, fun hc11 => hB ?_⟩
 ·clear hA hB A B
  refine b1q ?_
  refine hK5 _ _ ?_
  refine vsk fun K7 hK7 => ?_
  refine a5q ?_
  refine vsk fun K8 hK8 => ?_
  refine a3q 0 [] ?_
  simp only [bs, ↓vopx, ↓vop, a1q, flat, wocs, ↓goc, ↓woc, ↓a2q]
  refine hK8 _ _ ?_
  refine a5q ?_
  refine d0q (fun mm e' s' => ∃ b : Nat, mm = n - b ∧ b ≤ n ∧ e'.length = 39 ∧ ev e' (.tmp 0) = .ptr p 0 ∧ ev e' (.tmp 4) = I a ∧ ev e' (.tmp 5) = I b ∧ True ∧ ∃ m, ev e' (.tmp 3) = .loc m 0 (prB n M a b).length ∧ a9x s s' m (prB n M a b) ∧ Keep s s' ∧ s.next ≤ s'.next) (⟨0, rfl, Nat.zero_le _, ?_⟩) ?_
  ·try simp only [a0q, a4q, Nat.reduceBEq, lpv, hl, h0, h_a, hm3, Nat.reduceLT, true_and]
   repeat ((with_reducible refine And.intro ?_ ?_); · trivial)
   exact ⟨m, rfl, hgr, hkeep, hnx⟩
  rintro mm e s1 ⟨b, rfl, hle_b, hl, h0, h4, h_b, hst, ⟨m, hm3, hgr, hkeep, hnx⟩⟩
  refine vsk fun K9 hK9 => ?_
  refine vsk fun K10 hK10 => ?_
  have hs := h.keep hkeep hnx
  refine a3q 0 [] ?_
  simp only [bs, e9q, ↓vopx, ↓vop, Nat.reduceBEq, a1q, Nat.reduceLT, a7q, a8q, opII, hl, h0, h_b, wocs, ↓goc, ↓woc, ↓a2q, Tryd.ag3, Tryd.fd119_0, Tryd.sz3, hs.hp]
  refine hK10 _ _ ?_
  refine vck fun A B hA hB => ?_
  simp only [b5q, a0q, lpv, Nat.reduceLT, decide_eq_true_eq, decide_eq_false_iff_not, hl]
  refine ⟨fun hc19 => hA ?_, fun hc19 => hB ?_⟩
  ·clear hA hB A B
   refine b1q ?_
   refine hK9 _ _ ?_
   refine vsk fun K11 hK11 => ?_
   refine a5q ?_
   refine vsk fun K12 hK12 => ?_
   have hs := h.keep hkeep hnx
   have xp := hs.hp
   have xv : outV n o = .loc o 0 n := by simp [outV, show ¬ n = 0 from by omega]
   have xo := hs.ho (by omega)
   have xr := hs.hr a (by omega)
   have xb := l9q (n := n) (M := M) (a := a) (b := b) (by omega)
   have xg : (List.range n)[a]? = some a := List.getElem?_range (by omega)
   refine a3q 0 [] ?_
   simp only [bs, e9q, ↓vopx, ↓vop, Nat.reduceBEq, a1q, Nat.reduceLT, a7q, a8q, hl, h0, h4, h_b, wocs, ↓goc, ↓woc, ↓a2q, Tryd.ag117, Tryd.ag4, Tryd.ag49, Tryd.fd119_1, Tryd.sz117, Tryd.sz4, Tryd.sz49, Tryd.un117, Tryd.un49, xp, xv, xo, xr, xb, xg]
   repeat ((with_reducible refine And.intro ?_ ?_); · (with_reducible assumption))
   refine hK12 _ _ ?_
   refine vck fun A B hA hB => ?_
   simp only [b5q, a0q, lpv, Nat.reduceLT, hl]
   refine ⟨fun hc31 => hA ?_, fun hc31 => hB ?_⟩
   ·clear hA hB A B
    have hne : ¬ m = s1.next := by have := hgr.2.2; omega
    have hbd := e0z n M a b
    have hsq : a * n ≤ 200 * 200 := Nat.mul_le_mul (by omega) hnl
    refine a3q 0 [] ?_
    simp only [bs, dstT, srcT, Nat.reduceLeDiff, Nat.reduceAdd, d8q, g2q, repl, Sg.frzP, ↓vopx, ↓vop, Nat.reduceBEq, a1q, c0q, Nat.reduceLT, V.cells, Sg.frzL, Sg.frz1, hl, h4, h_b, hm3, wocs, ↓goc, ↓woc, ↓a2q, Tryd.sl23, Tryd.st84, hgr.1, hne, e0q]
    repeat ((with_reducible refine And.intro ?_ ?_); · omega)
    refine hK11 _ _ ?_
    refine a3q 0 [] ?_
    simp only [bs, ↓vopx, ↓vop, Nat.reduceBEq, a1q, flat, Nat.reduceLT, opII, hl, h0, h4, h_b, wocs, ↓goc, ↓woc, ↓a2q]
    repeat ((with_reducible refine And.intro ?_ ?_); · exact ⟨by omega, by omega⟩)
    refine ⟨n - (b + 1), by omega, b + 1, rfl, by omega, ?_⟩
    try simp only [a0q, a4q, Nat.reduceBEq, lpv, hl, h0, h4, h_b, hm3, if_true, if_false, Nat.reduceEqDiff, Nat.reduceLT, true_and, and_true]
    repeat ((with_reducible refine And.intro ?_ ?_); · trivial)
    first
    | exact ⟨m, by rw [l3z hc31], by rw [l3z hc31]; exact hgr, hkeep, hnx⟩
    | exact ⟨s1.next + 1, by rw [e1z hc31, List.length_append, List.length_singleton, show ((prB n M a b).length * 2 + 2) / 2 = (prB n M a b).length + 1 from by omega], by rw [e1z hc31]; exact hgr.push hnx _ ((a : Int), (b : Int)), hgr.keep hkeep hnx _ _, by omega⟩
   ·clear hA hB A B
    refine b1q ?_
    refine hK11 _ _ ?_
    refine a3q 0 [] ?_
    simp only [bs, ↓vopx, ↓vop, Nat.reduceBEq, a1q, flat, Nat.reduceLT, opII, hl, h0, h4, h_b, hm3, wocs, ↓goc, ↓woc, ↓a2q]
    repeat ((with_reducible refine And.intro ?_ ?_); · exact ⟨by omega, by omega⟩)
    refine ⟨n - (b + 1), by omega, b + 1, rfl, by omega, ?_⟩
    try simp only [a0q, a4q, Nat.reduceBEq, lpv, hl, h0, h4, h_b, hm3, if_true, if_false, Nat.reduceEqDiff, Nat.reduceLT, true_and, and_true]
    repeat ((with_reducible refine And.intro ?_ ?_); · trivial)
    first
    | exact ⟨m, by rw [l3z hc31], by rw [l3z hc31]; exact hgr, hkeep, hnx⟩
    | exact ⟨s1.next + 1, by rw [e1z hc31, List.length_append, List.length_singleton, show ((prB n M a b).length * 2 + 2) / 2 = (prB n M a b).length + 1 from by omega], by rw [e1z hc31]; exact hgr.push hnx _ ((a : Int), (b : Int)), hgr.keep hkeep hnx _ _, by omega⟩
  ·clear hA hB A B
   have han : n = b := by omega
   subst han
   refine c8q ?_
   simp only [a1q, c0q, if_true, if_false, Nat.reduceEqDiff, reduceCtorEq]
   refine hK7 _ _ ?_
   refine a3q 0 [] ?_
   simp only [bs, ↓vopx, ↓vop, Nat.reduceBEq, a1q, flat, Nat.reduceLT, opII, hl, h0, h4, hm3, wocs, ↓goc, ↓woc, ↓a2q]
   repeat ((with_reducible refine And.intro ?_ ?_); · exact ⟨by omega, by omega⟩)
   refine ⟨n - (a + 1), by omega, a + 1, rfl, by omega, ?_⟩
   try simp only [a0q, a4q, Nat.reduceBEq, lpv, hl, h0, h_a, hm3, if_true, if_false, Nat.reduceEqDiff, Nat.reduceLT, true_and, and_true]
   repeat ((with_reducible refine And.intro ?_ ?_); · trivial)
   exact ⟨m, by rw [d1x], by rw [← d1x]; exact hgr, hkeep, hnx⟩
 ·clear hA hB A B
  have han : n = a := by omega
  subst han
  refine c8q ?_
  simp only [a1q, c0q, if_true]
  refine hK3 _ _ ?_
  refine vsk fun K13 hK13 => ?_
  refine a3q 0 [] ?_
  simp only [bs, ↓vopx, ↓vop, Nat.reduceBEq, a1q, Nat.reduceLT, hl, hm3, wocs, ↓goc, ↓woc, ↓a2q]
  refine hK13 _ _ ?_
  refine b3q ?_
  rw [t0z] at hgr
  refine hQ _ _ _ (.inr rfl) (Done.toS (h1z (n := m) (len := (prB n M n 0).length) ?_ hgr.1 ?_ hgr.2.1 hkeep))
  try simp only [a0q, lpv, hl, Nat.reduceLT]
  rw [e0q, t0z]
end Go.Proofs

open Go Go.V
namespace Go.Proofs
theorem b7x {l : List (Int × Int)} {i : Nat} {p : Int × Int} (h : l[i]? = some p) : (l.flatMap j8q)[i * 2]? = some (TI p.1) := by
 induction l generalizing i with
 | nil => simp at h
 | cons a l ih =>
  cases i with
  | zero => simp at h; subst h; simp
  | succ i => simpa [Nat.add_mul] using ih (i := i) (by simpa using h)
theorem b8x {l : List (Int × Int)} {i : Nat} {p : Int × Int} (h : l[i]? = some p) : (l.flatMap j8q)[i * 2 + 1]? = some (TI p.2) := by
 induction l generalizing i with
 | nil => simp at h
 | cons a l ih =>
  cases i with
  | zero => simp at h; subst h; simp
  | succ i =>
   have := ih (i := i) (by simpa using h)
   rw [show (i + 1) * 2 + 1 = (i * 2 + 1) + 2 by omega]
   simpa using this
theorem g8z {α : Type} {f : α → Bool} {l : List α} {i : Nat} {p : α} (h : l[i]? = some p) (ha : (l.take i).all f = true) (hp : f p = true) : (l.take (i + 1)).all f = true := by
 rw [List.take_add_one, h]; simp only [List.all_append, ha, Option.toList_some, List.all_cons, List.all_nil, hp]; rfl
theorem d1z {α : Type} {f : α → Bool} {l : List α} {i : Nat} {p : α} (h : l[i]? = some p) (hp : f p = false) : l.all f = false := by
 rw [List.all_eq_false]; exact ⟨p, List.mem_of_getElem? h, by simp [hp]⟩
theorem e7z (M : Mx) (p : Int × Int) : (fun a b => M a b || (p.1.toNat == a && p.2.toNat == b)) = updM M p.1.toNat p.2.toNat true := by
 funext a b
 unfold updM
 by_cases h : a = p.1.toNat ∧ b = p.2.toNat
 ·obtain ⟨rfl, rfl⟩ := h; simp
 ·rw [if_neg h]
  have : (p.1.toNat == a && p.2.toNat == b) = false := by
   rw [Bool.eq_false_iff]; intro hh; simp at hh; exact h ⟨hh.1.symm, hh.2.symm⟩
  rw [this, Bool.or_false]
def OfR (s : Sg) (n : Nat) (l : List (Int × Int)) (v : V) (s' : Sg) : Prop :=
 (l.all (inB n) = true ∧ ∃ p o r, v = .tup [.ptr p 0, I 0] ∧ RefR s' p n (mxOf l) o r ∧ FreshR s p n o r ∧ Keep s s' ∧ s.next ≤ s'.next) ∨
 (l.all (inB n) = false ∧ v = .tup [.t (.v (.pointer none)), I 10] ∧ Keep s s' ∧ s.next ≤ s'.next)
set_option maxRecDepth 20000 in
theorem refOf_ (s : Sg) (n : Nat) (hn : n ≤ 200) (l : List (Int × Int)) (hl0 : l.length < 1000000000) : g0q Tryd.prog 102 [I n, .t (a9q l)] s (OfR s n l) := by
 refine b8q Tryd.func102 rfl fun Q hQ => ?_
 obtain ⟨e, he, hl, h0, h1⟩ : ∃ e : Env, ([I n, .t (a9q l)] ++ List.replicate (Tryd.f102.ntmps - ([I n, .t (a9q l)] : List V).length) .junk) = e ∧ e.length = 58 ∧ ev e (.tmp 0) = I n ∧ ev e (.tmp 1) = .t (a9q l) := ⟨_, rfl, rfl, rfl, rfl⟩
 rw [he]
 clear he
 have hnn := h4z hn
 have hn1 : ¬ ((n : Int) < 0) := by omega
 have hn2 : ¬ ((n : Int) > 200) := by omega
 refine vsk fun K1 hK1 => ?_
 refine a3q 0 [] ?_
 simp only [bs, ↓vopx, ↓vop, a1q, flat, wocs, ↓goc, ↓woc, ↓a2q]
 refine hK1 _ _ ?_
 refine vsk fun K2 hK2 => ?_
 refine vsk fun K3 hK3 => ?_
 refine a3q 0 [] ?_
 simp only [bs, ↓vopx, ↓vop, Nat.reduceBEq, a1q, flat, Nat.reduceLT, opII, gtmp, hl, h0, wocs, ↓goc, ↓woc, ↓a2q, ↓d1q, hn1, hn2]
 refine hK3 _ _ ?_
 refine vck fun A B hA hB => ?_
 simp only [b5q, a0q, lpv, Nat.reduceLT, true_implies, reduceCtorEq, false_implies, true_and, hl]
 refine hB ?_
 clear hA hB A B
 refine b1q ?_
 refine hK2 _ _ ?_
 refine vsk fun K4 hK4 => ?_
 refine a3q 0 [.stop] ?_
 simp only [bs, ↓vopx, ↓vop, Nat.reduceBEq, a1q, Nat.reduceLT, hl, h0, wocs, ↓goc, ↓woc, ↓a2q, ↓c4q, a6q]
 refine ⟨Tryd.is91, (t3z s n).mono fun v s2 hv => ?_⟩
 rw [hnn] at hv
 obtain ⟨c, o1, r1, rfl, hR, hF, hk, hnx⟩ := hv
 try simp only [bs, Nat.reduceBEq, Nat.reduceLT, hl, h0, Hold]
 refine hK4 _ _ ?_
 refine vsk fun K5 hK5 => ?_
 refine vsk fun K6 hK6 => ?_
 refine a3q 0 [] ?_
 simp only [bs, ↓vopx, ↓vop, a1q, flat, wocs, ↓goc, ↓woc, ↓a2q]
 refine hK6 _ _ ?_
 refine a5q ?_
 refine d0q (fun mm e' s' => ∃ i : Nat, mm = l.length - i ∧ i ≤ l.length ∧ e'.length = 58 ∧ ev e' (.tmp 1) = .t (a9q l) ∧ ev e' (.tmp 6) = .ptr c 0 ∧ ev e' (.tmp 7) = I i ∧ True ∧ RefR s' c n (mxOf (l.take i)) o1 r1 ∧ (l.take i).all (inB n) = true ∧ Keep s s' ∧ s.next ≤ s'.next) (⟨0, rfl, Nat.zero_le _, ?_⟩) ?_
 ·try simp only [a0q, a4q, Nat.reduceBEq, lpv, hl, h1, Nat.reduceLT, true_and]
  repeat ((with_reducible refine And.intro ?_ ?_); · trivial)
  first | exact hnx | exact ⟨hR.congr fun x y hx hy => by simp [mxOf], by simp, hk, hnx⟩
 rintro mm e s1 ⟨i, rfl, hle_i, hl, h1, h6, h_i, hst, ⟨hd, hall, hkeep, hnx⟩⟩
 refine vsk fun K7 hK7 => ?_
 refine vsk fun K8 hK8 => ?_
 refine a3q 0 [] ?_
 simp only [bs, ↓vopx, ↓vop, Nat.reduceBEq, a1q, Nat.reduceLT, opII, hl, h1, h_i, wocs, ↓goc, ↓woc, ↓a2q, g8q]
 refine hK8 _ _ ?_
 refine vck fun A B hA hB => ?_
 simp only [b5q, a0q, lpv, Nat.reduceLT, decide_eq_true_eq, decide_eq_false_iff_not, hl]
 refine ⟨fun hc19 => hA ?_, fun hc19 => hB ?_⟩
 ·clear hA hB A B
  refine b1q ?_
  refine hK7 _ _ ?_
  refine vsk fun K9 hK9 => ?_
  refine a5q ?_
  refine vsk fun K10 hK10 => ?_
  refine vsk fun K11 hK11 => ?_
  have hlt : i < l.length := by omega
  obtain ⟨p, hp⟩ : ∃ p, l[i]? = some p := ⟨_, List.getElem?_eq_getElem hlt⟩
  have g0 := b7x hp
  have g1 := b8x hp
  have hfl := e0q l
  rcases (show (¬ (0 ≤ p.1 ∧ p.1 < n)) ∨ ((0 ≤ p.1 ∧ p.1 < n) ∧ ¬ (0 ≤ p.2 ∧ p.2 < n)) ∨ ((0 ≤ p.1 ∧ p.1 < n) ∧ (0 ≤ p.2 ∧ p.2 < n)) by omega) with ha | ⟨ha, hb⟩ | hin
  ·have hbad : inB n p = false := by simp only [inB, ha, decide_false, Bool.false_and]
   refine a3q 0 [.det (Bo (decide (0 ≤ p.1 ∧ p.1 < n))) s1] ?_
   simp only [bs, ↓vopx, ↓vop, Nat.reduceBEq, a1q, flat, Nat.reduceLT, a7q, a8q, gtmp, hl, h1, h6, h_i, wocs, ↓goc, ↓woc, ↓a2q, ↓c4q, ↓e8q, a6q, Tryd.ag3, Tryd.fd84_0, Tryd.sz3, Tryd.sz84, Tryd.un23, g0, hfl, ha]
   repeat ((with_reducible refine And.intro ?_ ?_); · first | omega | exact ⟨Tryd.is110, by simpa [*] using v4q s1 c n _ p.1 hd.hp⟩)
   refine hK11 _ _ ?_
   refine vck fun A B hA hB => ?_
   simp only [b5q, a0q, lpv, Nat.reduceLT, true_implies, reduceCtorEq, false_implies, and_true, hl]
   refine hA ?_
   clear hA hB A B
   refine vsk fun K12 hK12 => ?_
   refine a3q 0 [] ?_
   simp only [bs, ↓vopx, ↓vop, a1q, flat, wocs, ↓goc, ↓woc, ↓a2q]
   refine hK12 _ _ ?_
   refine b3q ?_
   refine hQ _ _ _ (.inr rfl) (p0q (v := .t (.v (.pointer none))) (v' := I 10) ?_ ?_ rfl rfl (.inr ⟨d1z hp hbad, rfl, hkeep, hnx⟩))
   try simp only [a0q, a4q, Nat.reduceBEq, lpv, hl, Nat.reduceLT]
   try simp only [a0q, lpv, hl, Nat.reduceLT]
  ·have hbad : inB n p = false := by simp only [inB, hb, decide_false, Bool.and_false]
   refine a3q 0 [.det (Bo (decide (0 ≤ p.1 ∧ p.1 < n))) s1, .det (Bo (decide (0 ≤ p.2 ∧ p.2 < n))) s1] ?_
   simp only [bs, ↓vopx, ↓vop, Nat.reduceBEq, a1q, flat, Nat.reduceLT, a7q, a8q, gtmp, hl, h1, h6, h_i, wocs, ↓goc, ↓woc, ↓a2q, ↓c4q, ↓d1q, a6q, Tryd.ag3, Tryd.fd84_0, Tryd.fd84_1, Tryd.sz3, Tryd.sz84, Tryd.un23, g0, g1, hfl, ha, hb]
   repeat ((with_reducible refine And.intro ?_ ?_); · first | omega | exact ⟨Tryd.is110, by simpa [*] using v4q s1 c n _ p.1 hd.hp⟩ | exact ⟨Tryd.is110, by simpa [*] using v4q s1 c n _ p.2 hd.hp⟩)
   refine hK11 _ _ ?_
   refine vck fun A B hA hB => ?_
   simp only [b5q, a0q, lpv, Nat.reduceLT, true_implies, reduceCtorEq, false_implies, and_true, hl]
   refine hA ?_
   clear hA hB A B
   refine vsk fun K13 hK13 => ?_
   refine a3q 0 [] ?_
   simp only [bs, ↓vopx, ↓vop, a1q, flat, wocs, ↓goc, ↓woc, ↓a2q]
   refine hK13 _ _ ?_
   refine b3q ?_
   refine hQ _ _ _ (.inr rfl) (p0q (v := .t (.v (.pointer none))) (v' := I 10) ?_ ?_ rfl rfl (.inr ⟨d1z hp hbad, rfl, hkeep, hnx⟩))
   try simp only [a0q, a4q, Nat.reduceBEq, lpv, hl, Nat.reduceLT]
   try simp only [a0q, lpv, hl, Nat.reduceLT]
  ·refine a3q 0 [.det (Bo (decide (0 ≤ p.1 ∧ p.1 < n))) s1, .det (Bo (decide (0 ≤ p.2 ∧ p.2 < n))) s1] ?_
   simp only [bs, ↓vopx, ↓vop, Nat.reduceBEq, a1q, flat, Nat.reduceLT, a7q, a8q, gtmp, hl, h1, h6, h_i, wocs, ↓goc, ↓woc, ↓a2q, ↓c4q, ↓d1q, a6q, Tryd.ag3, Tryd.fd84_0, Tryd.fd84_1, Tryd.sz3, Tryd.sz84, Tryd.un23, g0, g1, hfl, hin]
   repeat ((with_reducible refine And.intro ?_ ?_); · first | omega | exact ⟨Tryd.is110, by simpa [*] using v4q s1 c n _ p.1 hd.hp⟩ | exact ⟨Tryd.is110, by simpa [*] using v4q s1 c n _ p.2 hd.hp⟩)
   refine hK11 _ _ ?_
   refine vck fun A B hA hB => ?_
   simp only [b5q, a0q, lpv, Nat.reduceLT, true_implies, reduceCtorEq, false_implies, true_and, hl]
   refine hB ?_
   clear hA hB A B
   refine b1q ?_
   refine hK10 _ _ ?_
   have xv : outV n o1 = .loc o1 0 n := by simp [outV, show ¬ n = 0 from by omega]
   have xo := hd.ho (by omega)
   have xr := hd.hr p.1.toNat (by omega)
   have xg : (List.range n)[p.1.toNat]? = some p.1.toNat := List.getElem?_range (by omega)
   refine d2q Tryd.mixed 16 [0, 0, 0, 1, 0, 0, 1, 0, 1, 1, 1, 0, 0, 1, 0, 1] [] [] 0 (by decide +kernel) (by simp [lpv, hl]) rfl ?_
   simp only [bs, e9q, ↓vopx, ↓vop, Nat.reduceBEq, a1q, c0q, flat, Nat.reduceLT, V.cells, a7q, a8q, Sg.frzL, Sg.frz1, hl, h1, h6, h_i, wocs, ↓goc, ↓woc, ↓a2q, ↓e7q, chn, ↓goq, ↓woq, List.zip_cons_cons, List.zip_nil_right, Tryd.ag117, Tryd.ag3, Tryd.ag49, Tryd.fd119_1, Tryd.fd84_0, Tryd.fd84_1, Tryd.sz117, Tryd.sz3, Tryd.sz4, Tryd.sz49, Tryd.sz84, Tryd.un117, Tryd.un23, Tryd.un49, xv, xo, xr, xg, g0, g1, hfl, hd.hp, h1q, hin]
   repeat ((with_reducible refine And.intro ?_ ?_); · omega)
   refine hK9 _ _ ?_
   refine a3q 0 [] ?_
   simp only [bs, ↓vopx, ↓vop, Nat.reduceBEq, a1q, flat, Nat.reduceLT, opII, hl, h1, h6, h_i, wocs, ↓goc, ↓woc, ↓a2q]
   repeat ((with_reducible refine And.intro ?_ ?_); · exact ⟨by omega, by omega⟩)
   refine ⟨l.length - (i + 1), by omega, i + 1, rfl, by omega, ?_⟩
   try simp only [a0q, a4q, Nat.reduceBEq, lpv, hl, h1, h6, h_i, if_true, if_false, Nat.reduceEqDiff, Nat.reduceLT, true_and, and_true]
   repeat ((with_reducible refine And.intro ?_ ?_); · trivial)
   obtain ⟨hin1, hin2⟩ := hin
   exact ⟨by rw [t0q hp, e7z]; exact hd.put (by omega) (by omega) true, g8z hp hall (by simp [inB, hin1, hin2]), hkeep.set (hF.hr _ (by omega)) _, hnx⟩
 ·clear hA hB A B
  have han : i = l.length := by omega
  rw [han, List.take_length] at hall hd
  refine c8q ?_
  simp only [a1q, c0q, if_true]
  refine hK5 _ _ ?_
  refine vsk fun K14 hK14 => ?_
  refine a3q 0 [] ?_
  simp only [bs, ↓vopx, ↓vop, Nat.reduceBEq, a1q, flat, Nat.reduceLT, hl, h6, wocs, ↓goc, ↓woc, ↓a2q]
  refine hK14 _ _ ?_
  refine b3q ?_
  refine hQ _ _ _ (.inr rfl) (p0q (v := .ptr c 0) (v' := I 0) ?_ ?_ rfl rfl (.inl ⟨hall, c, o1, r1, rfl, hd, hF, hkeep, hnx⟩))
  try simp only [a0q, a4q, Nat.reduceBEq, lpv, hl, Nat.reduceLT]
  try simp only [a0q, lpv, hl, Nat.reduceLT]
end Go.Proofs

open Go Go.V
namespace Go.Proofs
set_option maxRecDepth 20000 in
theorem c8j (s : Sg) (n : Nat) (hn : n ≤ 200) (l : List (Int × Int)) (hl0 : l.length < 1000000000) (hal : l.all (inB n) = true) : g0q Tryd.prog 109 [I n, .t (a9q l)] s (NewR s n (mxOf l)) := by
 refine b8q Tryd.func109 rfl fun Q hQ => ?_
 obtain ⟨e, he, hl, h0, h1⟩ : ∃ e : Env, ([I n, .t (a9q l)] ++ List.replicate (Tryd.f109.ntmps - ([I n, .t (a9q l)] : List V).length) .junk) = e ∧ e.length = 49 ∧ ev e (.tmp 0) = I n ∧ ev e (.tmp 1) = .t (a9q l) := ⟨_, rfl, rfl, rfl, rfl⟩
 rw [he]
 clear he
 have hnn := h4z hn
 refine vsk fun K1 hK1 => ?_
 refine a3q 0 [] ?_
 simp only [bs, ↓vopx, ↓vop, a1q, flat, wocs, ↓goc, ↓woc, ↓a2q]
 refine hK1 _ _ ?_
 refine vsk fun K2 hK2 => ?_
 refine a3q 0 [.stop] ?_
 simp only [bs, ↓vopx, ↓vop, Nat.reduceBEq, a1q, Nat.reduceLT, hl, h0, wocs, ↓goc, ↓woc, ↓a2q, ↓c4q, a6q]
 refine ⟨Tryd.is91, (t3z s n).mono fun v s2 hv => ?_⟩
 rw [hnn] at hv
 obtain ⟨c, o1, r1, rfl, hR, hF, hk, hnx⟩ := hv
 try simp only [bs, Nat.reduceBEq, Nat.reduceLT, hl, h0, Hold]
 refine hK2 _ _ ?_
 refine vsk fun K3 hK3 => ?_
 refine vsk fun K4 hK4 => ?_
 refine a3q 0 [] ?_
 simp only [bs, ↓vopx, ↓vop, a1q, flat, wocs, ↓goc, ↓woc, ↓a2q]
 refine hK4 _ _ ?_
 refine a5q ?_
 refine d0q (fun mm e' s' => ∃ i : Nat, mm = l.length - i ∧ i ≤ l.length ∧ e'.length = 49 ∧ ev e' (.tmp 1) = .t (a9q l) ∧ ev e' (.tmp 5) = .ptr c 0 ∧ ev e' (.tmp 6) = I i ∧ True ∧ RefR s' c n (mxOf (l.take i)) o1 r1 ∧ Keep s s' ∧ s.next ≤ s'.next) (⟨0, rfl, Nat.zero_le _, ?_⟩) ?_
 ·try simp only [a0q, a4q, Nat.reduceBEq, lpv, hl, h1, Nat.reduceLT, true_and]
  repeat ((with_reducible refine And.intro ?_ ?_); · trivial)
  first | exact hnx | exact ⟨hR.congr fun x y hx hy => by simp [mxOf], hk, hnx⟩
 rintro mm e s1 ⟨i, rfl, hle_i, hl, h1, h5, h_i, hst, ⟨hd, hkeep, hnx⟩⟩
 refine vsk fun K5 hK5 => ?_
 refine vsk fun K6 hK6 => ?_
 refine a3q 0 [] ?_
 simp only [bs, ↓vopx, ↓vop, Nat.reduceBEq, a1q, Nat.reduceLT, opII, hl, h1, h_i, wocs, ↓goc, ↓woc, ↓a2q, g8q]
 refine hK6 _ _ ?_
 refine vck fun A B hA hB => ?_
 simp only [b5q, a0q, lpv, Nat.reduceLT, decide_eq_true_eq, decide_eq_false_iff_not, hl]
 refine ⟨fun hc12 => hA ?_, fun hc12 => hB ?_⟩
 ·clear hA hB A B
  refine b1q ?_
  refine hK5 _ _ ?_
  refine vsk fun K7 hK7 => ?_
  refine a5q ?_
  refine vsk fun K8 hK8 => ?_
  have hlt : i < l.length := by omega
  obtain ⟨p, hp⟩ : ∃ p, l[i]? = some p := ⟨_, List.getElem?_eq_getElem hlt⟩
  have g0 := b7x hp
  have g1 := b8x hp
  have hfl := e0q l
  have hin : (0 ≤ p.1 ∧ p.1 < n) ∧ (0 ≤ p.2 ∧ p.2 < n) := by have := (List.all_eq_true.1 hal) p (List.mem_of_getElem? hp); simpa only [inB, Bool.and_eq_true, decide_eq_true_eq] using this
  refine a3q 0 [.det (Bo (decide (0 ≤ p.1 ∧ p.1 < n))) s1, .det (Bo (decide (0 ≤ p.2 ∧ p.2 < n))) s1] ?_
  simp only [bs, ↓vopx, ↓vop, Nat.reduceBEq, a1q, flat, Nat.reduceLT, a7q, a8q, gtmp, hl, h1, h5, h_i, wocs, ↓goc, ↓woc, ↓a2q, ↓c4q, ↓g1q, a6q, Tryd.ag3, Tryd.fd84_0, Tryd.fd84_1, Tryd.sz3, Tryd.sz84, Tryd.un23, g0, g1, hfl, hin]
  repeat ((with_reducible refine And.intro ?_ ?_); · first | omega | exact ⟨Tryd.is110, by simpa [*] using v4q s1 c n _ p.1 hd.hp⟩ | exact ⟨Tryd.is110, by simpa [*] using v4q s1 c n _ p.2 hd.hp⟩)
  refine hK8 _ _ ?_
  refine vck fun A B hA hB => ?_
  simp only [b5q, a0q, lpv, Nat.reduceLT, true_implies, reduceCtorEq, false_implies, and_true, hl]
  refine hA ?_
  clear hA hB A B
  have xv : outV n o1 = .loc o1 0 n := by simp [outV, show ¬ n = 0 from by omega]
  have xo := hd.ho (by omega)
  have xr := hd.hr p.1.toNat (by omega)
  have xg : (List.range n)[p.1.toNat]? = some p.1.toNat := List.getElem?_range (by omega)
  refine d2q Tryd.mixed 16 [0, 0, 0, 1, 0, 0, 1, 0, 1, 1, 1, 0, 0, 1, 0, 1] [] [] 0 (by decide +kernel) (by simp [lpv, hl]) rfl ?_
  simp only [bs, e9q, ↓vopx, ↓vop, Nat.reduceBEq, a1q, c0q, flat, Nat.reduceLT, V.cells, a7q, a8q, Sg.frzL, Sg.frz1, hl, h1, h5, h_i, wocs, ↓goc, ↓woc, ↓a2q, ↓e7q, chn, ↓goq, ↓woq, List.zip_cons_cons, List.zip_nil_right, Tryd.ag117, Tryd.ag3, Tryd.ag49, Tryd.fd119_1, Tryd.fd84_0, Tryd.fd84_1, Tryd.sz117, Tryd.sz3, Tryd.sz4, Tryd.sz49, Tryd.sz84, Tryd.un117, Tryd.un23, Tryd.un49, xv, xo, xr, xg, g0, g1, hfl, hd.hp, h1q, hin]
  repeat ((with_reducible refine And.intro ?_ ?_); · omega)
  refine hK7 _ _ ?_
  refine a3q 0 [] ?_
  simp only [bs, ↓vopx, ↓vop, Nat.reduceBEq, a1q, flat, Nat.reduceLT, opII, hl, h1, h5, h_i, wocs, ↓goc, ↓woc, ↓a2q]
  repeat ((with_reducible refine And.intro ?_ ?_); · exact ⟨by omega, by omega⟩)
  refine ⟨l.length - (i + 1), by omega, i + 1, rfl, by omega, ?_⟩
  try simp only [a0q, a4q, Nat.reduceBEq, lpv, hl, h1, h5, h_i, if_true, if_false, Nat.reduceEqDiff, Nat.reduceLT, true_and, and_true]
  repeat ((with_reducible refine And.intro ?_ ?_); · trivial)
  obtain ⟨hin1, hin2⟩ := hin
  exact ⟨by rw [t0q hp, e7z]; exact hd.put (by omega) (by omega) true, hkeep.set (hF.hr _ (by omega)) _, hnx⟩
 ·clear hA hB A B
  have han : i = l.length := by omega
  rw [han, List.take_length] at hd
  refine c8q ?_
  simp only [a1q, c0q, if_true]
  refine hK3 _ _ ?_
  refine vsk fun K9 hK9 => ?_
  refine a3q 0 [] ?_
  simp only [bs, ↓vopx, ↓vop, Nat.reduceBEq, a1q, Nat.reduceLT, hl, h5, wocs, ↓goc, ↓woc, ↓a2q]
  refine hK9 _ _ ?_
  refine b3q ?_
  refine hQ _ _ _ (.inr rfl) (d7q (v := .ptr c 0) ?_ rfl ⟨c, o1, r1, rfl, hd, hF, hkeep, hnx⟩)
  try simp only [a0q, lpv, hl, Nat.reduceLT]
end Go.Proofs

open Go Go.V
namespace Go.Proofs
set_option maxRecDepth 20000 in
theorem q0z (l : List (Int × Int)) (hl0 : l.length < 1000000000) : g3q Tryd.prog 103 [.t (a9q l)] (Bo (i8q l)) := by
 refine b9q Tryd.func103 rfl fun s Q hQ => ?_
 obtain ⟨e, he, hl, h0⟩ : ∃ e : Env, ([.t (a9q l)] ++ List.replicate (Tryd.f103.ntmps - ([.t (a9q l)] : List V).length) .junk) = e ∧ e.length = 50 ∧ ev e (.tmp 0) = .t (a9q l) := ⟨_, rfl, rfl, rfl⟩
 rw [he]
 clear he
 refine vsk fun K1 hK1 => ?_
 refine a3q 0 [] ?_
 simp only [bs, ↓vopx, ↓vop, a1q, flat, wocs, ↓goc, ↓woc, ↓a2q]
 refine hK1 _ _ ?_
 refine vsk fun K2 hK2 => ?_
 refine vsk fun K3 hK3 => ?_
 refine a3q 0 [] ?_
 simp only [bs, ↓vopx, ↓vop, a1q, flat, wocs, ↓goc, ↓woc, ↓a2q]
 refine hK3 _ _ ?_
 refine a5q ?_
 refine d0q (fun mm e' s' => ∃ i : Nat, mm = l.length - i ∧ i ≤ l.length ∧ e'.length = 50 ∧ ev e' (.tmp 0) = .t (a9q l) ∧ ev e' (.tmp 3) = I ((i : Int) + 1) ∧ s = s' ∧ ∀ (j : Nat) (p q : Int × Int), j < i → l[j]? = some p → l[j + 1]? = some q → pltB p q = true) (⟨0, rfl, Nat.zero_le _, ?_⟩) ?_
 ·try simp only [a0q, a4q, Nat.reduceBEq, lpv, hl, h0, Nat.reduceLT, true_and]
  repeat ((with_reducible refine And.intro ?_ ?_); · trivial)
  exact fun j p q h => by omega
 rintro mm e _ ⟨i, rfl, hle_i, hl, h0, h_i, rfl, hall⟩
 refine vsk fun K4 hK4 => ?_
 refine vsk fun K5 hK5 => ?_
 refine a3q 0 [] ?_
 simp only [bs, ↓vopx, ↓vop, Nat.reduceBEq, a1q, Nat.reduceLT, opII, hl, h0, h_i, wocs, ↓goc, ↓woc, ↓a2q, g8q]
 refine hK5 _ _ ?_
 refine vck fun A B hA hB => ?_
 simp only [b5q, a0q, lpv, Nat.reduceLT, decide_eq_true_eq, decide_eq_false_iff_not, hl]
 refine ⟨fun hc7 => hA ?_, fun hc7 => hB ?_⟩
 ·clear hA hB A B
  refine b1q ?_
  refine hK4 _ _ ?_
  refine vsk fun K6 hK6 => ?_
  refine a5q ?_
  refine vsk fun K7 hK7 => ?_
  have hlt : i + 1 < l.length := by omega
  obtain ⟨p, hp⟩ : ∃ p, l[i]? = some p := ⟨_, List.getElem?_eq_getElem (by omega)⟩
  obtain ⟨q, hq⟩ : ∃ q, l[i + 1]? = some q := ⟨_, List.getElem?_eq_getElem hlt⟩
  have g0 := b7x hp
  have g1 := b8x hp
  have g2 := b7x hq
  have g3 := b8x hq
  have hfl := e0q l
  have ht : ((i : Int) + 1).toNat = i + 1 := by omega
  have hs1 : (i : Int) + 1 - 1 = i := by omega
  have hs2 : (0 : Int) ≤ (i : Int) + 1 := by omega
  have hs3 : (i + 1) * 2 < l.length * 2 := by omega
  have hs4 : i * 2 < l.length * 2 := by omega
  rcases (show q.1 < p.1 ∨ (¬ q.1 < p.1 ∧ q.1 = p.1) ∨ (¬ q.1 < p.1 ∧ ¬ q.1 = p.1) by omega) with ha | ⟨ha, hb⟩ | ⟨ha, hb⟩
  ·refine d2q Tryd.mixed 37 [0, 0, 1, 0, 1, 0, 0, 0, 1, 0, 1, 0, 0, 0, 0, 1, 0, 1, 0, 0, 0, 1, 0, 1, 0, 0, 0, 0, 1, 0, 1, 0, 0, 0, 1, 0, 1] [] [] 0 (by decide +kernel) (by simp [lpv, hl]) rfl ?_
   simp only [bs, ↓vopx, ↓vop, Nat.reduceBEq, a1q, flat, Nat.reduceLT, a7q, a8q, opII, opSS, gtmp, hl, h0, h_i, wocs, ↓goc, ↓woc, ↓a2q, ↓e7q, ↓e8q, ↓farC, chn, ↓goq, ↓woq, List.zip_cons_cons, List.zip_nil_right, Tryd.ag3, Tryd.fd84_0, Tryd.sz3, Tryd.sz84, Tryd.un23, g0, g2, hfl, ht, hs1, hs2, hs3, hs4, ha]
   repeat ((with_reducible refine And.intro ?_ ?_); · exact ⟨by omega, by omega⟩)
   refine hK7 _ _ ?_
   refine vck fun A B hA hB => ?_
   simp only [b5q, a0q, lpv, Nat.reduceLT, true_implies, reduceCtorEq, false_implies, and_true, hl]
   refine hA ?_
   clear hA hB A B
   refine vsk fun K8 hK8 => ?_
   refine a3q 0 [] ?_
   simp only [bs, ↓vopx, ↓vop, a1q, flat, wocs, ↓goc, ↓woc, ↓a2q]
   refine hK8 _ _ ?_
   refine b3q ?_
   refine hQ _ _ _ (.inr rfl) (b2q ?_ fun n b hn h => h)
   try simp only [a0q, lpv, hl, Nat.reduceLT]
   rw [t4q hp hq (by unfold pltB; simp; omega)]
  ·have hbe : (q.1 == p.1) = true := by simp [hb]
   refine d2q Tryd.mixed 37 [0, 0, 1, 0, 1, 0, 0, 0, 1, 0, 1, 0, 0, 0, 0, 1, 0, 1, 0, 0, 0, 1, 0, 1, 0, 0, 0, 0, 1, 0, 1, 0, 0, 0, 1, 0, 1] [] [] 0 (by decide +kernel) (by simp [lpv, hl]) rfl ?_
   simp only [bs, ↓vopx, ↓vop, Nat.reduceBEq, a1q, flat, Nat.reduceLT, a7q, a8q, opII, opSS, gtmp, hl, h0, h_i, wocs, ↓goc, ↓woc, ↓a2q, ↓e7q, ↓g1q, ↓d1q, ↓farC, chn, ↓goq, ↓woq, List.zip_cons_cons, List.zip_nil_right, Tryd.ag3, Tryd.fd84_0, Tryd.fd84_1, Tryd.sz3, Tryd.sz84, Tryd.un23, g0, g1, g2, g3, hfl, ht, hs1, hs2, hs3, hs4, ha, hbe]
   repeat ((with_reducible refine And.intro ?_ ?_); · exact ⟨by omega, by omega⟩)
   refine hK7 _ _ ?_
   refine vck fun A B hA hB => ?_
   simp only [b5q, a0q, lpv, Nat.reduceLT, decide_eq_true_eq, decide_eq_false_iff_not, hl]
   refine ⟨fun hc49 => hA ?_, fun hc49 => hB ?_⟩
   ·clear hA hB A B
    refine vsk fun K9 hK9 => ?_
    refine a3q 0 [] ?_
    simp only [bs, ↓vopx, ↓vop, a1q, flat, wocs, ↓goc, ↓woc, ↓a2q]
    refine hK9 _ _ ?_
    refine b3q ?_
    refine hQ _ _ _ (.inr rfl) (b2q ?_ fun n b hn h => h)
    try simp only [a0q, lpv, hl, Nat.reduceLT]
    rw [t4q hp hq (by unfold pltB; simp; omega)]
   ·clear hA hB A B
    have hgood : pltB p q = true := by unfold pltB; simp; omega
    refine b1q ?_
    refine hK6 _ _ ?_
    refine a3q 0 [] ?_
    simp only [bs, ↓vopx, ↓vop, Nat.reduceBEq, a1q, flat, Nat.reduceLT, opII, hl, h0, h_i, wocs, ↓goc, ↓woc, ↓a2q]
    repeat ((with_reducible refine And.intro ?_ ?_); · exact ⟨by omega, by omega⟩)
    refine ⟨l.length - (i + 1), by omega, i + 1, rfl, by omega, ?_⟩
    try simp only [a0q, a4q, Nat.reduceBEq, lpv, hl, h0, h_i, if_true, if_false, Nat.reduceEqDiff, Nat.reduceLT, true_and, and_true]
    repeat ((with_reducible refine And.intro ?_ ?_); · trivial)
    intro j x y hj h1 h2
    rcases Nat.lt_succ_iff_lt_or_eq.1 hj with hj | rfl
    ·exact hall j x y hj h1 h2
    ·rw [hp] at h1; rw [hq] at h2; cases h1; cases h2; exact hgood
  ·have hbe : (q.1 == p.1) = false := by simp [hb]
   have hgood : pltB p q = true := by unfold pltB; simp; omega
   refine d2q Tryd.mixed 37 [0, 0, 1, 0, 1, 0, 0, 0, 1, 0, 1, 0, 0, 0, 0, 1, 0, 1, 0, 0, 0, 1, 0, 1, 0, 0, 0, 0, 1, 0, 1, 0, 0, 0, 1, 0, 1] [] [] 0 (by decide +kernel) (by simp [lpv, hl]) rfl ?_
   simp only [bs, ↓vopx, ↓vop, Nat.reduceBEq, a1q, flat, Nat.reduceLT, a7q, a8q, opII, opSS, gtmp, hl, h0, h_i, wocs, ↓goc, ↓woc, ↓a2q, ↓e7q, ↓d1q, ↓o1q, ↓farC, chn, ↓goq, ↓woq, List.zip_cons_cons, List.zip_nil_right, Tryd.ag3, Tryd.fd84_0, Tryd.sz3, Tryd.sz84, Tryd.un23, g0, g2, hfl, ht, hs1, hs2, hs3, hs4, ha, hbe]
   repeat ((with_reducible refine And.intro ?_ ?_); · exact ⟨by omega, by omega⟩)
   refine hK7 _ _ ?_
   refine vck fun A B hA hB => ?_
   simp only [b5q, a0q, lpv, Nat.reduceLT, true_implies, reduceCtorEq, false_implies, true_and, hl]
   refine hB ?_
   clear hA hB A B
   refine b1q ?_
   refine hK6 _ _ ?_
   refine a3q 0 [] ?_
   simp only [bs, ↓vopx, ↓vop, Nat.reduceBEq, a1q, flat, Nat.reduceLT, opII, hl, h0, h_i, wocs, ↓goc, ↓woc, ↓a2q]
   repeat ((with_reducible refine And.intro ?_ ?_); · exact ⟨by omega, by omega⟩)
   refine ⟨l.length - (i + 1), by omega, i + 1, rfl, by omega, ?_⟩
   try simp only [a0q, a4q, Nat.reduceBEq, lpv, hl, h0, h_i, if_true, if_false, Nat.reduceEqDiff, Nat.reduceLT, true_and, and_true]
   repeat ((with_reducible refine And.intro ?_ ?_); · trivial)
   intro j x y hj h1 h2
   rcases Nat.lt_succ_iff_lt_or_eq.1 hj with hj | rfl
   ·exact hall j x y hj h1 h2
   ·rw [hp] at h1; rw [hq] at h2; cases h1; cases h2; exact hgood
 ·clear hA hB A B
  refine c8q ?_
  simp only [a1q, c0q, if_true]
  refine hK2 _ _ ?_
  refine vsk fun K10 hK10 => ?_
  refine a3q 0 [] ?_
  simp only [bs, ↓vopx, ↓vop, a1q, flat, wocs, ↓goc, ↓woc, ↓a2q]
  refine hK10 _ _ ?_
  refine b3q ?_
  refine hQ _ _ _ (.inr rfl) (b2q ?_ fun n b hn h => h)
  try simp only [a0q, lpv, hl, Nat.reduceLT]
  rw [v0q fun j x y h1 h2 => hall j x y (by have := (List.getElem?_eq_some_iff.1 h2).1; omega) h1 h2]
end Go.Proofs

open Go Go.V
namespace Go.Proofs
def c3q (o : Ob) : Int := if 40 < o.labels.length then 11 else if (o.labels.all fun b => decide (b.size ≤ 60)) && (o.pairs.all (inB o.labels.length) && (i8q o.pairs && u5z o.labels.length (mxOf o.pairs))) then 0 else 10
structure IsOb (o : Ob) : Prop where
 le : o.labels.length ≤ 40
 sz : (o.labels.all fun b => decide (b.size ≤ 60)) = true
 inb : o.pairs.all (inB o.labels.length) = true
 ris : i8q o.pairs = true
 tran : u5z o.labels.length (mxOf o.pairs) = true
theorem l3q {o : Ob} : c3q o = 0 ↔ IsOb o := by
 unfold c3q
 constructor
 ·intro h
  split at h
  ·cases h
  ·split at h
   ·rename_i h1 h2
    simp only [Bool.and_eq_true] at h2
    exact ⟨by omega, h2.1, h2.2.1, h2.2.2.1, h2.2.2.2⟩
   ·cases h
 ·intro h
  rw [if_neg (by have := h.le; omega), h.sz, h.inb, h.ris, h.tran]; rfl
theorem OfR.split {s : Sg} {n : Nat} {l : List (Int × Int)} {v : V} {s' : Sg} (h : OfR s n l v s') : ∃ (pv : V) (ec : Int), v = .tup [pv, I ec] ∧ Keep s s' ∧ s.next ≤ s'.next ∧
 ((l.all (inB n) = true ∧ ec = 0 ∧ ∃ p o r, pv = .ptr p 0 ∧ RefR s' p n (mxOf l) o r) ∨ (l.all (inB n) = false ∧ ec = 10)) := by
 rcases h with ⟨h1, p, o, r, rfl, h2, _, h3, h4⟩ | ⟨h1, rfl, h3, h4⟩
 ·exact ⟨_, _, rfl, h3, h4, .inl ⟨h1, rfl, p, o, r, rfl, h2⟩⟩
 ·exact ⟨_, _, rfl, h3, h4, .inr ⟨h1, rfl⟩⟩
theorem three {A : Prop} (b : Bool) {B : Prop} (h : A ∨ B) : B ∨ (A ∧ b = false) ∨ (A ∧ b = true) := by
 rcases h with h | h
 ·cases b
  ·exact .inr (.inl ⟨h, rfl⟩)
  ·exact .inr (.inr ⟨h, rfl⟩)
 ·exact .inl h
theorem NewR.of_keep {s s1 : Sg} (hk : Keep s s1) (hn : s.next ≤ s1.next) {n : Nat} {M : Mx} {v : V} {s' : Sg} (h : NewR s1 n M v s') : NewR s n M v s' := by
 obtain ⟨p, o, r, rfl, h1, h2, h3, h4⟩ := h
 exact ⟨p, o, r, rfl, h1, ⟨Nat.le_trans hn h2.hp, fun h => Nat.le_trans hn (h2.ho h), fun i hi => Nat.le_trans hn (h2.hr i hi)⟩, hk.trans hn h3, Nat.le_trans hn h4⟩
set_option maxRecDepth 20000 in
theorem s8x (o : Ob) (hs1 : o.labels.length < 1000000000) (hs2 : o.pairs.length < 1000000000) : g3q Tryd.prog 75 [vObj o] (I (c3q o)) := by
 refine b9q Tryd.func75 rfl fun s Q hQ => ?_
 obtain ⟨e, he, hl, h0⟩ : ∃ e : Env, ([vObj o] ++ List.replicate (Tryd.f75.ntmps - ([vObj o] : List V).length) .junk) = e ∧ e.length = 46 ∧ ev e (.tmp 0) = vObj o := ⟨_, rfl, rfl, rfl⟩
 rw [he]
 clear he
 refine vsk fun K1 hK1 => ?_
 refine a3q 0 [] ?_
 simp only [bs, ↓vopx, ↓vop, a1q, flat, V.cells, h0, wocs, ↓goc, ↓woc, ↓a2q]
 refine hK1 _ _ ?_
 refine vsk fun K2 hK2 => ?_
 refine vsk fun K3 hK3 => ?_
 refine a3q 0 [] ?_
 simp only [bs, ↓vopx, ↓vop, Nat.reduceBEq, a1q, flat, Nat.reduceLT, a7q, a8q, opII, hl, wocs, ↓goc, ↓woc, ↓a2q, Tryd.ag22, Tryd.fd25_0, Tryd.sz22, Tryd.un22, c7q]
 refine hK3 _ _ ?_
 refine vck fun A B hA hB => ?_
 simp only [b5q, a0q, lpv, Nat.reduceLT, decide_eq_true_eq, decide_eq_false_iff_not, hl]
 refine ⟨fun hc9 => hA ?_, fun hc9 => hB ?_⟩
 ·clear hA hB A B
  refine vsk fun K4 hK4 => ?_
  refine a3q 0 [] ?_
  simp only [bs, ↓vopx, ↓vop, a1q, flat, wocs, ↓goc, ↓woc, ↓a2q]
  refine hK4 _ _ ?_
  refine b3q ?_
  refine hQ _ _ _ (.inr rfl) (b2q ?_ fun n b hn h => l8q s _ hn h)
  try simp only [a0q, lpv, hl, Nat.reduceLT]
  rw [show c3q o = 11 from by unfold c3q; rw [if_pos (by omega)]]
 ·clear hA hB A B
  refine b1q ?_
  refine hK2 _ _ ?_
  refine vsk fun K5 hK5 => ?_
  refine vsk fun K6 hK6 => ?_
  refine a3q 0 [] ?_
  simp only [bs, ↓vopx, ↓vop, a1q, flat, wocs, ↓goc, ↓woc, ↓a2q]
  refine hK6 _ _ ?_
  refine a5q ?_
  refine d0q (fun mm e' s' => ∃ i : Nat, mm = o.labels.length - i ∧ i ≤ o.labels.length ∧ e'.length = 46 ∧ ev e' (.tmp 1) = .ptr s.next 0 ∧ ev e' (.tmp 3) = I i ∧ s' = s.add (.box 25 [.t (b7q o.labels), .t (a9q o.pairs)]) ∧ (o.labels.take i).all (fun b => decide (b.size ≤ 60)) = true) (⟨0, rfl, Nat.zero_le _, ?_⟩) ?_
  ·try simp only [a0q, a4q, Nat.reduceBEq, lpv, hl, Nat.reduceLT, true_and]
   repeat ((with_reducible refine And.intro ?_ ?_); · trivial)
   first | trivial | rfl | simp
  rintro mm e _ ⟨i, rfl, hle_i, hl, hb1, h_i, rfl, hall0⟩
  refine vsk fun K7 hK7 => ?_
  refine vsk fun K8 hK8 => ?_
  refine a3q 0 [] ?_
  simp only [bs, ↓vopx, ↓vop, Nat.reduceBEq, a1q, Nat.reduceLT, a7q, a8q, opII, hl, hb1, h_i, wocs, ↓goc, ↓woc, ↓a2q, Tryd.ag22, Tryd.fd25_0, Tryd.sz22, Tryd.un22, c7q]
  refine hK8 _ _ ?_
  refine vck fun A B hA hB => ?_
  simp only [b5q, a0q, lpv, Nat.reduceLT, decide_eq_true_eq, decide_eq_false_iff_not, hl]
  refine ⟨fun hc14 => hA ?_, fun hc14 => hB ?_⟩
  ·clear hA hB A B
   refine b1q ?_
   refine hK7 _ _ ?_
   refine vsk fun K9 hK9 => ?_
   refine a5q ?_
   refine vsk fun K10 hK10 => ?_
   have hlt : i < o.labels.length := by omega
   obtain ⟨b, hb⟩ : ∃ b, o.labels[i]? = some b := ⟨_, List.getElem?_eq_getElem hlt⟩
   refine a3q 0 [] ?_
   simp only [bs, ↓vopx, ↓vop, Nat.reduceBEq, a1q, flat, Nat.reduceLT, a7q, a8q, opII, hl, hb1, h_i, wocs, ↓goc, ↓woc, ↓a2q, Tryd.ag22, Tryd.ag9, Tryd.fd25_0, Tryd.sz22, Tryd.sz9, Tryd.un22, hb, Tryd.underlying9]
   repeat ((with_reducible refine And.intro ?_ ?_); · (with_reducible assumption))
   refine hK10 _ _ ?_
   refine vck fun A B hA hB => ?_
   simp only [b5q, a0q, lpv, Nat.reduceLT, decide_eq_true_eq, decide_eq_false_iff_not, hl]
   refine ⟨fun hc23 => hA ?_, fun hc23 => hB ?_⟩
   ·clear hA hB A B
    refine vsk fun K11 hK11 => ?_
    refine a3q 0 [] ?_
    simp only [bs, ↓vopx, ↓vop, a1q, flat, wocs, ↓goc, ↓woc, ↓a2q]
    refine hK11 _ _ ?_
    refine b3q ?_
    refine hQ _ _ _ (.inr rfl) (b2q ?_ fun n b hn h => l8q s _ hn h)
    try simp only [a0q, lpv, hl, Nat.reduceLT]
    rw [show c3q o = 10 from by unfold c3q; rw [if_neg (by omega), d1z hb (by simp; omega)]; simp]
   ·clear hA hB A B
    refine b1q ?_
    refine hK9 _ _ ?_
    refine a3q 0 [] ?_
    simp only [bs, ↓vopx, ↓vop, Nat.reduceBEq, a1q, flat, Nat.reduceLT, opII, hl, hb1, h_i, wocs, ↓goc, ↓woc, ↓a2q]
    repeat ((with_reducible refine And.intro ?_ ?_); · exact ⟨by omega, by omega⟩)
    refine ⟨o.labels.length - (i + 1), by omega, i + 1, rfl, by omega, ?_⟩
    try simp only [a0q, a4q, Nat.reduceBEq, lpv, hl, hb1, h_i, if_true, if_false, Nat.reduceEqDiff, Nat.reduceLT, true_and, and_true]
    repeat ((with_reducible refine And.intro ?_ ?_); · trivial)
    exact g8z hb hall0 (by simp; omega)
  ·clear hA hB A B
   have han : i = o.labels.length := by omega
   rw [han, List.take_length] at hall0
   refine c8q ?_
   simp only [a1q, c0q, if_true]
   refine hK5 _ _ ?_
   refine vsk fun K12 hK12 => ?_
   refine a3q 0 [.stop] ?_
   simp only [bs, Nat.reduceAdd, ↓vopx, ↓vop, Nat.reduceBEq, a1q, Nat.reduceLT, a7q, a8q, hl, hb1, wocs, ↓goc, ↓woc, ↓a2q, ↓c4q, a6q, Tryd.ag22, Tryd.ag23, Tryd.fd25_0, Tryd.fd25_1, Tryd.sz22, Tryd.sz23, Tryd.un22, c7q]
   refine ⟨Tryd.is102, (refOf_ _ o.labels.length (by omega) o.pairs hs2).mono fun v s2 hv => ?_⟩
   obtain ⟨pv, ec, rfl, hk, hnx, hcase⟩ := hv.split
   try simp only [bs, Nat.reduceBEq, Nat.reduceLT, hl, Hold]
   refine hK12 _ _ ?_
   refine vsk fun K13 hK13 => ?_
   refine vsk fun K14 hK14 => ?_
   have hks : Keep s s2 := ((Keep.refl s).add (Nat.le_refl _) _).trans (by simp [Sg.add]) hk
   have hm2 : s2.m s.next = some (.box 25 [.t (b7q o.labels), .t (a9q o.pairs)]) := hk _ _ (by simp [Sg.add]) (t9q _ _)
   rcases three (i8q o.pairs) hcase with ⟨hall, rfl⟩ | ⟨⟨hall, rfl, hR⟩, hri⟩ | ⟨⟨hall, rfl, c, o1, r1, rfl, hR⟩, hri⟩
   ·refine a3q 0 [] ?_
    simp only [bs, ↓vopx, ↓vop, Nat.reduceBEq, a1q, flat, Nat.reduceLT, opII, gtmp, hl, wocs, ↓goc, ↓woc, ↓a2q, ↓e8q, Int.reduceBNe]
    refine hK14 _ _ ?_
    refine vck fun A B hA hB => ?_
    simp only [b5q, a0q, lpv, Nat.reduceLT, true_implies, reduceCtorEq, false_implies, and_true, hl]
    refine hA ?_
    clear hA hB A B
    refine vsk fun K15 hK15 => ?_
    refine a3q 0 [] ?_
    simp only [bs, ↓vopx, ↓vop, a1q, flat, wocs, ↓goc, ↓woc, ↓a2q]
    refine hK15 _ _ ?_
    refine b3q ?_
    refine hQ _ _ _ (.inr rfl) (b2q ?_ hks)
    try simp only [a0q, lpv, hl, Nat.reduceLT]
    rw [show c3q o = 10 from by unfold c3q; rw [if_neg (by omega), hall]; simp]
   ·refine a3q 0 [.pur (Bo (i8q o.pairs))] ?_
    simp only [bs, ↓vopx, ↓vop, Nat.reduceBEq, a1q, flat, Nat.reduceLT, a7q, a8q, opII, gtmp, hl, hb1, wocs, ↓goc, ↓woc, ↓a2q, ↓c4q, ↓d1q, ↓e8q, a6q, Tryd.ag23, Tryd.fd25_1, Tryd.sz23, bne_self_eq_false, hm2, hri]
    repeat ((with_reducible refine And.intro ?_ ?_); · exact ⟨Tryd.is103, by simpa only [hri] using q0z o.pairs hs2⟩)
    refine hK14 _ _ ?_
    refine vck fun A B hA hB => ?_
    simp only [b5q, a0q, lpv, Nat.reduceLT, true_implies, reduceCtorEq, false_implies, and_true, hl]
    refine hA ?_
    clear hA hB A B
    refine vsk fun K16 hK16 => ?_
    refine a3q 0 [] ?_
    simp only [bs, ↓vopx, ↓vop, a1q, flat, wocs, ↓goc, ↓woc, ↓a2q]
    refine hK16 _ _ ?_
    refine b3q ?_
    refine hQ _ _ _ (.inr rfl) (b2q ?_ hks)
    try simp only [a0q, lpv, hl, Nat.reduceLT]
    rw [show c3q o = 10 from by unfold c3q; rw [if_neg (by omega), hri]; simp]
   ·refine a3q 0 [.pur (Bo (i8q o.pairs)), .det (Bo (u5z o.labels.length (mxOf o.pairs))) s2] ?_
    simp only [bs, ↓vopx, ↓vop, Nat.reduceBEq, a1q, flat, Nat.reduceLT, a7q, a8q, opII, gtmp, hl, hb1, wocs, ↓goc, ↓woc, ↓a2q, ↓c4q, ↓d1q, a6q, Tryd.ag23, Tryd.fd25_1, Tryd.sz23, bne_self_eq_false, hm2, hri]
    repeat ((with_reducible refine And.intro ?_ ?_); · first | exact ⟨Tryd.is103, by simpa only [hri] using q0z o.pairs hs2⟩ | exact ⟨Tryd.is104, t0x _ _ _ _ _ _ hR⟩)
    refine hK14 _ _ ?_
    refine vck fun A B hA hB => ?_
    simp only [b5q, a0q, lpv, Nat.reduceLT, Bool.not_eq_true', Bool.not_eq_false', hl]
    refine ⟨fun hc45 => hA ?_, fun hc45 => hB ?_⟩
    ·clear hA hB A B
     refine vsk fun K17 hK17 => ?_
     refine a3q 0 [] ?_
     simp only [bs, ↓vopx, ↓vop, a1q, flat, wocs, ↓goc, ↓woc, ↓a2q]
     refine hK17 _ _ ?_
     refine b3q ?_
     refine hQ _ _ _ (.inr rfl) (b2q ?_ hks)
     try simp only [a0q, lpv, hl, Nat.reduceLT]
     rw [show c3q o = 10 from by unfold c3q; rw [if_neg (by omega), hc45]; simp]
    ·clear hA hB A B
     refine b1q ?_
     refine hK13 _ _ ?_
     refine vsk fun K18 hK18 => ?_
     refine a3q 0 [] ?_
     simp only [bs, ↓vopx, ↓vop, a1q, flat, wocs, ↓goc, ↓woc, ↓a2q]
     refine hK18 _ _ ?_
     refine b3q ?_
     refine hQ _ _ _ (.inr rfl) (b2q ?_ hks)
     try simp only [a0q, lpv, hl, Nat.reduceLT]
     rw [show c3q o = 0 from by unfold c3q; rw [if_neg (by omega), hall0, hall, hri, hc45]; rfl]
set_option maxRecDepth 20000 in
theorem g9q (o : Ob) (hs1 : o.labels.length < 1000000000) (hs2 : o.pairs.length < 1000000000) : g3q Tryd.prog 31 [vObj o] (Bo (c3q o == 0)) := by
 refine b9q Tryd.func31 rfl fun s Q hQ => ?_
 obtain ⟨e, he, hl, h0⟩ : ∃ e : Env, ([vObj o] ++ List.replicate (Tryd.f31.ntmps - ([vObj o] : List V).length) .junk) = e ∧ e.length = 6 ∧ ev e (.tmp 0) = vObj o := ⟨_, rfl, rfl, rfl⟩
 rw [he]
 clear he
 refine vsk fun K1 hK1 => ?_
 refine a3q 0 [] ?_
 simp only [bs, ↓vopx, ↓vop, a1q, flat, V.cells, h0, wocs, ↓goc, ↓woc, ↓a2q]
 refine hK1 _ _ ?_
 refine vsk fun K2 hK2 => ?_
 refine a3q 0 [.pur (I (c3q o))] ?_
 simp only [bs, Nat.reduceAdd, ↓vopx, ↓vop, Nat.reduceBEq, a1q, flat, Nat.reduceLT, a7q, a8q, opII, hl, wocs, ↓goc, ↓woc, ↓a2q, ↓c4q, a6q, Tryd.ag25, Tryd.sz25]
 repeat ((with_reducible refine And.intro ?_ ?_); · exact ⟨Tryd.is75, s8x o hs1 hs2⟩)
 refine hK2 _ _ ?_
 refine b3q ?_
 refine hQ _ _ _ (.inr rfl) (b2q ?_ fun n b hn h => l8q s _ hn h)
 try simp only [a0q, lpv, hl, Nat.reduceLT]
set_option maxRecDepth 20000 in
theorem refRel_ (s : Sg) (o : Ob) (hs1 : o.labels.length < 1000000000) (hs2 : o.pairs.length < 1000000000) (ho : IsOb o) : g0q Tryd.prog 84 [vObj o] s (NewR s o.labels.length (mxOf o.pairs)) := by
 refine b8q Tryd.func84 rfl fun Q hQ => ?_
 obtain ⟨e, he, hl, h0⟩ : ∃ e : Env, ([vObj o] ++ List.replicate (Tryd.f84.ntmps - ([vObj o] : List V).length) .junk) = e ∧ e.length = 13 ∧ ev e (.tmp 0) = vObj o := ⟨_, rfl, rfl, rfl⟩
 rw [he]
 clear he
 have hcb : (c3q o == 0) = true := by simp [l3q.2 ho]
 have hle := ho.le
 refine vsk fun K1 hK1 => ?_
 refine a3q 0 [] ?_
 simp only [bs, ↓vopx, ↓vop, a1q, flat, V.cells, h0, wocs, ↓goc, ↓woc, ↓a2q]
 refine hK1 _ _ ?_
 refine vsk fun K2 hK2 => ?_
 refine vsk fun K3 hK3 => ?_
 refine a3q 0 [.pur (Bo (c3q o == 0))] ?_
 simp only [bs, Nat.reduceAdd, ↓vopx, ↓vop, Nat.reduceBEq, a1q, Nat.reduceLT, a7q, a8q, hl, wocs, ↓goc, ↓woc, ↓a2q, ↓c4q, a6q, Tryd.ag25, Tryd.sz25, hcb]
 repeat ((with_reducible refine And.intro ?_ ?_); · exact ⟨Tryd.is31, by simpa only [hcb] using g9q o hs1 hs2⟩)
 refine hK3 _ _ ?_
 refine vck fun A B hA hB => ?_
 simp only [b5q, a0q, lpv, Nat.reduceLT, true_implies, reduceCtorEq, false_implies, true_and, hl]
 refine hB ?_
 clear hA hB A B
 refine b1q ?_
 refine hK2 _ _ ?_
 refine vsk fun K4 hK4 => ?_
 refine a3q 0 [.stop] ?_
 simp only [bs, Nat.reduceAdd, ↓vopx, ↓vop, Nat.reduceBEq, a1q, Nat.reduceLT, a7q, a8q, hl, wocs, ↓goc, ↓woc, ↓a2q, ↓c4q, a6q, Tryd.ag22, Tryd.ag23, Tryd.fd25_0, Tryd.fd25_1, Tryd.sz22, Tryd.sz23, Tryd.un22, c7q]
 refine ⟨Tryd.is109, (c8j _ o.labels.length (by omega) o.pairs hs2 ho.inb).mono fun v s2 hv => ?_⟩
 have hv := hv.of_keep ((Keep.refl s).add (Nat.le_refl _) _) (by simp [Sg.add])
 obtain ⟨c, o1, r1, rfl, hR, hF, hk, hnx⟩ := hv
 try simp only [bs, Nat.reduceLT, hl, Hold]
 refine hK4 _ _ ?_
 refine b3q ?_
 refine hQ _ _ _ (.inr rfl) (d7q (v := .ptr c 0) ?_ rfl ⟨c, o1, r1, rfl, hR, hF, hk, hnx⟩)
 try simp only [a0q, lpv, hl, Nat.reduceLT]
end Go.Proofs

open Go Go.V
namespace Go.Proofs
def allY {α β : Type} (r : α → β → Bool) : List α → List β → Bool
 | [], [] => true
 | a :: l, b :: m => r a b && allY r l m
 | _, _ => false
theorem g7z {α β : Type} {r : α → β → Bool} : ∀ {l : List α} {m : List β}, l.length ≠ m.length → allY r l m = false
 | [], [], h => absurd rfl h
 | [], _ :: _, _ => rfl
 | _ :: _, [], _ => rfl
 | a :: l, b :: m, h => by simp [allY, g7z (r := r) (l := l) (m := m) (by simpa using h)]
theorem u0q {α β : Type} {r : α → β → Bool} : ∀ {l : List α} {m : List β} {i : Nat} {a : α} {b : β}, l[i]? = some a → m[i]? = some b → r a b = false → allY r l m = false
 | [], _, i, a, b, h, _, _ => by simp at h
 | _ :: _, [], i, a, b, _, h, _ => by simp at h
 | a :: l, b :: m, 0, x, y, h1, h2, h3 => by simp at h1 h2; subst h1; subst h2; simp [allY, h3]
 | a :: l, b :: m, i + 1, x, y, h1, h2, h3 => by simp [allY, u0q (r := r) (l := l) (m := m) (by simpa using h1) (by simpa using h2) h3]
theorem z9q {α β : Type} {r : α → β → Bool} : ∀ {l : List α} {m : List β}, l.length = m.length → (∀ (i : Nat) (a : α) (b : β), l[i]? = some a → m[i]? = some b → r a b = true) → allY r l m = true
 | [], [], _, _ => rfl
 | [], _ :: _, h, _ => by simp at h
 | _ :: _, [], h, _ => by simp at h
 | a :: l, b :: m, h, hh => by
  simp only [allY, Bool.and_eq_true]
  exact ⟨hh 0 a b rfl rfl, z9q (by simpa using h) fun i x y h1 h2 => hh (i + 1) x y (by simpa using h1) (by simpa using h2)⟩
theorem k5q {α β : Type} {r : α → β → Bool} : ∀ {l : List α} {m : List β}, allY r l m = true → ∀ {i : Nat} {a : α} {b : β}, l[i]? = some a → m[i]? = some b → r a b = true
 | [], _, _, i, a, b, h, _ => by simp at h
 | _ :: _, [], h, i, a, b, _, _ => by simp [allY] at h
 | x :: l, y :: m, h, 0, a, b, h1, h2 => by simp at h1 h2; subst h1; subst h2; simp only [allY, Bool.and_eq_true] at h; exact h.1
 | x :: l, y :: m, h, i + 1, a, b, h1, h2 => by simp only [allY, Bool.and_eq_true] at h; exact k5q h.2 (by simpa using h1) (by simpa using h2)
theorem c1q {α β : Type} {r : α → β → Bool} {l : List α} {m : List β} (h : allY r l m = true) : l.length = m.length := Decidable.byContradiction fun hn => by rw [g7z hn] at h; cases h
def o6q (b : Ob) (y : Int) (la : ByteArray) : Bool := decide (0 ≤ y ∧ y < b.labels.length) && (match b.labels[y.toNat]? with | some lb => seqB la lb | none => false)
def fAt (f : List Int) (z : Int) : Nat := ((f[z.toNat]?).getD 0).toNat
def arrS (a b : Ob) (f : List Int) : Bool := (c3q a == 0) && ((c3q b == 0) && (allY (o6q b) f a.labels && a.pairs.all fun p => mxOf b.pairs (fAt f p.1) (fAt f p.2)))
set_option maxRecDepth 20000 in
theorem w8q (a b : Ob) (f : List Int) (ha1 : a.labels.length < 1000000000) (ha2 : a.pairs.length < 1000000000) (hb1 : b.labels.length < 1000000000) (hb2 : b.pairs.length < 1000000000) (_hfl : f.length < 1000000000) : g3q Tryd.prog 59 [vObj a, vObj b, .t (b0q f)] (Bo (arrS a b f)) := by
 refine b9q Tryd.func59 rfl fun s Q hQ => ?_
 obtain ⟨e, he, hl, h0, h1, h2⟩ : ∃ e : Env, ([vObj a, vObj b, .t (b0q f)] ++ List.replicate (Tryd.f59.ntmps - ([vObj a, vObj b, .t (b0q f)] : List V).length) .junk) = e ∧ e.length = 93 ∧ ev e (.tmp 0) = vObj a ∧ ev e (.tmp 1) = vObj b ∧ ev e (.tmp 2) = .t (b0q f) := ⟨_, rfl, rfl, rfl, rfl, rfl⟩
 rw [he]
 clear he
 have hne1 : ¬ s.next = s.next + 1 := by omega
 refine vsk fun K1 hK1 => ?_
 refine a3q 0 [] ?_
 simp only [bs, ↓vopx, ↓vop, Nat.reduceBEq, a1q, flat, V.cells, h0, h1, wocs, ↓goc, ↓woc, ↓a2q]
 refine hK1 _ _ ?_
 refine vsk fun K2 hK2 => ?_
 refine vsk fun K3 hK3 => ?_
 rcases (show (c3q a == 0) = false ∨ ((c3q a == 0) = true ∧ (c3q b == 0) = false) ∨ ((c3q a == 0) = true ∧ (c3q b == 0) = true ∧ f.length ≠ a.labels.length) ∨ ((c3q a == 0) = true ∧ (c3q b == 0) = true ∧ f.length = a.labels.length) by cases (c3q a == 0) <;> cases (c3q b == 0) <;> simp; omega) with hca | ⟨hca, hcb⟩ | ⟨hca, hcb, hlen⟩ | ⟨hca, hcb, hlen⟩
 ·refine a3q 0 [.pur (Bo (c3q a == 0))] ?_
  simp only [bs, Nat.reduceAdd, ↓vopx, ↓vop, Nat.reduceBEq, a1q, flat, Nat.reduceLT, a7q, a8q, gtmp, hl, wocs, ↓goc, ↓woc, ↓a2q, ↓c4q, ↓e8q, a6q, Tryd.ag25, Tryd.sz25, hne1, hca]
  repeat ((with_reducible refine And.intro ?_ ?_); · exact ⟨Tryd.is31, by simpa only [hca] using g9q a ha1 ha2⟩)
  refine hK3 _ _ ?_
  refine vck fun A B hA hB => ?_
  simp only [b5q, a0q, lpv, Nat.reduceLT, true_implies, reduceCtorEq, false_implies, and_true, hl]
  refine hA ?_
  clear hA hB A B
  refine vsk fun K4 hK4 => ?_
  refine a3q 0 [] ?_
  simp only [bs, ↓vopx, ↓vop, a1q, flat, wocs, ↓goc, ↓woc, ↓a2q]
  refine hK4 _ _ ?_
  refine b3q ?_
  refine hQ _ _ _ (.inr rfl) (b2q ?_ fun n b hn h => t8q s _ _ hn h)
  try simp only [a0q, lpv, hl, Nat.reduceLT]
  rw [show arrS a b f = false from by simp [arrS, hca]]
 ·refine a3q 0 [.pur (Bo (c3q a == 0)), .pur (Bo (c3q b == 0))] ?_
  simp only [bs, Nat.reduceAdd, ↓vopx, ↓vop, Nat.reduceBEq, a1q, flat, Nat.reduceLT, a7q, a8q, gtmp, hl, wocs, ↓goc, ↓woc, ↓a2q, ↓c4q, ↓d1q, ↓e8q, a6q, Tryd.ag25, Tryd.sz25, hne1, hca, hcb]
  repeat ((with_reducible refine And.intro ?_ ?_); · first | exact ⟨Tryd.is31, by simpa only [hca] using g9q a ha1 ha2⟩ | exact ⟨Tryd.is31, by simpa only [hcb] using g9q b hb1 hb2⟩)
  refine hK3 _ _ ?_
  refine vck fun A B hA hB => ?_
  simp only [b5q, a0q, lpv, Nat.reduceLT, true_implies, reduceCtorEq, false_implies, and_true, hl]
  refine hA ?_
  clear hA hB A B
  refine vsk fun K5 hK5 => ?_
  refine a3q 0 [] ?_
  simp only [bs, ↓vopx, ↓vop, a1q, flat, wocs, ↓goc, ↓woc, ↓a2q]
  refine hK5 _ _ ?_
  refine b3q ?_
  refine hQ _ _ _ (.inr rfl) (b2q ?_ fun n b hn h => t8q s _ _ hn h)
  try simp only [a0q, lpv, hl, Nat.reduceLT]
  rw [show arrS a b f = false from by simp [arrS, hcb]]
 ·have hlb : ((f.length : Int) != (a.labels.length : Int)) = true := by simp; omega
  refine a3q 0 [.pur (Bo (c3q a == 0)), .pur (Bo (c3q b == 0))] ?_
  simp only [bs, Nat.reduceAdd, ↓vopx, ↓vop, Nat.reduceBEq, a1q, flat, Nat.reduceLT, a7q, a8q, opII, gtmp, hl, h2, wocs, ↓goc, ↓woc, ↓a2q, ↓c4q, ↓d1q, a6q, Tryd.ag22, Tryd.ag25, Tryd.fd25_0, Tryd.sz22, Tryd.sz25, Tryd.un22, c7q, f1q, hne1, hca, hcb, hlb]
  repeat ((with_reducible refine And.intro ?_ ?_); · first | exact ⟨Tryd.is31, by simpa only [hca] using g9q a ha1 ha2⟩ | exact ⟨Tryd.is31, by simpa only [hcb] using g9q b hb1 hb2⟩)
  refine hK3 _ _ ?_
  refine vck fun A B hA hB => ?_
  simp only [b5q, a0q, lpv, Nat.reduceLT, true_implies, reduceCtorEq, false_implies, and_true, hl]
  refine hA ?_
  clear hA hB A B
  refine vsk fun K6 hK6 => ?_
  refine a3q 0 [] ?_
  simp only [bs, ↓vopx, ↓vop, a1q, flat, wocs, ↓goc, ↓woc, ↓a2q]
  refine hK6 _ _ ?_
  refine b3q ?_
  refine hQ _ _ _ (.inr rfl) (b2q ?_ fun n b hn h => t8q s _ _ hn h)
  try simp only [a0q, lpv, hl, Nat.reduceLT]
  rw [show arrS a b f = false from by simp [arrS, g7z hlen]]
 ·have hlb : ((f.length : Int) != (a.labels.length : Int)) = false := by simp [hlen]
  refine a3q 0 [.pur (Bo (c3q a == 0)), .pur (Bo (c3q b == 0))] ?_
  simp only [bs, Nat.reduceAdd, ↓vopx, ↓vop, Nat.reduceBEq, a1q, flat, Nat.reduceLT, a7q, a8q, opII, gtmp, hl, h2, wocs, ↓goc, ↓woc, ↓a2q, ↓c4q, ↓d1q, a6q, Tryd.ag22, Tryd.ag25, Tryd.fd25_0, Tryd.sz22, Tryd.sz25, Tryd.un22, c7q, f1q, hne1, hca, hcb, hlb]
  repeat ((with_reducible refine And.intro ?_ ?_); · first | exact ⟨Tryd.is31, by simpa only [hca] using g9q a ha1 ha2⟩ | exact ⟨Tryd.is31, by simpa only [hcb] using g9q b hb1 hb2⟩)
  refine hK3 _ _ ?_
  refine vck fun A B hA hB => ?_
  simp only [b5q, a0q, lpv, Nat.reduceLT, true_implies, reduceCtorEq, false_implies, true_and, hl]
  refine hB ?_
  clear hA hB A B
  refine b1q ?_
  refine hK2 _ _ ?_
  refine vsk fun K7 hK7 => ?_
  refine vsk fun K8 hK8 => ?_
  refine a3q 0 [] ?_
  simp only [bs, ↓vopx, ↓vop, a1q, flat, wocs, ↓goc, ↓woc, ↓a2q]
  refine hK8 _ _ ?_
  refine a5q ?_
  refine d0q (fun mm e' s' => ∃ i : Nat, mm = f.length - i ∧ i ≤ f.length ∧ e'.length = 93 ∧ ev e' (.tmp 2) = .t (b0q f) ∧ ev e' (.tmp 3) = .ptr s.next 0 ∧ ev e' (.tmp 4) = .ptr (s.next + 1) 0 ∧ ev e' (.tmp 7) = I i ∧ s' = ((s.add (.box 25 [.t (b7q a.labels), .t (a9q a.pairs)])).add (.box 25 [.t (b7q b.labels), .t (a9q b.pairs)])) ∧ ∀ (j : Nat) (y : Int) (la : ByteArray), j < i → f[j]? = some y → a.labels[j]? = some la → o6q b y la = true) (⟨0, rfl, Nat.zero_le _, ?_⟩) ?_
  ·try simp only [a0q, a4q, Nat.reduceBEq, lpv, hl, h2, Nat.reduceLT, true_and]
   repeat ((with_reducible refine And.intro ?_ ?_); · trivial)
   exact fun j y la h => by omega
  rintro mm e _ ⟨i, rfl, hle_i, hl, hf2, hb3, hb4, h_i, rfl, hall⟩
  refine vsk fun K9 hK9 => ?_
  refine vsk fun K10 hK10 => ?_
  refine a3q 0 [] ?_
  simp only [bs, ↓vopx, ↓vop, Nat.reduceBEq, a1q, Nat.reduceLT, opII, hl, hf2, h_i, wocs, ↓goc, ↓woc, ↓a2q, f1q]
  refine hK10 _ _ ?_
  refine vck fun A B hA hB => ?_
  simp only [b5q, a0q, lpv, Nat.reduceLT, decide_eq_true_eq, decide_eq_false_iff_not, hl]
  refine ⟨fun hc29 => hA ?_, fun hc29 => hB ?_⟩
  ·clear hA hB A B
   refine b1q ?_
   refine hK9 _ _ ?_
   refine vsk fun K11 hK11 => ?_
   refine a5q ?_
   refine vsk fun K12 hK12 => ?_
   have hlt : i < f.length := by omega
   obtain ⟨y, hy⟩ : ∃ y, f[i]? = some y := ⟨_, List.getElem?_eq_getElem hlt⟩
   obtain ⟨la, hla⟩ : ∃ x, a.labels[i]? = some x := ⟨_, List.getElem?_eq_getElem (by omega)⟩
   rcases (show y < 0 ∨ (¬ y < 0 ∧ y ≥ b.labels.length) ∨ (¬ y < 0 ∧ ¬ y ≥ b.labels.length) by omega) with hy1 | ⟨hy1, hy2⟩ | ⟨hy1, hy2⟩
   ·refine d2q Tryd.mixed 29 [0, 0, 1, 1, 0, 0, 0, 0, 1, 1, 0, 1, 0, 0, 0, 0, 0, 1, 0, 1, 1, 0, 1, 0, 0, 1, 1, 1, 1] [] [] 0 (by decide +kernel) (by simp [lpv, hl]) rfl ?_
    simp only [bs, ↓vopx, ↓vop, Nat.reduceBEq, a1q, flat, Nat.reduceLT, a7q, a8q, opII, opSS, gtmp, hl, hf2, h_i, wocs, ↓goc, ↓woc, ↓a2q, ↓e7q, ↓e8q, ↓farC, chn, ↓goq, ↓woq, List.zip_cons_cons, List.zip_nil_right, Tryd.ag3, Tryd.sz3, Tryd.un26, hy, hy1]
    repeat ((with_reducible refine And.intro ?_ ?_); · (with_reducible assumption))
    refine hK12 _ _ ?_
    refine vck fun A B hA hB => ?_
    simp only [b5q, a0q, lpv, Nat.reduceLT, true_implies, reduceCtorEq, false_implies, and_true, hl]
    refine hA ?_
    clear hA hB A B
    refine vsk fun K13 hK13 => ?_
    refine a3q 0 [] ?_
    simp only [bs, ↓vopx, ↓vop, a1q, flat, wocs, ↓goc, ↓woc, ↓a2q]
    refine hK13 _ _ ?_
    refine b3q ?_
    refine hQ _ _ _ (.inr rfl) (b2q ?_ fun n b hn h => t8q s _ _ hn h)
    try simp only [a0q, lpv, hl, Nat.reduceLT]
    rw [show arrS a b f = false from by unfold arrS; rw [u0q hy hla (by unfold o6q; simp; omega)]; simp]
   ·refine d2q Tryd.mixed 29 [0, 0, 1, 1, 0, 0, 0, 0, 1, 1, 0, 1, 0, 0, 0, 0, 0, 1, 0, 1, 1, 0, 1, 0, 0, 1, 1, 1, 1] [] [] 0 (by decide +kernel) (by simp [lpv, hl]) rfl ?_
    simp only [bs, ↓vopx, ↓vop, Nat.reduceBEq, a1q, flat, Nat.reduceLT, a7q, a8q, opII, opSS, gtmp, hl, hf2, hb4, h_i, wocs, ↓goc, ↓woc, ↓a2q, ↓e7q, ↓d1q, ↓e8q, ↓farC, chn, ↓goq, ↓woq, List.zip_cons_cons, List.zip_nil_right, Tryd.ag22, Tryd.ag3, Tryd.fd25_0, Tryd.sz22, Tryd.sz3, Tryd.un22, Tryd.un26, c7q, hy, hy1, hy2]
    repeat ((with_reducible refine And.intro ?_ ?_); · (with_reducible assumption))
    refine hK12 _ _ ?_
    refine vck fun A B hA hB => ?_
    simp only [b5q, a0q, lpv, Nat.reduceLT, true_implies, reduceCtorEq, false_implies, and_true, hl]
    refine hA ?_
    clear hA hB A B
    refine vsk fun K14 hK14 => ?_
    refine a3q 0 [] ?_
    simp only [bs, ↓vopx, ↓vop, a1q, flat, wocs, ↓goc, ↓woc, ↓a2q]
    refine hK14 _ _ ?_
    refine b3q ?_
    refine hQ _ _ _ (.inr rfl) (b2q ?_ fun n b hn h => t8q s _ _ hn h)
    try simp only [a0q, lpv, hl, Nat.reduceLT]
    rw [show arrS a b f = false from by unfold arrS; rw [u0q hy hla (by unfold o6q; simp; omega)]; simp]
   ·have hyr : 0 ≤ y := by omega
    obtain ⟨lb, hlb2⟩ : ∃ x, b.labels[y.toNat]? = some x := ⟨_, List.getElem?_eq_getElem (by omega)⟩
    refine d2q Tryd.mixed 29 [0, 0, 1, 1, 0, 0, 0, 0, 1, 1, 0, 1, 0, 0, 0, 0, 0, 1, 0, 1, 1, 0, 1, 0, 0, 1, 1, 1, 1] [] [] 0 (by decide +kernel) (by simp [lpv, hl]) rfl ?_
    simp only [bs, ↓vopx, ↓vop, Nat.reduceBEq, a1q, flat, Nat.reduceLT, a7q, a8q, opII, opSS, gtmp, hl, hf2, hb3, hb4, h_i, wocs, ↓goc, ↓woc, ↓a2q, ↓e7q, ↓d1q, ↓farC, chn, ↓goq, ↓woq, List.zip_cons_cons, List.zip_nil_right, Tryd.ag22, Tryd.ag3, Tryd.ag9, Tryd.fd25_0, Tryd.sz22, Tryd.sz3, Tryd.sz9, Tryd.un22, Tryd.un26, c7q, hne1, hy, hla, hy1, hy2, hlb2]
    repeat ((with_reducible refine And.intro ?_ ?_); · first | (with_reducible assumption) | omega)
    refine hK12 _ _ ?_
    refine vck fun A B hA hB => ?_
    simp only [b5q, a0q, lpv, Nat.reduceLT, Bool.not_eq_true', Bool.not_eq_false', beq_iff_eq, beq_eq_false_iff_ne, ne_eq, hl]
    refine ⟨fun hc62 => hA ?_, fun hc62 => hB ?_⟩
    ·clear hA hB A B
     refine vsk fun K15 hK15 => ?_
     refine a3q 0 [] ?_
     simp only [bs, ↓vopx, ↓vop, a1q, flat, wocs, ↓goc, ↓woc, ↓a2q]
     refine hK15 _ _ ?_
     refine b3q ?_
     refine hQ _ _ _ (.inr rfl) (b2q ?_ fun n b hn h => t8q s _ _ hn h)
     try simp only [a0q, lpv, hl, Nat.reduceLT]
     rw [show arrS a b f = false from by unfold arrS; rw [u0q hy hla (by unfold o6q; rw [hlb2]; simp [seqB, hc62])]; simp]
    ·clear hA hB A B
     have hgood : o6q b y la = true := by unfold o6q; rw [hlb2]; simp [seqB, hc62]; omega
     refine b1q ?_
     refine hK11 _ _ ?_
     refine a3q 0 [] ?_
     simp only [bs, ↓vopx, ↓vop, Nat.reduceBEq, a1q, flat, Nat.reduceLT, opII, hl, hf2, hb3, hb4, h_i, wocs, ↓goc, ↓woc, ↓a2q]
     repeat ((with_reducible refine And.intro ?_ ?_); · exact ⟨by omega, by omega⟩)
     refine ⟨f.length - (i + 1), by omega, i + 1, rfl, by omega, ?_⟩
     try simp only [a0q, a4q, Nat.reduceBEq, lpv, hl, hf2, hb3, hb4, h_i, if_true, if_false, Nat.reduceEqDiff, Nat.reduceLT, true_and, and_true]
     repeat ((with_reducible refine And.intro ?_ ?_); · trivial)
     intro j x z hj h1 h2
     rcases Nat.lt_succ_iff_lt_or_eq.1 hj with hj | rfl
     ·exact hall j x z hj h1 h2
     ·rw [hy] at h1; rw [hla] at h2; cases h1; cases h2; exact hgood
  ·clear hA hB A B
   have han : i = f.length := by omega
   subst han
   refine c8q ?_
   simp only [a1q, c0q, if_true]
   refine hK7 _ _ ?_
   refine vsk fun K16 hK16 => ?_
   have hmap : allY (o6q b) f a.labels = true := z9q hlen fun j y la h1 h2 => hall j y la (by have := (List.getElem?_eq_some_iff.1 h1).1; omega) h1 h2
   have hoa := l3q.1 (by simpa using hca)
   have hob := l3q.1 (by simpa using hcb)
   refine a3q 0 [.stop] ?_
   simp only [bs, Nat.reduceAdd, ↓vopx, ↓vop, Nat.reduceBEq, a1q, Nat.reduceLT, a7q, a8q, hl, hb4, wocs, ↓goc, ↓woc, ↓a2q, ↓c4q, a6q, Tryd.ag25, Tryd.sz25]
   refine ⟨Tryd.is84, (refRel_ _ b hb1 hb2 hob).mono fun v s2 hv => ?_⟩
   obtain ⟨c, o1, r1, rfl, hR, hF, hk, hnx⟩ := hv
   have hmA : s2.m s.next = some (.box 25 [.t (b7q a.labels), .t (a9q a.pairs)]) := hk _ _ (by simp [Sg.add]; omega) (by simp [Sg.add])
   have hks : Keep s s2 := (((Keep.refl s).add (Nat.le_refl _) _).add (by simp [Sg.add]) _).trans (by simp [Sg.add]; omega) hk
   try simp only [bs, Nat.reduceLT, hl, Hold]
   refine hK16 _ _ ?_
   refine vsk fun K17 hK17 => ?_
   refine vsk fun K18 hK18 => ?_
   refine a3q 0 [] ?_
   simp only [bs, ↓vopx, ↓vop, a1q, flat, wocs, ↓goc, ↓woc, ↓a2q]
   refine hK18 _ _ ?_
   refine a5q ?_
   refine d0q (fun mm e' s' => ∃ i : Nat, mm = a.pairs.length - i ∧ i ≤ a.pairs.length ∧ e'.length = 93 ∧ ev e' (.tmp 2) = .t (b0q f) ∧ ev e' (.tmp 3) = .ptr s.next 0 ∧ ev e' (.tmp 8) = .ptr c 0 ∧ ev e' (.tmp 9) = I i ∧ s2 = s' ∧ (a.pairs.take i).all (fun p => mxOf b.pairs (fAt f p.1) (fAt f p.2)) = true) (⟨0, rfl, Nat.zero_le _, ?_⟩) ?_
   ·try simp only [a0q, a4q, Nat.reduceBEq, lpv, hl, hf2, hb3, Nat.reduceLT, true_and]
    repeat ((with_reducible refine And.intro ?_ ?_); · trivial)
    first | trivial | simp
   rintro mm e _ ⟨i, rfl, hle_i, hl, hf2, hb3, hc8, h_i, rfl, hal2⟩
   refine vsk fun K19 hK19 => ?_
   refine vsk fun K20 hK20 => ?_
   refine a3q 0 [] ?_
   simp only [bs, ↓vopx, ↓vop, Nat.reduceBEq, a1q, Nat.reduceLT, a7q, a8q, opII, hl, hb3, h_i, wocs, ↓goc, ↓woc, ↓a2q, Tryd.ag23, Tryd.fd25_1, Tryd.sz23, Tryd.un23, g8q, hmA]
   refine hK20 _ _ ?_
   refine vck fun A B hA hB => ?_
   simp only [b5q, a0q, lpv, Nat.reduceLT, decide_eq_true_eq, decide_eq_false_iff_not, hl]
   refine ⟨fun hc69 => hA ?_, fun hc69 => hB ?_⟩
   ·clear hA hB A B
    refine b1q ?_
    refine hK19 _ _ ?_
    refine vsk fun K21 hK21 => ?_
    refine a5q ?_
    refine vsk fun K22 hK22 => ?_
    have hlt : i < a.pairs.length := by omega
    obtain ⟨p, hp⟩ : ∃ p, a.pairs[i]? = some p := ⟨_, List.getElem?_eq_getElem hlt⟩
    have g0 := b7x hp
    have g1 := b8x hp
    have hfp := e0q a.pairs
    have hin : (0 ≤ p.1 ∧ p.1 < a.labels.length) ∧ (0 ≤ p.2 ∧ p.2 < a.labels.length) := by have := (List.all_eq_true.1 hoa.inb) p (List.mem_of_getElem? hp); simpa only [inB, Bool.and_eq_true, decide_eq_true_eq] using this
    obtain ⟨x, hx⟩ : ∃ x, f[p.1.toNat]? = some x := ⟨_, List.getElem?_eq_getElem (by omega)⟩
    obtain ⟨y, hy⟩ : ∃ x, f[p.2.toNat]? = some x := ⟨_, List.getElem?_eq_getElem (by omega)⟩
    have hxr : 0 ≤ x ∧ x < b.labels.length := by have := k5q hmap hx (List.getElem?_eq_getElem (show p.1.toNat < a.labels.length by omega)); simp only [o6q, Bool.and_eq_true, decide_eq_true_eq] at this; exact this.1
    have hyr : 0 ≤ y ∧ y < b.labels.length := by have := k5q hmap hy (List.getElem?_eq_getElem (show p.2.toNat < a.labels.length by omega)); simp only [o6q, Bool.and_eq_true, decide_eq_true_eq] at this; exact this.1
    have hfx : fAt f p.1 = x.toNat := by simp [fAt, hx]
    have hfy : fAt f p.2 = y.toNat := by simp [fAt, hy]
    have hi2 : i * 2 < a.pairs.length * 2 := by omega
    have hp1 : p.1.toNat < f.length := by omega
    have hp2 : p.2.toNat < f.length := by omega
    refine d2q Tryd.mixed 19 [0, 0, 0, 1, 0, 1, 0, 1, 1, 1, 0, 0, 1, 0, 1, 0, 1, 1, 1] [.det (Bo (mxOf b.pairs x.toNat y.toNat)) s2] [] 0 (by decide +kernel) (by simp [lpv, hl]) rfl ?_
    simp only [bs, ↓vopx, ↓vop, Nat.reduceBEq, a1q, Nat.reduceLT, a7q, a8q, hl, hf2, hb3, hc8, h_i, wocs, ↓goc, ↓woc, ↓a2q, ↓e7q, ↓c4q, a6q, chn, ↓goq, ↓woq, List.zip_cons_cons, List.zip_nil_right, Tryd.ag23, Tryd.ag3, Tryd.fd25_1, Tryd.fd84_0, Tryd.fd84_1, Tryd.sz23, Tryd.sz3, Tryd.sz84, Tryd.un23, Tryd.un26, hmA, g0, g1, hfp, hx, hy, hin, hi2, hp1, hp2]
    repeat ((with_reducible refine And.intro ?_ ?_); · exact ⟨Tryd.is85, by simpa [hxr, hyr] using refHas_ s2 c _ _ o1 r1 hR x y⟩)
    refine hK22 _ _ ?_
    refine vck fun A B hA hB => ?_
    simp only [b5q, a0q, lpv, Nat.reduceLT, Bool.not_eq_true', Bool.not_eq_false', hl]
    refine ⟨fun hc92 => hA ?_, fun hc92 => hB ?_⟩
    ·clear hA hB A B
     refine vsk fun K23 hK23 => ?_
     refine a3q 0 [] ?_
     simp only [bs, ↓vopx, ↓vop, a1q, flat, wocs, ↓goc, ↓woc, ↓a2q]
     refine hK23 _ _ ?_
     refine b3q ?_
     refine hQ _ _ _ (.inr rfl) (b2q ?_ hks)
     try simp only [a0q, lpv, hl, Nat.reduceLT]
     rw [show arrS a b f = false from by unfold arrS; rw [d1z hp (by rw [hfx, hfy]; exact hc92)]; simp]
    ·clear hA hB A B
     have hgood2 : mxOf b.pairs (fAt f p.1) (fAt f p.2) = true := by rw [hfx, hfy]; exact hc92
     refine b1q ?_
     refine hK21 _ _ ?_
     refine a3q 0 [] ?_
     simp only [bs, ↓vopx, ↓vop, Nat.reduceBEq, a1q, flat, Nat.reduceLT, opII, hl, hf2, hb3, hc8, h_i, wocs, ↓goc, ↓woc, ↓a2q]
     repeat ((with_reducible refine And.intro ?_ ?_); · exact ⟨by omega, by omega⟩)
     refine ⟨a.pairs.length - (i + 1), by omega, i + 1, rfl, by omega, ?_⟩
     try simp only [a0q, a4q, Nat.reduceBEq, lpv, hl, hf2, hb3, hc8, h_i, if_true, if_false, Nat.reduceEqDiff, Nat.reduceLT, true_and, and_true]
     repeat ((with_reducible refine And.intro ?_ ?_); · trivial)
     exact g8z hp hal2 hgood2
   ·clear hA hB A B
    have han2 : i = a.pairs.length := by omega
    rw [han2, List.take_length] at hal2
    refine c8q ?_
    simp only [a1q, c0q, if_true]
    refine hK17 _ _ ?_
    refine vsk fun K24 hK24 => ?_
    refine a3q 0 [] ?_
    simp only [bs, ↓vopx, ↓vop, a1q, flat, wocs, ↓goc, ↓woc, ↓a2q]
    refine hK24 _ _ ?_
    refine b3q ?_
    refine hQ _ _ _ (.inr rfl) (b2q ?_ hks)
    try simp only [a0q, lpv, hl, Nat.reduceLT]
    rw [show arrS a b f = true from by simp [arrS, hca, hcb, hmap, hal2]]
end Go.Proofs

open Go Go.V
namespace Go.Proofs
structure RefU (s : Sg) (p m : Nat) (l : List Int) : Prop where
 hp : s.m p = some (.box 114 [.loc m 0 l.length])
 hm : s.m m = some (.arr 1 3 (l.map TI))
 lp : p < s.next
 lm : m < s.next
theorem RefU.ne {s : Sg} {p m : Nat} {l : List Int} (h : RefU s p m l) : p ≠ m := fun e => by have := h.hp; rw [e, h.hm] at this; cases this
theorem RefU.push {s : Sg} {p m : Nat} {l : List Int} (h : RefU s p m l) (X : Blk) (z : Int) :
 RefU ((((s.add X).del m).add (.arr 1 3 (l.map TI ++ [TI z]))).set p (.box 114 [.loc (s.next + 1) 0 (l.length + 1)])) p (s.next + 1) (l ++ [z]) := by
 have h1 := h.lp
 have h2 := h.lm
 refine ⟨by simp [Sg.set], ?_, by simp [Sg.set, Sg.add, Sg.del]; omega, by simp [Sg.set, Sg.add, Sg.del]⟩
 have e1 : s.next + 1 ≠ p := by omega
 simp [Sg.set, Sg.add, Sg.del, e1]
theorem RefU.keep {s s' : Sg} {p m : Nat} {l : List Int} (h : RefU s p m l) (hk : Keep s s') (hn : s.next ≤ s'.next) : RefU s' p m l :=
 ⟨hk _ _ h.lp h.hp, hk _ _ h.lm h.hm, Nat.lt_of_lt_of_le h.lp hn, Nat.lt_of_lt_of_le h.lm hn⟩
theorem RefU.put {s : Sg} {p m : Nat} {l : List Int} (h : RefU s p m l) {i : Nat} (hi : i < l.length) (x : Int) : RefU (s.set m (.arr 1 3 (setAll (l.map TI) i [TI x]))) p m (l.set i x) := by
 refine ⟨by simp [Sg.set, h.ne, h.hp], ?_, h.lp, h.lm⟩
 rw [h7q _ _ _ (by simpa using hi)]
 simp [Sg.set, List.map_set]
def d5q (n : Nat) : List Int := (List.range n).map fun (i : Nat) => (i : Int)
theorem e5q (n : Nat) : (d5q n).length = n := by simp [d5q]
theorem l4z (n : Nat) : d5q (n + 1) = d5q n ++ [(n : Int)] := by simp [d5q, List.range_succ]
def NewU (s : Sg) (n : Nat) (v : V) (s' : Sg) : Prop := ∃ p m, v = .ptr p 0 ∧ RefU s' p m (d5q n) ∧ s.next ≤ p ∧ s.next ≤ m ∧ Keep s s' ∧ s.next ≤ s'.next
def joinL (l : List Int) (a b : Nat) : List Int := l.map fun z => if z = max (l.getD a 0) (l.getD b 0) then min (l.getD a 0) (l.getD b 0) else z
def z5q (l : List Int) (x y : Int) (i : Nat) : List Int := ((l.take i).map fun z => if z = y then x else z) ++ l.drop i
theorem n6q (l : List Int) (x y : Int) (i : Nat) : (z5q l x y i).length = l.length := by simp [z5q]; omega
theorem q3x {l : List Int} {x y : Int} {i : Nat} (h : i < l.length) : (z5q l x y i)[i]? = l[i]? := by
 unfold z5q
 rw [List.getElem?_append_right (by simp; omega)]
 simp [Nat.min_eq_left (Nat.le_of_lt h)]
theorem x1z {l : List Int} {x y z : Int} {i : Nat} (h : l[i]? = some z) (hz : z ≠ y) : z5q l x y i = z5q l x y (i + 1) := by
 have hi : i < l.length := (List.getElem?_eq_some_iff.1 h).1
 have hz' := (List.getElem?_eq_some_iff.1 h).2
 unfold z5q
 rw [List.take_add_one, h, List.map_append, List.append_assoc]
 congr 1
 rw [List.drop_eq_getElem_cons hi, hz']
 simp [hz]
theorem x2z {l : List Int} {x y : Int} {i : Nat} (h : l[i]? = some y) : (z5q l x y i).set i x = z5q l x y (i + 1) := by
 have hi : i < l.length := (List.getElem?_eq_some_iff.1 h).1
 unfold z5q
 have e1 : ((l.take i).map fun z => if z = y then x else z).length = i := by simp; omega
 rw [List.set_append_right _ _ (by omega), e1, Nat.sub_self, List.drop_eq_getElem_cons hi, List.set_cons_zero, List.take_add_one, h]
 simp
theorem i8x (l : List Int) (x y : Int) : z5q l x y 0 = l := by simp [z5q]
theorem q2x (l : List Int) (a b : Nat) : z5q l (min (l.getD a 0) (l.getD b 0)) (max (l.getD a 0) (l.getD b 0)) l.length = joinL l a b := by simp [z5q, joinL]
theorem p4z {l : List Int} {a b : Nat} (h : l.getD a 0 = l.getD b 0) : joinL l a b = l := by
 unfold joinL
 rw [h, Int.max_self, Int.min_self]
 have : (fun z : Int => if z = l.getD b 0 then l.getD b 0 else z) = id := by funext z; split <;> simp_all
 rw [this, List.map_id]
def w9x (s : Sg) (p m : Nat) (l : List Int) (v : V) (s' : Sg) : Prop := (∃ b, v = Bo b) ∧ RefU s' p m l ∧ (∀ j, j ≠ m → s'.m j = s.m j) ∧ s'.next = s.next
theorem w9x.keep {s0 s : Sg} {p m : Nat} {l : List Int} {v : V} {s' : Sg} (h : w9x s p m l v s') (hm : s0.next ≤ m) (hk : Keep s0 s) : Keep s0 s' := fun n b hn hb => by
 rw [h.2.2.1 n (by omega)]; exact hk n b hn hb
set_option maxRecDepth 20000 in
theorem d0j (s : Sg) (n : Nat) (hn : n ≤ 1000) : g0q Tryd.prog 66 [I n] s (NewU s n) := by
 refine b8q Tryd.func66 rfl fun Q hQ => ?_
 obtain ⟨e, he, hl, h0⟩ : ∃ e : Env, ([I n] ++ List.replicate (Tryd.f66.ntmps - ([I n] : List V).length) .junk) = e ∧ e.length = 24 ∧ ev e (.tmp 0) = I n := ⟨_, rfl, rfl, rfl⟩
 rw [he]
 clear he
 have hmin : min (n : Int) 1000 = n := by omega
 refine vsk fun K1 hK1 => ?_
 refine a3q 0 [] ?_
 simp only [bs, ↓vopx, ↓vop, a1q, flat, wocs, ↓goc, ↓woc, ↓a2q]
 refine hK1 _ _ ?_
 refine vsk fun K2 hK2 => ?_
 refine a3q 0 [] ?_
 simp only [bs, d8q, g2q, ↓vopx, ↓vop, a1q, Nat.reduceLT, V.cells, hl, wocs, ↓goc, ↓woc, ↓a2q, Tryd.st114]
 refine hK2 _ _ ?_
 refine vsk fun K3 hK3 => ?_
 refine vsk fun K4 hK4 => ?_
 refine VW.nameBox s.next 0 1 3 (by omega) (ty := 114) (cs := [.t (.v (.slice none 0 0))]) (by simp [Sg.add]) rfl ?_
 refine a3q 0 [] ?_
 simp only [bs, ↓vopx, ↓vop, a1q, flat, wocs, ↓goc, ↓woc, ↓a2q]
 refine hK4 _ _ ?_
 refine a5q ?_
 refine d0q (fun mm e' s' => ∃ i : Nat, mm = n - i ∧ i ≤ n ∧ e'.length = 24 ∧ ev e' (.tmp 0) = I n ∧ ev e' (.tmp 3) = .ptr s.next 0 ∧ ev e' (.tmp 4) = I i ∧ True ∧ ∃ m, RefU s' s.next m (d5q i) ∧ s.next ≤ m ∧ Keep s s' ∧ s.next ≤ s'.next) (⟨0, rfl, Nat.zero_le _, ?_⟩) ?_
 ·try simp only [a0q, a4q, Nat.reduceBEq, lpv, hl, h0, Nat.reduceLT, true_and]
  repeat ((with_reducible refine And.intro ?_ ?_); · trivial)
  refine ⟨s.next + 1, ⟨by simp [Sg.set, Sg.add, d5q], by simp [Sg.set, Sg.add, d5q], by simp [Sg.set, Sg.add]; omega, by simp [Sg.set, Sg.add]⟩, by omega, (((Keep.refl s).add (Nat.le_refl _) _).add (by simp [Sg.add]) _).set (Nat.le_refl _) _, by simp [Sg.set, Sg.add]; omega⟩
 rintro mm e s1 ⟨i, rfl, hle_i, hl, h0, h3, h_i, hst, ⟨m, hu, hm, hkeep, hnx⟩⟩
 refine vsk fun K5 hK5 => ?_
 refine vsk fun K6 hK6 => ?_
 refine a3q 0 [] ?_
 simp only [bs, ↓vopx, ↓vop, Nat.reduceBEq, a1q, flat, Nat.reduceLT, opII, hl, h0, h_i, wocs, ↓goc, ↓woc, ↓a2q, hmin]
 refine hK6 _ _ ?_
 refine vck fun A B hA hB => ?_
 simp only [b5q, a0q, lpv, Nat.reduceLT, decide_eq_true_eq, decide_eq_false_iff_not, hl]
 refine ⟨fun hc10 => hA ?_, fun hc10 => hB ?_⟩
 ·clear hA hB A B
  refine b1q ?_
  refine hK5 _ _ ?_
  refine vsk fun K7 hK7 => ?_
  refine a5q ?_
  have hlp := hu.lp
  have hlm := hu.lm
  have hne := hu.ne
  have hne1 : ¬ m = s1.next := by omega
  have hne2 : ¬ s.next = s1.next := by omega
  have hne3 : ¬ s.next = s1.next + 1 := by omega
  have hp0 := hu.hp
  have hm0 := hu.hm
  refine a3q 0 [] ?_
  simp only [bs, dstT, srcT, Nat.reduceLeDiff, d8q, g2q, repl, Sg.frzP, e9q, ↓vopx, ↓vop, Nat.reduceBEq, a1q, c0q, Nat.reduceLT, V.cells, a7q, a8q, Sg.frzL, Sg.frz1, hl, h3, h_i, wocs, ↓goc, ↓woc, ↓a2q, Tryd.ag26, Tryd.fd114_0, Tryd.sl26, Tryd.sz26, hp0, hm0, hne, hne1, hne2, hne3, e5q, Nat.div_one]
  repeat ((with_reducible refine And.intro ?_ ?_); · omega)
  refine hK7 _ _ ?_
  refine a3q 0 [] ?_
  simp only [bs, ↓vopx, ↓vop, Nat.reduceBEq, a1q, flat, Nat.reduceLT, opII, hl, h0, h3, h_i, wocs, ↓goc, ↓woc, ↓a2q]
  repeat ((with_reducible refine And.intro ?_ ?_); · exact ⟨by omega, by omega⟩)
  refine ⟨n - (i + 1), by omega, i + 1, rfl, by omega, ?_⟩
  try simp only [a0q, a4q, Nat.reduceBEq, lpv, hl, h0, h3, h_i, if_true, if_false, Nat.reduceEqDiff, Nat.reduceLT, true_and, and_true]
  repeat ((with_reducible refine And.intro ?_ ?_); · trivial)
  refine ⟨s1.next + 1, ?_, by omega, (((hkeep.add hnx _).del hm).add (by simp only [c9q, e4q]; omega) _).set (Nat.le_refl _) _, by omega⟩
  rw [l4z]
  have := hu.push (.arr 1 3 [TI i]) i
  rw [e5q] at this
  exact this
 ·clear hA hB A B
  have han : n = i := by omega
  subst han
  refine c8q ?_
  simp only [a1q, c0q, if_true]
  refine hK3 _ _ ?_
  refine vsk fun K8 hK8 => ?_
  refine a3q 0 [] ?_
  simp only [bs, ↓vopx, ↓vop, Nat.reduceBEq, a1q, Nat.reduceLT, hl, h3, wocs, ↓goc, ↓woc, ↓a2q]
  refine hK8 _ _ ?_
  refine b3q ?_
  refine hQ _ _ _ (.inr rfl) (d7q (v := .ptr s.next 0) ?_ rfl ⟨s.next, m, rfl, hu, Nat.le_refl _, hm, hkeep, hnx⟩)
  try simp only [a0q, lpv, hl, Nat.reduceLT]
set_option maxRecDepth 20000 in
theorem t1x (s : Sg) (p m : Nat) (l : List Int) (hu : RefU s p m l) (hll : l.length ≤ 1000) (a b : Nat) (ha : a < l.length) (hb : b < l.length) : g0q Tryd.prog 67 [.ptr p 0, I a, I b] s (w9x s p m (joinL l a b)) := by
 refine b8q Tryd.func67 rfl fun Q hQ => ?_
 obtain ⟨e, he, hl, h0, h1, h2⟩ : ∃ e : Env, ([.ptr p 0, I a, I b] ++ List.replicate (Tryd.f67.ntmps - ([.ptr p 0, I a, I b] : List V).length) .junk) = e ∧ e.length = 106 ∧ ev e (.tmp 0) = .ptr p 0 ∧ ev e (.tmp 1) = I a ∧ ev e (.tmp 2) = I b := ⟨_, rfl, rfl, rfl, rfl, rfl⟩
 rw [he]
 clear he
 obtain ⟨x, hx⟩ : ∃ x, l[a]? = some x := ⟨_, List.getElem?_eq_getElem ha⟩
 obtain ⟨y, hy⟩ : ∃ x, l[b]? = some x := ⟨_, List.getElem?_eq_getElem hb⟩
 have hgx : l.getD a 0 = x := by rw [List.getD_eq_getElem?_getD, hx]; rfl
 have hgy : l.getD b 0 = y := by rw [List.getD_eq_getElem?_getD, hy]; rfl
 have n1 : ¬ ((a : Int) < 0) := by omega
 have n2 : ¬ ((b : Int) < 0) := by omega
 have n3 : ¬ ((a : Int) ≥ l.length) := by omega
 have n4 : ¬ ((b : Int) ≥ l.length) := by omega
 refine vsk fun K1 hK1 => ?_
 refine a3q 0 [] ?_
 simp only [bs, ↓vopx, ↓vop, a1q, flat, wocs, ↓goc, ↓woc, ↓a2q]
 refine hK1 _ _ ?_
 refine vsk fun K2 hK2 => ?_
 refine vsk fun K3 hK3 => ?_
 have hne := hu.ne
 have hp0 := hu.hp
 have hm0 := hu.hm
 rcases Decidable.em (x = y) with hxy | hxy
 ·have hxe : (x == y) = true := by simp [hxy]
  refine d2q Tryd.mixed 39 [0, 0, 0, 0, 0, 0, 0, 0, 0, 0, 0, 1, 0, 0, 0, 0, 0, 0, 0, 0, 1, 0, 0, 0, 0, 0, 0, 0, 1, 0, 1, 1, 0, 0, 0, 1, 0, 1, 1] [] [] 0 (by decide +kernel) (by simp [lpv, hl]) rfl ?_
  simp only [bs, e9q, ↓vopx, ↓vop, Nat.reduceBEq, a1q, flat, Nat.reduceLT, a7q, a8q, opII, opSS, gtmp, hl, h0, h1, h2, wocs, ↓goc, ↓woc, ↓a2q, ↓e7q, ↓d1q, ↓farC, chn, ↓goq, ↓woq, List.zip_cons_cons, List.zip_nil_right, Tryd.ag26, Tryd.ag3, Tryd.fd114_0, Tryd.sz26, Tryd.sz3, Tryd.un26, n1, n2, n3, n4, hx, hy, hp0, hm0, hxe]
  repeat ((with_reducible refine And.intro ?_ ?_); · omega)
  refine hK3 _ _ ?_
  refine vck fun A B hA hB => ?_
  simp only [b5q, a0q, lpv, Nat.reduceLT, true_implies, reduceCtorEq, false_implies, and_true, hl]
  refine hA ?_
  clear hA hB A B
  refine vsk fun K4 hK4 => ?_
  refine a3q 0 [] ?_
  simp only [bs, ↓vopx, ↓vop, a1q, flat, wocs, ↓goc, ↓woc, ↓a2q]
  refine hK4 _ _ ?_
  refine b3q ?_
  refine hQ _ _ _ (.inr rfl) (d7q (v := Bo false) ?_ rfl ⟨⟨_, rfl⟩, by rw [p4z (by rw [hgx, hgy, hxy])]; exact hu, fun _ _ => rfl, rfl⟩)
  try simp only [a0q, lpv, hl, Nat.reduceLT]
 ·have hxe : (x == y) = false := by simp [hxy]
  refine d2q Tryd.mixed 39 [0, 0, 0, 0, 0, 0, 0, 0, 0, 0, 0, 1, 0, 0, 0, 0, 0, 0, 0, 0, 1, 0, 0, 0, 0, 0, 0, 0, 1, 0, 1, 1, 0, 0, 0, 1, 0, 1, 1] [] [] 0 (by decide +kernel) (by simp [lpv, hl]) rfl ?_
  simp only [bs, e9q, ↓vopx, ↓vop, Nat.reduceBEq, a1q, flat, Nat.reduceLT, a7q, a8q, opII, opSS, gtmp, hl, h0, h1, h2, wocs, ↓goc, ↓woc, ↓a2q, ↓e7q, ↓d1q, ↓farC, chn, ↓goq, ↓woq, List.zip_cons_cons, List.zip_nil_right, Tryd.ag26, Tryd.ag3, Tryd.fd114_0, Tryd.sz26, Tryd.sz3, Tryd.un26, n1, n2, n3, n4, hx, hy, hp0, hm0, hxe]
  repeat ((with_reducible refine And.intro ?_ ?_); · omega)
  refine hK3 _ _ ?_
  refine vck fun A B hA hB => ?_
  simp only [b5q, a0q, lpv, Nat.reduceLT, true_implies, reduceCtorEq, false_implies, true_and, hl]
  refine hB ?_
  clear hA hB A B
  refine b1q ?_
  refine hK2 _ _ ?_
  refine vsk fun K5 hK5 => ?_
  refine d2q Tryd.mixed 31 [0, 0, 0, 1, 0, 1, 1, 0, 0, 0, 1, 0, 1, 1, 0, 0, 0, 0, 1, 0, 1, 1, 0, 0, 0, 1, 0, 1, 1, 0, 0] [] [] 0 (by decide +kernel) (by simp [lpv, hl]) rfl ?_
  simp only [bs, e9q, ↓vopx, ↓vop, Nat.reduceBEq, a1q, Nat.reduceLT, a7q, a8q, hl, h0, h1, h2, wocs, ↓goc, ↓woc, ↓a2q, ↓e7q, chn, ↓goq, ↓woq, List.zip_cons_cons, List.zip_nil_right, Tryd.ag26, Tryd.ag3, Tryd.fd114_0, Tryd.sz26, Tryd.sz3, Tryd.un26, hx, hy, hp0, hm0]
  repeat ((with_reducible refine And.intro ?_ ?_); · omega)
  refine hK5 _ _ ?_
  refine vsk fun K6 hK6 => ?_
  refine vsk fun K7 hK7 => ?_
  refine a3q 0 [] ?_
  simp only [bs, ↓vopx, ↓vop, a1q, flat, wocs, ↓goc, ↓woc, ↓a2q]
  refine hK7 _ _ ?_
  refine a5q ?_
  refine d0q (fun mm e' s' => ∃ i : Nat, mm = l.length - i ∧ i ≤ l.length ∧ e'.length = 106 ∧ ev e' (.tmp 0) = .ptr p 0 ∧ ev e' (.tmp 7) = I (min x y) ∧ ev e' (.tmp 8) = I (max x y) ∧ ev e' (.tmp 9) = I i ∧ True ∧ w9x s p m (z5q l (min x y) (max x y) i) (Bo true) s') (⟨0, rfl, Nat.zero_le _, ?_⟩) ?_
  ·try simp only [a0q, a4q, Nat.reduceBEq, lpv, hl, h0, Nat.reduceLT, true_and]
   repeat ((with_reducible refine And.intro ?_ ?_); · trivial)
   exact ⟨⟨_, rfl⟩, by rw [i8x]; exact hu, fun _ _ => rfl, rfl⟩
  rintro mm e s1 ⟨i, rfl, hle_i, hl, h0, h7, h8, h_i, hst, hj⟩
  refine vsk fun K8 hK8 => ?_
  refine vsk fun K9 hK9 => ?_
  have hp1 := hj.2.1.hp
  refine a3q 0 [] ?_
  simp only [bs, e9q, ↓vopx, ↓vop, Nat.reduceBEq, a1q, Nat.reduceLT, a7q, a8q, opII, hl, h0, h_i, wocs, ↓goc, ↓woc, ↓a2q, Tryd.ag26, Tryd.fd114_0, Tryd.sz26, Tryd.un26, hp1, n6q]
  refine hK9 _ _ ?_
  refine vck fun A B hA hB => ?_
  simp only [b5q, a0q, lpv, Nat.reduceLT, decide_eq_true_eq, decide_eq_false_iff_not, hl]
  refine ⟨fun hc87 => hA ?_, fun hc87 => hB ?_⟩
  ·clear hA hB A B
   refine b1q ?_
   refine hK8 _ _ ?_
   refine vsk fun K10 hK10 => ?_
   refine a5q ?_
   refine vsk fun K11 hK11 => ?_
   have hp1 := hj.2.1.hp
   have hm1 := hj.2.1.hm
   have hlt : i < l.length := by omega
   obtain ⟨z, hz⟩ : ∃ z, l[i]? = some z := ⟨_, List.getElem?_eq_getElem hlt⟩
   have hzk := (q3x (x := min x y) (y := max x y) hlt).trans hz
   refine a3q 0 [] ?_
   simp only [bs, e9q, ↓vopx, ↓vop, Nat.reduceBEq, a1q, Nat.reduceLT, a7q, a8q, opII, hl, h0, h8, h_i, wocs, ↓goc, ↓woc, ↓a2q, Tryd.ag26, Tryd.ag3, Tryd.fd114_0, Tryd.sz26, Tryd.sz3, Tryd.un26, hp1, hm1, n6q, hzk]
   repeat ((with_reducible refine And.intro ?_ ?_); · (with_reducible assumption))
   refine hK11 _ _ ?_
   refine vck fun A B hA hB => ?_
   simp only [b5q, a0q, lpv, Nat.reduceLT, beq_iff_eq, beq_eq_false_iff_ne, ne_eq, hl]
   refine ⟨fun hc98 => hA ?_, fun hc98 => hB ?_⟩
   ·clear hA hB A B
    refine a3q 0 [] ?_
    simp only [bs, e9q, ↓vopx, ↓vop, Nat.reduceBEq, a1q, c0q, Nat.reduceLT, V.cells, a7q, a8q, Sg.frzL, Sg.frz1, hl, h0, h7, h_i, wocs, ↓goc, ↓woc, ↓a2q, Tryd.ag26, Tryd.fd114_0, Tryd.sz26, Tryd.sz3, Tryd.un26, hp1, hm1, n6q]
    repeat ((with_reducible refine And.intro ?_ ?_); · first | (with_reducible assumption) | omega)
    refine hK10 _ _ ?_
    refine a3q 0 [] ?_
    simp only [bs, ↓vopx, ↓vop, Nat.reduceBEq, a1q, flat, Nat.reduceLT, opII, hl, h0, h7, h8, h_i, wocs, ↓goc, ↓woc, ↓a2q]
    repeat ((with_reducible refine And.intro ?_ ?_); · exact ⟨by omega, by omega⟩)
    refine ⟨l.length - (i + 1), by omega, i + 1, rfl, by omega, ?_⟩
    try simp only [a0q, a4q, Nat.reduceBEq, lpv, hl, h0, h7, h8, h_i, if_true, if_false, Nat.reduceEqDiff, Nat.reduceLT, true_and, and_true]
    repeat ((with_reducible refine And.intro ?_ ?_); · trivial)
    first
    | exact ⟨⟨_, rfl⟩, by rw [← x1z hz hc98]; exact hj.2.1, hj.2.2⟩
    | (subst hc98; exact ⟨⟨_, rfl⟩, by rw [← x2z hz]; exact hj.2.1.put (by rw [n6q]; omega) _, fun j hj1 => by simp [Sg.set, hj1, hj.2.2.1 j hj1], hj.2.2.2⟩)
   ·clear hA hB A B
    refine b1q ?_
    refine hK10 _ _ ?_
    refine a3q 0 [] ?_
    simp only [bs, ↓vopx, ↓vop, Nat.reduceBEq, a1q, flat, Nat.reduceLT, opII, hl, h0, h7, h8, h_i, wocs, ↓goc, ↓woc, ↓a2q]
    repeat ((with_reducible refine And.intro ?_ ?_); · exact ⟨by omega, by omega⟩)
    refine ⟨l.length - (i + 1), by omega, i + 1, rfl, by omega, ?_⟩
    try simp only [a0q, a4q, Nat.reduceBEq, lpv, hl, h0, h7, h8, h_i, if_true, if_false, Nat.reduceEqDiff, Nat.reduceLT, true_and, and_true]
    repeat ((with_reducible refine And.intro ?_ ?_); · trivial)
    first
    | exact ⟨⟨_, rfl⟩, by rw [← x1z hz hc98]; exact hj.2.1, hj.2.2⟩
    | (subst hc98; exact ⟨⟨_, rfl⟩, by rw [← x2z hz]; exact hj.2.1.put (by rw [n6q]; omega) _, fun j hj1 => by simp [Sg.set, hj1, hj.2.2.1 j hj1], hj.2.2.2⟩)
  ·clear hA hB A B
   have han : i = l.length := by omega
   rw [han, ← hgx, ← hgy, q2x] at hj
   refine c8q ?_
   simp only [a1q, c0q, if_true]
   refine hK6 _ _ ?_
   refine vsk fun K12 hK12 => ?_
   refine a3q 0 [] ?_
   simp only [bs, ↓vopx, ↓vop, a1q, flat, wocs, ↓goc, ↓woc, ↓a2q]
   refine hK12 _ _ ?_
   refine b3q ?_
   refine hQ _ _ _ (.inr rfl) (d7q (v := Bo true) ?_ rfl ⟨⟨_, rfl⟩, hj.2⟩)
   try simp only [a0q, lpv, hl, Nat.reduceLT]
end Go.Proofs

open Go Go.V
namespace Go.Proofs
def q8z (s0 s : Sg) (m : Nat) (l : List Int) : Prop := s.m m = some (.arr 1 3 (l.map TI)) ∧ s0.next ≤ m ∧ m < s.next
theorem q8z.push {s0 s1 : Sg} {m : Nat} {l : List Int} (_h : q8z s0 s1 m l) (hn : s0.next ≤ s1.next) (X : Blk) (z : Int) :
 q8z s0 (((s1.add X).del m).add (.arr 1 3 (l.map TI ++ [TI z]))) (s1.next + 1) (l ++ [z]) := by
 refine ⟨?_, by omega, by simp [Sg.add, Sg.del]⟩
 simp [Sg.add, Sg.del]
theorem q8z.keep {s0 s1 : Sg} {m : Nat} {l : List Int} (h : q8z s0 s1 m l) (hk : Keep s0 s1) (hn : s0.next ≤ s1.next) (X Y : Blk) : Keep s0 (((s1.add X).del m).add Y) :=
 ((hk.add hn X).del h.2.1).add (by simp only [c9q, e4q]; omega) Y
theorem q8z.new (s : Sg) : q8z s (s.add (.arr 1 3 [])) s.next [] := ⟨by simp [Sg.add], Nat.le_refl _, by simp [Sg.add]⟩
def wfU (l : List Int) : Prop := ∀ (i : Nat) (z : Int), l[i]? = some z → 0 ≤ z ∧ z ≤ i
def plS (l : List Int) : Nat → List Int × Nat
 | 0 => ([], 0)
 | k + 1 => if l.getD k 0 = k then ((plS l k).1 ++ [((plS l k).2 : Int)], (plS l k).2 + 1) else ((plS l k).1 ++ [(plS l k).1.getD (l.getD k 0).toNat 0], (plS l k).2)
theorem e6q (l : List Int) : ∀ k, (plS l k).1.length = k
 | 0 => rfl
 | k + 1 => by unfold plS; split <;> simp [e6q l k]
theorem s1x (l : List Int) : ∀ k, (plS l k).2 ≤ k
 | 0 => Nat.le_refl _
 | k + 1 => by have := s1x l k; unfold plS; split <;> simp <;> omega
def plO (l : List Int) (i : Nat) : List Int := (plS l i).1 ++ List.replicate (l.length - i) 0
theorem p3q {l : List Int} {i : Nat} (h : i ≤ l.length) : (plO l i).length = l.length := by simp [plO, e6q]; omega
theorem s0x {l : List Int} {i : Nat} (h : i < l.length) (v : Int) : (plO l i).set i v = (plS l i).1 ++ v :: List.replicate (l.length - (i + 1)) 0 := by
 unfold plO
 rw [List.set_append_right _ _ (by rw [e6q]; omega), e6q, Nat.sub_self, show l.length - i = (l.length - (i + 1)) + 1 by omega, List.replicate_succ, List.set_cons_zero]
theorem i0z {l : List Int} {i : Nat} (h : i < l.length) (hz : l.getD i 0 = i) : (plO l i).set i (plS l i).2 = plO l (i + 1) := by
 rw [s0x h]
 show _ = (if l.getD i 0 = i then _ else _ : List Int × Nat).1 ++ _
 rw [if_pos hz]; simp
theorem b1z {l : List Int} {i : Nat} (h : i < l.length) (hz : l.getD i 0 ≠ i) : (plO l i).set i ((plS l i).1.getD (l.getD i 0).toNat 0) = plO l (i + 1) := by
 rw [s0x h]
 show _ = (if l.getD i 0 = i then _ else _ : List Int × Nat).1 ++ _
 rw [if_neg hz]; simp
theorem w7q {l : List Int} {i : Nat} (hz : l.getD i 0 = i) : (plS l (i + 1)).2 = (plS l i).2 + 1 := by
 show (if l.getD i 0 = i then _ else _ : List Int × Nat).2 = _
 rw [if_pos hz]
theorem t2q {l : List Int} {i : Nat} (hz : l.getD i 0 ≠ i) : (plS l (i + 1)).2 = (plS l i).2 := by
 show (if l.getD i 0 = i then _ else _ : List Int × Nat).2 = _
 rw [if_neg hz]
theorem r9x {l : List Int} {i j : Nat} (h : j < i) : (plO l i)[j]? = some ((plS l i).1.getD j 0) := by
 have hj : j < (plS l i).1.length := by rw [e6q]; exact h
 unfold plO
 rw [List.getElem?_append_left hj, List.getD_eq_getElem?_getD, List.getElem?_eq_getElem hj]; rfl
def c2q (l : List Int) : List Int := (plS l l.length).1
theorem r8x (l : List Int) : plO l l.length = c2q l := by simp [plO, c2q]
theorem g1x (l : List Int) : plO l 0 = List.replicate l.length 0 := by simp [plO, plS]
set_option maxRecDepth 20000 in
theorem j2x (s : Sg) (p m : Nat) (l : List Int) (hu : RefU s p m l) (hll : l.length ≤ 1000) (hwf : wfU l) : k4q Tryd.prog 90 [.ptr p 0] s (.t (b0q (c2q l))) (s) := by
 refine d3q Tryd.func90 rfl fun Q hQ => ?_
 obtain ⟨e, he, hl, h0⟩ : ∃ e : Env, ([.ptr p 0] ++ List.replicate (Tryd.f90.ntmps - ([.ptr p 0] : List V).length) .junk) = e ∧ e.length = 50 ∧ ev e (.tmp 0) = .ptr p 0 := ⟨_, rfl, rfl, rfl⟩
 rw [he]
 clear he
 have hp0 := hu.hp
 have hm0 := hu.hm
 have hlp := hu.lp
 have hlm := hu.lm
 have hnp : ¬ p = s.next := by omega
 have hnm : ¬ m = s.next := by omega
 have hrep : repl [TI 0] l.length = (List.replicate l.length (0 : Int)).map TI := by rw [n4q]; simp
 refine vsk fun K1 hK1 => ?_
 refine a3q 0 [] ?_
 simp only [bs, ↓vopx, ↓vop, a1q, flat, wocs, ↓goc, ↓woc, ↓a2q]
 refine hK1 _ _ ?_
 refine vsk fun K2 hK2 => ?_
 refine a3q 0 [] ?_
 simp only [bs, e9q, ↓vopx, ↓vop, Nat.reduceBEq, a1q, Nat.reduceLT, a7q, a8q, hl, h0, wocs, ↓goc, ↓woc, ↓a2q, Tryd.ag26, Tryd.fd114_0, Tryd.sl26, Tryd.sz26, Tryd.un26, hp0]
 repeat ((with_reducible refine And.intro ?_ ?_); · omega)
 refine hK2 _ _ ?_
 refine vsk fun K3 hK3 => ?_
 refine a3q 0 [] ?_
 simp only [bs, ↓vopx, ↓vop, a1q, flat, wocs, ↓goc, ↓woc, ↓a2q]
 refine hK3 _ _ ?_
 refine vsk fun K4 hK4 => ?_
 refine vsk fun K5 hK5 => ?_
 refine a3q 0 [] ?_
 simp only [bs, ↓vopx, ↓vop, a1q, flat, wocs, ↓goc, ↓woc, ↓a2q]
 refine hK5 _ _ ?_
 refine a5q ?_
 refine d0q (fun mm e' s' => ∃ i : Nat, mm = l.length - i ∧ i ≤ l.length ∧ e'.length = 50 ∧ ev e' (.tmp 0) = .ptr p 0 ∧ ev e' (.tmp 3) = .loc s.next 0 l.length ∧ ev e' (.tmp 4) = I (plS l i).2 ∧ ev e' (.tmp 5) = I i ∧ s' = s.add (.arr 1 3 ((plO l i).map TI)) ∧ True) (⟨0, rfl, Nat.zero_le _, ?_⟩) ?_
 ·try simp only [a0q, a4q, Nat.reduceBEq, lpv, hl, h0, Nat.reduceLT, true_and, and_true]
  repeat ((with_reducible refine And.intro ?_ ?_); · trivial)
  rw [g1x, ← hrep]
 rintro mm e _ ⟨i, rfl, hle_i, hl, h0, h3, h4, h_i, rfl, _⟩
 refine vsk fun K6 hK6 => ?_
 refine vsk fun K7 hK7 => ?_
 refine a3q 0 [] ?_
 simp only [bs, e9q, ↓vopx, ↓vop, Nat.reduceBEq, a1q, Nat.reduceLT, a7q, a8q, opII, hl, h0, h_i, wocs, ↓goc, ↓woc, ↓a2q, Tryd.ag26, Tryd.fd114_0, Tryd.sz26, Tryd.un26, hp0, hnp]
 refine hK7 _ _ ?_
 refine vck fun A B hA hB => ?_
 simp only [b5q, a0q, lpv, Nat.reduceLT, decide_eq_true_eq, decide_eq_false_iff_not, hl]
 refine ⟨fun hc18 => hA ?_, fun hc18 => hB ?_⟩
 ·clear hA hB A B
  refine b1q ?_
  refine hK6 _ _ ?_
  refine vsk fun K8 hK8 => ?_
  refine a5q ?_
  refine vsk fun K9 hK9 => ?_
  have hlt : i < l.length := by omega
  obtain ⟨z, hz⟩ : ∃ z, l[i]? = some z := ⟨_, List.getElem?_eq_getElem hlt⟩
  have hzb := hwf i z hz
  have hgz : l.getD i 0 = z := by rw [List.getD_eq_getElem?_getD, hz]; rfl
  have hple := s1x l i
  refine a3q 0 [] ?_
  simp only [bs, e9q, ↓vopx, ↓vop, Nat.reduceBEq, a1q, Nat.reduceLT, a7q, a8q, opII, hl, h0, h_i, wocs, ↓goc, ↓woc, ↓a2q, Tryd.ag26, Tryd.ag3, Tryd.fd114_0, Tryd.sz26, Tryd.sz3, Tryd.un26, hp0, hm0, hnp, hnm, hz]
  repeat ((with_reducible refine And.intro ?_ ?_); · (with_reducible assumption))
  refine hK9 _ _ ?_
  refine vck fun A B hA hB => ?_
  simp only [b5q, a0q, lpv, Nat.reduceLT, beq_iff_eq, beq_eq_false_iff_ne, ne_eq, hl]
  refine ⟨fun hc29 => hA ?_, fun hc29 => hB ?_⟩
  ·clear hA hB A B
   refine vsk fun K10 hK10 => ?_
   have hlo := p3q (l := l) (i := i) (by omega)
   refine a3q 0 [] ?_
   simp only [bs, ↓vopx, ↓vop, Nat.reduceBEq, a1q, Nat.reduceLT, V.cells, Sg.frzL, Sg.frz1, hl, h3, h4, h_i, wocs, ↓goc, ↓woc, ↓a2q, Tryd.sz3, Tryd.un26, hlo]
   repeat ((with_reducible refine And.intro ?_ ?_); · first | (with_reducible assumption) | omega)
   refine hK10 _ _ ?_
   refine a3q 0 [] ?_
   simp only [bs, ↓vopx, ↓vop, Nat.reduceBEq, a1q, c0q, flat, Nat.reduceLT, opII, hl, h4, wocs, ↓goc, ↓woc, ↓a2q]
   repeat ((with_reducible refine And.intro ?_ ?_); · exact ⟨by omega, by omega⟩)
   refine hK8 _ _ ?_
   refine a3q 0 [] ?_
   simp only [bs, ↓vopx, ↓vop, Nat.reduceBEq, a1q, flat, Nat.reduceLT, opII, hl, h0, h3, h_i, wocs, ↓goc, ↓woc, ↓a2q]
   repeat ((with_reducible refine And.intro ?_ ?_); · exact ⟨by omega, by omega⟩)
   refine ⟨l.length - (i + 1), by omega, i + 1, rfl, by omega, ?_⟩
   try simp only [a0q, a4q, Nat.reduceBEq, lpv, hl, h0, h3, h4, h_i, if_true, if_false, Nat.reduceEqDiff, Nat.reduceLT, true_and, and_true]
   rw [j3z, h7q _ _ _ (by rw [List.length_map, p3q]; omega; omega), ← List.map_set]
   first
   | (rw [i0z hlt (by rw [hgz]; exact hc29), w7q (by rw [hgz]; exact hc29)]; exact ⟨by push_cast; rfl, by push_cast; rfl, rfl⟩)
   | (rw [← b1z hlt (by rw [hgz]; exact hc29), t2q (by rw [hgz]; exact hc29), hgz]; exact ⟨rfl, by push_cast; rfl, rfl⟩)
  ·clear hA hB A B
   have hzi : z.toNat < i := by omega
   have hpg := r9x (l := l) hzi
   have hlo := p3q (l := l) (i := i) (by omega)
   refine a3q 0 [] ?_
   simp only [bs, e9q, ↓vopx, ↓vop, Nat.reduceBEq, a1q, c0q, Nat.reduceLT, V.cells, a7q, a8q, Sg.frzL, Sg.frz1, hl, h0, h3, h_i, wocs, ↓goc, ↓woc, ↓a2q, Tryd.ag26, Tryd.ag3, Tryd.fd114_0, Tryd.sz26, Tryd.sz3, Tryd.un26, hp0, hm0, hnp, hnm, hz, hpg, hlo]
   repeat ((with_reducible refine And.intro ?_ ?_); · first | (with_reducible assumption) | omega)
   refine hK8 _ _ ?_
   refine a3q 0 [] ?_
   simp only [bs, ↓vopx, ↓vop, Nat.reduceBEq, a1q, flat, Nat.reduceLT, opII, hl, h0, h3, h4, h_i, wocs, ↓goc, ↓woc, ↓a2q]
   repeat ((with_reducible refine And.intro ?_ ?_); · exact ⟨by omega, by omega⟩)
   refine ⟨l.length - (i + 1), by omega, i + 1, rfl, by omega, ?_⟩
   try simp only [a0q, a4q, Nat.reduceBEq, lpv, hl, h0, h3, h4, h_i, if_true, if_false, Nat.reduceEqDiff, Nat.reduceLT, true_and, and_true]
   rw [j3z, h7q _ _ _ (by rw [List.length_map, p3q]; omega; omega), ← List.map_set]
   first
   | (rw [i0z hlt (by rw [hgz]; exact hc29), w7q (by rw [hgz]; exact hc29)]; exact ⟨by push_cast; rfl, by push_cast; rfl, rfl⟩)
   | (rw [← b1z hlt (by rw [hgz]; exact hc29), t2q (by rw [hgz]; exact hc29), hgz]; exact ⟨rfl, by push_cast; rfl, rfl⟩)
 ·clear hA hB A B
  have han : i = l.length := by omega
  subst han
  refine c8q ?_
  simp only [a1q, c0q, if_true]
  refine hK4 _ _ ?_
  refine vsk fun K11 hK11 => ?_
  refine a3q 0 [] ?_
  simp only [bs, ↓vopx, ↓vop, Nat.reduceBEq, a1q, Nat.reduceLT, hl, h3, wocs, ↓goc, ↓woc, ↓a2q]
  refine hK11 _ _ ?_
  refine b3q ?_
  refine hQ _ _ _ (.inr rfl) (Done.toS (h1z (n := s.next) (len := l.length) (cs := (c2q l).map TI) (el := 3) ?_ (by simp [Sg.add, r8x]) ?_ (Nat.le_refl _) ((Keep.refl s).add (Nat.le_refl _) _)))
  try simp only [a0q, lpv, hl, Nat.reduceLT]
  simp [c2q, e6q]
set_option maxRecDepth 20000 in
theorem c6j (s : Sg) (ls : List ByteArray) (hls : ls.length ≤ 1000) (p n : Nat) (M : Mx) (o : Nat) (r : Nat → Nat) (h : RefR s p n M o r) : k4q Tryd.prog 92 [.t (b7q ls), .ptr p 0] s (vObj ⟨ls, f6q n (cloK M n)⟩) (s) := by
 refine d3q Tryd.func92 rfl fun Q hQ => ?_
 obtain ⟨e, he, hl, h0, h1⟩ : ∃ e : Env, ([.t (b7q ls), .ptr p 0] ++ List.replicate (Tryd.f92.ntmps - ([.t (b7q ls), .ptr p 0] : List V).length) .junk) = e ∧ e.length = 11 ∧ ev e (.tmp 0) = .t (b7q ls) ∧ ev e (.tmp 1) = .ptr p 0 := ⟨_, rfl, rfl, rfl, rfl⟩
 rw [he]
 clear he
 refine vsk fun K1 hK1 => ?_
 refine a3q 0 [] ?_
 simp only [bs, ↓vopx, ↓vop, a1q, wocs, ↓goc, ↓woc, ↓a2q, Tryd.zv25]
 refine hK1 _ _ ?_
 refine vsk fun K2 hK2 => ?_
 have hsk : Keep s (s.add (.box 25 [.t (.v (.slice none 0 0)), .t (.v (.slice none 0 0))])) := (Keep.refl s).add (Nat.le_refl _) _
 have hR0 := h.keep hsk (by simp [Sg.add])
 refine a3q 1 [.stop, .stop] ?_
 simp only [bs, dstT, srcT, d8q, ↓vopx, ↓vop, Nat.reduceBEq, a1q, flat, Nat.reduceLT, V.cells, hl, h0, h1, wocs, ↓goc, ↓woc, ↓e7q, ↓c4q, a6q, ↓m7q, Tryd.sl22, Nat.div_one]
 refine ⟨by omega, by omega, Tryd.is115, (l5z _ p n M o r hR0).mono fun v s2 hv => ?_⟩
 obtain ⟨c, o1, r1, rfl, hR, hF, hk, hnx⟩ := hv
 try simp only [bs, Nat.reduceBEq, Nat.reduceLT, hl, h0, h1, Tryd.st25, Tryd.sz25, Hold]
 refine ⟨Tryd.is116, (s9x s2 c n _ o1 r1 hR).v ?_⟩
 have hb2 := hk _ _ (by simp [Sg.add]) (t9q s (.box 25 [.t (.v (.slice none 0 0)), .t (.v (.slice none 0 0))]))
 try simp only [bs, Nat.reduceLeDiff, Nat.reduceAdd, g2q, Sg.frzL, Sg.frz1]
 simp only [hb2, q3z, List.length_cons, List.length_nil, Nat.le_refl, true_and, Nat.reduceAdd, Nat.zero_add]
 refine hK2 _ _ ?_
 refine b3q ?_
 refine hQ _ _ _ (.inr rfl) (Done.toS ?_)
 refine s7q (vs := [vObj ⟨ls, f6q n (cloK M n)⟩]) ?_ rfl (by simp [pack, nm, nm2, nm1, nm0]) ((hsk.trans (by simp [Sg.add]) hk).set (Nat.le_refl _) _)
 show vres Tryd.prog _ _ [.cell 4 25] = _
 simp only [g7q, h9q, a0q, a4q, Nat.reduceBEq, hl, Tryd.sz25, Tryd.ag25, a7q, b6q, a8q, if_true, Nat.reduceLT, List.drop_zero, List.take_succ_cons, List.take_zero, List.length_cons, List.length_nil, Nat.zero_add, Nat.reduceAdd]
end Go.Proofs

open Go Go.V
namespace Go.Proofs
theorem b4q {a b : Ob} {f : List Int} : arrS a b f = true ↔ IsOb a ∧ IsOb b ∧ allY (o6q b) f a.labels = true ∧ ∀ p ∈ a.pairs, mxOf b.pairs (fAt f p.1) (fAt f p.2) = true := by
 unfold arrS
 simp only [Bool.and_eq_true, beq_iff_eq, l3q, List.all_eq_true]
theorem t9z {a b : ByteArray} : seqB a b = true ↔ a.toList = b.toList := by unfold seqB; exact beq_iff_eq
theorem j6q {b : Ob} {y : Int} {la : ByteArray} : o6q b y la = true ↔ ∃ lb, (0 ≤ y ∧ y < b.labels.length) ∧ b.labels[y.toNat]? = some lb ∧ la.toList = lb.toList := by
 unfold o6q
 constructor
 ·intro h
  simp only [Bool.and_eq_true, decide_eq_true_eq] at h
  obtain ⟨h1, h2⟩ := h
  cases hb : b.labels[y.toNat]? with
  | none => rw [hb] at h2; cases h2
  | some lb => rw [hb] at h2; exact ⟨lb, h1, rfl, t9z.1 h2⟩
 ·rintro ⟨lb, h1, h2, h3⟩
  rw [h2]
  simp only [Bool.and_eq_true, decide_eq_true_eq]
  exact ⟨h1, t9z.2 h3⟩
theorem q8x {a b : Ob} {f : List Int} (h : allY (o6q b) f a.labels = true) {i : Nat} {y : Int} (hy : f[i]? = some y) : 0 ≤ y ∧ y < b.labels.length := by
 have hl := c1q h
 have hi : i < a.labels.length := by rw [← hl]; exact (List.getElem?_eq_some_iff.1 hy).1
 obtain ⟨lb, h1, _⟩ := j6q.1 (k5q h hy (List.getElem?_eq_getElem hi))
 exact h1
theorem f8q {a b : Ob} {f : List Int} (h : allY (o6q b) f a.labels = true) : ∀ y ∈ f, 0 ≤ y ∧ y < b.labels.length := fun y hy => by
 obtain ⟨i, hi⟩ := List.getElem?_of_mem hy
 exact q8x h hi
theorem h0q {f g : List Int} (h : ∀ y ∈ f, 0 ≤ y ∧ y < g.length) : thenS f g = (f.map fun y => g.getD y.toNat 0, true) := by
 unfold thenS
 rw [if_pos]
 simp only [List.all_eq_true, Bool.and_eq_true, decide_eq_true_eq]
 exact h
theorem o5q {a b : Ob} {f : List Int} (h : arrS a b f = true) {x y : Nat} (hm : mxOf a.pairs x y = true) : ∃ u v : Nat, f[x]? = some (u : Int) ∧ f[y]? = some (v : Int) ∧ mxOf b.pairs u v = true := by
 obtain ⟨ha, hb, hmap, hp⟩ := b4q.1 h
 have hl := c1q hmap
 simp only [mxOf, List.any_eq_true, Bool.and_eq_true, beq_iff_eq] at hm
 obtain ⟨p, hpm, rfl, rfl⟩ := hm
 have hin := (List.all_eq_true.1 ha.inb) p hpm
 simp only [inB, Bool.and_eq_true, decide_eq_true_eq] at hin
 obtain ⟨u, hu⟩ : ∃ u, f[p.1.toNat]? = some u := ⟨_, List.getElem?_eq_getElem (by omega)⟩
 obtain ⟨v, hv⟩ : ∃ v, f[p.2.toNat]? = some v := ⟨_, List.getElem?_eq_getElem (by omega)⟩
 have hu0 := q8x hmap hu
 have hv0 := q8x hmap hv
 have := hp p hpm
 simp only [fAt, hu, hv, Option.getD_some] at this
 exact ⟨u.toNat, v.toNat, by rw [hu]; congr 1; omega, by rw [hv]; congr 1; omega, this⟩
theorem z1q {a b : Ob} {f : List Int} (ha : IsOb a) (hb : IsOb b) (hl : f.length = a.labels.length) (hlab : ∀ (i : Nat) (y : Int) (la : ByteArray), f[i]? = some y → a.labels[i]? = some la → ∃ lb, (0 ≤ y ∧ y < b.labels.length) ∧ b.labels[y.toNat]? = some lb ∧ la.toList = lb.toList)
 (hp : ∀ (x y : Nat), mxOf a.pairs x y = true → ∃ u v : Nat, f[x]? = some (u : Int) ∧ f[y]? = some (v : Int) ∧ mxOf b.pairs u v = true) : arrS a b f = true := by
 refine b4q.2 ⟨ha, hb, z9q hl fun i y la h1 h2 => j6q.2 (hlab i y la h1 h2), fun p hpm => ?_⟩
 obtain ⟨u, v, h1, h2, h3⟩ := hp p.1.toNat p.2.toNat (by simp only [mxOf, List.any_eq_true, Bool.and_eq_true, beq_iff_eq]; exact ⟨p, hpm, rfl, rfl⟩)
 simp [fAt, h1, h2, h3]
theorem i8z {a b c : Ob} {f g : List Int} (h : arrS a b f = true) (k : arrS b c g = true) : arrS a c (f.map fun y => g.getD y.toNat 0) = true := by
 obtain ⟨ha, hb, hmap, _⟩ := b4q.1 h
 obtain ⟨_, hc, hmap2, _⟩ := b4q.1 k
 refine z1q ha hc (by rw [List.length_map]; exact c1q hmap) (fun i z la hz hla => ?_) fun x y hm => ?_
 ·rw [List.getElem?_map] at hz
  cases hy : f[i]? with
  | none => rw [hy] at hz; cases hz
  | some y =>
   rw [hy] at hz
   simp only [Option.map_some, Option.some.injEq] at hz
   obtain ⟨lb, h1, h2, h3⟩ := j6q.1 (k5q hmap hy hla)
   have hgl : y.toNat < g.length := by rw [c1q hmap2]; omega
   rw [List.getD_eq_getElem?_getD, List.getElem?_eq_getElem hgl, Option.getD_some] at hz
   obtain ⟨lc, k1, k2, k3⟩ := j6q.1 (k5q hmap2 (List.getElem?_eq_getElem hgl) h2)
   rw [hz] at k1 k2
   exact ⟨lc, k1, k2, h3.trans k3⟩
 ·obtain ⟨u, v, h1, h2, h3⟩ := o5q h hm
  obtain ⟨u', v', k1, k2, k3⟩ := o5q k h3
  refine ⟨u', v', ?_, ?_, k3⟩
  ·rw [List.getElem?_map, h1]; simp [List.getD_eq_getElem?_getD, k1]
  ·rw [List.getElem?_map, h2]; simp [List.getD_eq_getElem?_getD, k2]
theorem p6x {n : Nat} (h : n ≤ 40) : idS (n : Int) = (List.range n).map fun (j : Nat) => (j : Int) := by
 have : idN (n : Int) = n := by unfold idN; omega
 unfold idS; rw [this]
theorem k1z {n i : Nat} (h : n ≤ 40) (hi : i < n) : (idS (n : Int))[i]? = some (i : Int) := by
 rw [p6x h, List.getElem?_map, List.getElem?_range hi]; rfl
theorem b9x {n : Nat} (h : n ≤ 40) : (idS (n : Int)).length = n := by rw [p6x h]; simp
theorem p7x {a : Ob} (h : IsOb a) : arrS a a (idS (a.labels.length : Int)) = true := by
 have hl := h.le
 refine z1q h h (b9x hl) (fun i y la hy hla => ?_) fun x y hm => ?_
 ·have hi := (List.getElem?_eq_some_iff.1 hla).1
  rw [k1z hl hi] at hy
  cases hy
  exact ⟨la, by omega, by simpa using hla, rfl⟩
 ·have hw := q0q (fun p hp => (List.all_eq_true.1 h.inb) p hp) x y hm
  exact ⟨x, y, k1z hl hw.1, k1z hl hw.2, hm⟩
end Go.Proofs

open Go Go.V
namespace Go.Proofs
def shP (n : Nat) (p : Int × Int) : Int × Int := (p.1 + n, p.2 + n)
def d4q (b c : Ob) : Ob := ⟨b.labels ++ c.labels, b.pairs ++ c.pairs.map (shP b.labels.length)⟩
theorem e3z {l : List (Int × Int)} : i8q l = true ↔ ∀ (i : Nat) (p q : Int × Int), l[i]? = some p → l[i + 1]? = some q → pltB p q = true := by
 constructor
 ·intro h i p q h1 h2
  cases hp : pltB p q with
  | true => rfl
  | false => rw [t4q h1 h2 hp] at h; cases h
 ·exact v0q
theorem j1q {n : Nat} {p : Int × Int} : inB n p = true ↔ (0 ≤ p.1 ∧ p.1 < n) ∧ (0 ≤ p.2 ∧ p.2 < n) := by
 simp only [inB, Bool.and_eq_true, decide_eq_true_eq]
theorem l2q {l : List (Int × Int)} {x y : Nat} : mxOf l x y = true ↔ ∃ p ∈ l, p.1.toNat = x ∧ p.2.toNat = y := by
 simp only [mxOf, List.any_eq_true, Bool.and_eq_true, beq_iff_eq]
theorem r1x {n : Nat} {l : List (Int × Int)} (h : ∀ p ∈ l, 0 ≤ p.1 ∧ 0 ≤ p.2) {x y : Nat} : mxOf (l.map (shP n)) x y = true ↔ ∃ u v : Nat, x = u + n ∧ y = v + n ∧ mxOf l u v = true := by
 rw [l2q]
 constructor
 ·rintro ⟨q, hq, h1, h2⟩
  obtain ⟨p, hp, rfl⟩ := List.mem_map.1 hq
  have := h p hp
  simp only [shP] at h1 h2
  exact ⟨p.1.toNat, p.2.toNat, by omega, by omega, l2q.2 ⟨p, hp, rfl, rfl⟩⟩
 ·rintro ⟨u, v, rfl, rfl, hm⟩
  obtain ⟨p, hp, h1, h2⟩ := l2q.1 hm
  have := h p hp
  exact ⟨shP n p, List.mem_map.2 ⟨p, hp, rfl⟩, by simp only [shP]; omega, by simp only [shP]; omega⟩
theorem f3x {l m : List (Int × Int)} {x y : Nat} : mxOf (l ++ m) x y = true ↔ mxOf l x y = true ∨ mxOf m x y = true := by
 rw [k6z]; simp
theorem IsOb.within {o : Ob} (h : IsOb o) : v7q o.labels.length (mxOf o.pairs) := q0q fun p hp => (List.all_eq_true.1 h.inb) p hp
theorem IsOb.trans {o : Ob} (h : IsOb o) : l3x (mxOf o.pairs) := (c3z h.within).1 h.tran
theorem IsOb.nonneg {o : Ob} (h : IsOb o) : ∀ p ∈ o.pairs, 0 ≤ p.1 ∧ 0 ≤ p.2 := fun p hp => by
 have := j1q.1 ((List.all_eq_true.1 h.inb) p hp); omega
theorem j5z {b c : Ob} (hc : IsOb c) {x y : Nat} : mxOf (d4q b c).pairs x y = true ↔ mxOf b.pairs x y = true ∨ ∃ u v : Nat, x = u + b.labels.length ∧ y = v + b.labels.length ∧ mxOf c.pairs u v = true := by
 unfold d4q
 rw [f3x, r1x hc.nonneg]
theorem s0q {b c : Ob} (hb : IsOb b) (hc : IsOb c) (hl : b.labels.length + c.labels.length ≤ 40) : IsOb (d4q b c) := by
 have hin : (d4q b c).pairs.all (inB (d4q b c).labels.length) = true := by
  rw [List.all_eq_true]
  intro p hp
  simp only [d4q, List.mem_append, List.mem_map] at hp
  rw [j1q]
  simp only [d4q, List.length_append]
  rcases hp with hp | ⟨q, hq, rfl⟩
  ·have := j1q.1 ((List.all_eq_true.1 hb.inb) p hp); push_cast; omega
  ·have := j1q.1 ((List.all_eq_true.1 hc.inb) q hq); simp only [shP]; push_cast; omega
 refine ⟨by simpa [d4q] using hl, ?_, hin, e3z.2 fun i p q h1 h2 => ?_, (c3z (q0q fun p hp => (List.all_eq_true.1 hin) p hp)).2 fun x k y h1 h2 => ?_⟩
 ·simp only [d4q, List.all_append, hb.sz, hc.sz, Bool.and_self]
 ·simp only [d4q] at h1 h2
  by_cases hi : i + 1 < b.pairs.length
  ·rw [List.getElem?_append_left (by omega)] at h1 h2
   exact e3z.1 hb.ris i p q h1 h2
  ·by_cases hi2 : i < b.pairs.length
   ·rw [List.getElem?_append_left (by omega)] at h1
    rw [List.getElem?_append_right (by omega), List.getElem?_map] at h2
    obtain ⟨z, hz, rfl⟩ := Option.map_eq_some_iff.1 h2
    have k1 := j1q.1 ((List.all_eq_true.1 hb.inb) p (List.mem_of_getElem? h1))
    have k2 := j1q.1 ((List.all_eq_true.1 hc.inb) z (List.mem_of_getElem? hz))
    simp only [pltB, shP, Bool.or_eq_true]
    exact .inl (decide_eq_true (show p.1 < z.1 + (b.labels.length : Int) by omega))
   ·rw [List.getElem?_append_right (by omega), List.getElem?_map] at h1 h2
    obtain ⟨z, hz, rfl⟩ := Option.map_eq_some_iff.1 h1
    obtain ⟨z', hz', rfl⟩ := Option.map_eq_some_iff.1 h2
    have := e3z.1 hc.ris (i - b.pairs.length) z z' hz (by rw [show i - b.pairs.length + 1 = i + 1 - b.pairs.length by omega]; exact hz')
    simp only [pltB, shP, Bool.or_eq_true, Bool.and_eq_true, decide_eq_true_eq] at this ⊢
    rcases this with h | ⟨h, h'⟩
    ·exact .inl (decide_eq_true (show z.1 + (b.labels.length : Int) < z'.1 + (b.labels.length : Int) by omega))
    ·exact .inr ⟨decide_eq_true (show z.1 + (b.labels.length : Int) = z'.1 + (b.labels.length : Int) by omega), decide_eq_true (show z.2 + (b.labels.length : Int) < z'.2 + (b.labels.length : Int) by omega)⟩
 ·rw [j5z hc] at h1 h2 ⊢
  rcases h1 with h1 | ⟨u, v, rfl, rfl, h1⟩
  ·rcases h2 with h2 | ⟨u', v', rfl, rfl, h2⟩
   ·exact .inl (hb.trans _ _ _ h1 h2)
   ·have := hb.within _ _ h1; omega
  ·rcases h2 with h2 | ⟨u', v', h3, rfl, h2⟩
   ·have := hb.within _ _ h2; omega
   ·obtain rfl : v = u' := by omega
    exact .inr ⟨u, v', rfl, rfl, hc.trans _ _ _ h1 h2⟩
theorem x4x {a b c : Ob} {f : List Int} (h : arrS a b f = true) (hc : IsOb c) (hl : b.labels.length + c.labels.length ≤ 40) : arrS a (d4q b c) f = true := by
 obtain ⟨ha, hb, hmap, _⟩ := b4q.1 h
 refine z1q ha (s0q hb hc hl) (c1q hmap) (fun i y la h1 h2 => ?_) fun x y hm => ?_
 ·obtain ⟨lb, k1, k2, k3⟩ := j6q.1 (k5q hmap h1 h2)
  refine ⟨lb, ?_, ?_, k3⟩
  ·simp only [d4q, List.length_append]; push_cast; omega
  ·simp only [d4q]; rw [List.getElem?_append_left (by omega)]; exact k2
 ·obtain ⟨u, v, k1, k2, k3⟩ := o5q h hm
  exact ⟨u, v, k1, k2, (j5z hc).2 (.inl k3)⟩
theorem l9x {a b c : Ob} {g : List Int} (hb : IsOb b) (h : arrS a c g = true) (hl : b.labels.length + c.labels.length ≤ 40) : arrS a (d4q b c) (g.map (· + (b.labels.length : Int))) = true := by
 obtain ⟨ha, hc, hmap, _⟩ := b4q.1 h
 refine z1q ha (s0q hb hc hl) (by rw [List.length_map]; exact c1q hmap) (fun i y la h1 h2 => ?_) fun x y hm => ?_
 ·rw [List.getElem?_map] at h1
  obtain ⟨z, hz, rfl⟩ := Option.map_eq_some_iff.1 h1
  obtain ⟨lb, k1, k2, k3⟩ := j6q.1 (k5q hmap hz h2)
  refine ⟨lb, ?_, ?_, k3⟩
  ·simp only [d4q, List.length_append]; push_cast; omega
  ·simp only [d4q]
   rw [List.getElem?_append_right (by omega), ← k2]
   congr 1; omega
 ·obtain ⟨u, v, k1, k2, k3⟩ := o5q h hm
  refine ⟨u + b.labels.length, v + b.labels.length, ?_, ?_, (j5z hc).2 (.inr ⟨u, v, rfl, rfl, k3⟩)⟩
  ·rw [List.getElem?_map, k1]; simp
  ·rw [List.getElem?_map, k2]; simp
def fstL (l : List Int) : Nat → List Nat
 | 0 => []
 | i + 1 => if l.getD i 0 = (fstL l i).length then fstL l i ++ [i] else fstL l i
def PlOK (l : List Int) : Prop := ∀ (i : Nat) (z : Int), l[i]? = some z → 0 ≤ z ∧ z ≤ (fstL l i).length
def atN (l : List Int) (z : Int) : Nat := (l.getD z.toNat 0).toNat
def glMx (o : Ob) (l : List Int) : Mx := fun x y => o.pairs.any fun p => atN l p.1 == x && atN l p.2 == y
def glN (l : List Int) : Nat := (fstL l l.length).length
def i0q (o : Ob) (l : List Int) (i : Nat) : List ByteArray := (fstL l i).map fun i => o.labels.getD i ByteArray.empty
def h3q (o : Ob) (l : List Int) : Ob := ⟨i0q o l l.length, f6q (glN l) (cloK (glMx o l) (glN l))⟩
theorem j8z (l : List Int) : ∀ i, (fstL l i).length ≤ i
 | 0 => Nat.le_refl _
 | i + 1 => by have := j8z l i; unfold fstL; split <;> simp <;> omega
theorem a0j (l : List Int) (i : Nat) : (fstL l i).length ≤ (fstL l (i + 1)).length := by
 show _ ≤ (if l.getD i 0 = (fstL l i).length then fstL l i ++ [i] else fstL l i).length
 split <;> simp
theorem b4x (l : List Int) {i j : Nat} (h : i ≤ j) : (fstL l i).length ≤ (fstL l j).length := by
 induction h with
 | refl => exact Nat.le_refl _
 | step _ ih => exact Nat.le_trans ih (a0j l _)
theorem PlOK.lt {l : List Int} (h : PlOK l) {i : Nat} {z : Int} (hz : l[i]? = some z) : 0 ≤ z ∧ z < glN l := by
 have h1 := h i z hz
 have hi := (List.getElem?_eq_some_iff.1 hz).1
 have h2 : z < ((fstL l (i + 1)).length : Nat) := by
  show z < (((if l.getD i 0 = (fstL l i).length then fstL l i ++ [i] else fstL l i).length : Nat) : Int)
  have hg : l.getD i 0 = z := by rw [List.getD_eq_getElem?_getD, hz]; rfl
  rw [hg]
  split
  ·simp; omega
  ·omega
 have h3 := b4x l (show i + 1 ≤ l.length from hi)
 unfold glN
 omega
theorem j9z (l : List Int) : ∀ i j, j ∈ fstL l i → j < i
 | 0, j, h => by simp [fstL] at h
 | i + 1, j, h => by
  unfold fstL at h
  split at h
  ·simp only [List.mem_append, List.mem_singleton] at h
   rcases h with h | rfl
   ·have := j9z l i j h; omega
   ·omega
  ·have := j9z l i j h; omega
theorem b2z (l : List Int) : ∀ i j, i ≤ j → (plS l j).1.take i = (plS l i).1
 | i, 0, h => by obtain rfl : i = 0 := by omega
                 simp [plS]
 | i, j + 1, h => by
  by_cases hij : i = j + 1
  ·subst hij; exact List.take_of_length_le (by rw [e6q]; omega)
  ·have ih := b2z l i j (by omega)
   have e : (plS l (j + 1)).1 = (plS l j).1 ++ [if l.getD j 0 = j then ((plS l j).2 : Int) else (plS l j).1.getD (l.getD j 0).toNat 0] := by
    show (if l.getD j 0 = j then _ else _ : List Int × Nat).1 = _
    split <;> rfl
   rw [e, List.take_append_of_le_length (by rw [e6q]; omega)]; exact ih
theorem d0x {l : List Int} (hwf : wfU l) : ∀ i, i ≤ l.length → (fstL (c2q l) i).length = (plS l i).2 ∧ ∀ (j : Nat) (z : Int), j < i → (c2q l)[j]? = some z → 0 ≤ z ∧ z ≤ (fstL (c2q l) j).length ∧ z < (plS l i).2
 | 0, _ => ⟨rfl, fun j z h => by omega⟩
 | i + 1, hi => by
  obtain ⟨h1, h2⟩ := d0x hwf i (by omega)
  have hlen : (c2q l).length = l.length := e6q l _
  obtain ⟨z, hz⟩ : ∃ z, (c2q l)[i]? = some z := ⟨_, List.getElem?_eq_getElem (by omega)⟩
  have hg : (c2q l).getD i 0 = z := by rw [List.getD_eq_getElem?_getD, hz]; rfl
  have hz2 : (plS l (i + 1)).1[i]? = some z := by
   rw [← b2z l (i + 1) l.length hi, List.getElem?_take, if_pos (by omega)]; exact hz
  have hfe : (fstL (c2q l) (i + 1)).length = if z = (fstL (c2q l) i).length then (fstL (c2q l) i).length + 1 else (fstL (c2q l) i).length := by
   show (if (c2q l).getD i 0 = (fstL (c2q l) i).length then fstL (c2q l) i ++ [i] else fstL (c2q l) i).length = _
   rw [hg]; split <;> simp
  by_cases hr : l.getD i 0 = i
  ·have e2 : (plS l (i + 1)).2 = (plS l i).2 + 1 := w7q hr
   have e1 : (plS l (i + 1)).1 = (plS l i).1 ++ [((plS l i).2 : Int)] := by
    show (if l.getD i 0 = i then _ else _ : List Int × Nat).1 = _
    rw [if_pos hr]
   rw [e1, List.getElem?_append_right (by rw [e6q]; omega), e6q] at hz2
   simp at hz2
   subst hz2
   refine ⟨by rw [hfe, h1, if_pos rfl, e2], fun j z hj hzj => ?_⟩
   by_cases hji : j = i
   ·subst hji; rw [hz] at hzj; cases hzj; rw [h1, e2]; omega
   ·have := h2 j z (by omega) hzj; rw [e2]; omega
  ·have e2 : (plS l (i + 1)).2 = (plS l i).2 := t2q hr
   have e1 : (plS l (i + 1)).1 = (plS l i).1 ++ [(plS l i).1.getD (l.getD i 0).toNat 0] := by
    show (if l.getD i 0 = i then _ else _ : List Int × Nat).1 = _
    rw [if_neg hr]
   rw [e1, List.getElem?_append_right (by rw [e6q]; omega), e6q] at hz2
   simp only [Nat.sub_self, List.getElem?_cons_zero, Option.some.injEq] at hz2
   obtain ⟨y, hy⟩ : ∃ y, l[i]? = some y := ⟨_, List.getElem?_eq_getElem (by omega)⟩
   have hgy : l.getD i 0 = y := by rw [List.getD_eq_getElem?_getD, hy]; rfl
   have hyw := hwf i y hy
   rw [hgy] at hz2 hr
   have hk : y.toNat < i := by omega
   have hz3 : (c2q l)[y.toNat]? = some z := by
    have : (plS l i).1[y.toNat]? = some z := by
     rw [← hz2, List.getD_eq_getElem?_getD, List.getElem?_eq_getElem (by rw [e6q]; omega)]; rfl
    rw [← b2z l i l.length (by omega), List.getElem?_take, if_pos hk] at this
    exact this
   have hb := h2 y.toNat z hk hz3
   refine ⟨by rw [hfe, if_neg (by omega), h1, e2], fun j z' hj hzj => ?_⟩
   by_cases hji : j = i
   ·subst hji; rw [hz] at hzj; cases hzj; rw [e2]; omega
   ·have := h2 j z' (by omega) hzj; rw [e2]; exact this
theorem t3q {l : List Int} (hwf : wfU l) : PlOK (c2q l) := fun i z hz => by
 have hi : i < l.length := by have := (List.getElem?_eq_some_iff.1 hz).1; rwa [show (c2q l).length = l.length from e6q l _] at this
 have := (d0x hwf l.length (Nat.le_refl _)).2 i z hi hz
 omega
end Go.Proofs
