/- Lemmas on the way to the statement of this claim; no conditions. -/
import Derived.Deep.Strs
import Derived.Test.YtkdkajlgbhggdaaGreatDoorA39
import Derived.Test.YtkdkajlgbhggdaaGreatDoorA42
open Go Go.V
namespace Go.Proofs
section
variable {H : Type} {enc : TypeId × Value → H} {P : Program} {w : World} {base : Nat} {spare : Nat → Bool} {held : Bool}
def OkMat (l : List (List Int)) : Prop := (∀ x ∈ l, x.length ≤ maxLen) ∧ l.length ≤ maxLen
theorem rep_mat {t e i : TypeId} (ht : P.underlying t = some (.slice e)) (he : P.underlying e = some (.slice i)) (hi : P.underlying i = some (.int .i64)) (hce : P.cellsOf e = 1) (hci : P.cellsOf i = 1) {fuel : Nat} {cs : List Value} {y : DataW H × List MemPlace}
 (h : DataW.trod enc P w base spare held fuel t cs = some y) : ∃ v l, cs = [v] ∧ RepT w (fun _ => True) (tMat l) v ∧ OkMat l := by
 obtain ⟨v, l, h1, h2, h3, h4⟩ := r7q (fun n : List Int => [c0q n]) (fun n => n.length ≤ maxLen) Nat.one_pos (fun _ => rfl) ht hce (fun m cs y hl hy => by
  obtain ⟨v, l, e1, r1, _, b1⟩ := e6x he hi hci hy
  exact ⟨l, b1, by rw [e1]; exact ⟨r1, trivial⟩⟩) h
 refine ⟨v, l, h1, ?_, h3, h4⟩
 have : l.flatMap (fun n : List Int => [c0q n]) = l.map c0q := p7q c0q l
 rw [this] at h2; exact h2
structure DiTys (P : Program) (t ls rs o a ms i : TypeId) : Prop where
 di : ∃ f0 f1, P.underlying t = some (.struct #[f0, f1]) ∧ (f0.offset = 0 ∧ f0.type = ls) ∧ (f1.offset = 1 ∧ f1.type = rs)
 c2 : P.cellsOf t = 2
 cls : P.cellsOf ls = 1
 cas : P.cellsOf rs = 1
 ul : P.underlying ls = some (.slice o)
 ur : P.underlying rs = some (.slice a)
 ar : ∃ f0 f1 f2, P.underlying a = some (.struct #[f0, f1, f2]) ∧ (f0.offset = 0 ∧ f0.type = i) ∧ (f1.offset = 1 ∧ f1.type = i) ∧ (f2.offset = 2 ∧ f2.type = ms)
 ca : P.cellsOf a = 3
 um : P.underlying ms = some (.slice i)
 cms : P.cellsOf ms = 1
 it : P.underlying i = some (.int .i64)
 ci : P.cellsOf i = 1
def OkDi (d : Dia) : Prop := (∀ o ∈ d.nodes, OkOb o) ∧ d.nodes.length ≤ maxLen ∧ (∀ x ∈ d.arrs, x.mp.length ≤ maxLen) ∧ d.arrs.length ≤ maxLen
open Go.ChangeShapes in
theorem rep_ars {t a ms i : TypeId} {f0 f1 f2 : Field} (ht : P.underlying t = some (.slice a)) (ha : P.underlying a = some (.struct #[f0, f1, f2])) (hc : P.cellsOf a = 3)
 (h0 : f0.offset = 0 ∧ f0.type = i) (h1 : f1.offset = 1 ∧ f1.type = i) (h2 : f2.offset = 2 ∧ f2.type = ms) (hms : P.underlying ms = some (.slice i)) (hcm : P.cellsOf ms = 1) (hi : P.underlying i = some (.int .i64)) (hci : P.cellsOf i = 1) {fuel : Nat} {cs : List Value} {y : DataW H × List MemPlace}
 (h : DataW.trod enc P w base spare held fuel t cs = some y) : ∃ v l, cs = [v] ∧ RepT w (fun _ => True) (tArs l) v ∧ (∀ x ∈ l, x.mp.length ≤ maxLen) ∧ l.length ≤ maxLen := by
 refine r7q g9z (fun p => p.mp.length ≤ maxLen) (by decide) (fun _ => rfl) ht hc (fun m cs y hl hy => ?_) h
 obtain ⟨y0, y1, y2, n, _, _, g0, g1, g2⟩ := Go.Deep.trod_struct3 ha hy
 rw [h0.1, h0.2, hci, List.drop_zero] at g0
 rw [h1.1, h1.2, hci] at g1
 rw [h2.1, h2.2, hcm] at g2
 obtain ⟨a, ha, e0⟩ := k0z hi g0
 obtain ⟨b, hb, e1⟩ := k0z hi g1
 obtain ⟨v, l, e2, r2, _, b2⟩ := e6x hms hi hci g2
 rw [c0j hl (n8q (i := 0) (by rw [List.drop_zero]; exact e0)) (n8q e1) (n8q e2)]
 exact ⟨⟨a, b, l⟩, b2, z9q a, z9q b, r2, trivial⟩
open Go.ChangeShapes in
theorem rep_dia {t ls rs o a ms i oL oP s p : TypeId} (K : DiTys P t ls rs o a ms i) (KO : ObTys P o oL oP s p i) {fuel : Nat} {cs : List Value} {y : DataW H × List MemPlace}
 (h : DataW.trod enc P w base spare held fuel t cs = some y) : ∃ d : Dia, OkDi d ∧ All2 (RepT w fun _ => True) [h1q d.nodes, tArs d.arrs] cs := by
 obtain ⟨f0, f1, hu, hf0, hf1⟩ := K.di
 obtain ⟨p0, p1, p2, hp, hp0, hp1, hp2⟩ := K.ar
 obtain ⟨y0, y1, n, _, hl, g0, g1⟩ := trod_struct2 hu h
 rw [K.c2] at hl
 rw [hf0.1, hf0.2, K.cls, List.drop_zero] at g0
 rw [hf1.1, hf1.2, K.cas] at g1
 obtain ⟨v0, l0, e0, r0, q0, b0⟩ := r7q w2z OkOb (by decide) (fun _ => rfl) K.ul KO.c2 (fun m cs y hl hy => d9j KO hy) g0
 obtain ⟨v1, l1, e1, r1, q1, b1⟩ := rep_ars K.ur hp K.ca hp0 hp1 hp2 K.um K.cms K.it K.ci g1
 rw [t9x hl (n8q (i := 0) (by rw [List.drop_zero]; exact e0)) (n8q e1)]
 exact ⟨⟨l0, l1⟩, ⟨q0, b0, q1, b1⟩, r0, r1, trivial⟩
end
theorem vr_dia {P : Program} {w : World} {d : Dia} {v : Value} (h : All2 (RepT w fun _ => True) [h1q d.nodes, tArs d.arrs] v.cells.toList) : VR P w S0 R0 (vDia d) v := by
 match hv : v.cells.toList, h with
 | [x, y], ⟨h0, h1, _⟩ =>
  rw [t9z hv]
  exact ⟨[x, y], rfl, rep0 h0, rep0 h1, trivial⟩
end Go.Proofs
