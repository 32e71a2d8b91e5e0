/- Lemmas on the way to the statement of this claim; no conditions. -/
import Derived.Test.YtkdkajlgbhggdaaDoorO34
import Derived.Test.YtkdkajlgbhggdaaDoorO38
import Derived.Test.YtkdkajlgbhggdaaDoorO40
import Derived.Test.YtkdkajlgbhggdaaDoorO50
open Go Go.V
namespace Go.Proofs
theorem c0x {α β : Type} (φ : α → β) : ∀ (L : List α) (M : List β), L.Pairwise (· ≠ ·) → (∀ a ∈ L, φ a ∈ M) → (∀ a ∈ L, ∀ b ∈ L, φ a = φ b → a = b) → L.length ≤ M.length
 | [], _, _, _, _ => Nat.zero_le _
 | a :: L, M, hp, hm, hi => by
  obtain ⟨M1, M2, rfl⟩ := List.append_of_mem (hm a (List.mem_cons_self ..))
  have h1 := List.pairwise_cons.1 hp
  have ih := c0x φ L (M1 ++ M2) h1.2 (fun b hb => by
   have hbm := hm b (List.mem_cons_of_mem _ hb)
   rcases List.mem_append.1 hbm with h | h
   ·exact List.mem_append_left _ h
   ·rcases List.mem_cons.1 h with h | h
    ·exact absurd (hi b (List.mem_cons_of_mem _ hb) a (List.mem_cons_self ..) h).symm (h1.1 b hb)
    ·exact List.mem_append_right _ h) (fun b hb c hc => hi b (List.mem_cons_of_mem _ hb) c (List.mem_cons_of_mem _ hc))
  simp only [List.length_cons, List.length_append] at ih ⊢
  omega
theorem arr_len {a b : Ob} {u w : List Int} (hu : arrS a b u = true) (hw : ∀ v : Nat, v < a.labels.length → ∃ z : Int, u[v]? = some z ∧ w[z.toNat]? = some (v : Int)) : a.labels.length ≤ b.labels.length ∧ a.pairs.length ≤ b.pairs.length := by
 have mu := (b4q.1 hu).2.2.1
 have ha := (b4q.1 hu).1
 have lu := c1q mu
 have inj : ∀ v v' : Nat, v < a.labels.length → v' < a.labels.length → u.getD v 0 = u.getD v' 0 → v = v' := fun v v' h1 h2 he => by
  obtain ⟨z, z1, z2⟩ := hw v h1
  obtain ⟨z', z1', z2'⟩ := hw v' h2
  rw [f0q z1, f0q z1'] at he
  subst he
  rw [z2] at z2'
  have := Option.some.inj z2'
  omega
 constructor
 ·have := c0x (fun v => u.getD v 0) (List.range a.labels.length) ((List.range b.labels.length).map fun (i : Nat) => (i : Int)) (List.nodup_range.imp fun h => h) (fun v hv => by
   have hv' := List.mem_range.1 hv
   obtain ⟨z, z1, _⟩ := hw v hv'
   have := f8q mu z (List.mem_of_getElem? z1)
   simp only [f0q z1]
   exact List.mem_map.2 ⟨z.toNat, List.mem_range.2 (by omega), by omega⟩) (fun v hv v' hv' he => inj v v' (List.mem_range.1 hv) (List.mem_range.1 hv') he)
  simpa using this
 ·have hnd : a.pairs.Pairwise (· ≠ ·) := List.Pairwise.imp (fun {p q} h e => by subst e; exact y3q h) (b8z.1 ha.ris)
  refine c0x (fun p => (u.getD p.1.toNat 0, u.getD p.2.toNat 0)) a.pairs b.pairs hnd (fun p hp => ?_) (fun p hp q hq he => ?_)
  ·obtain ⟨s, t, k1, k2, k3⟩ := o5q hu (x := p.1.toNat) (y := p.2.toNat) (l2q.2 ⟨p, hp, rfl, rfl⟩)
   obtain ⟨r, hr, e1, e2⟩ := l2q.1 k3
   have hb := (b4q.1 hu).2.1.nonneg r hr
   simp only [f0q k1, f0q k2]
   have : r = ((s : Int), (t : Int)) := by ext <;> simp only <;> omega
   rw [← this]; exact hr
  ·have i1 := j1q.1 ((List.all_eq_true.1 ha.inb) p hp)
   have i2 := j1q.1 ((List.all_eq_true.1 ha.inb) q hq)
   have e1 := inj p.1.toNat q.1.toNat (by omega) (by omega) (congrArg Prod.fst he)
   have e2 := inj p.2.toNat q.2.toNat (by omega) (by omega) (congrArg Prod.snd he)
   ext <;> omega
theorem o0q {a b c : Ob} {f g : List Int} (h : arrS a b f = true) (k : arrS b c g = true) : thenS f g = ((thenS f g).1, true) ∧ arrS a c (thenS f g).1 = true := by
 have hg := c1q (b4q.1 k).2.2.1
 have := h0q (f := f) (g := g) (fun y hy => by have := f8q (b4q.1 h).2.2.1 y hy; omega)
 rw [this]
 exact ⟨rfl, i8z h k⟩
theorem j4q {a b c d : Ob} {f g h : List Int} (hf : arrS a b f = true) (hg : arrS b c g = true) (hh : arrS c d h = true) : (thenS f (thenS g h).1).1 = (thenS (thenS f g).1 h).1 := by
 have lg := c1q (b4q.1 hg).2.2.1
 have lh := c1q (b4q.1 hh).2.2.1
 exact k5x (fun z hz => by have := f8q (b4q.1 hf).2.2.1 z hz; omega) (fun z hz => by have := f8q (b4q.1 hg).2.2.1 z hz; omega)
theorem f1z {a b c : Ob} {f g : List Int} (hf : arrS a b f = true) (hg : arrS b c g = true) {x : Nat} {w : Int} (hx : f[x]? = some w) : (thenS f g).1[x]? = g[w.toNat]? := by
 have lg := c1q (b4q.1 hg).2.2.1
 have bw := f8q (b4q.1 hf).2.2.1 w (List.mem_of_getElem? hx)
 rw [h0q (fun y hy => by have := f8q (b4q.1 hf).2.2.1 y hy; omega), List.getElem?_map, hx, Option.map_some, List.getD_eq_getElem?_getD, List.getElem?_eq_getElem (show w.toNat < g.length by omega)]; rfl
structure Gl3 (B C E X Y : Ob) (f g h k : List Int) (T : Ob) (b c e : List Int) : Prop where
 ab : arrS B T b = true
 ac : arrS C T c = true
 ae : arrS E T e = true
 c1 : (thenS f b).1 = (thenS g c).1
 c2 : (thenS h c).1 = (thenS k e).1
 med : ∀ (D : Ob) (b' c' e' : List Int), arrS B D b' = true → arrS C D c' = true → arrS E D e' = true → (thenS f b').1 = (thenS g c').1 → (thenS h c').1 = (thenS k e').1 → ∃ u, arrS T D u = true ∧ (thenS b u).1 = b' ∧ (thenS c u).1 = c' ∧ (thenS e u).1 = e'
 on : ∀ v : Nat, v < T.labels.length → (∃ x : Nat, b[x]? = some (v : Int)) ∨ (∃ x : Nat, c[x]? = some (v : Int)) ∨ (∃ x : Nat, e[x]? = some (v : Int))
theorem s3z {A T T' : Ob} {l l' u w : List Int} (hl : arrS A T l = true) (hl' : arrS A T' l' = true) (hu : arrS T T' u = true) (hw : arrS T' T w = true) (e1 : (thenS l u).1 = l') (e2 : (thenS l' w).1 = l) {v x : Nat} (hx : l[x]? = some (v : Int)) : ∃ z : Int, u[v]? = some z ∧ w[z.toNat]? = some (v : Int) := by
 have h1 := f1z hl hu hx
 rw [e1, Int.toNat_natCast] at h1
 have lu := c1q (b4q.1 hu).2.2.1
 have bv := f8q (b4q.1 hl).2.2.1 _ (List.mem_of_getElem? hx)
 obtain ⟨z, hz⟩ : ∃ z, u[v]? = some z := ⟨_, List.getElem?_eq_getElem (by omega)⟩
 rw [hz] at h1
 have h2 := f1z hl' hw h1
 rw [e2, hx] at h2
 exact ⟨z, hz, h2.symm⟩
theorem p3x {B C E X Y : Ob} {f g h k : List Int} {T T' : Ob} {b c e b' c' e' : List Int} (H : Gl3 B C E X Y f g h k T b c e) (H' : Gl3 B C E X Y f g h k T' b' c' e') : T.labels.length ≤ T'.labels.length ∧ T.pairs.length ≤ T'.pairs.length := by
 obtain ⟨u, u0, u1, u2, u3⟩ := H.med T' b' c' e' H'.ab H'.ac H'.ae H'.c1 H'.c2
 obtain ⟨w, w0, w1, w2, w3⟩ := H'.med T b c e H.ab H.ac H.ae H.c1 H.c2
 refine arr_len u0 (w := w) fun v hv => ?_
 rcases H.on v hv with ⟨x, hx⟩ | ⟨x, hx⟩ | ⟨x, hx⟩
 ·exact s3z H.ab H'.ab u0 w0 u1 w1 hx
 ·exact s3z H.ac H'.ac u0 w0 u2 w2 hx
 ·exact s3z H.ae H'.ae u0 w0 u3 w3 hx
theorem f0x {B C E X Y : Ob} {f g h k : List Int} {T T' : Ob} {b c e b' c' e' : List Int} (H : Gl3 B C E X Y f g h k T b c e) (H' : Gl3 B C E X Y f g h k T' b' c' e') : T.labels.length = T'.labels.length ∧ T.pairs.length = T'.pairs.length := by
 obtain ⟨a1, a2⟩ := p3x H H'
 obtain ⟨b1, b2⟩ := p3x H' H
 omega
section
variable {B C E X Y : Ob} {f g h k : List Int}
theorem y7x {a b c d : Ob} {f g h k : List Int} (hf : arrS a b f = true) (hg : arrS a c g = true) (hh : arrS b d h = true) (hk : arrS c d k = true) (he : (thenS f h).1 = (thenS g k).1) : coS a b c f g d h k = true := by
 simp only [coS, Bool.and_eq_true, beq_iff_eq]
 exact ⟨hf, hg, hh, hk, he⟩
theorem k0q {l : List Int} {v : Int} (h : v ∈ l) : ∃ x : Nat, l[x]? = some v := List.getElem?_of_mem h
theorem a3j {p T : Ob} {p1 j h1 a1 e2 h2 : List Int} (hf : arrS X B f = true) (hg : arrS X C g = true) (hh : arrS Y C h = true) (hk : arrS Y E k = true)
 (hP : m3q X B C f g = (p, p1, j, 0)) (sP : SqS B C f g p p1 j h1) (hL : m3q Y p E (thenS h j).1 k = (T, a1, e2, 0)) (sL : SqS p E (thenS h j).1 k T a1 e2 h2) :
 Gl3 B C E X Y f g h k T (thenS p1 a1).1 (thenS j a1).1 e2 := by
 have s1 := o0q sP.a1 sL.a1
 have s2 := o0q sP.a2 sL.a1
 have q1 : (thenS f p1).1 = (thenS g j).1 := by rw [sP.t1, sP.t2]
 have q2 : (thenS (thenS h j).1 a1).1 = (thenS k e2).1 := by rw [sL.t1, sL.t2]
 refine ⟨s1.2, s2.2, sL.a2, ?_, ?_, fun D b' c' e' hb hc he g1 g2 => ?_, fun v hv => ?_⟩
 ·rw [j4q hf sP.a1 sL.a1, q1, ← j4q hg sP.a2 sL.a1]
 ·rw [j4q hh sP.a2 sL.a1, q2]
 ·have m1 := f1x hP sP (y7x hf hg hb hc g1)
  generalize outS p.labels.length [p1, j] [b', c'] = u1 at m1
  have hhj := (o0q hh sP.a2).2
  have m2 := f1x hL sL (y7x hhj hk m1.ar he (by rw [← j4q hh sP.a2 m1.ar, m1.t2]; exact g2))
  generalize outS T.labels.length [a1, e2] [u1, e'] = u at m2
  refine ⟨u, m2.ar, ?_, ?_, by rw [m2.t2]⟩
  ·rw [← j4q sP.a1 sL.a1 m2.ar, m2.t1, m1.t1]
  ·rw [← j4q sP.a2 sL.a1 m2.ar, m2.t1, m1.t2]
 ·rcases List.mem_append.1 (sL.on v hv) with hm | hm
  ·obtain ⟨w, hw⟩ := k0q hm
   have hwl := (List.getElem?_eq_some_iff.1 hw).1
   have la := c1q (b4q.1 sL.a1).2.2.1
   rcases List.mem_append.1 (sP.on w (by omega)) with hn | hn
   ·obtain ⟨x, hx⟩ := k0q hn
    exact .inl ⟨x, by rw [f1z sP.a1 sL.a1 hx, Int.toNat_natCast]; exact hw⟩
   ·obtain ⟨x, hx⟩ := k0q hn
    exact .inr (.inl ⟨x, by rw [f1z sP.a2 sL.a1 hx, Int.toNat_natCast]; exact hw⟩)
  ·exact .inr (.inr (k0q hm))
theorem p4x {o T : Ob} {i k2 h1 b1 b2 h2 : List Int} (hf : arrS X B f = true) (hg : arrS X C g = true) (hh : arrS Y C h = true) (hk : arrS Y E k = true)
 (hO : m3q Y C E h k = (o, i, k2, 0)) (sO : SqS C E h k o i k2 h1) (hR : m3q X B o f (thenS g i).1 = (T, b1, b2, 0)) (sR : SqS B o f (thenS g i).1 T b1 b2 h2) :
 Gl3 B C E X Y f g h k T b1 (thenS i b2).1 (thenS k2 b2).1 := by
 have s1 := o0q sO.a1 sR.a2
 have s2 := o0q sO.a2 sR.a2
 have q1 : (thenS h i).1 = (thenS k k2).1 := by rw [sO.t1, sO.t2]
 have q2 : (thenS f b1).1 = (thenS (thenS g i).1 b2).1 := by rw [sR.t1, sR.t2]
 refine ⟨sR.a1, s1.2, s2.2, ?_, ?_, fun D b' c' e' hb hc he g1 g2 => ?_, fun v hv => ?_⟩
 ·rw [q2, ← j4q hg sO.a1 sR.a2]
 ·rw [j4q hh sO.a1 sR.a2, q1, ← j4q hk sO.a2 sR.a2]
 ·have m1 := f1x hO sO (y7x hh hk hc he g2)
  generalize outS o.labels.length [i, k2] [c', e'] = u1 at m1
  have hgi := (o0q hg sO.a1).2
  have m2 := f1x hR sR (y7x hf hgi hb m1.ar (by rw [← j4q hg sO.a1 m1.ar, m1.t1]; exact g1))
  generalize outS T.labels.length [b1, b2] [b', u1] = u at m2
  refine ⟨u, m2.ar, by rw [m2.t1], ?_, ?_⟩
  ·rw [← j4q sO.a1 sR.a2 m2.ar, m2.t2, m1.t1]
  ·rw [← j4q sO.a2 sR.a2 m2.ar, m2.t2, m1.t2]
 ·rcases List.mem_append.1 (sR.on v hv) with hm | hm
  ·exact .inl (k0q hm)
  ·obtain ⟨w, hw⟩ := k0q hm
   have hwl := (List.getElem?_eq_some_iff.1 hw).1
   have la := c1q (b4q.1 sR.a2).2.2.1
   rcases List.mem_append.1 (sO.on w (by omega)) with hn | hn
   ·obtain ⟨x, hx⟩ := k0q hn
    exact .inr (.inl ⟨x, by rw [f1z sO.a1 sR.a2 hx, Int.toNat_natCast]; exact hw⟩)
   ·obtain ⟨x, hx⟩ := k0q hn
    exact .inr (.inr ⟨x, by rw [f1z sO.a2 sR.a2 hx, Int.toNat_natCast]; exact hw⟩)
abbrev stD (B C E X Y : Ob) (f g h k : List Int) : Dia := ⟨[B, C, E, X, Y], [⟨3, 0, f⟩, ⟨3, 1, g⟩, ⟨4, 1, h⟩, ⟨4, 2, k⟩]⟩
theorem st_ok (hf : arrS X B f = true) (hg : arrS X C g = true) (hh : arrS Y C h = true) (hk : arrS Y E k = true) : DiaOK (stD B C E X Y f g h k) := by
 refine ⟨by simp, by simp, fun o ho => ?_, fun x hx => ?_⟩
 ·simp only [List.mem_cons, List.not_mem_nil, or_false] at ho
  rcases ho with rfl | rfl | rfl | rfl | rfl
  ·exact (b4q.1 hf).2.1
  ·exact (b4q.1 hg).2.1
  ·exact (b4q.1 hk).2.1
  ·exact (b4q.1 hf).1
  ·exact (b4q.1 hh).1
 ·simp only [List.mem_cons, List.not_mem_nil, or_false] at hx
  rcases hx with rfl | rfl | rfl | rfl
  ·exact ⟨X, B, by simp, rfl, by simp, rfl, hf⟩
  ·exact ⟨X, C, by simp, rfl, by simp, rfl, hg⟩
  ·exact ⟨Y, C, by simp, rfl, by simp, rfl, hh⟩
  ·exact ⟨Y, E, by simp, rfl, by simp, rfl, hk⟩
theorem gl3_all (hf : arrS X B f = true) (hg : arrS X C g = true) (hh : arrS Y C h = true) (hk : arrS Y E k = true) (h40 : bsB (stD B C E X Y f g h k).nodes 5 ≤ 40) :
 ∃ b c e, Gl3 B C E X Y f g h k (p8q (stD B C E X Y f g h k)) b c e := by
 have hD := st_ok hf hg hh hk
 obtain ⟨b, b0, b1⟩ := hD.legArr h40 (k := 0) (o := B) rfl
 obtain ⟨c, c0, c1⟩ := hD.legArr h40 (k := 1) (o := C) rfl
 obtain ⟨e, e0, e1⟩ := hD.legArr h40 (k := 2) (o := E) rfl
 obtain ⟨x, x0, x1⟩ := hD.legArr h40 (k := 3) (o := X) rfl
 obtain ⟨y, y0, y1⟩ := hD.legArr h40 (k := 4) (o := Y) rfl
 have hLs := hD.legs h40
 obtain ⟨_, _, _, _, hal⟩ := a8z.1 hLs
 have al : ∀ {fr to : Int} {mp gf gt : List Int}, (⟨fr, to, mp⟩ : Ar) ∈ (stD B C E X Y f g h k).arrs → (g4q (stD B C E X Y f g h k))[fr.toNat]? = some gf → (g4q (stD B C E X Y f g h k))[to.toNat]? = some gt → thenS mp gt = (gf, true) := fun hm h1 h2 => by
  obtain ⟨gf', gt', k1, k2, k3⟩ := hal _ hm
  simp only at k1 k2 k3
  rw [h1] at k1; cases k1
  rw [h2] at k2; cases k2
  exact k3
 have a1 := al (fr := 3) (to := 0) (mp := f) (by simp) x0 b0
 have a2 := al (fr := 3) (to := 1) (mp := g) (by simp) x0 c0
 have a3 := al (fr := 4) (to := 1) (mp := h) (by simp) y0 c0
 have a4 := al (fr := 4) (to := 2) (mp := k) (by simp) y0 e0
 refine ⟨b, c, e, b1, c1, e1, by rw [a1, a2], by rw [a3, a4], fun D b' c' e' hb hc he g1 g2 => ?_, fun v hv => ?_⟩
 ·have hx' := o0q hf hb
  have hy' := o0q hh hc
  have hL : k9q (stD B C E X Y f g h k) D [b', c', e', (thenS f b').1, (thenS h c').1] = true := by
   refine a8z.2 ⟨hD, (b4q.1 hb).2.1, rfl, fun n o ho => ?_, fun z hz => ?_⟩
   ·match n, ho with
    | 0, ho => cases ho; exact ⟨_, rfl, hb⟩
    | 1, ho => cases ho; exact ⟨_, rfl, hc⟩
    | 2, ho => cases ho; exact ⟨_, rfl, he⟩
    | 3, ho => cases ho; exact ⟨_, rfl, hx'.2⟩
    | 4, ho => cases ho; exact ⟨_, rfl, hy'.2⟩
    | n + 5, ho => simp at ho
   ·simp only [List.mem_cons, List.not_mem_nil, or_false] at hz
    rcases hz with rfl | rfl | rfl | rfl
    ·exact ⟨_, _, rfl, rfl, hx'.1⟩
    ·exact ⟨_, _, rfl, rfl, by rw [(o0q hg hc).1, g1]⟩
    ·exact ⟨_, _, rfl, rfl, hy'.1⟩
    ·exact ⟨_, _, rfl, rfl, by rw [(o0q hk he).1, g2]⟩
  obtain ⟨m1, m2, _⟩ := hD.med h40 hL
  exact ⟨_, m1, by rw [m2 0 b b' b0 rfl], by rw [m2 1 c c' c0 rfl], by rw [m2 2 e e' e0 rfl]⟩
 ·have hgl := hD.gl h40
  obtain ⟨q, hq⟩ := hgl.onto hv
  have hql := (List.getElem?_eq_some_iff.1 hq).1
  have hlen : (i3q (stD B C E X Y f g h k)).length = bsB (stD B C E X Y f g h k).nodes 5 := hgl.len
  change q < (i3q (stD B C E X Y f g h k)).length at hql
  obtain ⟨n, o, w, n1, n2, n3, rfl⟩ := m4x (stD B C E X Y f g h k).nodes 5 (Nat.le_refl _) q (by omega)
  obtain ⟨l, l0, l1, _, l4⟩ := hD.leg h40 n2
  have hlw : l[w]? = some (v : Int) := by rw [l4 w n3]; exact hq
  match n, n1, n2, l0 with
  | 0, _, _, l0 => rw [b0] at l0; cases l0; exact .inl ⟨w, hlw⟩
  | 1, _, _, l0 => rw [c0] at l0; cases l0; exact .inr (.inl ⟨w, hlw⟩)
  | 2, _, _, l0 => rw [e0] at l0; cases l0; exact .inr (.inr ⟨w, hlw⟩)
  | 3, _, ho, l0 =>
   rw [x0] at l0; cases l0; cases ho
   have lf := c1q (b4q.1 hf).2.2.1
   obtain ⟨z, hz⟩ : ∃ z, f[w]? = some z := ⟨_, List.getElem?_eq_getElem (by omega)⟩
   have := f1z hf b1 hz
   rw [a1] at this
   exact .inl ⟨z.toNat, by rw [← this]; exact hlw⟩
  | 4, _, ho, l0 =>
   rw [y0] at l0; cases l0; cases ho
   have lh := c1q (b4q.1 hh).2.2.1
   obtain ⟨z, hz⟩ : ∃ z, h[w]? = some z := ⟨_, List.getElem?_eq_getElem (by omega)⟩
   have := f1z hh c1 hz
   rw [a3] at this
   exact .inr (.inl ⟨z.toNat, by rw [← this]; exact hlw⟩)
end
end Go.Proofs

open Go Go.V
namespace Go.Proofs
def labN (o : Ob) (x : Nat) : ByteArray := o.labels.getD x ByteArray.empty
def cmJ (b c : Ob) (x : Nat) : Nat → Option Nat
 | 0 => none
 | y + 1 => match cmJ b c x y with
  | some z => some z
  | none => if seqB (labN b x) (labN c y) = true then some y else none
def cmI (b c : Ob) (n : Nat) : Nat → Option (Nat × Nat)
 | 0 => none
 | i + 1 => match cmI b c n i with
  | some r => some r
  | none => (cmJ b c ((i + n) % b.labels.length) c.labels.length).map fun y => ((i + n) % b.labels.length, y)
def comS (b c : Ob) (n : Nat) : Ob × List Int × List Int × Bool := match cmI b c n b.labels.length with
 | some (x, y) => (⟨[labN b x], []⟩, [(x : Int)], [(y : Int)], true)
 | none => (⟨[], []⟩, [], [], false)
section
variable {b c : Ob} {n : Nat}
theorem y5x {x y y' : Nat} (h : y ≤ y') {z : Nat} (hz : cmJ b c x y = some z) : cmJ b c x y' = some z := by
 induction h with
 | refl => exact hz
 | step _ ih => simp only [cmJ, ih]
theorem y3x {i i' : Nat} (h : i ≤ i') {r : Nat × Nat} (hr : cmI b c n i = some r) : cmI b c n i' = some r := by
 induction h with
 | refl => exact hr
 | step _ ih => simp only [cmI, ih]
theorem y6x {x y : Nat} (h : cmJ b c x y = none) (h2 : seqB (labN b x) (labN c y) = false) : cmJ b c x (y + 1) = none := by simp [cmJ, h, h2]
theorem y4x {i : Nat} (h : cmI b c n i = none) (h2 : cmJ b c ((i + n) % b.labels.length) c.labels.length = none) : cmI b c n (i + 1) = none := by simp [cmI, h, h2]
theorem com_hit {i y : Nat} (h : cmI b c n i = none) (h2 : cmJ b c ((i + n) % b.labels.length) y = none) (h3 : seqB (labN b ((i + n) % b.labels.length)) (labN c y) = true) (hi : i < b.labels.length) (hy : y < c.labels.length) :
 comS b c n = (⟨[labN b ((i + n) % b.labels.length)], []⟩, [(((i + n) % b.labels.length : Nat) : Int)], [(y : Int)], true) := by
 have h4 : cmJ b c ((i + n) % b.labels.length) (y + 1) = some y := by simp [cmJ, h2, h3]
 have h5 := y5x (show y + 1 ≤ c.labels.length from hy) h4
 have h6 : cmI b c n (i + 1) = some ((i + n) % b.labels.length, y) := by simp [cmI, h, h5]
 have h7 := y3x (show i + 1 ≤ b.labels.length from hi) h6
 simp only [comS, h7]
theorem z0x (h : cmI b c n b.labels.length = none) : comS b c n = (⟨[], []⟩, [], [], false) := by simp only [comS, h]
theorem v8z {x : Nat} : ∀ {y z : Nat}, cmJ b c x y = some z → z < y ∧ seqB (labN b x) (labN c z) = true
 | 0, z, h => by simp [cmJ] at h
 | y + 1, z, h => by
  simp only [cmJ] at h
  split at h
  ·rename_i w hw
   have := v8z hw
   cases h
   exact ⟨by omega, this.2⟩
  ·split at h
   ·cases h; exact ⟨by omega, by assumption⟩
   ·cases h
theorem v7z : ∀ {i x y : Nat}, i ≤ b.labels.length → cmI b c n i = some (x, y) → x < b.labels.length ∧ y < c.labels.length ∧ seqB (labN b x) (labN c y) = true
 | 0, x, y, _, h => by simp [cmI] at h
 | i + 1, x, y, hi, h => by
  simp only [cmI] at h
  split at h
  ·rename_i w hw
   cases h
   exact v7z (by omega) hw
  ·obtain ⟨z, hz, he⟩ := Option.map_eq_some_iff.1 h
   cases he
   have := v8z hz
   exact ⟨Nat.mod_lt _ (by omega), this.1, this.2⟩
theorem n6x {X : Ob} {f g : List Int} (h : comS b c n = (X, f, g, true)) : ∃ x y : Nat, x < b.labels.length ∧ y < c.labels.length ∧ X = ⟨[labN b x], []⟩ ∧ f = [(x : Int)] ∧ g = [(y : Int)] ∧ seqB (labN b x) (labN c y) = true := by
 unfold comS at h
 split at h
 ·rename_i x y hxy
  simp only [Prod.mk.injEq, and_true] at h
  obtain ⟨rfl, rfl, rfl⟩ := h
  obtain ⟨h1, h2, h3⟩ := v7z (Nat.le_refl _) hxy
  exact ⟨x, y, h1, h2, rfl, rfl, rfl, h3⟩
 ·simp at h
theorem one_ob {l : ByteArray} (h : l.size ≤ 60) : IsOb ⟨[l], []⟩ := ⟨by simp, by simp [h], rfl, rfl, (c3z (q0q (l := []) fun p hp => by simp at hp)).2 fun a k b h _ => by simp [mxOf] at h⟩
theorem r5x {l : ByteArray} (hs : l.size ≤ 60) {o : Ob} (ho : IsOb o) {x : Nat} (hx : x < o.labels.length) (hl : l.toList = (labN o x).toList) : arrS ⟨[l], []⟩ o [(x : Int)] = true := by
 refine z1q (one_ob hs) ho rfl (fun i y la hy hla => ?_) fun x y hm => by simp [mxOf] at hm
 have hi := (List.getElem?_eq_some_iff.1 hla).1
 have hi0 : i = 0 := by simp only [List.length_cons, List.length_nil] at hi; omega
 subst hi0
 simp only [List.getElem?_cons_zero, Option.some.injEq] at hy hla
 subst hy; subst hla
 refine ⟨labN o x, ⟨by omega, by omega⟩, ?_, hl⟩
 rw [Int.toNat_natCast, List.getElem?_eq_getElem hx]
 unfold labN
 rw [List.getD_eq_getElem?_getD, List.getElem?_eq_getElem hx]; rfl
theorem n4x (hb : IsOb b) (hc : IsOb c) {X : Ob} {f g : List Int} (h : comS b c n = (X, f, g, true)) : arrS X b f = true ∧ arrS X c g = true := by
 obtain ⟨x, y, hx, hy, rfl, rfl, rfl, hs⟩ := n6x h
 have hsz : (labN b x).size ≤ 60 := by
  have : labN b x ∈ b.labels := by
   unfold labN
   rw [List.getD_eq_getElem?_getD, List.getElem?_eq_getElem hx]; exact List.getElem_mem _
  simpa using List.all_eq_true.1 hb.sz _ this
 exact ⟨r5x hsz hb hx rfl, r5x hsz hc hy (t9z.1 hs)⟩
theorem n5x (b c : Ob) (n : Nat) : (comS b c n).1.labels.length ≤ 1 ∧ (comS b c n).1.pairs = [] ∧ (comS b c n).2.1.length ≤ 1 ∧ (comS b c n).2.2.1.length ≤ 1 := by
 unfold comS; split <;> simp
end
theorem b5z {a b c : Ob} {f g : List Int} (hf : arrS a b f = true) (hg : arrS a c g = true) (hl : b.labels.length + c.labels.length ≤ 40) : ∃ q i j h, m3q a b c f g = (q, i, j, 0) ∧ SqS b c f g q i j h ∧ q.labels.length ≤ b.labels.length + c.labels.length ∧ IsOb q := by
 rcases j1x a b c f g with ⟨e, he, h⟩ | ⟨q, i, j, h, hR, hS, _⟩
 ·exfalso
  have ha := (b4q.1 hf).1.le
  unfold m3q at h
  rw [if_neg (by simp only [s8q, s9q, decide_eq_true_eq]; omega), if_pos ⟨hf, hg⟩] at h
  have := congrArg (fun r => r.2.2.2) h
  simp at this
  exact he this.symm
 ·obtain ⟨_, _, _, e4, _⟩ := s7x hR
  have h1 := w8z (d4q b c) (puPl b c f g)
  rw [b4z, ← e4] at h1
  exact ⟨q, i, j, h, hR, hS, h1, (b4q.1 hS.a1).2.1⟩
theorem f4x {o : Ob} (h : IsOb o) : o.pairs.length ≤ 1600 := by
 have h1 := y9z h.inb h.ris
 have h2 := c9x o.labels.length (mxOf o.pairs)
 rw [h1] at h2
 exact Nat.le_trans h2 (sq_le h.le)
section
variable {B C E X Y : Ob} {f g h k : List Int}
theorem st_B : bsB [B, C, E, X, Y] 5 = B.labels.length + C.labels.length + E.labels.length + X.labels.length + Y.labels.length := by
 simp [bsB, f9q]; omega
theorem e0j (hf : arrS X B f = true) (hg : arrS X C g = true) (hh : arrS Y C h = true) (hk : arrS Y E k = true) (hl : B.labels.length + C.labels.length + E.labels.length ≤ 40) :
 ∃ p p1 j o i k2 T a1 e2 R b1 b2, m3q X B C f g = (p, p1, j, 0) ∧ m3q Y C E h k = (o, i, k2, 0) ∧ m3q Y p E (thenS h j).1 k = (T, a1, e2, 0) ∧ m3q X B o f (thenS g i).1 = (R, b1, b2, 0) ∧
  (IsOb p ∧ IsOb o ∧ IsOb T ∧ IsOb R) ∧ (j.length ≤ 40 ∧ i.length ≤ 40) ∧ T.labels.length = R.labels.length ∧ T.pairs.length = R.pairs.length ∧ a1.length = p.labels.length ∧ b2.length = o.labels.length ∧
  (X.labels.length + Y.labels.length + B.labels.length + C.labels.length + E.labels.length ≤ 40 → ∃ q L, colS (stD B C E X Y f g h k) = (q, L, 0) ∧ L.length = 5 ∧ q.labels.length = T.labels.length ∧ q.pairs.length = T.pairs.length ∧ IsOb q) ∧
  (¬ X.labels.length + Y.labels.length + B.labels.length + C.labels.length + E.labels.length ≤ 40 → colS (stD B C E X Y f g h k) = (noOb, [], 11)) := by
 obtain ⟨p, p1, j, h1, hP, sP, lP, oP⟩ := b5z hf hg (by omega)
 obtain ⟨o, i, k2, h2, hO, sO, lO, oO⟩ := b5z hh hk (by omega)
 have hhj := (o0q hh sP.a2).2
 have hgi := (o0q hg sO.a1).2
 obtain ⟨T, a1, e2, h3, hL, sL, lL, oL⟩ := b5z hhj hk (by omega)
 obtain ⟨R, b1, b2, h4, hR, sR, lR, oR⟩ := b5z hf hgi (by omega)
 have G1 := a3j hf hg hh hk hP sP hL sL
 have G2 := p4x hf hg hh hk hO sO hR sR
 obtain ⟨s1, s2⟩ := f0x G1 G2
 have lj := c1q (b4q.1 sP.a2).2.2.1
 have li := c1q (b4q.1 sO.a1).2.2.1
 have hSum : sumT (stD B C E X Y f g h k).nodes (stD B C E X Y f g h k).nodes.length = B.labels.length + C.labels.length + E.labels.length + X.labels.length + Y.labels.length := by
  rw [u3z _ _ (Nat.le_refl _)]; exact st_B
 refine ⟨p, p1, j, o, i, k2, T, a1, e2, R, b1, b2, hP, hO, hL, hR, ⟨oP, oO, oL, oR⟩, ⟨by omega, by omega⟩, s1, s2, c1q (b4q.1 sL.a1).2.2.1, c1q (b4q.1 sR.a2).2.2.1, fun h40 => ?_, fun h40 => ?_⟩
 ·have hB : bsB (stD B C E X Y f g h k).nodes 5 ≤ 40 := by rw [st_B]; omega
  obtain ⟨b, c, e, G3⟩ := gl3_all hf hg hh hk hB
  obtain ⟨t1, t2⟩ := f0x G3 G1
  have hD := st_ok hf hg hh hk
  rcases v9z (stD B C E X Y f g h k) with ⟨z, hz, hc⟩ | ⟨hc, _, _⟩
  ·exfalso
   have hb : bigD (stD B C E X Y f g h k) = false := by
    simp only [bigD, j5q, hSum]
    simp; omega
   unfold colS at hc
   rw [if_neg (by rw [hb]; simp), if_neg (by rw [d3z.2 hD]; simp)] at hc
   have := congrArg (fun r => r.2.2) hc
   simp at this
   exact hz this.symm
  ·exact ⟨_, _, hc, n0q, t1, t2, (b4q.1 (hD.gl hB).arr).2.1⟩
 ·have hb : bigD (stD B C E X Y f g h k) = true := by
   simp only [bigD, j5q, hSum]
   simp; omega
  unfold colS
  rw [if_pos hb]
end
end Go.Proofs

open Go Go.V
namespace Go.Proofs
structure RoI (s : Sg) (l : List ByteArray) (P : List (Int × Int)) (m : Nat) (s' : Sg) : Prop where
 b2 : s'.m s.next = some (.box 25 [.t (.v (.slice none 0 0)), .t (.v (.slice none 0 0))])
 b3 : s'.m (s.next + 1) = some (.box 25 [.t (b7q l), .loc m 0 P.length])
 am : s'.m m = some (.arr 2 84 (P.flatMap j8q))
 same : ∀ j, j < s.next → s'.m j = s.m j
 lm : s.next + 2 ≤ m ∧ m < s'.next
theorem RoI.push {s : Sg} {l : List ByteArray} {P : List (Int × Int)} {m : Nat} {s1 : Sg} (h : RoI s l P m s1) (p : Int × Int) (B : Blk) : RoI s l (P ++ [p]) (s1.next + 1)
 ((((s1.add B).del m).add (.arr 2 84 (P.flatMap j8q ++ [TI p.1, TI p.2]))).set (s.next + 1) (.box 25 [.t (b7q l), .loc (s1.next + 1) 0 (P.length + 1)])) := by
 obtain ⟨h2, h3, ha, hs, lm, lm'⟩ := h
 have hfr : ∀ x, x < s1.next → x ≠ m → x ≠ s.next + 1 → ((((s1.add B).del m).add (.arr 2 84 (P.flatMap j8q ++ [TI p.1, TI p.2]))).set (s.next + 1) (.box 25 [.t (b7q l), .loc (s1.next + 1) 0 (P.length + 1)])).m x = s1.m x := fun x h1 h2 h5 => by
  rw [b6q, if_neg h5, c5q, if_neg (by simp only [e4q, c9q]; omega), e2q, if_neg h2, c5q, if_neg (by omega)]
 refine ⟨by rw [hfr _ (by omega) (by omega) (by omega)]; exact h2, by rw [b6q, if_pos rfl, List.length_append]; rfl, ?_, fun j hj => by rw [hfr _ (by omega) (by omega) (by omega)]; exact hs j hj, by omega, by simp only [i6q, c9q, e4q]; omega⟩
 rw [b6q, if_neg (by omega), c5q, if_pos (by simp only [e4q, c9q])]
 simp [j8q]
end Go.Proofs

open Go Go.V
namespace Go.V
variable {P : Program} {ops : Array Oper} {Q : Exit → Env → Sg → Prop} {e : Env} {s : Sg}
theorem w1x {i m : Nat} {o : Oper} (hi : ops[i]? = some o) (hg : o.guard = none) {t t' : TypeId} {x : Operand} (ho : o.op = .convert t t' x) {a v : Value} (hx : c6z (ev e x) = some a) (hv : w3q (calm P (convert t t' a)) = some v)
 (h : VL P ops Q (List.range' (i + 1) m) (putv e o.dst (.t (.v v))) s) : VL P ops Q (List.range' i (m + 1)) e s := by
 rw [List.range'_succ]
 exact vl_cons hi hg (k2q.opg (j9x ho hx hv h))
end Go.V
namespace Go.Proofs
end Go.Proofs

open Go Go.V
namespace Go.Proofs
theorem conv_w (z : Int) : w3q (calm Tryd.prog (convert 5 3 (.int .u8 z))) = some (.int .i64 (IntKind.i64.wrap z)) := by kernel_rfl
theorem e5x {z : Int} (h : 0 ≤ z ∧ z < 256) : w3q (calm Tryd.prog (convert 5 3 (.int .u8 z))) = some (.int .i64 z) := by
 rw [conv_w, wrap_i64 ⟨by omega, by omega⟩]
theorem z5x (s : Sg) (a f g t : T) : EWk s s (.tup [.agg [.t a, .t (.v (.slice none 0 0))], .t f, .t g, .t t]) (.tup [.agg [.t a, .t (.sl 2 [])], .t f, .t g, .t t]) :=
 .inr (.inr (.inr ⟨_, _, rfl, rfl, .inr ⟨_, _, rfl, rfl, .inl rfl, o3q s 2 (by decide), trivial⟩, .inl (.inl rfl), .inl (.inl rfl), .inl (.inl rfl), trivial⟩))
theorem z4x (s : Sg) (t : T) : EWk s s (.tup [.agg [.t (.v (.slice none 0 0)), .t (.v (.slice none 0 0))], .t (.v (.slice none 0 0)), .t (.v (.slice none 0 0)), .t t]) (.tup [vObj ⟨[], []⟩, .t (b0q []), .t (b0q []), .t t]) :=
 .inr (.inr (.inr ⟨_, _, rfl, rfl, .inr ⟨_, _, rfl, rfl, o3q s 1 (by decide), o3q s 2 (by decide), trivial⟩, .inl (o3q s 1 (by decide)), .inl (o3q s 1 (by decide)), .inl (.inl rfl), trivial⟩))
def vCom (r : Ob × List Int × List Int × Bool) : V := .tup [vObj r.1, .t (b0q r.2.1), .t (b0q r.2.2.1), Bo r.2.2.2]
theorem k3z {o : Ob} {x : Nat} {l : ByteArray} (h : o.labels[x]? = some l) : labN o x = l := by unfold labN; rw [List.getD_eq_getElem?_getD, h]; rfl
theorem s12a {α : Type} (a b c d e f g h i j k l x y z : α) : setAll [a, b, c, d, e, f, g, h, i, j, k, l] 0 [x, y, z] = [x, y, z, d, e, f, g, h, i, j, k, l] := rfl
theorem s12b {α : Type} (a b c d e f g h i j k l x y z : α) : setAll [a, b, c, d, e, f, g, h, i, j, k, l] 3 [x, y, z] = [a, b, c, x, y, z, g, h, i, j, k, l] := rfl
theorem s12c {α : Type} (a b c d e f g h i j k l x y z : α) : setAll [a, b, c, d, e, f, g, h, i, j, k, l] 6 [x, y, z] = [a, b, c, d, e, f, x, y, z, j, k, l] := rfl
theorem s12d {α : Type} (a b c d e f g h i j k l x y z : α) : setAll [a, b, c, d, e, f, g, h, i, j, k, l] 9 [x, y, z] = [a, b, c, d, e, f, g, h, i, x, y, z] := rfl
theorem s4a {α : Type} (a b c d x y : α) : setAll [a, b, c, d] 0 [x, y] = [x, y, c, d] := rfl
theorem s4b {α : Type} (a b c d x y : α) : setAll [a, b, c, d] 2 [x, y] = [a, b, x, y] := rfl
set_option maxRecDepth 20000 in
set_option maxHeartbeats 4000000 in
theorem n7x (b c : Ob) (n : Nat) (hb1 : b.labels.length ≤ 50) (hc1 : c.labels.length ≤ 50) (hn : n < 256) : g3q Tryd.prog 52 [vObj b, vObj c, I n] (vCom (comS b c n)) := by
 refine b9q Tryd.func52 rfl fun s Q hQ => ?_
 obtain ⟨e, he, hl, h0, h1, h2⟩ : ∃ e : Env, ([vObj b, vObj c, I n] ++ List.replicate (Tryd.f52.ntmps - ([vObj b, vObj c, I n] : List V).length) .junk) = e ∧ e.length = 57 ∧ ev e (.tmp 0) = vObj b ∧ ev e (.tmp 1) = vObj c ∧ ev e (.tmp 2) = I n := ⟨_, rfl, rfl, rfl, rfl, rfl⟩
 rw [he]
 clear he
 refine vsk fun K1 hK1 => ?_
 refine a3q 0 [] ?_
 simp only [bs, ↓vopx, ↓vop, Nat.reduceBEq, a1q, flat, V.cells, h0, h1, wocs, ↓goc, ↓woc, ↓a2q, Tryd.zv25]
 refine hK1 _ _ ?_
 refine vsk fun K2 hK2 => ?_
 refine vsk fun K3 hK3 => ?_
 refine a3q 0 [] ?_
 simp only [bs, ↓vopx, ↓vop, a1q, flat, wocs, ↓goc, ↓woc, ↓a2q]
 refine hK3 _ _ ?_
 refine a5q ?_
 refine d0q (fun mm e' s' => ∃ i : Nat, mm = b.labels.length - i ∧ i ≤ b.labels.length ∧ e'.length = 57 ∧ ev e' (.tmp 2) = I n ∧ ev e' (.tmp 3) = .ptr s.next 0 ∧ ev e' (.tmp 4) = .ptr (s.next + 1) 0 ∧ ev e' (.tmp 6) = .ptr (s.next + 1 + 1) 0 ∧ ev e' (.tmp 10) = I i ∧ s' = ((s.add (.box 25 [.t (b7q b.labels), .t (a9q b.pairs)])).add (.box 25 [.t (b7q c.labels), .t (a9q c.pairs)])).add (.box 25 [.t (.v (.slice none 0 0)), .t (.v (.slice none 0 0))]) ∧ cmI b c n i = none) (⟨0, rfl, Nat.zero_le _, ?_⟩) ?_
 ·try simp only [a0q, a4q, Nat.reduceBEq, lpv, hl, h2, Nat.reduceLT, true_and]
  repeat ((with_reducible refine And.intro ?_ ?_); · trivial)
  rfl
 rintro mm e _ ⟨i, rfl, hle_i, hl, k2, k3, k4, k6, h_i, rfl, hcI⟩
 refine vsk fun K4 hK4 => ?_
 refine vsk fun K5 hK5 => ?_
 refine a3q 0 [] ?_
 simp only [bs, ↓vopx, ↓vop, Nat.reduceBEq, a1q, Nat.reduceLT, a7q, a8q, opII, hl, k3, h_i, wocs, ↓goc, ↓woc, ↓a2q, Tryd.ag22, Tryd.fd25_0, Tryd.sz22, Tryd.un22, nns, c7q]
 refine hK5 _ _ ?_
 refine vck fun A B hA hB => ?_
 simp only [b5q, a0q, lpv, Nat.reduceLT, decide_eq_true_eq, decide_eq_false_iff_not, hl]
 refine ⟨fun hc17 => hA ?_, fun hc17 => hB ?_⟩
 ·clear hA hB A B
  refine b1q ?_
  refine hK4 _ _ ?_
  refine vsk fun K6 hK6 => ?_
  refine a5q ?_
  refine vsk fun K7 hK7 => ?_
  have hib : i < b.labels.length := by omega
  have hmod : ((i : Int) + (n : Int)) % (b.labels.length : Int) = (((i + n) % b.labels.length : Nat) : Int) := by push_cast; rfl
  refine a3q 0 [] ?_
  simp only [bs, ↓vopx, ↓vop, Nat.reduceBEq, a1q, Nat.reduceLT, a7q, a8q, opII, hl, k2, k3, h_i, wocs, ↓goc, ↓woc, ↓a2q, Tryd.ag22, Tryd.fd25_0, Tryd.sz22, Tryd.un22, nns, c7q, hmod]
  repeat ((with_reducible refine And.intro ?_ ?_); · first | omega | exact ⟨by omega, by omega⟩)
  refine hK7 _ _ ?_
  refine vsk fun K8 hK8 => ?_
  refine a3q 0 [] ?_
  simp only [bs, ↓vopx, ↓vop, a1q, flat, wocs, ↓goc, ↓woc, ↓a2q]
  refine hK8 _ _ ?_
  refine a5q ?_
  refine d0q (fun mm e' s' => ∃ y : Nat, mm = c.labels.length - y ∧ y ≤ c.labels.length ∧ e'.length = 57 ∧ ev e' (.tmp 2) = I n ∧ ev e' (.tmp 3) = .ptr s.next 0 ∧ ev e' (.tmp 4) = .ptr (s.next + 1) 0 ∧ ev e' (.tmp 6) = .ptr (s.next + 1 + 1) 0 ∧ ev e' (.tmp 10) = I i ∧ ev e' (.tmp 11) = I ((i + n) % b.labels.length : Nat) ∧ ev e' (.tmp 12) = I y ∧ s' = ((s.add (.box 25 [.t (b7q b.labels), .t (a9q b.pairs)])).add (.box 25 [.t (b7q c.labels), .t (a9q c.pairs)])).add (.box 25 [.t (.v (.slice none 0 0)), .t (.v (.slice none 0 0))]) ∧ cmJ b c ((i + n) % b.labels.length) y = none) (⟨0, rfl, Nat.zero_le _, ?_⟩) ?_
  ·try simp only [a0q, a4q, Nat.reduceBEq, lpv, hl, k2, k3, k4, k6, h_i, Nat.reduceLT, true_and]
   repeat ((with_reducible refine And.intro ?_ ?_); · trivial)
   rfl
  rintro mm e _ ⟨y, rfl, hle_y, hl, q2, q3, q4, q6, q10, q11, h_y, rfl, hcJ⟩
  refine vsk fun K9 hK9 => ?_
  refine vsk fun K10 hK10 => ?_
  refine a3q 0 [] ?_
  simp only [bs, ↓vopx, ↓vop, Nat.reduceBEq, a1q, Nat.reduceLT, a7q, a8q, opII, hl, q4, h_y, wocs, ↓goc, ↓woc, ↓a2q, Tryd.ag22, Tryd.fd25_0, Tryd.sz22, Tryd.un22, nns, c7q]
  refine hK10 _ _ ?_
  refine vck fun A B hA hB => ?_
  simp only [b5q, a0q, lpv, Nat.reduceLT, decide_eq_true_eq, decide_eq_false_iff_not, hl]
  refine ⟨fun hc31 => hA ?_, fun hc31 => hB ?_⟩
  ·clear hA hB A B
   refine b1q ?_
   refine hK9 _ _ ?_
   refine vsk fun K11 hK11 => ?_
   refine a5q ?_
   refine vsk fun K12 hK12 => ?_
   have hxb : ((i + n) % b.labels.length) < b.labels.length := Nat.mod_lt _ (by omega)
   obtain ⟨lb, hlb⟩ : ∃ l, b.labels[((i + n) % b.labels.length)]? = some l := ⟨_, List.getElem?_eq_getElem hxb⟩
   have hyc : y < c.labels.length := by omega
   obtain ⟨lc, hlc⟩ : ∃ l, c.labels[y]? = some l := ⟨_, List.getElem?_eq_getElem hyc⟩
   refine d2q Tryd.mixed 10 [0, 1, 0, 1, 1, 0, 1, 0, 1, 1] [] [] 0 (by decide +kernel) (by simp [lpv, hl]) rfl ?_
   simp only [bs, ↓vopx, ↓vop, Nat.reduceBEq, a1q, Nat.reduceLT, a7q, a8q, opII, opSS, hl, q3, q4, q11, h_y, wocs, ↓goc, ↓woc, ↓e7q, ↓farC, chn, ↓goq, ↓woq, List.zip_cons_cons, List.zip_nil_right, Tryd.ag22, Tryd.ag9, Tryd.fd25_0, Tryd.sz22, Tryd.sz9, Tryd.un22, nns, hlb, hlc, hxb]
   repeat ((with_reducible refine And.intro ?_ ?_); · (with_reducible assumption))
   refine hK12 _ _ ?_
   refine vck fun A B hA hB => ?_
   simp only [b5q, a0q, lpv, Nat.reduceLT, beq_iff_eq, beq_eq_false_iff_ne, ne_eq, hl]
   refine ⟨fun hc44 => hA ?_, fun hc44 => hB ?_⟩
   ·clear hA hB A B
    refine vsk fun K13 hK13 => ?_
    refine a3q 1 [] ?_
    simp only [bs, Nat.reduceLeDiff, Nat.reduceAdd, d8q, g2q, repl, Sg.frzP, ↓vopx, ↓vop, Nat.reduceBEq, a1q, flat, Nat.reduceLT, V.cells, a7q, a8q, Sg.frzL, Sg.frz1, hl, q3, q6, q11, h_y, wocs, ↓goc, ↓woc, ↓e7q, Tryd.ag22, Tryd.ag9, Tryd.fd25_0, Tryd.sl22, Tryd.sl26, Tryd.st25, Tryd.sz22, Tryd.sz25, Tryd.sz9, Tryd.un22, nns, hlb, hxb]
    refine hK13 _ _ ?_
    refine b3q ?_
    have hsq : seqB (labN b ((i + n) % b.labels.length)) (labN c y) = true := by rw [k3z hlb, k3z hlc]; simp [seqB, hc44]
    have hcm := com_hit hcI hcJ hsq (by omega) (by omega)
    rw [k3z hlb] at hcm
    have hres : vCom (comS b c n) = pack [.agg [.t (.sl 1 [TS lb]), .t (.sl 2 [])], .t (b0q [((((i + n) % b.labels.length) : Nat) : Int)]), .t (b0q [(y : Int)]), Bo true] := by rw [hcm]; rfl
    rw [hres] at hQ
    refine hQ _ _ _ (.inr rfl) (u1q (vs := [.agg [.t (.sl 1 [TS lb]), .t (.v (.slice none 0 0))], .t (b0q [((((i + n) % b.labels.length) : Nat) : Int)]), .t (b0q [(y : Int)]), Bo true]) (vs' := [.agg [.t (.sl 1 [TS lb]), .t (.sl 2 [])], .t (b0q [((((i + n) % b.labels.length) : Nat) : Int)]), .t (b0q [(y : Int)]), Bo true]) ?_ rfl (z5x _ _ _ _ _) (by simp [pack, nm, nm2, nm1, nm0]) ?_)
    ·show vres Tryd.prog _ _ [.cell 6 25, .tmp 7, .tmp 8, .tmp 9] = _
     simp only [g7q, j9q, h9q, a0q, a4q, Nat.reduceBEq, lpv, hl, q6, Tryd.sz25, Tryd.ag25, a7q, b6q, c5q, c9q, nns, a8q, if_true, if_false, Nat.reduceLT, List.drop_zero, List.take_succ_cons, List.take_zero, List.length_cons, List.length_nil, Nat.zero_add, Nat.reduceAdd]
     try rfl
    ·exact fun m b hm h => by simp [Sg.add, Sg.set, show m ≠ s.next by omega, show m ≠ s.next + 1 by omega, show m ≠ s.next + 1 + 1 by omega, h]
   ·clear hA hB A B
    refine b1q ?_
    refine hK11 _ _ ?_
    refine a3q 0 [] ?_
    simp only [bs, ↓vopx, ↓vop, Nat.reduceBEq, a1q, flat, Nat.reduceLT, opII, hl, q2, q3, q4, q6, q10, q11, h_y, wocs, ↓goc, ↓woc, ↓a2q]
    repeat ((with_reducible refine And.intro ?_ ?_); · exact ⟨by omega, by omega⟩)
    refine ⟨c.labels.length - (y + 1), by omega, y + 1, rfl, by omega, ?_⟩
    try simp only [a0q, a4q, Nat.reduceBEq, lpv, hl, q2, q3, q4, q6, q10, q11, h_y, if_true, if_false, Nat.reduceEqDiff, Nat.reduceLT, true_and, and_true]
    repeat ((with_reducible refine And.intro ?_ ?_); · trivial)
    exact y6x hcJ (by rw [k3z hlb, k3z hlc]; simp [seqB, hc44])
  ·clear hA hB A B
   have hyE : y = c.labels.length := by omega
   rw [hyE] at hcJ
   refine c8q ?_
   simp only [a1q, c0q, if_true, if_false, Nat.reduceEqDiff, reduceCtorEq]
   refine hK6 _ _ ?_
   refine a3q 0 [] ?_
   simp only [bs, ↓vopx, ↓vop, Nat.reduceBEq, a1q, flat, Nat.reduceLT, opII, hl, q2, q3, q4, q6, q10, wocs, ↓goc, ↓woc, ↓a2q]
   repeat ((with_reducible refine And.intro ?_ ?_); · exact ⟨by omega, by omega⟩)
   refine ⟨b.labels.length - (i + 1), by omega, i + 1, rfl, by omega, ?_⟩
   try simp only [a0q, a4q, Nat.reduceBEq, lpv, hl, k2, k3, k4, k6, h_i, if_true, if_false, Nat.reduceEqDiff, Nat.reduceLT, true_and, and_true]
   repeat ((with_reducible refine And.intro ?_ ?_); · trivial)
   exact y4x hcI hcJ
 ·clear hA hB A B
  have hiE : i = b.labels.length := by omega
  refine c8q ?_
  simp only [a1q, c0q, if_true]
  refine hK2 _ _ ?_
  refine vsk fun K14 hK14 => ?_
  refine a3q 0 [] ?_
  simp only [bs, Nat.reduceAdd, d8q, g2q, ↓vopx, ↓vop, Nat.reduceBEq, a1q, flat, Nat.reduceLT, V.cells, hl, k6, wocs, ↓goc, ↓woc, ↓a2q, Tryd.st25, Tryd.sz25, nns]
  refine hK14 _ _ ?_
  refine b3q ?_
  rw [hiE] at hcI
  have hres : vCom (comS b c n) = pack [vObj ⟨[], []⟩, .t (b0q []), .t (b0q []), Bo false] := by rw [z0x hcI]; rfl
  rw [hres] at hQ
  refine hQ _ _ _ (.inr rfl) (u1q (vs := [.agg [.t (.v (.slice none 0 0)), .t (.v (.slice none 0 0))], .t (.v (.slice none 0 0)), .t (.v (.slice none 0 0)), Bo false]) (vs' := [vObj ⟨[], []⟩, .t (b0q []), .t (b0q []), Bo false]) ?_ rfl (z4x _ _) (by simp [pack, nm, nm2, nm1, nm0]) ?_)
  ·show vres Tryd.prog _ _ [.cell 6 25, .tmp 7, .tmp 8, .tmp 9] = _
   simp only [g7q, j9q, h9q, a0q, a4q, Nat.reduceBEq, lpv, hl, k6, Tryd.sz25, Tryd.ag25, a7q, b6q, c5q, c9q, nns, a8q, if_true, if_false, Nat.reduceLT, List.drop_zero, List.take_succ_cons, List.take_zero, List.length_cons, List.length_nil, Nat.zero_add, Nat.reduceAdd]
   try rfl
  ·exact fun m b hm h => by simp [Sg.add, Sg.set, show m ≠ s.next by omega, show m ≠ s.next + 1 by omega, show m ≠ s.next + 1 + 1 by omega, h]
set_option maxRecDepth 20000 in
theorem e2x (f g : List Int) (hf : f.length < 100000000) (hg : g.length < 1000000000) : g3q Tryd.prog 53 [.t (b0q f), .t (b0q g)] (.t (b0q (thenS f g).1)) := by
 refine b9q Tryd.func53 rfl fun s Q hQ => ?_
 obtain ⟨e, he, hl, h0, h1⟩ : ∃ e : Env, ([.t (b0q f), .t (b0q g)] ++ List.replicate (Tryd.f53.ntmps - ([.t (b0q f), .t (b0q g)] : List V).length) .junk) = e ∧ e.length = 14 ∧ ev e (.tmp 0) = .t (b0q f) ∧ ev e (.tmp 1) = .t (b0q g) := ⟨_, rfl, rfl, rfl, rfl⟩
 rw [he]
 clear he
 refine vsk fun K1 hK1 => ?_
 refine a3q 0 [] ?_
 simp only [bs, ↓vopx, ↓vop, a1q, flat, wocs, ↓goc, ↓woc, ↓a2q]
 refine hK1 _ _ ?_
 refine vsk fun K2 hK2 => ?_
 refine a3q 0 [.pur (.tup [.t (b0q (thenS f g).1), Bo (thenS f g).2])] ?_
 simp only [bs, ↓vopx, ↓vop, Nat.reduceBEq, a1q, Nat.reduceLT, hl, h0, h1, wocs, ↓goc, ↓woc, ↓a2q, ↓c4q, a6q]
 repeat ((with_reducible refine And.intro ?_ ?_); · exact ⟨Tryd.is58, c9j f g hf hg⟩)
 refine hK2 _ _ ?_
 refine vsk fun K3 hK3 => ?_
 refine a3q 0 [] ?_
 simp only [bs, ↓vopx, ↓vop, Nat.reduceBEq, a1q, Nat.reduceLT, hl, wocs, ↓goc, ↓woc, ↓a2q]
 refine hK3 _ _ ?_
 refine b3q ?_
 refine hQ _ _ _ (.inr rfl) (b2q ?_ fun n b hn h => h)
 try simp only [a0q, lpv, hl, Nat.reduceLT]
set_option maxRecDepth 20000 in
set_option maxHeartbeats 4000000 in
theorem withs_ (B C E X Y : Ob) (f g h k : List Int) : g3q Tryd.prog 54 [.agg [.t (.sl 2 [b7q B.labels, a9q B.pairs, b7q C.labels, a9q C.pairs, b7q E.labels, a9q E.pairs]), .t (.v (.slice none 0 0))], vObj X, vObj Y, .t (b0q f), .t (b0q g), .t (b0q h), .t (b0q k)] (vDia (stD B C E X Y f g h k)) := by
 refine b9q Tryd.func54 rfl fun s Q hQ => ?_
 obtain ⟨e, he, hl, h0, h1, h2, h3, h4, h5, h6⟩ : ∃ e : Env, ([.agg [.t (.sl 2 [b7q B.labels, a9q B.pairs, b7q C.labels, a9q C.pairs, b7q E.labels, a9q E.pairs]), .t (.v (.slice none 0 0))], vObj X, vObj Y, .t (b0q f), .t (b0q g), .t (b0q h), .t (b0q k)] ++ List.replicate (Tryd.f54.ntmps - ([.agg [.t (.sl 2 [b7q B.labels, a9q B.pairs, b7q C.labels, a9q C.pairs, b7q E.labels, a9q E.pairs]), .t (.v (.slice none 0 0))], vObj X, vObj Y, .t (b0q f), .t (b0q g), .t (b0q h), .t (b0q k)] : List V).length) .junk) = e ∧ e.length = 34 ∧ ev e (.tmp 0) = .agg [.t (.sl 2 [b7q B.labels, a9q B.pairs, b7q C.labels, a9q C.pairs, b7q E.labels, a9q E.pairs]), .t (.v (.slice none 0 0))] ∧ ev e (.tmp 1) = vObj X ∧ ev e (.tmp 2) = vObj Y ∧ ev e (.tmp 3) = .t (b0q f) ∧ ev e (.tmp 4) = .t (b0q g) ∧ ev e (.tmp 5) = .t (b0q h) ∧ ev e (.tmp 6) = .t (b0q k) := ⟨_, rfl, rfl, rfl, rfl, rfl, rfl, rfl, rfl, rfl⟩
 rw [he]
 clear he
 refine vsk fun K1 hK1 => ?_
 refine a3q 0 [] ?_
 simp only [bs, ↓vopx, ↓vop, Nat.reduceBEq, a1q, V.cells, h0, h1, h2, wocs, ↓goc, ↓woc, ↓a2q, Tryd.zv62]
 refine hK1 _ _ ?_
 refine vsk fun K2 hK2 => ?_
 suffices key : ∀ (e2 : Env) (s2 : Sg), e2.length = 34 → ev e2 (.tmp 7) = .ptr s.next 0 → ev e2 (.tmp 14) = .ptr (s.next + 1 + 1 + 1) 0 → ev e2 (.tmp 3) = .t (b0q f) → ev e2 (.tmp 4) = .t (b0q g) → ev e2 (.tmp 5) = .t (b0q h) → ev e2 (.tmp 6) = .t (b0q k) → s2.m s.next = some (.box 62 [.loc (s.next + 1 + 1 + 1 + 1 + 1) 0 5, .t (.v (.slice none 0 0))]) → s2.m (s.next + 1 + 1 + 1 + 1 + 1) = some (.arr 2 25 [b7q B.labels, a9q B.pairs, b7q C.labels, a9q C.pairs, b7q E.labels, a9q E.pairs, b7q X.labels, a9q X.pairs, b7q Y.labels, a9q Y.pairs]) → s2.m (s.next + 1 + 1 + 1) = some (.box 62 [.t (.v (.slice none 0 0)), .t (.v (.slice none 0 0))]) → (∀ j, j < s.next → s2.m j = s.m j) → K2 e2 s2 by
  refine n3z Tryd.mixed 6 [2, 5, 6] (.quiet 0 0 (.quiet 1 2 (.quiet 3 2 (.quiet 4 2 (.alt 2 0 (.alt 5 1 (.leaf) (.none)) (.alt 5 1 (.alt 2 0 (.leaf) (.none)) (.none))))))) [] [] 0 (by decide +kernel) (by simp [lpv, hl]) rfl ?_
  simp only [bs, dstT, srcT, Nat.reduceLeDiff, Nat.reduceAdd, d8q, g2q, repl, Sg.frzP, ↓vopx, ↓vop, Nat.reduceBEq, a1q, flat, Nat.reduceLT, V.cells, a7q, a8q, Sg.frzL, Sg.frz1, hl, trn, wocs, ↓goc, ↓woc, ↓a2q, ↓e7q, ↓goq, ↓woq, Tryd.ag25, Tryd.ag59, Tryd.fd62_0, Tryd.sl59, Tryd.sz25, Tryd.sz59, nns, s4a, s4b, Nat.reduceMul, Nat.reduceDiv, Nat.reduceAdd]
  (repeat' (with_reducible refine And.intro ?_ ?_))
  all_goals first | decide | ((repeat' first | exact Keep.refl _ | refine Keep.add ?_ ?_ _ | refine Keep.del ?_ ?_ | refine Keep.set ?_ ?_ _ | exact Nat.le_refl _ | (simp only [c9q, i6q, e4q]; omega)); done) | skip
  all_goals refine key _ _ ?_ ?_ ?_ ?_ ?_ ?_ ?_ ?_ ?_ ?_ fun j hj => ?_
  ·simp only [lpv, hl]
  ·simp only [a0q, a4q, Nat.reduceBEq, hl, Nat.reduceLT]
  ·simp only [a0q, a4q, Nat.reduceBEq, lpv, hl, Nat.reduceLT]
  ·simp only [a4q, Nat.reduceBEq, h3]
  ·simp only [a4q, Nat.reduceBEq, h4]
  ·simp only [a4q, Nat.reduceBEq, h5]
  ·simp only [a4q, Nat.reduceBEq, h6]
  ·simp only [b6q, c5q, e2q, c9q, e4q, nns, if_true, if_false]; try rfl
  ·simp only [b6q, c5q, e2q, c9q, e4q, nns, if_true, if_false]; try rfl
  ·simp only [b6q, c5q, e2q, c9q, e4q, nns, if_true, if_false]; try rfl
  ·have z0 : ¬ j = s.next := (by omega); have z1 : ¬ j = s.next + 1 := (by omega); have z2 : ¬ j = s.next + 1 + 1 := (by omega); have z3 : ¬ j = s.next + 1 + 1 + 1 := (by omega); have z4 : ¬ j = s.next + 1 + 1 + 1 + 1 := (by omega); have z5 : ¬ j = s.next + 1 + 1 + 1 + 1 + 1 := (by omega); simp only [b6q, c5q, e2q, c9q, e4q, z0, z1, z2, z3, z4, z5, if_false]
  ·simp only [lpv, hl]
  ·simp only [a0q, a4q, Nat.reduceBEq, hl, Nat.reduceLT]
  ·simp only [a0q, a4q, Nat.reduceBEq, lpv, hl, Nat.reduceLT]
  ·simp only [a4q, Nat.reduceBEq, h3]
  ·simp only [a4q, Nat.reduceBEq, h4]
  ·simp only [a4q, Nat.reduceBEq, h5]
  ·simp only [a4q, Nat.reduceBEq, h6]
  ·simp only [b6q, c5q, e2q, c9q, e4q, nns, if_true, if_false]; try rfl
  ·simp only [b6q, c5q, e2q, c9q, e4q, nns, if_true, if_false]; try rfl
  ·simp only [b6q, c5q, e2q, c9q, e4q, nns, if_true, if_false]; try rfl
  ·have z0 : ¬ j = s.next := (by omega); have z1 : ¬ j = s.next + 1 := (by omega); have z2 : ¬ j = s.next + 1 + 1 := (by omega); have z3 : ¬ j = s.next + 1 + 1 + 1 := (by omega); have z4 : ¬ j = s.next + 1 + 1 + 1 + 1 := (by omega); have z5 : ¬ j = s.next + 1 + 1 + 1 + 1 + 1 := (by omega); simp only [b6q, c5q, e2q, c9q, e4q, z0, z1, z2, z3, z4, z5, if_false]
 intro e2 s2 hl b7 b14 b3 b4 b5 b6 m62 mar m14 hk2
 refine hK2 _ _ ?_
 refine vsk fun K3 hK3 => ?_
 refine a3q 1 [] ?_
 simp only [bs, Nat.reduceLeDiff, Nat.reduceAdd, d8q, g2q, repl, Sg.frzP, ↓vopx, ↓vop, Nat.reduceBEq, a1q, flat, Nat.reduceLT, V.cells, Sg.frzL, Sg.frz1, hl, b7, b3, b4, b5, b6, wocs, ↓goc, ↓woc, ↓e7q, Tryd.fd62_1, Tryd.sl60, Tryd.st72, Tryd.sz60, nns, m62, s12a, s12b, s12c, s12d, Nat.reduceMul, Nat.reduceAdd]
 refine hK3 _ _ ?_
 refine vsk fun K4 hK4 => ?_
 refine VW.freezeBox s.next 0 (n := s.next + 1 + 1 + 1 + 1 + 1) (len := 5) (k := 2) (el := 25) (ty := 62) (cs := [b7q B.labels, a9q B.pairs, b7q C.labels, a9q C.pairs, b7q E.labels, a9q E.pairs, b7q X.labels, a9q X.pairs, b7q Y.labels, a9q Y.pairs]) (vs := [.loc (s.next + 1 + 1 + 1 + 1 + 1) 0 5, .t (.sl 3 [TI 3, TI 0, b0q f, TI 3, TI 1, b0q g, TI 4, TI 1, b0q h, TI 4, TI 2, b0q k])]) (by rw [b6q, if_pos rfl]) rfl (by rw [b6q, if_neg (by omega)]; exact mar) rfl ?_
 refine a3q 0 [] ?_
 simp only [bs, Nat.reduceAdd, ↓vopx, ↓vop, Nat.reduceBEq, a1q, Nat.reduceLT, V.cells, a7q, a8q, hl, b7, b14, wocs, ↓goc, ↓woc, ↓a2q, Tryd.ag62, Tryd.sz62, nns, m14, List.set_cons_zero]
 refine hK4 _ _ ?_
 refine b3q ?_
 refine hQ _ _ _ (.inr rfl) ?_
 refine s7q (vs := [vDia (stD B C E X Y f g h k)]) ?_ rfl (by simp [pack, nm, nm2, nm1, nm0]) (fun n b hn h => by rw [b6q, if_neg (by omega), b6q, if_neg (by omega), e2q, if_neg (by omega), b6q, if_neg (by omega)]; exact (hk2 n hn).trans h)
 show vres Tryd.prog _ _ [.cell 14 62] = _
 simp only [g7q, h9q, a4q, Nat.reduceBEq, b14, Tryd.sz62, Tryd.ag62, a7q, b6q, a8q, if_true, List.drop_zero, List.take_succ_cons, List.take_zero, List.length_cons, List.length_nil, Nat.zero_add, Nat.reduceAdd]
 rfl
end Go.Proofs

open Go Go.V
namespace Go.Proofs
theorem nns9 : (∀ n : Nat, (n = n + 1 + 1 + 1 + 1 + 1 + 1 + 1 + 1) = False) ∧ (∀ n : Nat, (n = n + 1 + 1 + 1 + 1 + 1 + 1 + 1 + 1 + 1) = False) ∧ (∀ n : Nat, (n = n + 1 + 1 + 1 + 1 + 1 + 1 + 1 + 1 + 1 + 1) = False) ∧ (∀ n : Nat, (n = n + 1 + 1 + 1 + 1 + 1 + 1 + 1 + 1 + 1 + 1 + 1) = False) ∧ (∀ n : Nat, (n + 1 = n + 1 + 1 + 1 + 1 + 1 + 1 + 1 + 1) = False) ∧ (∀ n : Nat, (n + 1 = n + 1 + 1 + 1 + 1 + 1 + 1 + 1 + 1 + 1) = False) ∧ (∀ n : Nat, (n + 1 = n + 1 + 1 + 1 + 1 + 1 + 1 + 1 + 1 + 1 + 1) = False) ∧ (∀ n : Nat, (n + 1 = n + 1 + 1 + 1 + 1 + 1 + 1 + 1 + 1 + 1 + 1 + 1) = False) ∧ (∀ n : Nat, (n + 1 + 1 = n + 1 + 1 + 1 + 1 + 1 + 1 + 1 + 1) = False) ∧ (∀ n : Nat, (n + 1 + 1 = n + 1 + 1 + 1 + 1 + 1 + 1 + 1 + 1 + 1) = False) ∧ (∀ n : Nat, (n + 1 + 1 = n + 1 + 1 + 1 + 1 + 1 + 1 + 1 + 1 + 1 + 1) = False) ∧ (∀ n : Nat, (n + 1 + 1 = n + 1 + 1 + 1 + 1 + 1 + 1 + 1 + 1 + 1 + 1 + 1) = False) ∧ (∀ n : Nat, (n + 1 + 1 + 1 = n + 1 + 1 + 1 + 1 + 1 + 1 + 1 + 1) = False) ∧ (∀ n : Nat, (n + 1 + 1 + 1 = n + 1 + 1 + 1 + 1 + 1 + 1 + 1 + 1 + 1) = False) ∧ (∀ n : Nat, (n + 1 + 1 + 1 = n + 1 + 1 + 1 + 1 + 1 + 1 + 1 + 1 + 1 + 1) = False) ∧ (∀ n : Nat, (n + 1 + 1 + 1 = n + 1 + 1 + 1 + 1 + 1 + 1 + 1 + 1 + 1 + 1 + 1) = False) ∧ (∀ n : Nat, (n + 1 + 1 + 1 + 1 = n + 1 + 1 + 1 + 1 + 1 + 1 + 1 + 1) = False) ∧ (∀ n : Nat, (n + 1 + 1 + 1 + 1 = n + 1 + 1 + 1 + 1 + 1 + 1 + 1 + 1 + 1) = False) ∧ (∀ n : Nat, (n + 1 + 1 + 1 + 1 = n + 1 + 1 + 1 + 1 + 1 + 1 + 1 + 1 + 1 + 1) = False) ∧ (∀ n : Nat, (n + 1 + 1 + 1 + 1 = n + 1 + 1 + 1 + 1 + 1 + 1 + 1 + 1 + 1 + 1 + 1) = False) ∧ (∀ n : Nat, (n + 1 + 1 + 1 + 1 + 1 = n + 1 + 1 + 1 + 1 + 1 + 1 + 1 + 1) = False) ∧ (∀ n : Nat, (n + 1 + 1 + 1 + 1 + 1 = n + 1 + 1 + 1 + 1 + 1 + 1 + 1 + 1 + 1) = False) ∧ (∀ n : Nat, (n + 1 + 1 + 1 + 1 + 1 = n + 1 + 1 + 1 + 1 + 1 + 1 + 1 + 1 + 1 + 1) = False) ∧ (∀ n : Nat, (n + 1 + 1 + 1 + 1 + 1 = n + 1 + 1 + 1 + 1 + 1 + 1 + 1 + 1 + 1 + 1 + 1) = False) ∧ (∀ n : Nat, (n + 1 + 1 + 1 + 1 + 1 + 1 = n + 1 + 1 + 1 + 1 + 1 + 1 + 1 + 1) = False) ∧ (∀ n : Nat, (n + 1 + 1 + 1 + 1 + 1 + 1 = n + 1 + 1 + 1 + 1 + 1 + 1 + 1 + 1 + 1) = False) ∧ (∀ n : Nat, (n + 1 + 1 + 1 + 1 + 1 + 1 = n + 1 + 1 + 1 + 1 + 1 + 1 + 1 + 1 + 1 + 1) = False) ∧ (∀ n : Nat, (n + 1 + 1 + 1 + 1 + 1 + 1 = n + 1 + 1 + 1 + 1 + 1 + 1 + 1 + 1 + 1 + 1 + 1) = False) ∧ (∀ n : Nat, (n + 1 + 1 + 1 + 1 + 1 + 1 + 1 = n + 1 + 1 + 1 + 1 + 1 + 1 + 1 + 1) = False) ∧ (∀ n : Nat, (n + 1 + 1 + 1 + 1 + 1 + 1 + 1 = n + 1 + 1 + 1 + 1 + 1 + 1 + 1 + 1 + 1) = False) ∧ (∀ n : Nat, (n + 1 + 1 + 1 + 1 + 1 + 1 + 1 = n + 1 + 1 + 1 + 1 + 1 + 1 + 1 + 1 + 1 + 1) = False) ∧ (∀ n : Nat, (n + 1 + 1 + 1 + 1 + 1 + 1 + 1 = n + 1 + 1 + 1 + 1 + 1 + 1 + 1 + 1 + 1 + 1 + 1) = False) ∧ (∀ n : Nat, (n + 1 + 1 + 1 + 1 + 1 + 1 + 1 + 1 = n) = False) ∧ (∀ n : Nat, (n + 1 + 1 + 1 + 1 + 1 + 1 + 1 + 1 = n + 1) = False) ∧ (∀ n : Nat, (n + 1 + 1 + 1 + 1 + 1 + 1 + 1 + 1 = n + 1 + 1) = False) ∧ (∀ n : Nat, (n + 1 + 1 + 1 + 1 + 1 + 1 + 1 + 1 = n + 1 + 1 + 1) = False) ∧ (∀ n : Nat, (n + 1 + 1 + 1 + 1 + 1 + 1 + 1 + 1 = n + 1 + 1 + 1 + 1) = False) ∧ (∀ n : Nat, (n + 1 + 1 + 1 + 1 + 1 + 1 + 1 + 1 = n + 1 + 1 + 1 + 1 + 1) = False) ∧ (∀ n : Nat, (n + 1 + 1 + 1 + 1 + 1 + 1 + 1 + 1 = n + 1 + 1 + 1 + 1 + 1 + 1) = False) ∧ (∀ n : Nat, (n + 1 + 1 + 1 + 1 + 1 + 1 + 1 + 1 = n + 1 + 1 + 1 + 1 + 1 + 1 + 1) = False) ∧ (∀ n : Nat, (n + 1 + 1 + 1 + 1 + 1 + 1 + 1 + 1 = n + 1 + 1 + 1 + 1 + 1 + 1 + 1 + 1 + 1) = False) ∧ (∀ n : Nat, (n + 1 + 1 + 1 + 1 + 1 + 1 + 1 + 1 = n + 1 + 1 + 1 + 1 + 1 + 1 + 1 + 1 + 1 + 1) = False) ∧ (∀ n : Nat, (n + 1 + 1 + 1 + 1 + 1 + 1 + 1 + 1 = n + 1 + 1 + 1 + 1 + 1 + 1 + 1 + 1 + 1 + 1 + 1) = False) ∧ (∀ n : Nat, (n + 1 + 1 + 1 + 1 + 1 + 1 + 1 + 1 + 1 = n) = False) ∧ (∀ n : Nat, (n + 1 + 1 + 1 + 1 + 1 + 1 + 1 + 1 + 1 = n + 1) = False) ∧ (∀ n : Nat, (n + 1 + 1 + 1 + 1 + 1 + 1 + 1 + 1 + 1 = n + 1 + 1) = False) ∧ (∀ n : Nat, (n + 1 + 1 + 1 + 1 + 1 + 1 + 1 + 1 + 1 = n + 1 + 1 + 1) = False) ∧ (∀ n : Nat, (n + 1 + 1 + 1 + 1 + 1 + 1 + 1 + 1 + 1 = n + 1 + 1 + 1 + 1) = False) ∧ (∀ n : Nat, (n + 1 + 1 + 1 + 1 + 1 + 1 + 1 + 1 + 1 = n + 1 + 1 + 1 + 1 + 1) = False) ∧ (∀ n : Nat, (n + 1 + 1 + 1 + 1 + 1 + 1 + 1 + 1 + 1 = n + 1 + 1 + 1 + 1 + 1 + 1) = False) ∧ (∀ n : Nat, (n + 1 + 1 + 1 + 1 + 1 + 1 + 1 + 1 + 1 = n + 1 + 1 + 1 + 1 + 1 + 1 + 1) = False) ∧ (∀ n : Nat, (n + 1 + 1 + 1 + 1 + 1 + 1 + 1 + 1 + 1 = n + 1 + 1 + 1 + 1 + 1 + 1 + 1 + 1) = False) ∧ (∀ n : Nat, (n + 1 + 1 + 1 + 1 + 1 + 1 + 1 + 1 + 1 = n + 1 + 1 + 1 + 1 + 1 + 1 + 1 + 1 + 1 + 1) = False) ∧ (∀ n : Nat, (n + 1 + 1 + 1 + 1 + 1 + 1 + 1 + 1 + 1 = n + 1 + 1 + 1 + 1 + 1 + 1 + 1 + 1 + 1 + 1 + 1) = False) ∧ (∀ n : Nat, (n + 1 + 1 + 1 + 1 + 1 + 1 + 1 + 1 + 1 + 1 = n) = False) ∧ (∀ n : Nat, (n + 1 + 1 + 1 + 1 + 1 + 1 + 1 + 1 + 1 + 1 = n + 1) = False) ∧ (∀ n : Nat, (n + 1 + 1 + 1 + 1 + 1 + 1 + 1 + 1 + 1 + 1 = n + 1 + 1) = False) ∧ (∀ n : Nat, (n + 1 + 1 + 1 + 1 + 1 + 1 + 1 + 1 + 1 + 1 = n + 1 + 1 + 1) = False) ∧ (∀ n : Nat, (n + 1 + 1 + 1 + 1 + 1 + 1 + 1 + 1 + 1 + 1 = n + 1 + 1 + 1 + 1) = False) ∧ (∀ n : Nat, (n + 1 + 1 + 1 + 1 + 1 + 1 + 1 + 1 + 1 + 1 = n + 1 + 1 + 1 + 1 + 1) = False) ∧ (∀ n : Nat, (n + 1 + 1 + 1 + 1 + 1 + 1 + 1 + 1 + 1 + 1 = n + 1 + 1 + 1 + 1 + 1 + 1) = False) ∧ (∀ n : Nat, (n + 1 + 1 + 1 + 1 + 1 + 1 + 1 + 1 + 1 + 1 = n + 1 + 1 + 1 + 1 + 1 + 1 + 1) = False) ∧ (∀ n : Nat, (n + 1 + 1 + 1 + 1 + 1 + 1 + 1 + 1 + 1 + 1 = n + 1 + 1 + 1 + 1 + 1 + 1 + 1 + 1) = False) ∧ (∀ n : Nat, (n + 1 + 1 + 1 + 1 + 1 + 1 + 1 + 1 + 1 + 1 = n + 1 + 1 + 1 + 1 + 1 + 1 + 1 + 1 + 1) = False) ∧ (∀ n : Nat, (n + 1 + 1 + 1 + 1 + 1 + 1 + 1 + 1 + 1 + 1 = n + 1 + 1 + 1 + 1 + 1 + 1 + 1 + 1 + 1 + 1 + 1) = False) ∧ (∀ n : Nat, (n + 1 + 1 + 1 + 1 + 1 + 1 + 1 + 1 + 1 + 1 + 1 = n) = False) ∧ (∀ n : Nat, (n + 1 + 1 + 1 + 1 + 1 + 1 + 1 + 1 + 1 + 1 + 1 = n + 1) = False) ∧ (∀ n : Nat, (n + 1 + 1 + 1 + 1 + 1 + 1 + 1 + 1 + 1 + 1 + 1 = n + 1 + 1) = False) ∧ (∀ n : Nat, (n + 1 + 1 + 1 + 1 + 1 + 1 + 1 + 1 + 1 + 1 + 1 = n + 1 + 1 + 1) = False) ∧ (∀ n : Nat, (n + 1 + 1 + 1 + 1 + 1 + 1 + 1 + 1 + 1 + 1 + 1 = n + 1 + 1 + 1 + 1) = False) ∧ (∀ n : Nat, (n + 1 + 1 + 1 + 1 + 1 + 1 + 1 + 1 + 1 + 1 + 1 = n + 1 + 1 + 1 + 1 + 1) = False) ∧ (∀ n : Nat, (n + 1 + 1 + 1 + 1 + 1 + 1 + 1 + 1 + 1 + 1 + 1 = n + 1 + 1 + 1 + 1 + 1 + 1) = False) ∧ (∀ n : Nat, (n + 1 + 1 + 1 + 1 + 1 + 1 + 1 + 1 + 1 + 1 + 1 = n + 1 + 1 + 1 + 1 + 1 + 1 + 1) = False) ∧ (∀ n : Nat, (n + 1 + 1 + 1 + 1 + 1 + 1 + 1 + 1 + 1 + 1 + 1 = n + 1 + 1 + 1 + 1 + 1 + 1 + 1 + 1) = False) ∧ (∀ n : Nat, (n + 1 + 1 + 1 + 1 + 1 + 1 + 1 + 1 + 1 + 1 + 1 = n + 1 + 1 + 1 + 1 + 1 + 1 + 1 + 1 + 1) = False) ∧ (∀ n : Nat, (n + 1 + 1 + 1 + 1 + 1 + 1 + 1 + 1 + 1 + 1 + 1 = n + 1 + 1 + 1 + 1 + 1 + 1 + 1 + 1 + 1 + 1) = False) := by
 refine ⟨?_, ?_, ?_, ?_, ?_, ?_, ?_, ?_, ?_, ?_, ?_, ?_, ?_, ?_, ?_, ?_, ?_, ?_, ?_, ?_, ?_, ?_, ?_, ?_, ?_, ?_, ?_, ?_, ?_, ?_, ?_, ?_, ?_, ?_, ?_, ?_, ?_, ?_, ?_, ?_, ?_, ?_, ?_, ?_, ?_, ?_, ?_, ?_, ?_, ?_, ?_, ?_, ?_, ?_, ?_, ?_, ?_, ?_, ?_, ?_, ?_, ?_, ?_, ?_, ?_, ?_, ?_, ?_, ?_, ?_, ?_, ?_, ?_, ?_, ?_, ?_⟩ <;> intro n <;> simp only [eq_iff_iff, iff_false] <;> omega
theorem st_call {B C E X Y : Ob} {f g h k : List Int} {q : Ob} {L : List (List Int)} {e : Int} (hv : colS (stD B C E X Y f g h k) = (q, L, e)) (hB1 : B.labels.length ≤ 50) (hB2 : B.pairs.length ≤ 200) (hC1 : C.labels.length ≤ 50) (hC2 : C.pairs.length ≤ 200) (hE1 : E.labels.length ≤ 50) (hE2 : E.pairs.length ≤ 200)
 (hX1 : X.labels.length ≤ 1) (hX2 : X.pairs = []) (hY1 : Y.labels.length ≤ 1) (hY2 : Y.pairs = []) (hf : f.length ≤ 1) (hg : g.length ≤ 1) (hh : h.length ≤ 1) (hk : k.length ≤ 1) :
 g3q Tryd.prog 50 [vDia (stD B C E X Y f g h k)] (.tup [vObj q, .t (tMat L), I e]) := by
 have hX3 : X.pairs.length = 0 := by rw [hX2]; rfl
 have hY3 : Y.pairs.length = 0 := by rw [hY2]; rfl
 have mem : ∀ o ∈ (stD B C E X Y f g h k).nodes, o.labels.length ≤ 50 ∧ o.pairs.length ≤ 200 := fun o ho => by
  simp only [List.mem_cons, List.not_mem_nil, or_false] at ho
  rcases ho with rfl | rfl | rfl | rfl | rfl <;> omega
 have := n1x (stD B C E X Y f g h k) ⟨by simp, by simp, fun o ho => by have := mem o ho; omega, fun o ho => by have := mem o ho; omega, fun x hx => by
  simp only [List.mem_cons, List.not_mem_nil, or_false] at hx
  rcases hx with rfl | rfl | rfl | rfl <;> simp only <;> omega⟩ (fun o ho => by have := mem o ho; omega)
 rw [hv] at this
 exact this
theorem nd5' : ((5 : Nat) : Int) = 5 := rfl
set_option maxRecDepth 20000 in
set_option maxHeartbeats 16000000 in
theorem x7z (B C E : Ob) (z1 z2 : Int) (hB1 : B.labels.length ≤ 9223372036854775807) (hB2 : B.pairs.length ≤ 9223372036854775807) (hC1 : C.labels.length ≤ 9223372036854775807) (hC2 : C.pairs.length ≤ 9223372036854775807) (hE1 : E.labels.length ≤ 9223372036854775807) (hE2 : E.pairs.length ≤ 9223372036854775807) (w1 : 0 ≤ z1 ∧ z1 < 256) (w2 : 0 ≤ z2 ∧ z2 < 256) : g3q Tryd.prog 14 [vObj B, vObj C, vObj E, .t (.v (.int .u8 z1)), .t (.v (.int .u8 z2))] (Bo true) := by
 refine b9q Tryd.func14 rfl fun s Q hQ => ?_
 obtain ⟨e, he, hl, h0, h1, h2, h3, h4⟩ : ∃ e : Env, ([vObj B, vObj C, vObj E, .t (.v (.int .u8 z1)), .t (.v (.int .u8 z2))] ++ List.replicate (Tryd.f14.ntmps - ([vObj B, vObj C, vObj E, .t (.v (.int .u8 z1)), .t (.v (.int .u8 z2))] : List V).length) .junk) = e ∧ e.length = 268 ∧ ev e (.tmp 0) = vObj B ∧ ev e (.tmp 1) = vObj C ∧ ev e (.tmp 2) = vObj E ∧ ev e (.tmp 3) = .t (.v (.int .u8 z1)) ∧ ev e (.tmp 4) = .t (.v (.int .u8 z2)) := ⟨_, rfl, rfl, rfl, rfl, rfl, rfl, rfl⟩
 rw [he]
 clear he
 refine vsk fun K1 hK1 => ?_
 refine a3q 0 [] ?_
 simp only [bs, ↓vopx, ↓vop, Nat.reduceBEq, a1q, flat, V.cells, h0, h1, h2, wocs, ↓goc, ↓woc, ↓a2q]
 refine hK1 _ _ ?_
 refine vsk fun K2 hK2 => ?_
 refine vsk fun K3 hK3 => ?_
 refine a3q 0 [.pur (Bo true)] ?_
 simp only [bs, ↓vopx, ↓vop, a1q, Nat.reduceLT, hl, wocs, ↓goc, ↓woc, ↓a2q, ↓c4q, a6q]
 repeat ((with_reducible refine And.intro ?_ ?_); · exact ⟨Tryd.is45, known9_⟩)
 refine hK3 _ _ ?_
 refine vck fun A B hA hB => ?_
 simp only [b5q, a0q, lpv, Nat.reduceLT, true_implies, reduceCtorEq, false_implies, true_and, hl]
 refine hB ?_
 clear hA hB A B
 refine b1q ?_
 refine hK2 _ _ ?_
 refine vsk fun K4 hK4 => ?_
 refine vsk fun K5 hK5 => ?_
 rcases (show fewS B = false ∨ (fewS B = true ∧ (fewS C = false ∨ (fewS C = true ∧ (fewS E = false ∨ (fewS E = true ∧ ((c3q B == 0) = false ∨ ((c3q B == 0) = true ∧ ((c3q C == 0) = false ∨ ((c3q C == 0) = true ∧ ((c3q E == 0) = false ∨ ((c3q E == 0) = true ∧ ((B.labels.length : Int) + C.labels.length + E.labels.length > 40 ∨ ¬ (B.labels.length : Int) + C.labels.length + E.labels.length > 40)))))))))))) by cases (fewS B) <;> cases (fewS C) <;> cases (fewS E) <;> cases ((c3q B == 0)) <;> cases ((c3q C == 0)) <;> cases ((c3q E == 0)) <;> simp <;> omega) with hfB | ⟨hfB, hfC | ⟨hfC, hfE | ⟨hfE, hiB | ⟨hiB, hiC | ⟨hiC, hiE | ⟨hiE, hs | hs⟩⟩⟩⟩⟩⟩
 ·refine a3q 0 [.pur (Bo (fewS B))] ?_
  simp only [bs, Nat.reduceAdd, ↓vopx, ↓vop, Nat.reduceBEq, a1q, flat, Nat.reduceLT, a7q, a8q, gtmp, hl, wocs, ↓goc, ↓woc, ↓a2q, ↓c4q, ↓e8q, a6q, Tryd.ag25, Tryd.sz25, nns, hfB]
  repeat ((with_reducible refine And.intro ?_ ?_); · exact ⟨Tryd.is47, by simpa only [hfB] using r5q B (by omega) (by omega)⟩)
  refine hK5 _ _ ?_
  refine vck fun A B hA hB => ?_
  simp only [b5q, a0q, lpv, Nat.reduceLT, true_implies, reduceCtorEq, false_implies, and_true, hl]
  refine hA ?_
  clear hA hB A B
  refine vsk fun K6 hK6 => ?_
  refine a3q 0 [] ?_
  simp only [bs, ↓vopx, ↓vop, a1q, flat, wocs, ↓goc, ↓woc, ↓a2q]
  refine hK6 _ _ ?_
  refine b3q ?_
  refine hQ _ _ _ (.inr rfl) (b2q ?_ fun n b hn h => by simp [Sg.add, show n ≠ s.next by omega, show n ≠ s.next + 1 by omega, show n ≠ s.next + 1 + 1 by omega, h])
  try simp only [a0q, lpv, hl, Nat.reduceLT]
 ·have bB := m6q hfB
  refine a3q 0 [.pur (Bo (fewS B)), .pur (Bo (fewS C))] ?_
  simp only [bs, Nat.reduceAdd, ↓vopx, ↓vop, Nat.reduceBEq, a1q, flat, Nat.reduceLT, a7q, a8q, gtmp, hl, wocs, ↓goc, ↓woc, ↓a2q, ↓c4q, ↓d1q, ↓e8q, a6q, Tryd.ag25, Tryd.sz25, nns, hfB, hfC]
  repeat ((with_reducible refine And.intro ?_ ?_); · first | exact ⟨Tryd.is47, by simpa only [hfB] using r5q B (by omega) (by omega)⟩ | exact ⟨Tryd.is47, by simpa only [hfC] using r5q C (by omega) (by omega)⟩)
  refine hK5 _ _ ?_
  refine vck fun A B hA hB => ?_
  simp only [b5q, a0q, lpv, Nat.reduceLT, true_implies, reduceCtorEq, false_implies, and_true, hl]
  refine hA ?_
  clear hA hB A B
  refine vsk fun K7 hK7 => ?_
  refine a3q 0 [] ?_
  simp only [bs, ↓vopx, ↓vop, a1q, flat, wocs, ↓goc, ↓woc, ↓a2q]
  refine hK7 _ _ ?_
  refine b3q ?_
  refine hQ _ _ _ (.inr rfl) (b2q ?_ fun n b hn h => by simp [Sg.add, show n ≠ s.next by omega, show n ≠ s.next + 1 by omega, show n ≠ s.next + 1 + 1 by omega, h])
  try simp only [a0q, lpv, hl, Nat.reduceLT]
 ·have bB := m6q hfB
  have bC := m6q hfC
  refine a3q 0 [.pur (Bo (fewS B)), .pur (Bo (fewS C)), .pur (Bo (fewS E))] ?_
  simp only [bs, Nat.reduceAdd, ↓vopx, ↓vop, Nat.reduceBEq, a1q, flat, Nat.reduceLT, a7q, a8q, gtmp, hl, wocs, ↓goc, ↓woc, ↓a2q, ↓c4q, ↓d1q, ↓e8q, a6q, Tryd.ag25, Tryd.sz25, nns, hfB, hfC, hfE]
  repeat ((with_reducible refine And.intro ?_ ?_); · first | exact ⟨Tryd.is47, by simpa only [hfB] using r5q B (by omega) (by omega)⟩ | exact ⟨Tryd.is47, by simpa only [hfC] using r5q C (by omega) (by omega)⟩ | exact ⟨Tryd.is47, by simpa only [hfE] using r5q E (by omega) (by omega)⟩)
  refine hK5 _ _ ?_
  refine vck fun A B hA hB => ?_
  simp only [b5q, a0q, lpv, Nat.reduceLT, true_implies, reduceCtorEq, false_implies, and_true, hl]
  refine hA ?_
  clear hA hB A B
  refine vsk fun K8 hK8 => ?_
  refine a3q 0 [] ?_
  simp only [bs, ↓vopx, ↓vop, a1q, flat, wocs, ↓goc, ↓woc, ↓a2q]
  refine hK8 _ _ ?_
  refine b3q ?_
  refine hQ _ _ _ (.inr rfl) (b2q ?_ fun n b hn h => by simp [Sg.add, show n ≠ s.next by omega, show n ≠ s.next + 1 by omega, show n ≠ s.next + 1 + 1 by omega, h])
  try simp only [a0q, lpv, hl, Nat.reduceLT]
 ·have bB := m6q hfB
  have bC := m6q hfC
  have bE := m6q hfE
  refine a3q 0 [.pur (Bo (fewS B)), .pur (Bo (fewS C)), .pur (Bo (fewS E)), .pur (Bo ((c3q B == 0)))] ?_
  simp only [bs, Nat.reduceAdd, ↓vopx, ↓vop, Nat.reduceBEq, a1q, flat, Nat.reduceLT, a7q, a8q, gtmp, hl, wocs, ↓goc, ↓woc, ↓a2q, ↓c4q, ↓d1q, ↓e8q, a6q, Tryd.ag25, Tryd.sz25, nns, hfB, hfC, hfE, hiB]
  repeat ((with_reducible refine And.intro ?_ ?_); · first | exact ⟨Tryd.is47, by simpa only [hfB] using r5q B (by omega) (by omega)⟩ | exact ⟨Tryd.is47, by simpa only [hfC] using r5q C (by omega) (by omega)⟩ | exact ⟨Tryd.is47, by simpa only [hfE] using r5q E (by omega) (by omega)⟩ | exact ⟨Tryd.is31, by simpa only [hiB] using g9q B (by omega) (by omega)⟩)
  refine hK5 _ _ ?_
  refine vck fun A B hA hB => ?_
  simp only [b5q, a0q, lpv, Nat.reduceLT, true_implies, reduceCtorEq, false_implies, and_true, hl]
  refine hA ?_
  clear hA hB A B
  refine vsk fun K9 hK9 => ?_
  refine a3q 0 [] ?_
  simp only [bs, ↓vopx, ↓vop, a1q, flat, wocs, ↓goc, ↓woc, ↓a2q]
  refine hK9 _ _ ?_
  refine b3q ?_
  refine hQ _ _ _ (.inr rfl) (b2q ?_ fun n b hn h => by simp [Sg.add, show n ≠ s.next by omega, show n ≠ s.next + 1 by omega, show n ≠ s.next + 1 + 1 by omega, h])
  try simp only [a0q, lpv, hl, Nat.reduceLT]
 ·have bB := m6q hfB
  have bC := m6q hfC
  have bE := m6q hfE
  refine a3q 0 [.pur (Bo (fewS B)), .pur (Bo (fewS C)), .pur (Bo (fewS E)), .pur (Bo ((c3q B == 0))), .pur (Bo ((c3q C == 0)))] ?_
  simp only [bs, Nat.reduceAdd, ↓vopx, ↓vop, Nat.reduceBEq, a1q, flat, Nat.reduceLT, a7q, a8q, gtmp, hl, wocs, ↓goc, ↓woc, ↓a2q, ↓c4q, ↓d1q, ↓e8q, a6q, Tryd.ag25, Tryd.sz25, nns, hfB, hfC, hfE, hiB, hiC]
  repeat ((with_reducible refine And.intro ?_ ?_); · first | exact ⟨Tryd.is47, by simpa only [hfB] using r5q B (by omega) (by omega)⟩ | exact ⟨Tryd.is47, by simpa only [hfC] using r5q C (by omega) (by omega)⟩ | exact ⟨Tryd.is47, by simpa only [hfE] using r5q E (by omega) (by omega)⟩ | exact ⟨Tryd.is31, by simpa only [hiB] using g9q B (by omega) (by omega)⟩ | exact ⟨Tryd.is31, by simpa only [hiC] using g9q C (by omega) (by omega)⟩)
  refine hK5 _ _ ?_
  refine vck fun A B hA hB => ?_
  simp only [b5q, a0q, lpv, Nat.reduceLT, true_implies, reduceCtorEq, false_implies, and_true, hl]
  refine hA ?_
  clear hA hB A B
  refine vsk fun K10 hK10 => ?_
  refine a3q 0 [] ?_
  simp only [bs, ↓vopx, ↓vop, a1q, flat, wocs, ↓goc, ↓woc, ↓a2q]
  refine hK10 _ _ ?_
  refine b3q ?_
  refine hQ _ _ _ (.inr rfl) (b2q ?_ fun n b hn h => by simp [Sg.add, show n ≠ s.next by omega, show n ≠ s.next + 1 by omega, show n ≠ s.next + 1 + 1 by omega, h])
  try simp only [a0q, lpv, hl, Nat.reduceLT]
 ·have bB := m6q hfB
  have bC := m6q hfC
  have bE := m6q hfE
  refine a3q 0 [.pur (Bo (fewS B)), .pur (Bo (fewS C)), .pur (Bo (fewS E)), .pur (Bo ((c3q B == 0))), .pur (Bo ((c3q C == 0))), .pur (Bo ((c3q E == 0)))] ?_
  simp only [bs, Nat.reduceAdd, ↓vopx, ↓vop, Nat.reduceBEq, a1q, flat, Nat.reduceLT, a7q, a8q, gtmp, hl, wocs, ↓goc, ↓woc, ↓a2q, ↓c4q, ↓d1q, ↓e8q, a6q, Tryd.ag25, Tryd.sz25, nns, hfB, hfC, hfE, hiB, hiC, hiE]
  repeat ((with_reducible refine And.intro ?_ ?_); · first | exact ⟨Tryd.is47, by simpa only [hfB] using r5q B (by omega) (by omega)⟩ | exact ⟨Tryd.is47, by simpa only [hfC] using r5q C (by omega) (by omega)⟩ | exact ⟨Tryd.is47, by simpa only [hfE] using r5q E (by omega) (by omega)⟩ | exact ⟨Tryd.is31, by simpa only [hiB] using g9q B (by omega) (by omega)⟩ | exact ⟨Tryd.is31, by simpa only [hiC] using g9q C (by omega) (by omega)⟩ | exact ⟨Tryd.is31, by simpa only [hiE] using g9q E (by omega) (by omega)⟩)
  refine hK5 _ _ ?_
  refine vck fun A B hA hB => ?_
  simp only [b5q, a0q, lpv, Nat.reduceLT, true_implies, reduceCtorEq, false_implies, and_true, hl]
  refine hA ?_
  clear hA hB A B
  refine vsk fun K11 hK11 => ?_
  refine a3q 0 [] ?_
  simp only [bs, ↓vopx, ↓vop, a1q, flat, wocs, ↓goc, ↓woc, ↓a2q]
  refine hK11 _ _ ?_
  refine b3q ?_
  refine hQ _ _ _ (.inr rfl) (b2q ?_ fun n b hn h => by simp [Sg.add, show n ≠ s.next by omega, show n ≠ s.next + 1 by omega, show n ≠ s.next + 1 + 1 by omega, h])
  try simp only [a0q, lpv, hl, Nat.reduceLT]
 ·have bB := m6q hfB
  have bC := m6q hfC
  have bE := m6q hfE
  refine a3q 0 [.pur (Bo (fewS B)), .pur (Bo (fewS C)), .pur (Bo (fewS E)), .pur (Bo ((c3q B == 0))), .pur (Bo ((c3q C == 0))), .pur (Bo ((c3q E == 0)))] ?_
  simp only [bs, Nat.reduceAdd, ↓vopx, ↓vop, Nat.reduceBEq, a1q, flat, Nat.reduceLT, a7q, a8q, opII, gtmp, hl, wocs, ↓goc, ↓woc, ↓a2q, ↓c4q, ↓d1q, a6q, Tryd.ag22, Tryd.ag25, Tryd.fd25_0, Tryd.sz22, Tryd.sz25, Tryd.un22, nns, c7q, hfB, hfC, hfE, hiB, hiC, hiE, hs]
  repeat ((with_reducible refine And.intro ?_ ?_); · first | exact ⟨by omega, by omega⟩ | exact ⟨Tryd.is47, by simpa only [hfB] using r5q B (by omega) (by omega)⟩ | exact ⟨Tryd.is47, by simpa only [hfC] using r5q C (by omega) (by omega)⟩ | exact ⟨Tryd.is47, by simpa only [hfE] using r5q E (by omega) (by omega)⟩ | exact ⟨Tryd.is31, by simpa only [hiB] using g9q B (by omega) (by omega)⟩ | exact ⟨Tryd.is31, by simpa only [hiC] using g9q C (by omega) (by omega)⟩ | exact ⟨Tryd.is31, by simpa only [hiE] using g9q E (by omega) (by omega)⟩)
  refine hK5 _ _ ?_
  refine vck fun A B hA hB => ?_
  simp only [b5q, a0q, lpv, Nat.reduceLT, true_implies, reduceCtorEq, false_implies, and_true, hl]
  refine hA ?_
  clear hA hB A B
  refine vsk fun K12 hK12 => ?_
  refine a3q 0 [] ?_
  simp only [bs, ↓vopx, ↓vop, a1q, flat, wocs, ↓goc, ↓woc, ↓a2q]
  refine hK12 _ _ ?_
  refine b3q ?_
  refine hQ _ _ _ (.inr rfl) (b2q ?_ fun n b hn h => by simp [Sg.add, show n ≠ s.next by omega, show n ≠ s.next + 1 by omega, show n ≠ s.next + 1 + 1 by omega, h])
  try simp only [a0q, lpv, hl, Nat.reduceLT]
 ·have bB := m6q hfB
  have bC := m6q hfC
  have bE := m6q hfE
  refine a3q 0 [.pur (Bo (fewS B)), .pur (Bo (fewS C)), .pur (Bo (fewS E)), .pur (Bo ((c3q B == 0))), .pur (Bo ((c3q C == 0))), .pur (Bo ((c3q E == 0)))] ?_
  simp only [bs, Nat.reduceAdd, ↓vopx, ↓vop, Nat.reduceBEq, a1q, flat, Nat.reduceLT, a7q, a8q, opII, gtmp, hl, wocs, ↓goc, ↓woc, ↓a2q, ↓c4q, ↓d1q, a6q, Tryd.ag22, Tryd.ag25, Tryd.fd25_0, Tryd.sz22, Tryd.sz25, Tryd.un22, nns, c7q, hfB, hfC, hfE, hiB, hiC, hiE, hs]
  repeat ((with_reducible refine And.intro ?_ ?_); · first | exact ⟨by omega, by omega⟩ | exact ⟨Tryd.is47, by simpa only [hfB] using r5q B (by omega) (by omega)⟩ | exact ⟨Tryd.is47, by simpa only [hfC] using r5q C (by omega) (by omega)⟩ | exact ⟨Tryd.is47, by simpa only [hfE] using r5q E (by omega) (by omega)⟩ | exact ⟨Tryd.is31, by simpa only [hiB] using g9q B (by omega) (by omega)⟩ | exact ⟨Tryd.is31, by simpa only [hiC] using g9q C (by omega) (by omega)⟩ | exact ⟨Tryd.is31, by simpa only [hiE] using g9q E (by omega) (by omega)⟩)
  refine hK5 _ _ ?_
  refine vck fun A B hA hB => ?_
  simp only [b5q, a0q, lpv, Nat.reduceLT, true_implies, reduceCtorEq, false_implies, true_and, hl]
  refine hB ?_
  clear hA hB A B
  refine b1q ?_
  refine hK4 _ _ ?_
  refine vsk fun K13 hK13 => ?_
  obtain ⟨n1, hn1⟩ : ∃ n1 : Nat, z1 = (n1 : Int) := ⟨z1.toNat, by omega⟩
  obtain ⟨n2, hn2⟩ : ∃ n2 : Nat, z2 = (n2 : Int) := ⟨z2.toNat, by omega⟩
  rw [hn1] at h3
  rw [hn2] at h4
  refine x4q fun eqa hE => ?_
  obtain ⟨hlqa, qa_3, qa_4, qa_5, qa_6, qa_7⟩ : eqa.length = 268 ∧ ev eqa (.tmp 3) = .t (.v (.int .u8 n1)) ∧ ev eqa (.tmp 4) = .t (.v (.int .u8 n2)) ∧ ev eqa (.tmp 5) = .ptr (s.next) 0 ∧ ev eqa (.tmp 6) = .ptr (s.next + 1) 0 ∧ ev eqa (.tmp 7) = .ptr (s.next + 1 + 1) 0 := by
   (repeat' (with_reducible refine And.intro ?_ ?_)) <;> (rw [hE]; simp only [lpv, hl, a4q, Nat.reduceBEq, h3, h4, a0q, Nat.reduceLT])
  clear hE
  refine o2q fun sqa hS => ?_
  obtain ⟨qaB0, qaB1, qaB2, hnqa⟩ : sqa.m (s.next) = some (.box 25 [.t (b7q B.labels), .t (a9q B.pairs)]) ∧ sqa.m (s.next + 1) = some (.box 25 [.t (b7q C.labels), .t (a9q C.pairs)]) ∧ sqa.m (s.next + 1 + 1) = some (.box 25 [.t (b7q E.labels), .t (a9q E.pairs)]) ∧ sqa.next = s.next + 1 + 1 + 1 := by
   (repeat' (with_reducible refine And.intro ?_ ?_)) <;> (rw [hS]; simp only [c5q, c9q, nns, if_true, if_false])
  have hkqa : ∀ j, j < s.next → sqa.m j = s.m j := fun j hj => by have z0 : ¬ j = s.next := (by omega); have z1 : ¬ j = s.next + 1 := (by omega); have z2 : ¬ j = s.next + 1 + 1 := (by omega); rw [hS]; simp only [c5q, c9q, z0, z1, z2, if_false]
  clear hS
  obtain ⟨X, f, g, ok1, hc1⟩ : ∃ X f g ok1, comS B C n1 = (X, f, g, ok1) := ⟨_, _, _, _, rfl⟩
  obtain ⟨Y, h, k, ok2, hc2⟩ : ∃ Y h k ok2, comS C E n2 = (Y, h, k, ok2) := ⟨_, _, _, _, rfl⟩
  obtain ⟨lx1, lx2, lx3, lx4⟩ := n5x B C n1
  obtain ⟨ly1, ly2, ly3, ly4⟩ := n5x C E n2
  rw [hc1] at lx1 lx2 lx3 lx4
  rw [hc2] at ly1 ly2 ly3 ly4
  simp only at lx1 lx2 lx3 lx4 ly1 ly2 ly3 ly4
  have pc1 : g3q Tryd.prog 52 [vObj B, vObj C, I n1] (.tup [vObj X, .t (b0q f), .t (b0q g), Bo ok1]) := by have := n7x B C n1 (by omega) (by omega) (by omega); rw [hc1] at this; exact this
  have pc2 : g3q Tryd.prog 52 [vObj C, vObj E, I n2] (.tup [vObj Y, .t (b0q h), .t (b0q k), Bo ok2]) := by have := n7x C E n2 (by omega) (by omega) (by omega); rw [hc2] at this; exact this
  refine n1z 15 rfl ?_
  refine f4q 0 0 3 12 [] [] (by decide +kernel) (by decide) fun ops' KC hgs hKC => ?_
  simp only [bs, Nat.reduceAdd, ↓vopx, ↓vop, Nat.reduceBEq, a7q, a8q, wocs, ↓goc, ↓woc, ↓a2q, Tryd.ag25, Tryd.sz25, qa_3, qa_5, qa_6, qaB0, qaB1]
  refine hKC _ _ ?_
  clear hgs hKC KC ops'
  refine w1x (i := 3) (m := 11) rfl rfl rfl (a := .int .u8 (n1 : Int)) (v := .int .i64 (n1 : Int)) (by simp only [a0q, lpv, hlqa, Nat.reduceLT]; rfl) (e5x ⟨by omega, by omega⟩) ?_
  change VL _ _ _ (List.range' 4 11) (putv _ (some 87) (I (n1 : Int))) _
  refine f4q 0 4 11 0 [] [.pur (.tup [vObj X, .t (b0q f), .t (b0q g), Bo ok1])] (by decide +kernel) (by decide) fun ops' KC hgs hKC => ?_
  simp only [a0q, a4q, lpv, bs, Nat.reduceAdd, ↓vopx, ↓vop, Nat.reduceBEq, Nat.reduceLT, V.cells, wocs, ↓goc, ↓woc, ↓a2q, ↓c4q, a6q, Tryd.sz25, Tryd.zv25, hlqa, hnqa]
  (repeat' (with_reducible refine And.intro ?_ ?_))
  all_goals first | exact Tryd.is52 | exact pc1 | skip
  refine hKC _ _ ?_
  clear hgs hKC KC ops'
  refine c7z ?_
  try simp only [a1q]
  refine hK13 _ _ ?_
  refine vsk fun K14 hK14 => ?_
  refine x4q fun eqb hE => ?_
  obtain ⟨hlqb, qb_4, qb_5, qb_6, qb_7, qb_11, qb_12, qb_13, qb_14⟩ : eqb.length = 268 ∧ ev eqb (.tmp 4) = .t (.v (.int .u8 n2)) ∧ ev eqb (.tmp 5) = .ptr (s.next) 0 ∧ ev eqb (.tmp 6) = .ptr (s.next + 1) 0 ∧ ev eqb (.tmp 7) = .ptr (s.next + 1 + 1) 0 ∧ ev eqb (.tmp 11) = .ptr (s.next + 1 + 1 + 1) 0 ∧ ev eqb (.tmp 12) = .t (b0q f) ∧ ev eqb (.tmp 13) = .t (b0q g) ∧ ev eqb (.tmp 14) = Bo ok1 := by
   (repeat' (with_reducible refine And.intro ?_ ?_)) <;> (rw [hE]; simp only [lpv, hlqa, a4q, Nat.reduceBEq, qa_4, qa_5, qa_6, qa_7, a0q, Nat.reduceLT])
  clear hE
  refine o2q fun sqb hS => ?_
  obtain ⟨qbB0, qbB1, qbB2, qbB3, hnqb⟩ : sqb.m (s.next) = some (.box 25 [.t (b7q B.labels), .t (a9q B.pairs)]) ∧ sqb.m (s.next + 1) = some (.box 25 [.t (b7q C.labels), .t (a9q C.pairs)]) ∧ sqb.m (s.next + 1 + 1) = some (.box 25 [.t (b7q E.labels), .t (a9q E.pairs)]) ∧ sqb.m (s.next + 1 + 1 + 1) = some (.box 25 [.t (b7q X.labels), .t (a9q X.pairs)]) ∧ sqb.next = s.next + 1 + 1 + 1 + 1 := by
   (repeat' (with_reducible refine And.intro ?_ ?_)) <;> (rw [hS]; simp only [b6q, c5q, nns, if_false, qaB0, hnqa, qaB1, qaB2, if_true, c9q, i6q])
  have hkqb : ∀ j, j < s.next → sqb.m j = s.m j := fun j hj => by have z0 : ¬ j = s.next := (by omega); have z1 : ¬ j = s.next + 1 := (by omega); have z2 : ¬ j = s.next + 1 + 1 := (by omega); have z3 : ¬ j = s.next + 1 + 1 + 1 := (by omega); rw [hS]; simp only [b6q, c5q, hnqa, z3, if_false, hkqa j hj]
  clear hS
  refine n1z 15 rfl ?_
  refine f4q 0 0 3 12 [] [] (by decide +kernel) (by decide) fun ops' KC hgs hKC => ?_
  simp only [bs, Nat.reduceAdd, ↓vopx, ↓vop, Nat.reduceBEq, a7q, a8q, wocs, ↓goc, ↓woc, ↓a2q, Tryd.ag25, Tryd.sz25, qb_4, qb_6, qb_7, qbB1, qbB2]
  refine hKC _ _ ?_
  clear hgs hKC KC ops'
  refine w1x (i := 3) (m := 11) rfl rfl rfl (a := .int .u8 (n2 : Int)) (v := .int .i64 (n2 : Int)) (by simp only [a0q, lpv, hlqb, Nat.reduceLT]; rfl) (e5x ⟨by omega, by omega⟩) ?_
  change VL _ _ _ (List.range' 4 11) (putv _ (some 97) (I (n2 : Int))) _
  refine f4q 0 4 11 0 [] [.pur (.tup [vObj Y, .t (b0q h), .t (b0q k), Bo ok2])] (by decide +kernel) (by decide) fun ops' KC hgs hKC => ?_
  simp only [a0q, a4q, lpv, bs, Nat.reduceAdd, ↓vopx, ↓vop, Nat.reduceBEq, Nat.reduceLT, V.cells, wocs, ↓goc, ↓woc, ↓a2q, ↓c4q, a6q, Tryd.sz25, Tryd.zv25, hlqb, hnqb]
  (repeat' (with_reducible refine And.intro ?_ ?_))
  all_goals first | exact Tryd.is52 | exact pc2 | skip
  refine hKC _ _ ?_
  clear hgs hKC KC ops'
  refine c7z ?_
  try simp only [a1q]
  refine hK14 _ _ ?_
  refine vsk fun K15 hK15 => ?_
  refine vsk fun K16 hK16 => ?_
  refine x4q fun eqc hE => ?_
  obtain ⟨hlqc, qc_5, qc_6, qc_7, qc_11, qc_12, qc_13, qc_14, qc_15, qc_16, qc_17, qc_18⟩ : eqc.length = 268 ∧ ev eqc (.tmp 5) = .ptr (s.next) 0 ∧ ev eqc (.tmp 6) = .ptr (s.next + 1) 0 ∧ ev eqc (.tmp 7) = .ptr (s.next + 1 + 1) 0 ∧ ev eqc (.tmp 11) = .ptr (s.next + 1 + 1 + 1) 0 ∧ ev eqc (.tmp 12) = .t (b0q f) ∧ ev eqc (.tmp 13) = .t (b0q g) ∧ ev eqc (.tmp 14) = Bo ok1 ∧ ev eqc (.tmp 15) = .ptr (s.next + 1 + 1 + 1 + 1) 0 ∧ ev eqc (.tmp 16) = .t (b0q h) ∧ ev eqc (.tmp 17) = .t (b0q k) ∧ ev eqc (.tmp 18) = Bo ok2 := by
   (repeat' (with_reducible refine And.intro ?_ ?_)) <;> (rw [hE]; simp only [lpv, hlqb, a4q, Nat.reduceBEq, qb_5, qb_6, qb_7, qb_11, qb_12, qb_13, qb_14, a0q, Nat.reduceLT])
  clear hE
  refine o2q fun sqc hS => ?_
  obtain ⟨qcB0, qcB1, qcB2, qcB3, qcB4, hnqc⟩ : sqc.m (s.next) = some (.box 25 [.t (b7q B.labels), .t (a9q B.pairs)]) ∧ sqc.m (s.next + 1) = some (.box 25 [.t (b7q C.labels), .t (a9q C.pairs)]) ∧ sqc.m (s.next + 1 + 1) = some (.box 25 [.t (b7q E.labels), .t (a9q E.pairs)]) ∧ sqc.m (s.next + 1 + 1 + 1) = some (.box 25 [.t (b7q X.labels), .t (a9q X.pairs)]) ∧ sqc.m (s.next + 1 + 1 + 1 + 1) = some (.box 25 [.t (b7q Y.labels), .t (a9q Y.pairs)]) ∧ sqc.next = s.next + 1 + 1 + 1 + 1 + 1 := by
   (repeat' (with_reducible refine And.intro ?_ ?_)) <;> (rw [hS]; simp only [b6q, c5q, nns, if_false, qbB0, hnqb, qbB1, qbB2, qbB3, if_true, c9q, i6q])
  have hkqc : ∀ j, j < s.next → sqc.m j = s.m j := fun j hj => by have z0 : ¬ j = s.next := (by omega); have z1 : ¬ j = s.next + 1 := (by omega); have z2 : ¬ j = s.next + 1 + 1 := (by omega); have z3 : ¬ j = s.next + 1 + 1 + 1 := (by omega); have z4 : ¬ j = s.next + 1 + 1 + 1 + 1 := (by omega); rw [hS]; simp only [b6q, c5q, hnqb, z4, if_false, hkqb j hj]
  clear hS
  rcases (show ok1 = false ∨ (ok1 = true ∧ ok2 = false) ∨ (ok1 = true ∧ ok2 = true) by cases ok1 <;> cases ok2 <;> simp) with hk1 | ⟨hk1, hk2⟩ | ⟨hk1, hk2⟩
  ·refine a3q 0 [] ?_
   simp only [bs, ↓vopx, ↓vop, Nat.reduceBEq, a1q, flat, Nat.reduceLT, gtmp, hlqc, qc_14, wocs, ↓goc, ↓woc, ↓a2q, ↓e8q, hk1]
   refine hK16 _ _ ?_
   refine vck fun A B hA hB => ?_
   simp only [b5q, a0q, lpv, Nat.reduceLT, true_implies, reduceCtorEq, false_implies, and_true, hlqc]
   refine hA ?_
   clear hA hB A B
   refine vsk fun K17 hK17 => ?_
   refine a3q 0 [] ?_
   simp only [bs, ↓vopx, ↓vop, a1q, flat, wocs, ↓goc, ↓woc, ↓a2q]
   refine hK17 _ _ ?_
   refine b3q ?_
   refine hQ _ _ _ (.inr rfl) (b2q ?_ fun n b hn h => (hkqc n hn).trans h)
   try simp only [a0q, lpv, hlqc, Nat.reduceLT]
  ·refine a3q 0 [] ?_
   simp only [bs, ↓vopx, ↓vop, Nat.reduceBEq, a1q, flat, Nat.reduceLT, gtmp, hlqc, qc_14, qc_18, wocs, ↓goc, ↓woc, ↓a2q, ↓d1q, hk1, hk2]
   refine hK16 _ _ ?_
   refine vck fun A B hA hB => ?_
   simp only [b5q, a0q, lpv, Nat.reduceLT, true_implies, reduceCtorEq, false_implies, and_true, hlqc]
   refine hA ?_
   clear hA hB A B
   refine vsk fun K18 hK18 => ?_
   refine a3q 0 [] ?_
   simp only [bs, ↓vopx, ↓vop, a1q, flat, wocs, ↓goc, ↓woc, ↓a2q]
   refine hK18 _ _ ?_
   refine b3q ?_
   refine hQ _ _ _ (.inr rfl) (b2q ?_ fun n b hn h => (hkqc n hn).trans h)
   try simp only [a0q, lpv, hlqc, Nat.reduceLT]
  ·refine a3q 0 [] ?_
   simp only [bs, ↓vopx, ↓vop, Nat.reduceBEq, a1q, flat, Nat.reduceLT, gtmp, hlqc, qc_14, qc_18, wocs, ↓goc, ↓woc, ↓a2q, ↓d1q, hk1, hk2]
   refine hK16 _ _ ?_
   refine vck fun A B hA hB => ?_
   simp only [b5q, a0q, lpv, Nat.reduceLT, true_implies, reduceCtorEq, false_implies, true_and, hlqc]
   refine hB ?_
   clear hA hB A B
   refine b1q ?_
   refine hK15 _ _ ?_
   refine vsk fun K19 hK19 => ?_
   rw [hk1] at hc1
   rw [hk2] at hc2
   have hBO := s5q.1 hiB
   have hCO := s5q.1 hiC
   have hEO := s5q.1 hiE
   obtain ⟨hf, hg⟩ := n4x hBO hCO hc1
   obtain ⟨hh, hk⟩ := n4x hCO hEO hc2
   obtain ⟨p, p1, j, o, i, k2, T, a1, e2, R, b1, b2, hP, hO, hL, hR, ⟨Op, Oo, OT, OR⟩, ⟨lj, li⟩, sL, sP, sa, sb, hyes, hno⟩ := e0j hf hg hh hk (by omega)
   have p40 := Op.le
   have o40 := Oo.le
   have pp := f4x Op
   have po := f4x Oo
   have qhj := u4z h j
   have qgi := u4z g i
   have lxp : X.pairs.length = 0 := by rw [lx2]; rfl
   have lyp : Y.pairs.length = 0 := by rw [ly2]; rfl
   refine a3q 0 [.pur (.tup [vObj p, .t (b0q p1), .t (b0q j), I 0])] ?_
   simp only [bs, Nat.reduceAdd, ↓vopx, ↓vop, Nat.reduceBEq, a1q, Nat.reduceLT, V.cells, a7q, a8q, hlqc, qc_5, qc_6, qc_11, qc_12, qc_13, qcB0, qcB1, qcB3, hnqc, wocs, ↓goc, ↓woc, ↓a2q, ↓c4q, a6q, Tryd.ag25, Tryd.sz25, Tryd.zv25]
   repeat ((with_reducible refine And.intro ?_ ?_); · exact ⟨Tryd.is23, by have := i2z X B C f g (by omega) (by omega) (by omega) (by omega) (by omega) (by omega) (by omega) (by omega); rw [hP, j0z] at this; exact this⟩)
   refine hK19 _ _ ?_
   refine vsk fun K20 hK20 => ?_
   refine x4q fun eqd hE => ?_
   obtain ⟨hlqd, qd_5, qd_6, qd_7, qd_11, qd_12, qd_13, qd_15, qd_16, qd_17, qd_19, qd_21, qd_22⟩ : eqd.length = 268 ∧ ev eqd (.tmp 5) = .ptr (s.next) 0 ∧ ev eqd (.tmp 6) = .ptr (s.next + 1) 0 ∧ ev eqd (.tmp 7) = .ptr (s.next + 1 + 1) 0 ∧ ev eqd (.tmp 11) = .ptr (s.next + 1 + 1 + 1) 0 ∧ ev eqd (.tmp 12) = .t (b0q f) ∧ ev eqd (.tmp 13) = .t (b0q g) ∧ ev eqd (.tmp 15) = .ptr (s.next + 1 + 1 + 1 + 1) 0 ∧ ev eqd (.tmp 16) = .t (b0q h) ∧ ev eqd (.tmp 17) = .t (b0q k) ∧ ev eqd (.tmp 19) = .ptr (s.next + 1 + 1 + 1 + 1 + 1) 0 ∧ ev eqd (.tmp 21) = .t (b0q j) ∧ ev eqd (.tmp 22) = I 0 := by
    (repeat' (with_reducible refine And.intro ?_ ?_)) <;> (rw [hE]; simp only [lpv, hlqc, a4q, Nat.reduceBEq, qc_5, qc_6, qc_7, qc_11, qc_12, qc_13, qc_15, qc_16, qc_17, a0q, Nat.reduceLT])
   clear hE
   refine o2q fun sqd hS => ?_
   obtain ⟨qdB0, qdB1, qdB2, qdB3, qdB4, qdB5, hnqd⟩ : sqd.m (s.next) = some (.box 25 [.t (b7q B.labels), .t (a9q B.pairs)]) ∧ sqd.m (s.next + 1) = some (.box 25 [.t (b7q C.labels), .t (a9q C.pairs)]) ∧ sqd.m (s.next + 1 + 1) = some (.box 25 [.t (b7q E.labels), .t (a9q E.pairs)]) ∧ sqd.m (s.next + 1 + 1 + 1) = some (.box 25 [.t (b7q X.labels), .t (a9q X.pairs)]) ∧ sqd.m (s.next + 1 + 1 + 1 + 1) = some (.box 25 [.t (b7q Y.labels), .t (a9q Y.pairs)]) ∧ sqd.m (s.next + 1 + 1 + 1 + 1 + 1) = some (.box 25 [.t (b7q p.labels), .t (a9q p.pairs)]) ∧ sqd.next = s.next + 1 + 1 + 1 + 1 + 1 + 1 := by
    (repeat' (with_reducible refine And.intro ?_ ?_)) <;> (rw [hS]; simp only [b6q, c5q, nns, if_false, qcB0, hnqc, qcB1, qcB2, qcB3, qcB4, if_true, c9q, i6q])
   have hkqd : ∀ j, j < s.next → sqd.m j = s.m j := fun j hj => by have z0 : ¬ j = s.next := (by omega); have z1 : ¬ j = s.next + 1 := (by omega); have z2 : ¬ j = s.next + 1 + 1 := (by omega); have z3 : ¬ j = s.next + 1 + 1 + 1 := (by omega); have z4 : ¬ j = s.next + 1 + 1 + 1 + 1 := (by omega); have z5 : ¬ j = s.next + 1 + 1 + 1 + 1 + 1 := (by omega); rw [hS]; simp only [b6q, c5q, hnqc, z5, if_false, hkqc j hj]
   clear hS
   refine a3q 0 [.pur (.tup [vObj o, .t (b0q i), .t (b0q k2), I 0])] ?_
   simp only [bs, Nat.reduceAdd, ↓vopx, ↓vop, Nat.reduceBEq, a1q, Nat.reduceLT, V.cells, a7q, a8q, hlqd, qd_6, qd_7, qd_15, qd_16, qd_17, qdB1, qdB2, qdB4, hnqd, wocs, ↓goc, ↓woc, ↓a2q, ↓c4q, a6q, Tryd.ag25, Tryd.sz25, Tryd.zv25]
   repeat ((with_reducible refine And.intro ?_ ?_); · exact ⟨Tryd.is23, by have := i2z Y C E h k (by omega) (by omega) (by omega) (by omega) (by omega) (by omega) (by omega) (by omega); rw [hO, j0z] at this; exact this⟩)
   refine hK20 _ _ ?_
   refine vsk fun K21 hK21 => ?_
   refine vsk fun K22 hK22 => ?_
   refine x4q fun eqe hE => ?_
   obtain ⟨hlqe, qe_5, qe_6, qe_7, qe_11, qe_12, qe_13, qe_15, qe_16, qe_17, qe_19, qe_21, qe_22, qe_23, qe_24, qe_26⟩ : eqe.length = 268 ∧ ev eqe (.tmp 5) = .ptr (s.next) 0 ∧ ev eqe (.tmp 6) = .ptr (s.next + 1) 0 ∧ ev eqe (.tmp 7) = .ptr (s.next + 1 + 1) 0 ∧ ev eqe (.tmp 11) = .ptr (s.next + 1 + 1 + 1) 0 ∧ ev eqe (.tmp 12) = .t (b0q f) ∧ ev eqe (.tmp 13) = .t (b0q g) ∧ ev eqe (.tmp 15) = .ptr (s.next + 1 + 1 + 1 + 1) 0 ∧ ev eqe (.tmp 16) = .t (b0q h) ∧ ev eqe (.tmp 17) = .t (b0q k) ∧ ev eqe (.tmp 19) = .ptr (s.next + 1 + 1 + 1 + 1 + 1) 0 ∧ ev eqe (.tmp 21) = .t (b0q j) ∧ ev eqe (.tmp 22) = I 0 ∧ ev eqe (.tmp 23) = .ptr (s.next + 1 + 1 + 1 + 1 + 1 + 1) 0 ∧ ev eqe (.tmp 24) = .t (b0q i) ∧ ev eqe (.tmp 26) = I 0 := by
    (repeat' (with_reducible refine And.intro ?_ ?_)) <;> (rw [hE]; simp only [lpv, hlqd, a4q, Nat.reduceBEq, qd_5, qd_6, qd_7, qd_11, qd_12, qd_13, qd_15, qd_16, qd_17, qd_19, qd_21, qd_22, a0q, Nat.reduceLT])
   clear hE
   refine o2q fun sqe hS => ?_
   obtain ⟨qeB0, qeB1, qeB2, qeB3, qeB4, qeB5, qeB6, hnqe⟩ : sqe.m (s.next) = some (.box 25 [.t (b7q B.labels), .t (a9q B.pairs)]) ∧ sqe.m (s.next + 1) = some (.box 25 [.t (b7q C.labels), .t (a9q C.pairs)]) ∧ sqe.m (s.next + 1 + 1) = some (.box 25 [.t (b7q E.labels), .t (a9q E.pairs)]) ∧ sqe.m (s.next + 1 + 1 + 1) = some (.box 25 [.t (b7q X.labels), .t (a9q X.pairs)]) ∧ sqe.m (s.next + 1 + 1 + 1 + 1) = some (.box 25 [.t (b7q Y.labels), .t (a9q Y.pairs)]) ∧ sqe.m (s.next + 1 + 1 + 1 + 1 + 1) = some (.box 25 [.t (b7q p.labels), .t (a9q p.pairs)]) ∧ sqe.m (s.next + 1 + 1 + 1 + 1 + 1 + 1) = some (.box 25 [.t (b7q o.labels), .t (a9q o.pairs)]) ∧ sqe.next = s.next + 1 + 1 + 1 + 1 + 1 + 1 + 1 := by
    (repeat' (with_reducible refine And.intro ?_ ?_)) <;> (rw [hS]; simp only [b6q, c5q, nns, if_false, qdB0, hnqd, qdB1, qdB2, qdB3, qdB4, qdB5, if_true, c9q, i6q])
   have hkqe : ∀ j, j < s.next → sqe.m j = s.m j := fun j hj => by have z0 : ¬ j = s.next := (by omega); have z1 : ¬ j = s.next + 1 := (by omega); have z2 : ¬ j = s.next + 1 + 1 := (by omega); have z3 : ¬ j = s.next + 1 + 1 + 1 := (by omega); have z4 : ¬ j = s.next + 1 + 1 + 1 + 1 := (by omega); have z5 : ¬ j = s.next + 1 + 1 + 1 + 1 + 1 := (by omega); have z6 : ¬ j = s.next + 1 + 1 + 1 + 1 + 1 + 1 := (by omega); rw [hS]; simp only [b6q, c5q, hnqd, z6, if_false, hkqd j hj]
   clear hS
   refine a3q 0 [] ?_
   simp only [bs, ↓vopx, ↓vop, Nat.reduceBEq, a1q, flat, Nat.reduceLT, opII, gtmp, hlqe, qe_22, qe_26, wocs, ↓goc, ↓woc, ↓a2q, ↓d1q, bne_self_eq_false]
   refine hK22 _ _ ?_
   refine vck fun A B hA hB => ?_
   simp only [b5q, a0q, lpv, Nat.reduceLT, true_implies, reduceCtorEq, false_implies, true_and, hlqe]
   refine hB ?_
   clear hA hB A B
   refine b1q ?_
   refine hK21 _ _ ?_
   refine vsk fun K23 hK23 => ?_
   refine d2q Tryd.mixed 17 [2, 2, 2, 0, 0, 0, 0, 0, 0, 0, 0, 0, 0, 3, 5, 0, 0] [.pur (.t (b0q (thenS h j).1)), .pur (.tup [vObj T, .t (b0q a1), .t (b0q e2), I 0])] [] 0 (by decide +kernel) (by simp [lpv, hlqe]) rfl ?_
   simp only [bs, Nat.reduceAdd, ↓vopx, ↓vop, Nat.reduceBEq, a1q, Nat.reduceLT, V.cells, a7q, a8q, hlqe, qe_7, qe_15, qe_16, qe_17, qe_19, qe_21, qeB2, qeB4, qeB5, hnqe, wocs, ↓goc, ↓woc, ↓a2q, a6q, chn, ↓goq, ↓woq, ↓g1z, List.zip_cons_cons, List.zip_nil_right, Tryd.ag25, Tryd.sz25, Tryd.zv25]
   repeat ((with_reducible refine And.intro ?_ ?_); · first | exact ⟨Tryd.is53, e2x h j (by omega) (by omega)⟩ | exact ⟨Tryd.is23, by have := i2z Y p E (thenS h j).1 k (by omega) (by omega) (by omega) (by omega) (by omega) (by omega) (by omega) (by omega); rw [hL, j0z] at this; exact this⟩ | (repeat' first | exact Keep.refl _ | refine Keep.add ?_ ?_ _ | refine Keep.set ?_ ?_ _ | exact Nat.le_refl _ | (simp only [Sg.add, Sg.set, Sg.del]; omega)))
   refine hK23 _ _ ?_
   refine vsk fun K24 hK24 => ?_
   refine x4q fun eqg hE => ?_
   obtain ⟨hlqg, qg_5, qg_6, qg_7, qg_11, qg_12, qg_13, qg_15, qg_16, qg_17, qg_19, qg_21, qg_23, qg_24, qg_27, qg_28, qg_30⟩ : eqg.length = 268 ∧ ev eqg (.tmp 5) = .ptr (s.next) 0 ∧ ev eqg (.tmp 6) = .ptr (s.next + 1) 0 ∧ ev eqg (.tmp 7) = .ptr (s.next + 1 + 1) 0 ∧ ev eqg (.tmp 11) = .ptr (s.next + 1 + 1 + 1) 0 ∧ ev eqg (.tmp 12) = .t (b0q f) ∧ ev eqg (.tmp 13) = .t (b0q g) ∧ ev eqg (.tmp 15) = .ptr (s.next + 1 + 1 + 1 + 1) 0 ∧ ev eqg (.tmp 16) = .t (b0q h) ∧ ev eqg (.tmp 17) = .t (b0q k) ∧ ev eqg (.tmp 19) = .ptr (s.next + 1 + 1 + 1 + 1 + 1) 0 ∧ ev eqg (.tmp 21) = .t (b0q j) ∧ ev eqg (.tmp 23) = .ptr (s.next + 1 + 1 + 1 + 1 + 1 + 1) 0 ∧ ev eqg (.tmp 24) = .t (b0q i) ∧ ev eqg (.tmp 27) = .ptr (s.next + 1 + 1 + 1 + 1 + 1 + 1 + 1) 0 ∧ ev eqg (.tmp 28) = .t (b0q a1) ∧ ev eqg (.tmp 30) = I 0 := by
    (repeat' (with_reducible refine And.intro ?_ ?_)) <;> (rw [hE]; simp only [lpv, hlqe, a4q, Nat.reduceBEq, qe_5, qe_6, qe_7, qe_11, qe_12, qe_13, qe_15, qe_16, qe_17, qe_19, qe_21, qe_23, qe_24, a0q, Nat.reduceLT])
   clear hE
   refine o2q fun sqg hS => ?_
   obtain ⟨qgB0, qgB1, qgB2, qgB3, qgB4, qgB5, qgB6, qgB7, hnqg⟩ : sqg.m (s.next) = some (.box 25 [.t (b7q B.labels), .t (a9q B.pairs)]) ∧ sqg.m (s.next + 1) = some (.box 25 [.t (b7q C.labels), .t (a9q C.pairs)]) ∧ sqg.m (s.next + 1 + 1) = some (.box 25 [.t (b7q E.labels), .t (a9q E.pairs)]) ∧ sqg.m (s.next + 1 + 1 + 1) = some (.box 25 [.t (b7q X.labels), .t (a9q X.pairs)]) ∧ sqg.m (s.next + 1 + 1 + 1 + 1) = some (.box 25 [.t (b7q Y.labels), .t (a9q Y.pairs)]) ∧ sqg.m (s.next + 1 + 1 + 1 + 1 + 1) = some (.box 25 [.t (b7q p.labels), .t (a9q p.pairs)]) ∧ sqg.m (s.next + 1 + 1 + 1 + 1 + 1 + 1) = some (.box 25 [.t (b7q o.labels), .t (a9q o.pairs)]) ∧ sqg.m (s.next + 1 + 1 + 1 + 1 + 1 + 1 + 1) = some (.box 25 [.t (b7q T.labels), .t (a9q T.pairs)]) ∧ sqg.next = s.next + 1 + 1 + 1 + 1 + 1 + 1 + 1 + 1 := by
    (repeat' (with_reducible refine And.intro ?_ ?_)) <;> (rw [hS]; simp only [b6q, c5q, nns, if_false, qeB0, hnqe, qeB1, qeB2, qeB3, qeB4, qeB5, qeB6, if_true, c9q, i6q])
   have hkqg : ∀ j, j < s.next → sqg.m j = s.m j := fun j hj => by have z0 : ¬ j = s.next := (by omega); have z1 : ¬ j = s.next + 1 := (by omega); have z2 : ¬ j = s.next + 1 + 1 := (by omega); have z3 : ¬ j = s.next + 1 + 1 + 1 := (by omega); have z4 : ¬ j = s.next + 1 + 1 + 1 + 1 := (by omega); have z5 : ¬ j = s.next + 1 + 1 + 1 + 1 + 1 := (by omega); have z6 : ¬ j = s.next + 1 + 1 + 1 + 1 + 1 + 1 := (by omega); have z7 : ¬ j = s.next + 1 + 1 + 1 + 1 + 1 + 1 + 1 := (by omega); rw [hS]; simp only [b6q, c5q, hnqe, z7, if_false, hkqe j hj]
   clear hS
   refine d2q Tryd.mixed 17 [2, 2, 2, 0, 0, 0, 0, 0, 0, 0, 0, 0, 0, 3, 5, 0, 0] [.pur (.t (b0q (thenS g i).1)), .pur (.tup [vObj R, .t (b0q b1), .t (b0q b2), I 0])] [] 0 (by decide +kernel) (by simp [hlqg]) rfl ?_
   simp only [bs, Nat.reduceAdd, ↓vopx, ↓vop, Nat.reduceBEq, a1q, Nat.reduceLT, V.cells, a7q, a8q, hlqg, qg_5, qg_11, qg_12, qg_13, qg_23, qg_24, qgB0, qgB3, qgB6, hnqg, wocs, ↓goc, ↓woc, ↓a2q, a6q, chn, ↓goq, ↓woq, ↓g1z, List.zip_cons_cons, List.zip_nil_right, Tryd.ag25, Tryd.sz25, Tryd.zv25]
   repeat ((with_reducible refine And.intro ?_ ?_); · first | exact ⟨Tryd.is53, e2x g i (by omega) (by omega)⟩ | exact ⟨Tryd.is23, by have := i2z X B o f (thenS g i).1 (by omega) (by omega) (by omega) (by omega) (by omega) (by omega) (by omega) (by omega); rw [hR, j0z] at this; exact this⟩ | (repeat' first | exact Keep.refl _ | refine Keep.add ?_ ?_ _ | refine Keep.set ?_ ?_ _ | exact Nat.le_refl _ | (simp only [Sg.add, Sg.set, Sg.del]; omega)))
   refine hK24 _ _ ?_
   refine vsk fun K25 hK25 => ?_
   refine vsk fun K26 hK26 => ?_
   refine x4q fun eqh hE => ?_
   obtain ⟨hlqh, qh_5, qh_6, qh_7, qh_11, qh_12, qh_13, qh_15, qh_16, qh_17, qh_19, qh_23, qh_27, qh_28, qh_30, qh_31, qh_33, qh_34⟩ : eqh.length = 268 ∧ ev eqh (.tmp 5) = .ptr (s.next) 0 ∧ ev eqh (.tmp 6) = .ptr (s.next + 1) 0 ∧ ev eqh (.tmp 7) = .ptr (s.next + 1 + 1) 0 ∧ ev eqh (.tmp 11) = .ptr (s.next + 1 + 1 + 1) 0 ∧ ev eqh (.tmp 12) = .t (b0q f) ∧ ev eqh (.tmp 13) = .t (b0q g) ∧ ev eqh (.tmp 15) = .ptr (s.next + 1 + 1 + 1 + 1) 0 ∧ ev eqh (.tmp 16) = .t (b0q h) ∧ ev eqh (.tmp 17) = .t (b0q k) ∧ ev eqh (.tmp 19) = .ptr (s.next + 1 + 1 + 1 + 1 + 1) 0 ∧ ev eqh (.tmp 23) = .ptr (s.next + 1 + 1 + 1 + 1 + 1 + 1) 0 ∧ ev eqh (.tmp 27) = .ptr (s.next + 1 + 1 + 1 + 1 + 1 + 1 + 1) 0 ∧ ev eqh (.tmp 28) = .t (b0q a1) ∧ ev eqh (.tmp 30) = I 0 ∧ ev eqh (.tmp 31) = .ptr (s.next + 1 + 1 + 1 + 1 + 1 + 1 + 1 + 1) 0 ∧ ev eqh (.tmp 33) = .t (b0q b2) ∧ ev eqh (.tmp 34) = I 0 := by
    (repeat' (with_reducible refine And.intro ?_ ?_)) <;> (rw [hE]; simp only [lpv, hlqg, a4q, Nat.reduceBEq, qg_5, qg_6, qg_7, qg_11, qg_12, qg_13, qg_15, qg_16, qg_17, qg_19, qg_23, qg_27, qg_28, qg_30, a0q, Nat.reduceLT])
   clear hE
   refine o2q fun sqh hS => ?_
   obtain ⟨qhB0, qhB1, qhB2, qhB3, qhB4, qhB5, qhB6, qhB7, qhB8, hnqh⟩ : sqh.m (s.next) = some (.box 25 [.t (b7q B.labels), .t (a9q B.pairs)]) ∧ sqh.m (s.next + 1) = some (.box 25 [.t (b7q C.labels), .t (a9q C.pairs)]) ∧ sqh.m (s.next + 1 + 1) = some (.box 25 [.t (b7q E.labels), .t (a9q E.pairs)]) ∧ sqh.m (s.next + 1 + 1 + 1) = some (.box 25 [.t (b7q X.labels), .t (a9q X.pairs)]) ∧ sqh.m (s.next + 1 + 1 + 1 + 1) = some (.box 25 [.t (b7q Y.labels), .t (a9q Y.pairs)]) ∧ sqh.m (s.next + 1 + 1 + 1 + 1 + 1) = some (.box 25 [.t (b7q p.labels), .t (a9q p.pairs)]) ∧ sqh.m (s.next + 1 + 1 + 1 + 1 + 1 + 1) = some (.box 25 [.t (b7q o.labels), .t (a9q o.pairs)]) ∧ sqh.m (s.next + 1 + 1 + 1 + 1 + 1 + 1 + 1) = some (.box 25 [.t (b7q T.labels), .t (a9q T.pairs)]) ∧ sqh.m (s.next + 1 + 1 + 1 + 1 + 1 + 1 + 1 + 1) = some (.box 25 [.t (b7q R.labels), .t (a9q R.pairs)]) ∧ sqh.next = s.next + 1 + 1 + 1 + 1 + 1 + 1 + 1 + 1 + 1 := by
    (repeat' (with_reducible refine And.intro ?_ ?_)) <;> (rw [hS]; simp only [b6q, c5q, if_false, qgB0, nns9, hnqg, nns, qgB1, qgB2, qgB3, qgB4, qgB5, qgB6, qgB7, if_true, c9q, i6q])
   have hkqh : ∀ j, j < s.next → sqh.m j = s.m j := fun j hj => by have z0 : ¬ j = s.next := (by omega); have z1 : ¬ j = s.next + 1 := (by omega); have z2 : ¬ j = s.next + 1 + 1 := (by omega); have z3 : ¬ j = s.next + 1 + 1 + 1 := (by omega); have z4 : ¬ j = s.next + 1 + 1 + 1 + 1 := (by omega); have z5 : ¬ j = s.next + 1 + 1 + 1 + 1 + 1 := (by omega); have z6 : ¬ j = s.next + 1 + 1 + 1 + 1 + 1 + 1 := (by omega); have z7 : ¬ j = s.next + 1 + 1 + 1 + 1 + 1 + 1 + 1 := (by omega); have z8 : ¬ j = s.next + 1 + 1 + 1 + 1 + 1 + 1 + 1 + 1 := (by omega); rw [hS]; simp only [b6q, c5q, hnqg, z8, if_false, hkqg j hj]
   clear hS
   refine a3q 0 [] ?_
   simp only [bs, ↓vopx, ↓vop, Nat.reduceBEq, a1q, flat, Nat.reduceLT, opII, gtmp, hlqh, qh_30, qh_34, wocs, ↓goc, ↓woc, ↓a2q, ↓d1q, bne_self_eq_false]
   refine hK26 _ _ ?_
   refine vck fun A B hA hB => ?_
   simp only [b5q, a0q, lpv, Nat.reduceLT, true_implies, reduceCtorEq, false_implies, true_and, hlqh]
   refine hB ?_
   clear hA hB A B
   refine b1q ?_
   refine hK25 _ _ ?_
   refine vsk fun K27 hK27 => ?_
   refine n1z 7 rfl ?_
   refine f4q 1 0 4 3 [] [] (by decide +kernel) (by decide) fun ops' KC hgs hKC => ?_
   simp only [bs, Nat.reduceLeDiff, Nat.reduceAdd, d8q, g2q, repl, Sg.frzP, ↓vopx, ↓vop, Nat.reduceBEq, Nat.reduceLT, V.cells, a7q, a8q, Sg.frzL, Sg.frz1, hlqh, qh_5, qh_6, qh_7, qhB0, qhB1, qhB2, hnqh, wocs, ↓goc, ↓woc, ↓e7q, Tryd.ag25, Tryd.sl59, Tryd.sz25, s6a, s6b, s6c, Nat.reduceMul]
   refine hKC _ _ ?_
   clear hgs hKC KC ops'
   refine n9q fun e17_0 hE => ?_
   obtain ⟨hl17_0, y15, y16, y17, y111, y112, y113, y115, y116, y117, y119, y123, y127, y128, y131, y133, y1_172⟩ : e17_0.length = 268 ∧ ev e17_0 (.tmp 5) = .ptr (s.next) 0 ∧ ev e17_0 (.tmp 6) = .ptr (s.next + 1) 0 ∧ ev e17_0 (.tmp 7) = .ptr (s.next + 1 + 1) 0 ∧ ev e17_0 (.tmp 11) = .ptr (s.next + 1 + 1 + 1) 0 ∧ ev e17_0 (.tmp 12) = .t (b0q f) ∧ ev e17_0 (.tmp 13) = .t (b0q g) ∧ ev e17_0 (.tmp 15) = .ptr (s.next + 1 + 1 + 1 + 1) 0 ∧ ev e17_0 (.tmp 16) = .t (b0q h) ∧ ev e17_0 (.tmp 17) = .t (b0q k) ∧ ev e17_0 (.tmp 19) = .ptr (s.next + 1 + 1 + 1 + 1 + 1) 0 ∧ ev e17_0 (.tmp 23) = .ptr (s.next + 1 + 1 + 1 + 1 + 1 + 1) 0 ∧ ev e17_0 (.tmp 27) = .ptr (s.next + 1 + 1 + 1 + 1 + 1 + 1 + 1) 0 ∧ ev e17_0 (.tmp 28) = .t (b0q a1) ∧ ev e17_0 (.tmp 31) = .ptr (s.next + 1 + 1 + 1 + 1 + 1 + 1 + 1 + 1) 0 ∧ ev e17_0 (.tmp 33) = .t (b0q b2) ∧ ev e17_0 (.tmp 172) = .t (.sl 2 [b7q B.labels, a9q B.pairs, b7q C.labels, a9q C.pairs, b7q E.labels, a9q E.pairs]) := by
    (repeat' (with_reducible refine And.intro ?_ ?_)) <;> (rw [hE]; simp only [lpv, hlqh, a4q, Nat.reduceBEq, qh_5, qh_6, qh_7, qh_11, qh_12, qh_13, qh_15, qh_16, qh_17, qh_19, qh_23, qh_27, qh_28, qh_31, qh_33, a0q, Nat.reduceLT])
   clear hE
   refine f4q 1 4 1 2 [] [] (by decide +kernel) (by decide) fun ops' KC hgs hKC => ?_
   simp only [bs, Nat.reduceLeDiff, Nat.reduceAdd, d8q, g2q, ↓vopx, flat, V.cells, y1_172, wocs, ↓goc, ↓woc, ↓e7q, Tryd.st62]
   refine hKC _ _ ?_
   clear hgs hKC KC ops'
   refine n9q fun e17_1 hE => ?_
   obtain ⟨hl17_1, y25, y26, y27, y211, y212, y213, y215, y216, y217, y219, y223, y227, y228, y231, y233, y2_173⟩ : e17_1.length = 268 ∧ ev e17_1 (.tmp 5) = .ptr (s.next) 0 ∧ ev e17_1 (.tmp 6) = .ptr (s.next + 1) 0 ∧ ev e17_1 (.tmp 7) = .ptr (s.next + 1 + 1) 0 ∧ ev e17_1 (.tmp 11) = .ptr (s.next + 1 + 1 + 1) 0 ∧ ev e17_1 (.tmp 12) = .t (b0q f) ∧ ev e17_1 (.tmp 13) = .t (b0q g) ∧ ev e17_1 (.tmp 15) = .ptr (s.next + 1 + 1 + 1 + 1) 0 ∧ ev e17_1 (.tmp 16) = .t (b0q h) ∧ ev e17_1 (.tmp 17) = .t (b0q k) ∧ ev e17_1 (.tmp 19) = .ptr (s.next + 1 + 1 + 1 + 1 + 1) 0 ∧ ev e17_1 (.tmp 23) = .ptr (s.next + 1 + 1 + 1 + 1 + 1 + 1) 0 ∧ ev e17_1 (.tmp 27) = .ptr (s.next + 1 + 1 + 1 + 1 + 1 + 1 + 1) 0 ∧ ev e17_1 (.tmp 28) = .t (b0q a1) ∧ ev e17_1 (.tmp 31) = .ptr (s.next + 1 + 1 + 1 + 1 + 1 + 1 + 1 + 1) 0 ∧ ev e17_1 (.tmp 33) = .t (b0q b2) ∧ ev e17_1 (.tmp 173) = .agg [.t (.sl 2 [b7q B.labels, a9q B.pairs, b7q C.labels, a9q C.pairs, b7q E.labels, a9q E.pairs]), .t (.v (.slice none 0 0))] := by
    (repeat' (with_reducible refine And.intro ?_ ?_)) <;> (rw [hE]; simp only [lpv, hl17_0, a4q, Nat.reduceBEq, y15, y16, y17, y111, y112, y113, y115, y116, y117, y119, y123, y127, y128, y131, y133, a0q, Nat.reduceLT])
   clear hE
   refine f4q 1 5 2 0 [] [] (by decide +kernel) (by decide) fun ops' KC hgs hKC => ?_
   simp only [bs, Nat.reduceAdd, ↓vopx, ↓vop, Nat.reduceBEq, Nat.reduceLT, V.cells, hl17_1, y2_173, hnqh, wocs, ↓goc, ↓woc, ↓e7q, Tryd.sz62, Tryd.zv62]
   refine hKC _ _ ?_
   clear hgs hKC KC ops'
   refine c7z ?_
   try simp only [a1q]
   refine hK27 _ _ ?_
   refine vsk fun K28 hK28 => ?_
   refine x4q fun eqi hE => ?_
   obtain ⟨hlqi, qi_5, qi_6, qi_7, qi_11, qi_12, qi_13, qi_15, qi_16, qi_17, qi_19, qi_23, qi_27, qi_28, qi_31, qi_33, qi_35⟩ : eqi.length = 268 ∧ ev eqi (.tmp 5) = .ptr (s.next) 0 ∧ ev eqi (.tmp 6) = .ptr (s.next + 1) 0 ∧ ev eqi (.tmp 7) = .ptr (s.next + 1 + 1) 0 ∧ ev eqi (.tmp 11) = .ptr (s.next + 1 + 1 + 1) 0 ∧ ev eqi (.tmp 12) = .t (b0q f) ∧ ev eqi (.tmp 13) = .t (b0q g) ∧ ev eqi (.tmp 15) = .ptr (s.next + 1 + 1 + 1 + 1) 0 ∧ ev eqi (.tmp 16) = .t (b0q h) ∧ ev eqi (.tmp 17) = .t (b0q k) ∧ ev eqi (.tmp 19) = .ptr (s.next + 1 + 1 + 1 + 1 + 1) 0 ∧ ev eqi (.tmp 23) = .ptr (s.next + 1 + 1 + 1 + 1 + 1 + 1) 0 ∧ ev eqi (.tmp 27) = .ptr (s.next + 1 + 1 + 1 + 1 + 1 + 1 + 1) 0 ∧ ev eqi (.tmp 28) = .t (b0q a1) ∧ ev eqi (.tmp 31) = .ptr (s.next + 1 + 1 + 1 + 1 + 1 + 1 + 1 + 1) 0 ∧ ev eqi (.tmp 33) = .t (b0q b2) ∧ ev eqi (.tmp 35) = .ptr (s.next + 1 + 1 + 1 + 1 + 1 + 1 + 1 + 1 + 1) 0 := by
    (repeat' (with_reducible refine And.intro ?_ ?_)) <;> (rw [hE]; simp only [lpv, hl17_1, a4q, Nat.reduceBEq, y25, y26, y27, y211, y212, y213, y215, y216, y217, y219, y223, y227, y228, y231, y233, a0q, Nat.reduceLT])
   clear hE
   refine o2q fun sqi hS => ?_
   obtain ⟨qiB0, qiB1, qiB2, qiB3, qiB4, qiB5, qiB6, qiB7, qiB8, qiB9, hnqi⟩ : sqi.m (s.next) = some (.box 25 [.t (b7q B.labels), .t (a9q B.pairs)]) ∧ sqi.m (s.next + 1) = some (.box 25 [.t (b7q C.labels), .t (a9q C.pairs)]) ∧ sqi.m (s.next + 1 + 1) = some (.box 25 [.t (b7q E.labels), .t (a9q E.pairs)]) ∧ sqi.m (s.next + 1 + 1 + 1) = some (.box 25 [.t (b7q X.labels), .t (a9q X.pairs)]) ∧ sqi.m (s.next + 1 + 1 + 1 + 1) = some (.box 25 [.t (b7q Y.labels), .t (a9q Y.pairs)]) ∧ sqi.m (s.next + 1 + 1 + 1 + 1 + 1) = some (.box 25 [.t (b7q p.labels), .t (a9q p.pairs)]) ∧ sqi.m (s.next + 1 + 1 + 1 + 1 + 1 + 1) = some (.box 25 [.t (b7q o.labels), .t (a9q o.pairs)]) ∧ sqi.m (s.next + 1 + 1 + 1 + 1 + 1 + 1 + 1) = some (.box 25 [.t (b7q T.labels), .t (a9q T.pairs)]) ∧ sqi.m (s.next + 1 + 1 + 1 + 1 + 1 + 1 + 1 + 1) = some (.box 25 [.t (b7q R.labels), .t (a9q R.pairs)]) ∧ sqi.m (s.next + 1 + 1 + 1 + 1 + 1 + 1 + 1 + 1 + 1) = some (.box 62 [.t (.sl 2 [b7q B.labels, a9q B.pairs, b7q C.labels, a9q C.pairs, b7q E.labels, a9q E.pairs]), .t (.v (.slice none 0 0))]) ∧ sqi.next = s.next + 1 + 1 + 1 + 1 + 1 + 1 + 1 + 1 + 1 + 1 := by
    (repeat' (with_reducible refine And.intro ?_ ?_)) <;> (rw [hS]; simp only [b6q, c5q, if_false, qhB0, nns9, hnqh, qhB1, nns, qhB2, qhB3, qhB4, qhB5, qhB6, qhB7, qhB8, if_true, c9q, i6q])
   have hkqi : ∀ j, j < s.next → sqi.m j = s.m j := fun j hj => by have z0 : ¬ j = s.next := (by omega); have z1 : ¬ j = s.next + 1 := (by omega); have z2 : ¬ j = s.next + 1 + 1 := (by omega); have z3 : ¬ j = s.next + 1 + 1 + 1 := (by omega); have z4 : ¬ j = s.next + 1 + 1 + 1 + 1 := (by omega); have z5 : ¬ j = s.next + 1 + 1 + 1 + 1 + 1 := (by omega); have z6 : ¬ j = s.next + 1 + 1 + 1 + 1 + 1 + 1 := (by omega); have z7 : ¬ j = s.next + 1 + 1 + 1 + 1 + 1 + 1 + 1 := (by omega); have z8 : ¬ j = s.next + 1 + 1 + 1 + 1 + 1 + 1 + 1 + 1 := (by omega); have z9 : ¬ j = s.next + 1 + 1 + 1 + 1 + 1 + 1 + 1 + 1 + 1 := (by omega); rw [hS]; simp only [b6q, c5q, hnqh, z9, if_false, hkqh j hj]
   clear hS
   obtain ⟨q, L, ec, hcv⟩ : ∃ q L ec, colS (stD B C E X Y f g h k) = (q, L, ec) := ⟨_, _, _, rfl⟩
   refine a3q 0 [.pur (vDia (stD B C E X Y f g h k)), .pur (.tup [vObj q, .t (tMat L), I ec])] ?_
   simp only [bs, Nat.reduceAdd, ↓vopx, ↓vop, Nat.reduceBEq, a1q, Nat.reduceLT, V.cells, a7q, a8q, hlqi, qi_11, qi_12, qi_13, qi_15, qi_16, qi_17, qi_35, qiB3, qiB4, qiB9, hnqi, wocs, ↓goc, ↓woc, ↓a2q, ↓c4q, a6q, Tryd.ag25, Tryd.ag62, Tryd.sz25, Tryd.sz62, Tryd.zv25]
   repeat ((with_reducible refine And.intro ?_ ?_); · first | exact ⟨Tryd.is54, withs_ B C E X Y f g h k⟩ | exact ⟨Tryd.is50, st_call hcv (by omega) (by omega) (by omega) (by omega) (by omega) (by omega) lx1 lx2 ly1 ly2 lx3 lx4 ly3 ly4⟩)
   refine hK28 _ _ ?_
   refine vsk fun K29 hK29 => ?_
   refine vsk fun K30 hK30 => ?_
   refine x4q fun eqk hE => ?_
   obtain ⟨hlqk, qk_5, qk_6, qk_7, qk_11, qk_12, qk_13, qk_15, qk_16, qk_17, qk_19, qk_23, qk_27, qk_28, qk_31, qk_33, qk_36, qk_37, qk_38⟩ : eqk.length = 268 ∧ ev eqk (.tmp 5) = .ptr (s.next) 0 ∧ ev eqk (.tmp 6) = .ptr (s.next + 1) 0 ∧ ev eqk (.tmp 7) = .ptr (s.next + 1 + 1) 0 ∧ ev eqk (.tmp 11) = .ptr (s.next + 1 + 1 + 1) 0 ∧ ev eqk (.tmp 12) = .t (b0q f) ∧ ev eqk (.tmp 13) = .t (b0q g) ∧ ev eqk (.tmp 15) = .ptr (s.next + 1 + 1 + 1 + 1) 0 ∧ ev eqk (.tmp 16) = .t (b0q h) ∧ ev eqk (.tmp 17) = .t (b0q k) ∧ ev eqk (.tmp 19) = .ptr (s.next + 1 + 1 + 1 + 1 + 1) 0 ∧ ev eqk (.tmp 23) = .ptr (s.next + 1 + 1 + 1 + 1 + 1 + 1) 0 ∧ ev eqk (.tmp 27) = .ptr (s.next + 1 + 1 + 1 + 1 + 1 + 1 + 1) 0 ∧ ev eqk (.tmp 28) = .t (b0q a1) ∧ ev eqk (.tmp 31) = .ptr (s.next + 1 + 1 + 1 + 1 + 1 + 1 + 1 + 1) 0 ∧ ev eqk (.tmp 33) = .t (b0q b2) ∧ ev eqk (.tmp 36) = .ptr (s.next + 1 + 1 + 1 + 1 + 1 + 1 + 1 + 1 + 1 + 1) 0 ∧ ev eqk (.tmp 37) = .t (tMat L) ∧ ev eqk (.tmp 38) = I ec := by
    (repeat' (with_reducible refine And.intro ?_ ?_)) <;> (rw [hE]; simp only [lpv, hlqi, a4q, Nat.reduceBEq, qi_5, qi_6, qi_7, qi_11, qi_12, qi_13, qi_15, qi_16, qi_17, qi_19, qi_23, qi_27, qi_28, qi_31, qi_33, a0q, Nat.reduceLT])
   clear hE
   refine o2q fun sqk hS => ?_
   obtain ⟨qkB0, qkB1, qkB2, qkB3, qkB4, qkB5, qkB6, qkB7, qkB8, qkB9, qkB10, hnqk⟩ : sqk.m (s.next) = some (.box 25 [.t (b7q B.labels), .t (a9q B.pairs)]) ∧ sqk.m (s.next + 1) = some (.box 25 [.t (b7q C.labels), .t (a9q C.pairs)]) ∧ sqk.m (s.next + 1 + 1) = some (.box 25 [.t (b7q E.labels), .t (a9q E.pairs)]) ∧ sqk.m (s.next + 1 + 1 + 1) = some (.box 25 [.t (b7q X.labels), .t (a9q X.pairs)]) ∧ sqk.m (s.next + 1 + 1 + 1 + 1) = some (.box 25 [.t (b7q Y.labels), .t (a9q Y.pairs)]) ∧ sqk.m (s.next + 1 + 1 + 1 + 1 + 1) = some (.box 25 [.t (b7q p.labels), .t (a9q p.pairs)]) ∧ sqk.m (s.next + 1 + 1 + 1 + 1 + 1 + 1) = some (.box 25 [.t (b7q o.labels), .t (a9q o.pairs)]) ∧ sqk.m (s.next + 1 + 1 + 1 + 1 + 1 + 1 + 1) = some (.box 25 [.t (b7q T.labels), .t (a9q T.pairs)]) ∧ sqk.m (s.next + 1 + 1 + 1 + 1 + 1 + 1 + 1 + 1) = some (.box 25 [.t (b7q R.labels), .t (a9q R.pairs)]) ∧ sqk.m (s.next + 1 + 1 + 1 + 1 + 1 + 1 + 1 + 1 + 1) = some (.box 62 [.t (.sl 2 [b7q B.labels, a9q B.pairs, b7q C.labels, a9q C.pairs, b7q E.labels, a9q E.pairs]), .t (.v (.slice none 0 0))]) ∧ sqk.m (s.next + 1 + 1 + 1 + 1 + 1 + 1 + 1 + 1 + 1 + 1) = some (.box 25 [.t (b7q q.labels), .t (a9q q.pairs)]) ∧ sqk.next = s.next + 1 + 1 + 1 + 1 + 1 + 1 + 1 + 1 + 1 + 1 + 1 := by
    (repeat' (with_reducible refine And.intro ?_ ?_)) <;> (rw [hS]; simp only [b6q, c5q, if_false, qiB0, nns9, hnqi, qiB1, qiB2, nns, qiB3, qiB4, qiB5, qiB6, qiB7, qiB8, qiB9, if_true, c9q, i6q])
   have hkqk : ∀ j, j < s.next → sqk.m j = s.m j := fun j hj => by have z0 : ¬ j = s.next := (by omega); have z1 : ¬ j = s.next + 1 := (by omega); have z2 : ¬ j = s.next + 1 + 1 := (by omega); have z3 : ¬ j = s.next + 1 + 1 + 1 := (by omega); have z4 : ¬ j = s.next + 1 + 1 + 1 + 1 := (by omega); have z5 : ¬ j = s.next + 1 + 1 + 1 + 1 + 1 := (by omega); have z6 : ¬ j = s.next + 1 + 1 + 1 + 1 + 1 + 1 := (by omega); have z7 : ¬ j = s.next + 1 + 1 + 1 + 1 + 1 + 1 + 1 := (by omega); have z8 : ¬ j = s.next + 1 + 1 + 1 + 1 + 1 + 1 + 1 + 1 := (by omega); have z9 : ¬ j = s.next + 1 + 1 + 1 + 1 + 1 + 1 + 1 + 1 + 1 := (by omega); have z10 : ¬ j = s.next + 1 + 1 + 1 + 1 + 1 + 1 + 1 + 1 + 1 + 1 := (by omega); rw [hS]; simp only [b6q, c5q, hnqi, z10, if_false, hkqi j hj]
   clear hS
   rcases (show ((X.labels.length : Int) + Y.labels.length + B.labels.length + C.labels.length + E.labels.length > 40) ∨ ¬ ((X.labels.length : Int) + Y.labels.length + B.labels.length + C.labels.length + E.labels.length > 40) by omega) with h40 | h40
   ·have hce : ec = 11 := by have := hno (by omega); rw [hcv] at this; exact congrArg (fun r => r.2.2) this
    refine a3q 0 [] ?_
    simp only [bs, ↓vopx, ↓vop, Nat.reduceBEq, a1q, flat, Nat.reduceLT, a7q, a8q, opII, hlqk, qk_5, qk_6, qk_7, qk_11, qk_15, qkB0, qkB1, qkB2, qkB3, qkB4, wocs, ↓goc, ↓woc, ↓a2q, Tryd.ag22, Tryd.fd25_0, Tryd.sz22, Tryd.un22, nns, c7q, h40]
    repeat ((with_reducible refine And.intro ?_ ?_); · exact ⟨by omega, by omega⟩)
    refine hK30 _ _ ?_
    refine vck fun A B hA hB => ?_
    simp only [b5q, a0q, lpv, Nat.reduceLT, true_implies, reduceCtorEq, false_implies, and_true, hlqk]
    refine hA ?_
    clear hA hB A B
    refine vsk fun K31 hK31 => ?_
    refine a3q 0 [] ?_
    simp only [bs, ↓vopx, ↓vop, Nat.reduceBEq, a1q, flat, Nat.reduceLT, opII, hlqk, qk_38, wocs, ↓goc, ↓woc, ↓a2q, hce, beq_self_eq_true]
    refine hK31 _ _ ?_
    refine b3q ?_
    refine hQ _ _ _ (.inr rfl) (b2q ?_ fun n b hn h => (hkqk n hn).trans h)
    try simp only [a0q, lpv, hlqk, Nat.reduceLT]
   ·obtain ⟨q0, L0, hcw, sL5, sq1, sq2, Oq⟩ := hyes (by omega)
    have hce : q = q0 ∧ L = L0 ∧ ec = 0 := by rw [hcv] at hcw; simpa only [Prod.mk.injEq] using hcw
    obtain ⟨rfl, rfl, rfl⟩ := hce
    rw [sL] at sq1
    rw [sP] at sq2
    refine a3q 0 [] ?_
    simp only [bs, ↓vopx, ↓vop, Nat.reduceBEq, a1q, flat, Nat.reduceLT, a7q, a8q, opII, hlqk, qk_5, qk_6, qk_7, qk_11, qk_15, qkB0, qkB1, qkB2, qkB3, qkB4, wocs, ↓goc, ↓woc, ↓a2q, Tryd.ag22, Tryd.fd25_0, Tryd.sz22, Tryd.un22, nns, c7q, h40]
    repeat ((with_reducible refine And.intro ?_ ?_); · exact ⟨by omega, by omega⟩)
    refine hK30 _ _ ?_
    refine vck fun A B hA hB => ?_
    simp only [b5q, a0q, lpv, Nat.reduceLT, true_implies, reduceCtorEq, false_implies, true_and, hlqk]
    refine hB ?_
    clear hA hB A B
    refine b1q ?_
    refine hK29 _ _ ?_
    refine vsk fun K32 hK32 => ?_
    refine n1z 60 rfl ?_
    refine f4q 0 0 8 52 [(2, 211)] [] (by decide +kernel) (by decide) fun ops' KC hgs hKC => ?_
    have g2_ : gtmp ops' 2 = some 211 := hgs (2, 211) (by simp)
    simp only [bs, ↓vopx, ↓vop, Nat.reduceBEq, flat, Nat.reduceLT, opII, hlqk, qk_37, qk_38, g2_, wocs, ↓goc, ↓woc, ↓a2q, ↓g1q, y1q, Tryd.underlying63, sL5, nd5', beq_self_eq_true]
    refine hKC _ _ ?_
    clear g2_
    clear hgs hKC KC ops'
    refine n9q fun e21_0 hE => ?_
    obtain ⟨hl21_0, v1_27, v1_28, v1_31, v1_33, v1_19, v1_23, v1_36, v1_37, v1_38, v1_g⟩ : e21_0.length = 268 ∧ ev e21_0 (.tmp 27) = .ptr (s.next + 1 + 1 + 1 + 1 + 1 + 1 + 1) 0 ∧ ev e21_0 (.tmp 28) = .t (b0q a1) ∧ ev e21_0 (.tmp 31) = .ptr (s.next + 1 + 1 + 1 + 1 + 1 + 1 + 1 + 1) 0 ∧ ev e21_0 (.tmp 33) = .t (b0q b2) ∧ ev e21_0 (.tmp 19) = .ptr (s.next + 1 + 1 + 1 + 1 + 1) 0 ∧ ev e21_0 (.tmp 23) = .ptr (s.next + 1 + 1 + 1 + 1 + 1 + 1) 0 ∧ ev e21_0 (.tmp 36) = .ptr (s.next + 1 + 1 + 1 + 1 + 1 + 1 + 1 + 1 + 1 + 1) 0 ∧ ev e21_0 (.tmp 37) = .t (tMat L) ∧ ev e21_0 (.tmp 38) = I 0 ∧ ev e21_0 (.tmp 216) = Bo true := by
     (repeat' (with_reducible refine And.intro ?_ ?_)) <;> (rw [hE]; simp only [lpv, hlqk, a4q, Nat.reduceBEq, qk_27, qk_28, qk_31, qk_33, qk_19, qk_23, qk_36, qk_37, qk_38, a0q, Nat.reduceLT])
    clear hE
    refine f4q 0 8 9 43 [(7, 216)] [] (by decide +kernel) (by decide) fun ops' KC hgs hKC => ?_
    have g7_ : gtmp ops' 7 = some 216 := hgs (7, 216) (by simp)
    simp only [bs, ↓vopx, ↓vop, Nat.reduceBEq, flat, Nat.reduceLT, a7q, a8q, opII, hl21_0, v1_27, v1_36, v1_g, qkB7, qkB10, g7_, wocs, ↓goc, ↓woc, ↓a2q, ↓g1q, Tryd.ag22, Tryd.fd25_0, Tryd.sz22, Tryd.un22, nns, c7q, sL, sq1, beq_self_eq_true]
    refine hKC _ _ ?_
    clear g7_
    clear hgs hKC KC ops'
    refine n9q fun e21_1 hE => ?_
    obtain ⟨hl21_1, v2_27, v2_28, v2_31, v2_33, v2_19, v2_23, v2_36, v2_37, v2_38, v2_g⟩ : e21_1.length = 268 ∧ ev e21_1 (.tmp 27) = .ptr (s.next + 1 + 1 + 1 + 1 + 1 + 1 + 1) 0 ∧ ev e21_1 (.tmp 28) = .t (b0q a1) ∧ ev e21_1 (.tmp 31) = .ptr (s.next + 1 + 1 + 1 + 1 + 1 + 1 + 1 + 1) 0 ∧ ev e21_1 (.tmp 33) = .t (b0q b2) ∧ ev e21_1 (.tmp 19) = .ptr (s.next + 1 + 1 + 1 + 1 + 1) 0 ∧ ev e21_1 (.tmp 23) = .ptr (s.next + 1 + 1 + 1 + 1 + 1 + 1) 0 ∧ ev e21_1 (.tmp 36) = .ptr (s.next + 1 + 1 + 1 + 1 + 1 + 1 + 1 + 1 + 1 + 1) 0 ∧ ev e21_1 (.tmp 37) = .t (tMat L) ∧ ev e21_1 (.tmp 38) = I 0 ∧ ev e21_1 (.tmp 225) = Bo true := by
     (repeat' (with_reducible refine And.intro ?_ ?_)) <;> (rw [hE]; simp only [lpv, hl21_0, a4q, Nat.reduceBEq, v1_27, v1_28, v1_31, v1_33, v1_19, v1_23, v1_36, v1_37, v1_38, a0q, Nat.reduceLT])
    clear hE
    refine f4q 0 17 9 34 [(16, 225)] [] (by decide +kernel) (by decide) fun ops' KC hgs hKC => ?_
    have g16_ : gtmp ops' 16 = some 225 := hgs (16, 225) (by simp)
    simp only [bs, ↓vopx, ↓vop, Nat.reduceBEq, flat, Nat.reduceLT, a7q, a8q, opII, hl21_1, v2_27, v2_31, v2_g, qkB7, qkB8, g16_, wocs, ↓goc, ↓woc, ↓a2q, ↓g1q, Tryd.ag22, Tryd.fd25_0, Tryd.sz22, Tryd.un22, nns, c7q, sL, beq_self_eq_true]
    refine hKC _ _ ?_
    clear g16_
    clear hgs hKC KC ops'
    refine n9q fun e21_2 hE => ?_
    obtain ⟨hl21_2, v3_27, v3_28, v3_31, v3_33, v3_19, v3_23, v3_36, v3_37, v3_38, v3_g⟩ : e21_2.length = 268 ∧ ev e21_2 (.tmp 27) = .ptr (s.next + 1 + 1 + 1 + 1 + 1 + 1 + 1) 0 ∧ ev e21_2 (.tmp 28) = .t (b0q a1) ∧ ev e21_2 (.tmp 31) = .ptr (s.next + 1 + 1 + 1 + 1 + 1 + 1 + 1 + 1) 0 ∧ ev e21_2 (.tmp 33) = .t (b0q b2) ∧ ev e21_2 (.tmp 19) = .ptr (s.next + 1 + 1 + 1 + 1 + 1) 0 ∧ ev e21_2 (.tmp 23) = .ptr (s.next + 1 + 1 + 1 + 1 + 1 + 1) 0 ∧ ev e21_2 (.tmp 36) = .ptr (s.next + 1 + 1 + 1 + 1 + 1 + 1 + 1 + 1 + 1 + 1) 0 ∧ ev e21_2 (.tmp 37) = .t (tMat L) ∧ ev e21_2 (.tmp 38) = I 0 ∧ ev e21_2 (.tmp 234) = Bo true := by
     (repeat' (with_reducible refine And.intro ?_ ?_)) <;> (rw [hE]; simp only [lpv, hl21_1, a4q, Nat.reduceBEq, v2_27, v2_28, v2_31, v2_33, v2_19, v2_23, v2_36, v2_37, v2_38, a0q, Nat.reduceLT])
    clear hE
    refine f4q 0 26 8 26 [(25, 234)] [] (by decide +kernel) (by decide) fun ops' KC hgs hKC => ?_
    have g25_ : gtmp ops' 25 = some 234 := hgs (25, 234) (by simp)
    simp only [bs, ↓vopx, ↓vop, Nat.reduceBEq, flat, Nat.reduceLT, a7q, a8q, opII, hl21_2, v3_28, v3_19, v3_g, qkB5, g25_, wocs, ↓goc, ↓woc, ↓a2q, ↓g1q, Tryd.ag22, Tryd.fd25_0, Tryd.sz22, Tryd.un22, nns, f1q, c7q, Tryd.underlying26, sa, beq_self_eq_true]
    refine hKC _ _ ?_
    clear g25_
    clear hgs hKC KC ops'
    refine n9q fun e21_3 hE => ?_
    obtain ⟨hl21_3, v4_27, v4_28, v4_31, v4_33, v4_19, v4_23, v4_36, v4_37, v4_38, v4_g⟩ : e21_3.length = 268 ∧ ev e21_3 (.tmp 27) = .ptr (s.next + 1 + 1 + 1 + 1 + 1 + 1 + 1) 0 ∧ ev e21_3 (.tmp 28) = .t (b0q a1) ∧ ev e21_3 (.tmp 31) = .ptr (s.next + 1 + 1 + 1 + 1 + 1 + 1 + 1 + 1) 0 ∧ ev e21_3 (.tmp 33) = .t (b0q b2) ∧ ev e21_3 (.tmp 19) = .ptr (s.next + 1 + 1 + 1 + 1 + 1) 0 ∧ ev e21_3 (.tmp 23) = .ptr (s.next + 1 + 1 + 1 + 1 + 1 + 1) 0 ∧ ev e21_3 (.tmp 36) = .ptr (s.next + 1 + 1 + 1 + 1 + 1 + 1 + 1 + 1 + 1 + 1) 0 ∧ ev e21_3 (.tmp 37) = .t (tMat L) ∧ ev e21_3 (.tmp 38) = I 0 ∧ ev e21_3 (.tmp 242) = Bo true := by
     (repeat' (with_reducible refine And.intro ?_ ?_)) <;> (rw [hE]; simp only [lpv, hl21_2, a4q, Nat.reduceBEq, v3_27, v3_28, v3_31, v3_33, v3_19, v3_23, v3_36, v3_37, v3_38, a0q, Nat.reduceLT])
    clear hE
    refine f4q 0 34 8 18 [(33, 242)] [] (by decide +kernel) (by decide) fun ops' KC hgs hKC => ?_
    have g33_ : gtmp ops' 33 = some 242 := hgs (33, 242) (by simp)
    simp only [bs, ↓vopx, ↓vop, Nat.reduceBEq, flat, Nat.reduceLT, a7q, a8q, opII, hl21_3, v4_33, v4_23, v4_g, qkB6, g33_, wocs, ↓goc, ↓woc, ↓a2q, ↓g1q, Tryd.ag22, Tryd.fd25_0, Tryd.sz22, Tryd.un22, nns, f1q, c7q, Tryd.underlying26, sb, beq_self_eq_true]
    refine hKC _ _ ?_
    clear g33_
    clear hgs hKC KC ops'
    refine n9q fun e21_4 hE => ?_
    obtain ⟨hl21_4, v5_27, v5_28, v5_31, v5_33, v5_19, v5_23, v5_36, v5_37, v5_38, v5_g⟩ : e21_4.length = 268 ∧ ev e21_4 (.tmp 27) = .ptr (s.next + 1 + 1 + 1 + 1 + 1 + 1 + 1) 0 ∧ ev e21_4 (.tmp 28) = .t (b0q a1) ∧ ev e21_4 (.tmp 31) = .ptr (s.next + 1 + 1 + 1 + 1 + 1 + 1 + 1 + 1) 0 ∧ ev e21_4 (.tmp 33) = .t (b0q b2) ∧ ev e21_4 (.tmp 19) = .ptr (s.next + 1 + 1 + 1 + 1 + 1) 0 ∧ ev e21_4 (.tmp 23) = .ptr (s.next + 1 + 1 + 1 + 1 + 1 + 1) 0 ∧ ev e21_4 (.tmp 36) = .ptr (s.next + 1 + 1 + 1 + 1 + 1 + 1 + 1 + 1 + 1 + 1) 0 ∧ ev e21_4 (.tmp 37) = .t (tMat L) ∧ ev e21_4 (.tmp 38) = I 0 ∧ ev e21_4 (.tmp 250) = Bo true := by
     (repeat' (with_reducible refine And.intro ?_ ?_)) <;> (rw [hE]; simp only [lpv, hl21_3, a4q, Nat.reduceBEq, v4_27, v4_28, v4_31, v4_33, v4_19, v4_23, v4_36, v4_37, v4_38, a0q, Nat.reduceLT])
    clear hE
    refine f4q 0 42 9 9 [(41, 250)] [] (by decide +kernel) (by decide) fun ops' KC hgs hKC => ?_
    have g41_ : gtmp ops' 41 = some 250 := hgs (41, 250) (by simp)
    simp only [bs, ↓vopx, ↓vop, Nat.reduceBEq, flat, Nat.reduceLT, a7q, a8q, opII, hl21_4, v5_27, v5_36, v5_g, qkB7, qkB10, g41_, wocs, ↓goc, ↓woc, ↓a2q, ↓g1q, Tryd.ag23, Tryd.fd25_1, Tryd.sz23, Tryd.un23, nns, g8q, sP, sq2, beq_self_eq_true]
    refine hKC _ _ ?_
    clear g41_
    clear hgs hKC KC ops'
    refine n9q fun e21_5 hE => ?_
    obtain ⟨hl21_5, v6_27, v6_28, v6_31, v6_33, v6_19, v6_23, v6_36, v6_37, v6_38, v6_g⟩ : e21_5.length = 268 ∧ ev e21_5 (.tmp 27) = .ptr (s.next + 1 + 1 + 1 + 1 + 1 + 1 + 1) 0 ∧ ev e21_5 (.tmp 28) = .t (b0q a1) ∧ ev e21_5 (.tmp 31) = .ptr (s.next + 1 + 1 + 1 + 1 + 1 + 1 + 1 + 1) 0 ∧ ev e21_5 (.tmp 33) = .t (b0q b2) ∧ ev e21_5 (.tmp 19) = .ptr (s.next + 1 + 1 + 1 + 1 + 1) 0 ∧ ev e21_5 (.tmp 23) = .ptr (s.next + 1 + 1 + 1 + 1 + 1 + 1) 0 ∧ ev e21_5 (.tmp 36) = .ptr (s.next + 1 + 1 + 1 + 1 + 1 + 1 + 1 + 1 + 1 + 1) 0 ∧ ev e21_5 (.tmp 37) = .t (tMat L) ∧ ev e21_5 (.tmp 38) = I 0 ∧ ev e21_5 (.tmp 259) = Bo true := by
     (repeat' (with_reducible refine And.intro ?_ ?_)) <;> (rw [hE]; simp only [lpv, hl21_4, a4q, Nat.reduceBEq, v5_27, v5_28, v5_31, v5_33, v5_19, v5_23, v5_36, v5_37, v5_38, a0q, Nat.reduceLT])
    clear hE
    refine f4q 0 51 9 0 [(50, 259)] [] (by decide +kernel) (by decide) fun ops' KC hgs hKC => ?_
    have g50_ : gtmp ops' 50 = some 259 := hgs (50, 259) (by simp)
    simp only [bs, ↓vopx, ↓vop, Nat.reduceBEq, flat, Nat.reduceLT, a7q, a8q, opII, hl21_5, v6_31, v6_36, v6_g, qkB8, qkB10, g50_, wocs, ↓goc, ↓woc, ↓a2q, ↓g1q, Tryd.ag23, Tryd.fd25_1, Tryd.sz23, Tryd.un23, nns, g8q, sq2, beq_self_eq_true]
    refine hKC _ _ ?_
    clear g50_
    clear hgs hKC KC ops'
    refine c7z ?_
    try simp only [a1q]
    refine hK32 _ _ ?_
    refine b3q ?_
    refine hQ _ _ _ (.inr rfl) (b2q ?_ fun n b hn h => (hkqk n hn).trans h)
    try simp only [a0q, lpv, hl21_5, Nat.reduceLT]
end Go.Proofs
