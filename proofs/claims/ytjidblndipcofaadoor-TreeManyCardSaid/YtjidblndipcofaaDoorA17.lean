/- Lemmas on the way to the statement of this claim; no conditions. -/
import Derived.Test.YtjidblndipcofaaDoorA16
namespace Go.V
open Go Go.RowKit
def aft (o : Oper) : List Nat := (o.after.toList.filter (Region.binds .any)).map (·.on)
def aftAt (ops : Array Oper) (i : Nat) : List Nat := match ops[i]? with | some o => aft o | none => []
def dstAt (ops : Array Oper) (i : Nat) : Option Nat := match ops[i]? with | some o => o.dst | none => none
def looksAtI (ops : Array Oper) (i : Nat) : List Nat := match ops[i]? with | some o => o.looksAt ops | none => []
def anc (A : List (List Nat)) (i : Nat) : List Nat := A.getD i []
def cloT (ops : Array Oper) : List (List Nat) := (List.range ops.size).foldl (fun acc i => acc ++ [(List.range i).filter fun j => (aftAt ops i).any fun x => x == j || (anc acc x).contains j]) []
def rank (eff : List Bool) (i : Nat) : Nat := (List.range i).countP fun j => eff.getD j false
def okClaims (ops : Array Oper) (A : List (List Nat)) : Bool :=
  (List.range ops.size).all fun i => (anc A i).all fun j => (aftAt ops i).any fun x => x == j || (anc A x).contains j
def okPair (ops : Array Oper) (eff : List Bool) (A : List (List Nat)) (i j : Nat) : Bool :=
  (i == j || !((dstAt ops i).isSome && dstAt ops i == dstAt ops j)) &&
  (match dstAt ops j with | some d => !(looksAtI ops i).contains d || (anc A i).contains j | none => true) &&
  (!(eff.getD i false && eff.getD j false && decide (j < i)) || (anc A i).contains j)
def okIv (h : Nat) (eff : List Bool) (A : List (List Nat)) (iv : List (Nat × Nat)) (i : Nat) : Bool :=
  decide ((iv.getD i (0, 0)).1 ≤ (List.range h).countP fun j => eff.getD j false && (anc A i).contains j) &&
  decide (((List.range h).countP fun j => eff.getD j false && !(anc A j).contains i && !(i == j)) ≤ (iv.getD i (0, 0)).2)
def okHead (ops : Array Oper) (h : Nat) (eff : List Bool) (A : List (List Nat)) (iv : List (Nat × Nat)) : Bool :=
  decide (h ≤ ops.size) && okClaims ops A && ((List.range h).all fun i => okIv h eff A iv i && (List.range h).all fun j => okPair ops eff A i j) &&
  ((List.range ops.size).all fun k => decide (k < h) || (List.range k).all fun j => (anc A k).contains j)
section
variable {P : Program} {e : Env} {s : Sg} {Q : Exit → Env → Sg → Prop} {ops : Array Oper}
def VA (P : Program) (ops : Array Oper) (Q : Exit → Env → Sg → Prop) (fuel : Nat) (L : Array Bool) (e : Env) (s : Sg) : Prop :=
  ∀ (r : Option Nat) (B M : Nat) (ρ : Rho) (a : Act) (w : World) (QQ : Exit → Act → World → Prop), St P B M r s ρ e a w →
    (∀ x e' s' ρ' a' w', Q x e' s' → St P B M r s' ρ' e' a' w' → Stp s ρ w s' ρ' w' → QQ x a' w') → wpAnyIn (Lv r) 10 P .any ops QQ fuel L a w
def SkipK (s : Sg) (K : V → Sg → Prop) : Prop := K .junk s ∨ K .nob s
def OpI (P : Program) (ops : Array Oper) (o : Oper) (e : Env) (s : Sg) (K : V → Sg → Prop) : Prop :=
  match o.guard with
  | none => OpG P o e s K
  | some (j, want) => ∃ oj t, ops[j]? = some oj ∧ oj.dst = some t ∧ ((∃ b, ev e (.tmp t) = .t (.v (.bool b)) ∧ (b = want → OpG P o e s K) ∧ (b ≠ want → SkipK s K)) ∨ (ev e (.tmp t) = .nob ∧ SkipK s K))
theorem opi_run {o : Oper} {i : Nat} (hi : ops[i]? = some o) {K : V → Sg → Prop} (h : OpI P ops o e s K) {r : Option Nat} {B M : Nat} {ρ : Rho} {a : Act} {w : World} (hs : St P B M r s ρ e a w) {next : Act → World → Prop}
    {QQ : Exit → Act → World → Prop} (hk : ∀ a' w' v s' ρ', K v s' → St P B M r s' ρ' (putv e o.dst v) a' w' → Stp s ρ w s' ρ' w' → next a' w') : wpOpIn (Lv r) 10 P ops QQ i next a w := by
  have run : OpG P o e s K → o.wpIn (Lv r) 10 P a w next QQ := fun h => h r B M ρ a w next QQ hs fun y w' v s' ρ' hK h1 h2 h3 =>
    hk _ w' v s' ρ' hK (hs.step h1 h3 (put_env (hs.envStep h3) _ h2) (put_defers _ _ _)) h3
  unfold wpOpIn
  simp only [hi]
  unfold OpI at h
  cases hg : o.guard with
  | none =>
    rw [hg] at h
    have : Region.wanted o (yielded ops a.tmps) = true := by simp [Region.wanted, hg]
    simp only [this, if_true]
    exact run h
  | some g =>
    obtain ⟨j, want⟩ := g
    rw [hg] at h
    obtain ⟨oj, t, h1, h2, h⟩ := h
    have skip : ∀ v, (K v s) → VR P w s ρ v undef → (∀ f, o.about P w a.eval = some f → (Lv r).fn f) ∧ next (a.put o.dst undef) w := fun v hK hv =>
      ⟨fun _ _ => trivial, hk _ w v s ρ hK (hs.step hs.sr (Stp.refl _ _ _) (put_env hs.env _ hv) (put_defers _ _ _)) (Stp.refl _ _ _)⟩
    have skip2 : SkipK s K → (∀ f, o.about P w a.eval = some f → (Lv r).fn f) ∧ next (a.put o.dst undef) w := fun h => by
      rcases h with h' | h'
      · exact skip _ h' trivial
      · exact skip _ h' (fun b hb => by simp [undef] at hb)
    rcases h with ⟨b, h3, h4, h5⟩ | ⟨h3, h4⟩
    · have hy := yielded_ev h1 h2 h3 hs.env
      by_cases hb : b = want
      · have : Region.wanted o (yielded ops a.tmps) = true := by simp [Region.wanted, hg, hy, hb]
        simp only [this, if_true]
        exact run (h4 hb)
      · have : Region.wanted o (yielded ops a.tmps) = false := by simp [Region.wanted, hg, hy, hb]
        simp only [this]
        exact skip2 (h5 hb)
    · have hy : yielded ops a.tmps j = none := by
        have hx := ev_sound hs.env (.tmp t)
        rw [h3] at hx
        simp only [yielded, h1, h2, Option.bind_some]
        split
        · rename_i b hb
          refine absurd ?_ (hx b)
          simp only [Act.eval]
          rw [Array.getD_eq_getD_getElem?, hb]; rfl
        · rfl
      have : Region.wanted o (yielded ops a.tmps) = false := by simp [Region.wanted, hg, hy]
      simp only [this]
      exact skip2 h4
theorem va_step {fuel : Nat} {L : Array Bool} (hne : Region.ready .any ops L ≠ []) (h : ∀ i o, i ∈ Region.ready .any ops L → ops[i]? = some o → OpI P ops o e s (fun v s' => VA P ops Q fuel (L.setIfInBounds i true) (putv e o.dst v) s')) : VA P ops Q (fuel + 1) L e s := by
  intro r B M ρ a w QQ hs hk
  refine ⟨fun h0 => absurd h0 hne, fun i hi => ?_⟩
  obtain ⟨_, o, ho, _⟩ := mem_ready.1 hi
  exact opi_run ho (h i o hi ho) hs fun a' w' v s' ρ' hK h1 h2 => hK r B M ρ' a' w' QQ h1 fun x e2 s2 ρ2 a2 w2 q2 hs2 hst2 => hk x e2 s2 ρ2 a2 w2 q2 hs2 (h2.trans hst2)
theorem ready_spec {L : Array Bool} {i : Nat} (hi : i ∈ Region.ready .any ops L) (hsz : L.size = ops.size) : i < ops.size ∧ L[i]? = some false ∧ (∀ x ∈ aftAt ops i, L[x]? = some true) := by
  obtain ⟨h0, o, ho, hall⟩ := mem_ready.1 hi
  have hlt : i < ops.size := (Array.getElem?_eq_some_iff.1 ho).1
  refine ⟨hlt, ?_, fun x hx => ?_⟩
  · have : i < L.size := by omega
    simp [this] at h0 ⊢; exact h0
  · simp only [aftAt, ho, aft, List.mem_map, List.mem_filter] at hx
    obtain ⟨ed, ⟨h1, h2⟩, rfl⟩ := hx
    have := hall ed (by simpa using h1) h2
    rw [Array.getD_eq_getD_getElem?] at this
    cases hq : L[ed.on]? with
    | none => rw [hq] at this; cases this
    | some b => rw [hq] at this; simp at this; rw [this]
theorem mem_ready_of {L : Array Bool} {i : Nat} (hi : i < ops.size) (h0 : L[i]? = some false) (h : ∀ x ∈ aftAt ops i, L[x]? = some true) : i ∈ Region.ready .any ops L := by
  refine mem_ready.2 ⟨by rw [Array.getD_eq_getD_getElem?, h0]; rfl, ops[i], by simp [hi], fun ed h1 h2 => ?_⟩
  have := h ed.on (by simp only [aftAt, Array.getElem?_eq_getElem hi, aft, List.mem_map, List.mem_filter]; exact ⟨ed, ⟨by simpa using h1, h2⟩, rfl⟩)
  rw [Array.getD_eq_getD_getElem?, this]; rfl
def okLow (ops : Array Oper) : Bool := (List.range ops.size).all fun i => (aftAt ops i).all fun x => decide (x < i)
structure Tab (ops : Array Oper) (h : Nat) (eff : List Bool) (A : List (List Nat)) (iv : List (Nat × Nat)) : Prop where
  le : h ≤ ops.size
  claims : ∀ i, i < ops.size → ∀ j, j ∈ anc A i → ∃ x, x ∈ aftAt ops i ∧ (x = j ∨ j ∈ anc A x)
  dst : ∀ i j d, i < h → j < h → dstAt ops i = some d → dstAt ops j = some d → i = j
  looks : ∀ i j d, i < h → j < h → dstAt ops j = some d → d ∈ looksAtI ops i → j ∈ anc A i
  chain : ∀ i j, i < h → j < h → eff.getD i false = true → eff.getD j false = true → j < i → j ∈ anc A i
  ivlo : ∀ i, i < h → (iv.getD i (0, 0)).1 ≤ (List.range h).countP fun j => eff.getD j false && (anc A i).contains j
  ivhi : ∀ i, i < h → ((List.range h).countP fun j => eff.getD j false && !(anc A j).contains i && !(i == j)) ≤ (iv.getD i (0, 0)).2
  tail : ∀ k, h ≤ k → k < ops.size → ∀ j, j < k → j ∈ anc A k
  low : ∀ i, i < ops.size → ∀ x, x ∈ aftAt ops i → x < i
theorem tab_of {h : Nat} {eff : List Bool} {A : List (List Nat)} {iv : List (Nat × Nat)} (h1 : okHead ops h eff A iv = true) (h2 : okLow ops = true) : Tab ops h eff A iv := by
  simp only [okHead, Bool.and_eq_true, decide_eq_true_eq, List.all_eq_true, List.mem_range, okClaims, List.any_eq_true, okIv, okPair, Bool.or_eq_true, beq_iff_eq, List.contains_iff_mem] at h1
  simp only [okLow, List.all_eq_true, List.mem_range, decide_eq_true_eq] at h2
  obtain ⟨⟨⟨hle, hcl⟩, hp⟩, ht⟩ := h1
  refine ⟨hle, fun i hi j hj => ?_, fun i j d hi hj h3 h4 => ?_, fun i j d hi hj h3 h4 => ?_, fun i j hi hj h3 h4 h5 => ?_, fun i hi => ?_, fun i hi => ?_, fun k hk hk2 j hj => ?_, h2⟩
  · obtain ⟨x, hx, hx2⟩ := hcl i hi j hj
    exact ⟨x, hx, hx2⟩
  · have := (((hp i hi).2 j hj).1).1
    rcases this with h | h
    · exact h
    · simp [h3, h4] at h
  · have := (((hp i hi).2 j hj).1).2
    rw [h3] at this
    simpa [h4] using this
  · have := ((hp i hi).2 j hj).2
    simp only [h3, h4, h5] at this
    simpa using this
  · have := ((hp i hi).1).1
    simpa using this
  · have := ((hp i hi).1).2
    simpa using this
  · rcases ht k hk2 with h | h
    · omega
    · exact h j hj
structure Inv (ops : Array Oper) (h : Nat) (eff : List Bool) (A : List (List Nat)) (ef : Env) (S : Nat → Sg) (L : Array Bool) (e : Env) (s : Sg) : Prop where
  size : L.size = ops.size
  dn : ∀ i, i < ops.size → L[i]? = some true → ∀ j, j ∈ anc A i → L[j]? = some true
  tl : ∀ k, h ≤ k → k < ops.size → L[k]? = some false
  len : e.length = ef.length
  ag : ∀ t, (∀ j, j < h → dstAt ops j = some t → L[j]? = some true) → ev e (.tmp t) = ev ef (.tmp t)
  st : s = S ((List.range h).countP fun j => eff.getD j false && (L[j]? == some true))
def OB (P : Program) (ops : Array Oper) (h : Nat) (eff : List Bool) (iv : List (Nat × Nat)) (ef : Env) (S : Nat → Sg) : Prop :=
  ∀ i o, i < h → ops[i]? = some o → ∀ m, (iv.getD i (0, 0)).1 ≤ m → m ≤ (iv.getD i (0, 0)).2 → (eff.getD i false = true → m = rank eff i) → ∀ e : Env, e.length = ef.length → (∀ t ∈ o.looksAt ops, ev e (.tmp t) = ev ef (.tmp t)) →
    OpI P ops o e (S m) (fun v s' => s' = S (if eff.getD i false then m + 1 else m) ∧ ∀ d, o.dst = some d → d < ef.length ∧ v = ev ef (.tmp d))
theorem bit_cases {L : Array Bool} {i : Nat} (h : i < L.size) : L[i]? = some true ∨ L[i]? = some false := by
  rw [Array.getElem?_eq_getElem h]
  cases L[i] <;> simp
theorem ev_putv_ne {e : Env} {dst : Option Tmp} {v : V} {t : Nat} (h : dst ≠ some t) : ev (putv e dst v) (.tmp t) = ev e (.tmp t) := by
  cases dst with
  | none => rfl
  | some d =>
    simp only [ev, putv]
    rw [List.getD_eq_getElem?_getD, List.getD_eq_getElem?_getD, List.getElem?_set_ne (by simpa using h)]
theorem ev_putv_same {e : Env} {d : Nat} {v : V} (h : d < e.length) : ev (putv e (some d) v) (.tmp d) = v := by
  simp only [ev, putv]
  rw [List.getD_eq_getElem?_getD, List.getElem?_set_self h]; rfl
theorem lpv (e : Env) (dst : Option Tmp) (v : V) : (putv e dst v).length = e.length := by cases dst <;> simp [putv]
theorem env_ext {e ef : Env} (hl : e.length = ef.length) (h : ∀ t, ev e (.tmp t) = ev ef (.tmp t)) : e = ef := by
  refine List.ext_getElem hl fun i h1 h2 => ?_
  have := h i
  simp only [ev, List.getD_eq_getElem?_getD, List.getElem?_eq_getElem h1, List.getElem?_eq_getElem h2] at this
  simpa using this
theorem tail_run {h : Nat} {eff : List Bool} {A : List (List Nat)} {iv : List (Nat × Nat)} (T : Tab ops h eff A iv) {r : Option Nat} {QQ : Exit → Act → World → Prop} : ∀ (c k : Nat) (L : Array Bool) (a : Act) (w : World), h ≤ k → k + c = ops.size → L.size = ops.size →
    (∀ j, j < ops.size → (L[j]? = some true ↔ j < k)) → wpOpsIn (Lv r) 10 P ops QQ (List.range' k c) a w → ∀ fuel, c ≤ fuel → wpAnyIn (Lv r) 10 P .any ops QQ fuel L a w
  | 0, k, L, a, w, hk, hc, hsz, hL, hw, fuel, hf => by
    refine wpAnyIn_done ?_ hw fuel
    cases hr : Region.ready .any ops L with
    | nil => rfl
    | cons i l =>
      have hi : i ∈ Region.ready .any ops L := by rw [hr]; exact List.mem_cons_self ..
      obtain ⟨h1, h2, _⟩ := ready_spec hi hsz
      have := (hL i h1).2 (by omega)
      rw [h2] at this; cases this
  | c + 1, k, L, a, w, hk, hc, hsz, hL, hw, fuel, hf => by
    obtain ⟨fuel, rfl⟩ : ∃ f, fuel = f + 1 := ⟨fuel - 1, by omega⟩
    have hkn : k < ops.size := by omega
    have hkf : L[k]? = some false := by
      rcases bit_cases (L := L) (i := k) (by omega) with h | h
      · have := (hL k hkn).1 h; omega
      · exact h
    have hready : Region.ready .any ops L = [k] ∨ ∀ i, i ∈ Region.ready .any ops L → i = k := .inr fun i hi => by
      obtain ⟨h1, h2, h3⟩ := ready_spec hi hsz
      rcases Nat.lt_trichotomy i k with h | h | h
      · have := (hL i h1).2 h; rw [h2] at this; cases this
      · exact h
      · exfalso
        have hm := T.tail i (by omega) h1 k h
        obtain ⟨x, hx, hx2⟩ := T.claims i h1 k hm
        have hxt := h3 x hx
        have hxl := T.low i h1 x hx
        have := (hL x (by omega)).1 hxt
        rcases hx2 with rfl | hx2
        · omega
        · -- k is an ancestor of x, and x is below k
          obtain ⟨y, hy, hy2⟩ := T.claims x (by omega) k hx2
          have hyl := T.low x (by omega) y hy
          have key : ∀ z, z < k → k ∈ anc A z → False := by
            intro z
            induction z using Nat.strongRecOn with
            | _ z ih =>
              intro hz hkz
              obtain ⟨y, hy, hy2⟩ := T.claims z (by omega) k hkz
              have := T.low z (by omega) y hy
              rcases hy2 with rfl | hy2
              · omega
              · exact ih y this (by omega) hy2
          exact key x this hx2
    have hmem : k ∈ Region.ready .any ops L := mem_ready_of hkn hkf fun x hx => (hL x (by have := T.low k hkn x hx; omega)).2 (T.low k hkn x hx)
    refine ⟨fun h0 => (by rw [h0] at hmem; cases hmem), fun i hi => ?_⟩
    have hik : i = k := by
      rcases hready with h | h
      · rw [h] at hi; simpa using hi
      · exact h i hi
    subst hik
    rw [List.range'_succ, wpOpsIn_cons] at hw
    refine wpOpIn_mono (fun a' w' h' => tail_run T c (i + 1) (L.setIfInBounds i true) a' w' (by omega) (by omega) (by simpa using hsz) (fun j hj => ?_) h' fuel (by omega)) hw
    by_cases hij : i = j
    · subst hij; simp [hsz, hj]
    · rw [Array.getElem?_setIfInBounds_ne hij, hL j hj]; omega
theorem inv_step {h : Nat} {eff : List Bool} {A : List (List Nat)} {iv : List (Nat × Nat)} (T : Tab ops h eff A iv) {ef : Env} {S : Nat → Sg} {L : Array Bool} {e : Env} {s : Sg} (I : Inv ops h eff A ef S L e s) {i : Nat} {o : Oper} (hi : i ∈ Region.ready .any ops L) (hih : i < h)
    (ho : ops[i]? = some o) {v : V} {s' : Sg} (hs' : s' = S (if eff.getD i false then ((List.range h).countP fun j => eff.getD j false && (L[j]? == some true)) + 1 else ((List.range h).countP fun j => eff.getD j false && (L[j]? == some true))))
    (hv : ∀ d, o.dst = some d → d < ef.length ∧ v = ev ef (.tmp d)) : Inv ops h eff A ef S (L.setIfInBounds i true) (putv e o.dst v) s' := by
  obtain ⟨h1, h2, h3⟩ := ready_spec hi I.size
  have hset : ∀ j, j ≠ i → (L.setIfInBounds i true)[j]? = L[j]? := fun j hj => Array.getElem?_setIfInBounds_ne (Ne.symm hj)
  have hself : (L.setIfInBounds i true)[i]? = some true := by simp [I.size, h1]
  have hup : ∀ j, L[j]? = some true → (L.setIfInBounds i true)[j]? = some true := fun j hj => by
    by_cases hji : j = i
    · subst hji; exact hself
    · rw [hset j hji]; exact hj
  refine ⟨by simpa using I.size, fun k hk hkt j hj => ?_, fun k hk hk2 => ?_, by rw [lpv]; exact I.len, fun t ht => ?_, ?_⟩
  · by_cases hki : k = i
    · subst hki
      obtain ⟨x, hx, hx2⟩ := T.claims k h1 j hj
      have hxt := h3 x hx
      rcases hx2 with rfl | hx2
      · exact hup _ hxt
      · exact hup _ (I.dn x (by have := T.low k h1 x hx; omega) hxt j hx2)
    · rw [hset k hki] at hkt
      exact hup _ (I.dn k hk hkt j hj)
  · rw [hset k (by omega)]; exact I.tl k hk hk2
  · by_cases hd : o.dst = some t
    · obtain ⟨h4, h5⟩ := hv t hd
      rw [hd, ev_putv_same (by rw [I.len]; exact h4), h5]
    · rw [ev_putv_ne hd]
      refine I.ag t fun j hj hdj => ?_
      have := ht j hj hdj
      by_cases hji : j = i
      · subst hji; exact absurd (by simpa [dstAt, ho] using hdj) hd
      · rwa [hset j hji] at this
  · rw [hs']
    congr 1
    have hcount : ∀ (l : List Nat), l.Nodup → (l.countP fun j => eff.getD j false && ((L.setIfInBounds i true)[j]? == some true)) =
        (l.countP fun j => eff.getD j false && (L[j]? == some true)) + (if i ∈ l ∧ eff.getD i false = true then 1 else 0) := by
      intro l
      induction l with
      | nil => simp
      | cons x l ih =>
        intro hnd
        obtain ⟨hx, hnd⟩ := List.nodup_cons.1 hnd
        rw [List.countP_cons, List.countP_cons, ih hnd]
        by_cases hxi : x = i
        · subst hxi
          rw [hself, h2]
          simp [hx]
        · rw [hset x hxi]
          have : (i ∈ x :: l) ↔ i ∈ l := by simp [Ne.symm hxi]
          simp only [this]
          omega
    rw [hcount _ List.nodup_range]
    have : i ∈ List.range h := by simpa using hih
    simp only [this, true_and]
    split <;> rfl
theorem head_done {h : Nat} {eff : List Bool} {A : List (List Nat)} {iv : List (Nat × Nat)} (T : Tab ops h eff A iv) {ef : Env} {S : Nat → Sg} (ht : VL P ops Q (List.range' h (ops.size - h)) ef (S (rank eff h)))
    {L : Array Bool} {e : Env} {s : Sg} (I : Inv ops h eff A ef S L e s) (hall : ∀ j, j < h → L[j]? = some true) {fuel : Nat} (hf : ops.size - h ≤ fuel) : VA P ops Q fuel L e s := by
  have he : e = ef := env_ext I.len fun t => I.ag t fun j hj _ => hall j hj
  have hS : s = S (rank eff h) := by
    rw [I.st]
    congr 1
    unfold rank
    refine List.countP_congr fun j hj => ?_
    simp [hall j (by simpa using hj)]
  subst he
  rw [hS]
  intro r B M ρ a w QQ hs hk
  refine tail_run T (ops.size - h) h L a w (Nat.le_refl _) (by have := T.le; omega) I.size (fun j hj => ⟨fun hj2 => ?_, fun hj2 => hall j hj2⟩) (ht r B M ρ a w QQ hs hk) fuel hf
  rcases Nat.lt_or_ge j h with h1 | h1
  · exact h1
  · have := I.tl j h1 hj
    rw [hj2] at this; cases this
theorem va_head {h : Nat} {eff : List Bool} {A : List (List Nat)} {iv : List (Nat × Nat)} (T : Tab ops h eff A iv) {ef : Env} {S : Nat → Sg} (ob : OB P ops h eff iv ef S) (ht : VL P ops Q (List.range' h (ops.size - h)) ef (S (rank eff h))) :
    ∀ (fuel : Nat) (L : Array Bool) (e : Env) (s : Sg), Inv ops h eff A ef S L e s → ((List.range h).countP fun j => L[j]? == some false) + (ops.size - h) ≤ fuel → VA P ops Q fuel L e s := by
  intro fuel
  induction fuel with
  | zero =>
    intro L e s I hc
    refine head_done T ht I (fun j hj => ?_) (by omega)
    rcases bit_cases (L := L) (i := j) (by have := T.le; have := I.size; omega) with h1 | h1
    · exact h1
    · have : 0 < (List.range h).countP fun j => L[j]? == some false := List.countP_pos_iff.2 ⟨j, by simpa using hj, by simp [h1]⟩
      omega
  | succ fuel ih =>
    intro L e s I hc
    by_cases hall : ∀ j, j < h → L[j]? = some true
    · exact head_done T ht I hall (by omega)
    · have hex : ∃ j, j < h ∧ L[j]? = some false := by
        apply Classical.byContradiction
        intro hno
        refine hall fun j hj => ?_
        rcases bit_cases (L := L) (i := j) (by have := T.le; have := I.size; omega) with h1 | h1
        · exact h1
        · exact absurd ⟨j, hj, h1⟩ hno
      have hrdy : ∃ i, i ∈ Region.ready .any ops L := by
        obtain ⟨j, hj, hjf⟩ := hex
        induction j using Nat.strongRecOn with
        | _ j ihj =>
          by_cases hx : ∀ x ∈ aftAt ops j, L[x]? = some true
          · exact ⟨j, mem_ready_of (by have := T.le; omega) hjf hx⟩
          · have : ∃ x, x ∈ aftAt ops j ∧ L[x]? ≠ some true := by
              apply Classical.byContradiction
              intro hno
              exact hx fun x hx => Classical.byContradiction fun h => hno ⟨x, hx, h⟩
            obtain ⟨x, hx, hxn⟩ := this
            have hlt := T.low j (by have := T.le; omega) x hx
            refine ihj x hlt (by omega) ?_
            rcases bit_cases (L := L) (i := x) (by have := T.le; have := I.size; omega) with h1 | h1
            · exact absurd h1 hxn
            · exact h1
      obtain ⟨i0, hi0⟩ := hrdy
      refine va_step (fun h0 => by rw [h0] at hi0; cases hi0) fun i o hi ho => ?_
      obtain ⟨h1, h2, h3⟩ := ready_spec hi I.size
      have hanc : ∀ j, j ∈ anc A i → L[j]? = some true := fun j hj => by
        obtain ⟨x, hx, hx2⟩ := T.claims i h1 j hj
        rcases hx2 with rfl | hx2
        · exact h3 _ hx
        · exact I.dn x (by have := T.low i h1 x hx; omega) (h3 x hx) j hx2
      have hih : i < h := by
        rcases Nat.lt_or_ge i h with hlt | hge
        · exact hlt
        · exfalso
          obtain ⟨j, hj, hjf⟩ := hex
          have := hanc j (T.tail i hge h1 j (by omega))
          rw [hjf] at this; cases this
      have hlo : (iv.getD i (0, 0)).1 ≤ (List.range h).countP fun j => eff.getD j false && (L[j]? == some true) := by
        refine Nat.le_trans (T.ivlo i hih) (List.countP_mono_left fun j _ hj => ?_)
        simp only [Bool.and_eq_true, List.contains_iff_mem] at hj
        simp only [Bool.and_eq_true, beq_iff_eq]
        exact ⟨hj.1, hanc j hj.2⟩
      have hhi : ((List.range h).countP fun j => eff.getD j false && (L[j]? == some true)) ≤ (iv.getD i (0, 0)).2 := by
        refine Nat.le_trans (List.countP_mono_left fun j hjr hj => ?_) (T.ivhi i hih)
        simp only [Bool.and_eq_true, beq_iff_eq] at hj
        have hjh : j < h := by simpa using hjr
        have hne : i ≠ j := fun e0 => by subst e0; rw [h2] at hj; simp at hj
        have hnc : i ∉ anc A j := fun hm => by
          have := I.dn j (by have := T.le; omega) hj.2 i hm
          rw [h2] at this; cases this
        simp only [Bool.and_eq_true, Bool.not_eq_true', List.contains_eq_mem, decide_eq_false_iff_not, beq_eq_false_iff_ne]
        exact ⟨⟨hj.1, hnc⟩, hne⟩
      have hrk : eff.getD i false = true → ((List.range h).countP fun j => eff.getD j false && (L[j]? == some true)) = rank eff i := by
        intro hei
        unfold rank
        have hsplit : List.range h = List.range i ++ List.range' i (h - i) := by
          have := List.range'_append (s := 0) (m := i) (n := h - i) (step := 1)
          rw [List.range_eq_range', List.range_eq_range']
          simp only [Nat.one_mul, Nat.zero_add] at this
          rw [this]
          congr 1
          omega
        rw [hsplit, List.countP_append]
        have hz : (List.range' i (h - i)).countP (fun j => eff.getD j false && (L[j]? == some true)) = 0 := by
          rw [List.countP_eq_zero]
          intro j hj hcon
          simp only [List.mem_range'_1] at hj
          simp only [Bool.and_eq_true, beq_iff_eq] at hcon
          by_cases hji : j = i
          · subst hji; rw [h2] at hcon; simp at hcon
          · have := I.dn j (by have := T.le; omega) hcon.2 i (T.chain j i (by omega) hih hcon.1 hei (by omega))
            rw [h2] at this; cases this
        rw [hz, Nat.add_zero]
        refine List.countP_congr fun j hj => ?_
        have hji : j < i := by simpa using hj
        simp only [Bool.and_eq_true, beq_iff_eq]
        exact ⟨fun h => h.1, fun h => ⟨h, hanc j (T.chain i j hih (by omega) hei h hji)⟩⟩
      have hlooks : ∀ t ∈ o.looksAt ops, ev e (.tmp t) = ev ef (.tmp t) := fun t ht => I.ag t fun j hj hdj => hanc j (T.looks i j t hih hj hdj (by simpa [looksAtI, ho] using ht))
      have := ob i o hih ho _ hlo hhi hrk e I.len hlooks
      rw [← I.st] at this
      have hmono : ∀ {K K' : V → Sg → Prop}, (∀ v s', K v s' → K' v s') → OpI P ops o e s K → OpI P ops o e s K' := by
        intro K K' hKK h
        unfold OpI at h ⊢
        have hg : OpG P o e s K → OpG P o e s K' := fun h r B M ρ a w next QQ hs hk => h r B M ρ a w next QQ hs fun y w' v s' ρ' hK => hk y w' v s' ρ' (hKK _ _ hK)
        split at h
        · exact hg h
        · obtain ⟨oj, t, a1, a2, h⟩ := h
          have hsk : SkipK s K → SkipK s K' := fun h => h.imp (hKK _ _) (hKK _ _)
          refine ⟨oj, t, a1, a2, ?_⟩
          rcases h with ⟨b, a3, a4, a5⟩ | ⟨a3, a4⟩
          · exact .inl ⟨b, a3, fun hb => hg (a4 hb), fun hb => hsk (a5 hb)⟩
          · exact .inr ⟨a3, hsk a4⟩
      refine hmono (fun v s' hK => ?_) this
      refine ih _ _ _ (inv_step T I hi hih ho (by rw [hK.1]) hK.2) ?_
      have hdec : ((List.range h).countP fun j => (L.setIfInBounds i true)[j]? == some false) + 1 ≤ (List.range h).countP fun j => L[j]? == some false := by
        have hcount : ∀ (l : List Nat), l.Nodup → i ∈ l → (l.countP fun j => (L.setIfInBounds i true)[j]? == some false) + 1 ≤ l.countP fun j => L[j]? == some false := by
          intro l
          induction l with
          | nil => intro _ h; cases h
          | cons x l ihl =>
            intro hnd hmem
            obtain ⟨hx, hnd⟩ := List.nodup_cons.1 hnd
            rw [List.countP_cons, List.countP_cons]
            by_cases hxi : x = i
            · subst hxi
              have hle : (l.countP fun j => (L.setIfInBounds x true)[j]? == some false) ≤ l.countP fun j => L[j]? == some false := by
                refine List.countP_mono_left fun j hj hjt => ?_
                have : j ≠ x := fun e0 => hx (e0 ▸ hj)
                rwa [Array.getElem?_setIfInBounds_ne (Ne.symm this)] at hjt
              have hs1 : (L.setIfInBounds x true)[x]? = some true := by simp [I.size, h1]
              rw [hs1, h2]
              simp only [beq_self_eq_true, if_true]
              have : (some true == some false) = false := rfl
              simp only [this]
              simpa using hle
            · have hml : i ∈ l := by
                rcases List.mem_cons.1 hmem with h | h
                · exact absurd h.symm hxi
                · exact h
              have := ihl hnd hml
              rw [Array.getElem?_setIfInBounds_ne (Ne.symm hxi)]
              omega
        exact hcount _ List.nodup_range (by simpa using hih)
      omega
theorem vw_region_any {id : Nat} (hm : P.follows .mixedOrders = true) (h : Nat) (eff : List Bool) (iv : List (Nat × Nat)) (A : List (List Nat)) (ef : Env) (S : Nat → Sg) (hA : cloT ops = A) (h1 : okHead ops h eff A iv = true) (h2 : okLow ops = true)
    (hl : e.length = ef.length) (he : ∀ t, (∀ j, j < h → dstAt ops j ≠ some t) → ev e (.tmp t) = ev ef (.tmp t)) (hS : S 0 = s) (ob : OB P ops h eff iv ef S) (ht : VL P ops Q (List.range' h (ops.size - h)) ef (S (rank eff h))) : VW P (.region id ops true) Q e s := by
  have T := tab_of h1 h2
  intro r B M ρ a w QQ hs hk
  refine wpIn_region_any hm ?_
  have hst : Stp s ρ w s ρ { w with drawn := w.drawn + 1 } := ⟨rfl, rfl, rfl, Nat.le_refl _, fun _ _ _ => rfl, fun _ _ => rfl, Nat.le_refl _, fun _ b' _ h => ⟨b', h⟩, fun _ _ h => h, fun _ rec h => ⟨rec, h⟩⟩
  have hsr := (hs.sr.side (w' := { w with drawn := w.drawn + 1 }) (fun _ _ _ _ h => h) (fun _ _ _ _ _ => rfl)).1
  refine va_head T ob ht ops.size _ e s ⟨by simp, fun i hi ht => ?_, fun k _ hk2 => by simp [hk2], hl, fun t ht => he t fun j hj hdj => ?_, ?_⟩ ?_ r B M ρ a _ QQ (hs.step hsr hst (hs.envStep hst) rfl) fun x e' s' ρ' a' w' q h3 h4 => hk x e' s' ρ' a' w' q h3 (hst.trans h4)
  · simp [hi] at ht
  · have := ht j hj hdj
    have hlt : j < ops.size := by have := T.le; omega
    simp [hlt] at this
  · rw [← hS]
    congr 1
    symm
    rw [List.countP_eq_zero]
    intro j hj
    have hlt : j < ops.size := by have := T.le; have : j < h := by simpa using hj
                                  omega
    simp [hlt]
  · have : ((List.range h).countP fun j => (Array.replicate ops.size false)[j]? == some false) ≤ (List.range h).length := List.countP_le_length
    simp only [List.length_range] at this
    have := T.le
    omega
end
end Go.V
