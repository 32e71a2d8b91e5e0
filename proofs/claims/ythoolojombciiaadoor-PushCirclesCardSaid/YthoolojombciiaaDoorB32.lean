/- Lemmas on the way to the statement of this claim; no conditions. -/
import Derived.Test.YthoolojombciiaaDoorB31
namespace Go.V
open Go Go.RowKit
structure TabB (ops : Array Oper) (h b : Nat) (eff : List Bool) (A : List (List Nat)) (iv : List (Nat × Nat)) : Prop where
  le : h ≤ b
  leb : b ≤ ops.size
  claims : ∀ i, i < ops.size → ∀ j, j ∈ anc A i → ∃ x, x ∈ aftAt ops i ∧ (x = j ∨ j ∈ anc A x)
  dst : ∀ i j d, i < h → j < h → dstAt ops i = some d → dstAt ops j = some d → i = j
  looks : ∀ i j d, i < h → j < h → dstAt ops j = some d → d ∈ looksAtI ops i → j ∈ anc A i
  chain : ∀ i j, i < h → j < h → eff.getD i false = true → eff.getD j false = true → j < i → j ∈ anc A i
  ivlo : ∀ i, i < h → (iv.getD i (0, 0)).1 ≤ (List.range h).countP fun j => eff.getD j false && (anc A i).contains j
  ivhi : ∀ i, i < h → ((List.range h).countP fun j => eff.getD j false && !(anc A j).contains i && !(i == j)) ≤ (iv.getD i (0, 0)).2
  tail : ∀ k, h ≤ k → k < ops.size → ∀ j, j < k → j < b → j ∈ anc A k
  low : ∀ i, i < ops.size → ∀ x, x ∈ aftAt ops i → x < i
def okHeadB (ops : Array Oper) (h b : Nat) (eff : List Bool) (A : List (List Nat)) (iv : List (Nat × Nat)) : Bool :=
  decide (h ≤ b) && decide (b ≤ ops.size) && okClaims ops A && ((List.range h).all fun i => okIv h eff A iv i && (List.range h).all fun j => okPair ops eff A i j) &&
  ((List.range ops.size).all fun k => decide (k < h) || (List.range k).all fun j => decide (b ≤ j) || (anc A k).contains j)
theorem tabB_of {ops : Array Oper} {h b : Nat} {eff : List Bool} {A : List (List Nat)} {iv : List (Nat × Nat)} (h1 : okHeadB ops h b eff A iv = true) (h2 : okLow ops = true) : TabB ops h b eff A iv := by
  simp only [okHeadB, Bool.and_eq_true, decide_eq_true_eq, List.all_eq_true, List.mem_range, okClaims, List.any_eq_true, okIv, okPair, Bool.or_eq_true, beq_iff_eq, List.contains_iff_mem] at h1
  simp only [okLow, List.all_eq_true, List.mem_range, decide_eq_true_eq] at h2
  obtain ⟨⟨⟨⟨hle, hleb⟩, hcl⟩, hp⟩, ht⟩ := h1
  refine ⟨hle, hleb, fun i hi j hj => ?_, fun i j d hi hj h3 h4 => ?_, fun i j d hi hj h3 h4 => ?_, fun i j hi hj h3 h4 h5 => ?_, fun i hi => ?_, fun i hi => ?_, fun k hk hk2 j hj hjb => ?_, h2⟩
  · obtain ⟨x, hx, hx2⟩ := hcl i hi j hj
    exact ⟨x, hx, hx2⟩
  · have := (((hp i hi).2 j hj).1).1
    rcases this with h | h
    · exact h
    · simp [h3, h4] at h
  · have := (((hp i hi).2 j hj).1).2
    rw [h3] at this
    simpa [h4] using this
  · have := ((hp i hi).2 j hj).2
    simp only [h3, h4, h5] at this
    simpa using this
  · have := ((hp i hi).1).1
    simpa using this
  · have := ((hp i hi).1).2
    simpa using this
  · rcases ht k hk2 with h | h
    · omega
    · rcases h j hj with h | h
      · omega
      · exact h
section
variable {P : Program} {e : Env} {s : Sg} {Q : Exit → Env → Sg → Prop} {ops : Array Oper}
def DoneTo (ops : Array Oper) (b : Nat) (L : Array Bool) : Prop := L.size = ops.size ∧ ∀ j, j < ops.size → (L[j]? = some true ↔ j < b)
def OBb (P : Program) (ops : Array Oper) (a h : Nat) (eff : List Bool) (iv : List (Nat × Nat)) (ef : Env) (S : Nat → Sg) : Prop :=
  ∀ i o, a ≤ i → i < h → ops[i]? = some o → ∀ m, (iv.getD i (0, 0)).1 ≤ m → m ≤ (iv.getD i (0, 0)).2 → (eff.getD i false = true → m = rank eff i) → ∀ e : Env, e.length = ef.length → (∀ t ∈ o.looksAt ops, ev e (.tmp t) = ev ef (.tmp t)) →
    OpI P ops o e (S m) (fun v s' => s' = S (if eff.getD i false then m + 1 else m) ∧ ∀ d, o.dst = some d → d < ef.length ∧ v = ev ef (.tmp d))
theorem inv_stepB {h : Nat} {eff : List Bool} {A : List (List Nat)} {iv : List (Nat × Nat)} {b : Nat} (T : TabB ops h b eff A iv) {ef : Env} {S : Nat → Sg} {L : Array Bool} {e : Env} {s : Sg} (I : Inv ops h eff A ef S L e s) {i : Nat} {o : Oper} (hi : i ∈ Region.ready .any ops L) (hih : i < h)
    (ho : ops[i]? = some o) {v : V} {s' : Sg} (hs' : s' = S (if eff.getD i false then ((List.range h).countP fun j => eff.getD j false && (L[j]? == some true)) + 1 else ((List.range h).countP fun j => eff.getD j false && (L[j]? == some true))))
    (hv : ∀ d, o.dst = some d → d < ef.length ∧ v = ev ef (.tmp d)) : Inv ops h eff A ef S (L.setIfInBounds i true) (putv e o.dst v) s' := by
  obtain ⟨h1, h2, h3⟩ := ready_spec hi I.size
  have hset : ∀ j, j ≠ i → (L.setIfInBounds i true)[j]? = L[j]? := fun j hj => Array.getElem?_setIfInBounds_ne (Ne.symm hj)
  have hself : (L.setIfInBounds i true)[i]? = some true := by simp [I.size, h1]
  have hup : ∀ j, L[j]? = some true → (L.setIfInBounds i true)[j]? = some true := fun j hj => by
    by_cases hji : j = i
    · subst hji; exact hself
    · rw [hset j hji]; exact hj
  refine ⟨by simpa using I.size, fun k hk hkt j hj => ?_, fun k hk hk2 => ?_, by rw [lpv]; exact I.len, fun t ht => ?_, ?_⟩
  · by_cases hki : k = i
    · subst hki
      obtain ⟨x, hx, hx2⟩ := T.claims k h1 j hj
      have hxt := h3 x hx
      rcases hx2 with rfl | hx2
      · exact hup _ hxt
      · exact hup _ (I.dn x (by have := T.low k h1 x hx; omega) hxt j hx2)
    · rw [hset k hki] at hkt
      exact hup _ (I.dn k hk hkt j hj)
  · rw [hset k (by omega)]; exact I.tl k hk hk2
  · by_cases hd : o.dst = some t
    · obtain ⟨h4, h5⟩ := hv t hd
      rw [hd, ev_putv_same (by rw [I.len]; exact h4), h5]
    · rw [ev_putv_ne hd]
      refine I.ag t fun j hj hdj => ?_
      have := ht j hj hdj
      by_cases hji : j = i
      · subst hji; exact absurd (by simpa [dstAt, ho] using hdj) hd
      · rwa [hset j hji] at this
  · rw [hs']
    congr 1
    have hcount : ∀ (l : List Nat), l.Nodup → (l.countP fun j => eff.getD j false && ((L.setIfInBounds i true)[j]? == some true)) =
        (l.countP fun j => eff.getD j false && (L[j]? == some true)) + (if i ∈ l ∧ eff.getD i false = true then 1 else 0) := by
      intro l
      induction l with
      | nil => simp
      | cons x l ih =>
        intro hnd
        obtain ⟨hx, hnd⟩ := List.nodup_cons.1 hnd
        rw [List.countP_cons, List.countP_cons, ih hnd]
        by_cases hxi : x = i
        · subst hxi
          rw [hself, h2]
          simp [hx]
        · rw [hset x hxi]
          have : (i ∈ x :: l) ↔ i ∈ l := by simp [Ne.symm hxi]
          simp only [this]
          omega
    rw [hcount _ List.nodup_range]
    have : i ∈ List.range h := by simpa using hih
    simp only [this, true_and]
    split <;> rfl
theorem head_doneB {h : Nat} {eff : List Bool} {A : List (List Nat)} {iv : List (Nat × Nat)} {b : Nat} (T : TabB ops h b eff A iv) {ef : Env} {S : Nat → Sg} (hK : ∀ L, DoneTo ops h L → ∀ fuel, ops.size - h ≤ fuel → VA P ops Q fuel L ef (S (rank eff h)))
    {L : Array Bool} {e : Env} {s : Sg} (I : Inv ops h eff A ef S L e s) (hall : ∀ j, j < h → L[j]? = some true) {fuel : Nat} (hf : ops.size - h ≤ fuel) : VA P ops Q fuel L e s := by
  have he : e = ef := env_ext I.len fun t => I.ag t fun j hj _ => hall j hj
  have hS : s = S (rank eff h) := by
    rw [I.st]
    congr 1
    unfold rank
    refine List.countP_congr fun j hj => ?_
    simp [hall j (by simpa using hj)]
  subst he
  rw [hS]
  refine hK L ⟨I.size, fun j hj => ⟨fun hj2 => ?_, fun hj2 => hall j hj2⟩⟩ fuel hf
  rcases Nat.lt_or_ge j h with h1 | h1
  · exact h1
  · have := I.tl j h1 hj
    rw [hj2] at this; cases this
theorem va_headB {h : Nat} {eff : List Bool} {A : List (List Nat)} {iv : List (Nat × Nat)} {a b : Nat} (T : TabB ops h b eff A iv) {ef : Env} {S : Nat → Sg} (ob : OBb P ops a h eff iv ef S) (hK : ∀ L, DoneTo ops h L → ∀ fuel, ops.size - h ≤ fuel → VA P ops Q fuel L ef (S (rank eff h))) :
    ∀ (fuel : Nat) (L : Array Bool) (e : Env) (s : Sg), Inv ops h eff A ef S L e s → (∀ j, j < a → L[j]? = some true) → ((List.range h).countP fun j => L[j]? == some false) + (ops.size - h) ≤ fuel → VA P ops Q fuel L e s := by
  intro fuel
  induction fuel with
  | zero =>
    intro L e s I hbase hc
    refine head_doneB T hK I (fun j hj => ?_) (by omega)
    rcases bit_cases (L := L) (i := j) (by have := T.le; have := T.leb; have := I.size; omega) with h1 | h1
    · exact h1
    · have : 0 < (List.range h).countP fun j => L[j]? == some false := List.countP_pos_iff.2 ⟨j, by simpa using hj, by simp [h1]⟩
      omega
  | succ fuel ih =>
    intro L e s I hbase hc
    by_cases hall : ∀ j, j < h → L[j]? = some true
    · exact head_doneB T hK I hall (by omega)
    · have hex : ∃ j, j < h ∧ L[j]? = some false := by
        apply Classical.byContradiction
        intro hno
        refine hall fun j hj => ?_
        rcases bit_cases (L := L) (i := j) (by have := T.le; have := T.leb; have := I.size; omega) with h1 | h1
        · exact h1
        · exact absurd ⟨j, hj, h1⟩ hno
      have hrdy : ∃ i, i ∈ Region.ready .any ops L := by
        obtain ⟨j, hj, hjf⟩ := hex
        induction j using Nat.strongRecOn with
        | _ j ihj =>
          by_cases hx : ∀ x ∈ aftAt ops j, L[x]? = some true
          · exact ⟨j, mem_ready_of (by have := T.le; have := T.leb; omega) hjf hx⟩
          · have : ∃ x, x ∈ aftAt ops j ∧ L[x]? ≠ some true := by
              apply Classical.byContradiction
              intro hno
              exact hx fun x hx => Classical.byContradiction fun h => hno ⟨x, hx, h⟩
            obtain ⟨x, hx, hxn⟩ := this
            have hlt := T.low j (by have := T.le; have := T.leb; omega) x hx
            refine ihj x hlt (by omega) ?_
            rcases bit_cases (L := L) (i := x) (by have := T.le; have := T.leb; have := I.size; omega) with h1 | h1
            · exact absurd h1 hxn
            · exact h1
      obtain ⟨i0, hi0⟩ := hrdy
      refine va_step (fun h0 => by rw [h0] at hi0; cases hi0) fun i o hi ho => ?_
      obtain ⟨h1, h2, h3⟩ := ready_spec hi I.size
      have hanc : ∀ j, j ∈ anc A i → L[j]? = some true := fun j hj => by
        obtain ⟨x, hx, hx2⟩ := T.claims i h1 j hj
        rcases hx2 with rfl | hx2
        · exact h3 _ hx
        · exact I.dn x (by have := T.low i h1 x hx; omega) (h3 x hx) j hx2
      have hih : i < h := by
        rcases Nat.lt_or_ge i h with hlt | hge
        · exact hlt
        · exfalso
          obtain ⟨j, hj, hjf⟩ := hex
          have := hanc j (T.tail i hge h1 j (by omega) (by have := T.le; have := T.leb; omega))
          rw [hjf] at this; cases this
      have hlo : (iv.getD i (0, 0)).1 ≤ (List.range h).countP fun j => eff.getD j false && (L[j]? == some true) := by
        refine Nat.le_trans (T.ivlo i hih) (List.countP_mono_left fun j _ hj => ?_)
        simp only [Bool.and_eq_true, List.contains_iff_mem] at hj
        simp only [Bool.and_eq_true, beq_iff_eq]
        exact ⟨hj.1, hanc j hj.2⟩
      have hhi : ((List.range h).countP fun j => eff.getD j false && (L[j]? == some true)) ≤ (iv.getD i (0, 0)).2 := by
        refine Nat.le_trans (List.countP_mono_left fun j hjr hj => ?_) (T.ivhi i hih)
        simp only [Bool.and_eq_true, beq_iff_eq] at hj
        have hjh : j < h := by simpa using hjr
        have hne : i ≠ j := fun e0 => by subst e0; rw [h2] at hj; simp at hj
        have hnc : i ∉ anc A j := fun hm => by
          have := I.dn j (by have := T.le; have := T.leb; omega) hj.2 i hm
          rw [h2] at this; cases this
        simp only [Bool.and_eq_true, Bool.not_eq_true', List.contains_eq_mem, decide_eq_false_iff_not, beq_eq_false_iff_ne]
        exact ⟨⟨hj.1, hnc⟩, hne⟩
      have hrk : eff.getD i false = true → ((List.range h).countP fun j => eff.getD j false && (L[j]? == some true)) = rank eff i := by
        intro hei
        unfold rank
        have hsplit : List.range h = List.range i ++ List.range' i (h - i) := by
          have := List.range'_append (s := 0) (m := i) (n := h - i) (step := 1)
          rw [List.range_eq_range', List.range_eq_range']
          simp only [Nat.one_mul, Nat.zero_add] at this
          rw [this]
          congr 1
          omega
        rw [hsplit, List.countP_append]
        have hz : (List.range' i (h - i)).countP (fun j => eff.getD j false && (L[j]? == some true)) = 0 := by
          rw [List.countP_eq_zero]
          intro j hj hcon
          simp only [List.mem_range'_1] at hj
          simp only [Bool.and_eq_true, beq_iff_eq] at hcon
          by_cases hji : j = i
          · subst hji; rw [h2] at hcon; simp at hcon
          · have := I.dn j (by have := T.le; have := T.leb; omega) hcon.2 i (T.chain j i (by omega) hih hcon.1 hei (by omega))
            rw [h2] at this; cases this
        rw [hz, Nat.add_zero]
        refine List.countP_congr fun j hj => ?_
        have hji : j < i := by simpa using hj
        simp only [Bool.and_eq_true, beq_iff_eq]
        exact ⟨fun h => h.1, fun h => ⟨h, hanc j (T.chain i j hih (by omega) hei h hji)⟩⟩
      have hlooks : ∀ t ∈ o.looksAt ops, ev e (.tmp t) = ev ef (.tmp t) := fun t ht => I.ag t fun j hj hdj => hanc j (T.looks i j t hih hj hdj (by simpa [looksAtI, ho] using ht))
      have hai : a ≤ i := Nat.le_of_not_lt fun hlt => by have := hbase i hlt; rw [h2] at this; cases this
      have := ob i o hai hih ho _ hlo hhi hrk e I.len hlooks
      rw [← I.st] at this
      have hmono : ∀ {K K' : V → Sg → Prop}, (∀ v s', K v s' → K' v s') → OpI P ops o e s K → OpI P ops o e s K' := by
        intro K K' hKK h
        unfold OpI at h ⊢
        have hg : OpG P o e s K → OpG P o e s K' := fun h r B M ρ a w next QQ hs hk => h r B M ρ a w next QQ hs fun y w' v s' ρ' hK => hk y w' v s' ρ' (hKK _ _ hK)
        split at h
        · exact hg h
        · obtain ⟨oj, t, a1, a2, h⟩ := h
          have hsk : SkipK s K → SkipK s K' := fun h => h.imp (hKK _ _) (hKK _ _)
          refine ⟨oj, t, a1, a2, ?_⟩
          rcases h with ⟨b, a3, a4, a5⟩ | ⟨a3, a4⟩
          · exact .inl ⟨b, a3, fun hb => hg (a4 hb), fun hb => hsk (a5 hb)⟩
          · exact .inr ⟨a3, hsk a4⟩
      refine hmono (fun v s' hv => ?_) this
      refine ih _ _ _ (inv_stepB T I hi hih ho (by rw [hv.1]) hv.2) (fun j hj => by rw [Array.getElem?_setIfInBounds_ne (by omega)]; exact hbase j hj) ?_
      have hdec : ((List.range h).countP fun j => (L.setIfInBounds i true)[j]? == some false) + 1 ≤ (List.range h).countP fun j => L[j]? == some false := by
        have hcount : ∀ (l : List Nat), l.Nodup → i ∈ l → (l.countP fun j => (L.setIfInBounds i true)[j]? == some false) + 1 ≤ l.countP fun j => L[j]? == some false := by
          intro l
          induction l with
          | nil => intro _ h; cases h
          | cons x l ihl =>
            intro hnd hmem
            obtain ⟨hx, hnd⟩ := List.nodup_cons.1 hnd
            rw [List.countP_cons, List.countP_cons]
            by_cases hxi : x = i
            · subst hxi
              have hle : (l.countP fun j => (L.setIfInBounds x true)[j]? == some false) ≤ l.countP fun j => L[j]? == some false := by
                refine List.countP_mono_left fun j hj hjt => ?_
                have : j ≠ x := fun e0 => hx (e0 ▸ hj)
                rwa [Array.getElem?_setIfInBounds_ne (Ne.symm this)] at hjt
              have hs1 : (L.setIfInBounds x true)[x]? = some true := by simp [I.size, h1]
              rw [hs1, h2]
              simp only [beq_self_eq_true, if_true]
              have : (some true == some false) = false := rfl
              simp only [this]
              simpa using hle
            · have hml : i ∈ l := by
                rcases List.mem_cons.1 hmem with h | h
                · exact absurd h.symm hxi
                · exact h
              have := ihl hnd hml
              rw [Array.getElem?_setIfInBounds_ne (Ne.symm hxi)]
              omega
        exact hcount _ List.nodup_range (by simpa using hih)
      omega
theorem ancB_low {h b : Nat} {eff : List Bool} {A : List (List Nat)} {iv : List (Nat × Nat)} (T : TabB ops h b eff A iv) : ∀ i, i < ops.size → ∀ j, j ∈ anc A i → j < i := by
  intro i
  induction i using Nat.strongRecOn with
  | _ i ih =>
    intro hi j hj
    obtain ⟨x, hx, hx2⟩ := T.claims i hi j hj
    have hlt := T.low i hi x hx
    rcases hx2 with rfl | hx2
    · exact hlt
    · have := ih x hlt (by omega) j hx2; omega
theorem va_forced {h b : Nat} {eff : List Bool} {A : List (List Nat)} {iv : List (Nat × Nat)} (T : TabB ops h b eff A iv) {k : Nat} (hk : h ≤ k) (hkb : k < b) {o : Oper} (ho : ops[k]? = some o) {L : Array Bool} (hL : DoneTo ops k L) {fuel : Nat}
    (H : OpI P ops o e s (fun v s' => ∀ L', DoneTo ops (k + 1) L' → VA P ops Q fuel L' (putv e o.dst v) s')) : VA P ops Q (fuel + 1) L e s := by
  have hkn : k < ops.size := by have := T.leb; omega
  have hkf : L[k]? = some false := by
    rcases bit_cases (L := L) (i := k) (by have := hL.1; omega) with h | h
    · have := (hL.2 k hkn).1 h; omega
    · exact h
  have hmem : k ∈ Region.ready .any ops L := mem_ready_of hkn hkf fun x hx => (hL.2 x (by have := T.low k hkn x hx; omega)).2 (T.low k hkn x hx)
  refine va_step (fun h0 => by rw [h0] at hmem; cases hmem) fun i o' hi ho' => ?_
  have hik : i = k := by
    obtain ⟨h1, h2, h3⟩ := ready_spec hi hL.1
    rcases Nat.lt_trichotomy i k with h | h | h
    · have := (hL.2 i h1).2 h; rw [h2] at this; cases this
    · exact h
    · exfalso
      obtain ⟨x, hx, hx2⟩ := T.claims i h1 k (T.tail i (by omega) h1 k h hkb)
      have hxt := h3 x hx
      have hxl := T.low i h1 x hx
      have := (hL.2 x (by omega)).1 hxt
      rcases hx2 with rfl | hx2
      · omega
      · have := ancB_low T x (by omega) k hx2; omega
  subst hik
  rw [ho] at ho'; cases ho'
  refine OpI.mono H fun v s' hv => hv _ ⟨by simpa using hL.1, fun j hj => ?_⟩
  by_cases hij : i = j
  · subst hij; simp [hL.1, hj]
  · rw [Array.getElem?_setIfInBounds_ne hij, hL.2 j hj]; omega
def Phase (P : Program) (ops : Array Oper) (Q : Exit → Env → Sg → Prop) (b : Nat) (e : Env) (s : Sg) : Prop := ∀ L, DoneTo ops b L → ∀ fuel, ops.size - b ≤ fuel → VA P ops Q fuel L e s
theorem phase_end (h : Q .normal e s) : Phase P ops Q ops.size e s := fun L hL fuel _ => va_done (by
  cases hr : Region.ready .any ops L with
  | nil => rfl
  | cons i l =>
    have hi : i ∈ Region.ready .any ops L := by rw [hr]; exact List.mem_cons_self ..
    obtain ⟨h1, h2, _⟩ := ready_spec hi hL.1
    have := (hL.2 i h1).2 h1
    rw [h2] at this; cases this) h fuel
theorem phase_wocs {md : Nat} {h b : Nat} {eff : List Bool} {A : List (List Nat)} {iv : List (Nat × Nat)} (T : TabB ops h b eff A iv) : ∀ (l : List Oper) (sc : List CallS) (k : Nat) {e : Env} {s : Sg}, h ≤ k → k + l.length = b → (∀ j o, l[j]? = some o → ops[k + j]? = some o) →
    wocs md P ops l sc (fun e s => Phase P ops Q b e s) e s → Phase P ops Q k e s
  | [], sc, k, e, s, _, hb, _, h => by simp at hb; subst hb; exact h
  | o :: l, sc, k, e, s, hk, hb, hl, H => by
    have ho : ops[k]? = some o := hl 0 o rfl
    simp only [List.length_cons] at hb
    intro L hL fuel hf
    obtain ⟨fuel, rfl⟩ : ∃ f, fuel = f + 1 := ⟨fuel - 1, by have := T.leb; omega⟩
    refine va_forced T hk (by omega) ho hL ((goc_opi H).mono fun v s' hv L' hL' => ?_)
    obtain ⟨sc', hv⟩ := hv
    exact phase_wocs T l sc' (k + 1) (by omega) (by omega) (fun j o' hj => by rw [Nat.add_assoc, Nat.add_comm 1 j]; exact hl (j + 1) o' (by simpa using hj)) hv L' hL' fuel (by omega)
theorem vw_phase {id : Nat} (hm : P.follows .mixedOrders = true) (H : Phase P ops Q 0 e s) : VW P (.region id ops true) Q e s := by
  intro r B M ρ a w QQ hs hk
  refine wpIn_region_any hm ?_
  have hst : Stp s ρ w s ρ { w with drawn := w.drawn + 1 } := ⟨rfl, rfl, rfl, Nat.le_refl _, fun _ _ _ => rfl, fun _ _ => rfl, Nat.le_refl _, fun _ b' _ h => ⟨b', h⟩, fun _ _ h => h, fun _ rec h => ⟨rec, h⟩⟩
  have hsr := (hs.sr.side (w' := { w with drawn := w.drawn + 1 }) (fun _ _ _ _ h => h) (fun _ _ _ _ _ => rfl)).1
  refine H _ ⟨by simp, fun j hj => by simp [hj]⟩ ops.size (by omega) r B M ρ a _ QQ (hs.step hsr hst (hs.envStep hst) rfl) fun x e' s' ρ' a' w' q h3 h4 => hk x e' s' ρ' a' w' q h3 (hst.trans h4)
theorem kpOf_rep (a : Nat) (cls : List Nat) : kpOf (List.replicate a 0 ++ cls) = kpOf cls := by
  induction a with
  | zero => simp
  | succ a ih => rw [List.replicate_succ, List.cons_append]; simpa [kpOf] using ih
def okPhase (ops : Array Oper) (a h b : Nat) (cls : List Nat) : Bool :=
  okHeadB ops h b (effOf (List.replicate a 0 ++ cls)) (cloT ops) (ivOf h (List.replicate a 0 ++ cls)) && okLow ops && decide (a + cls.length = h) && ((((ops.toList.drop a).take (h - a)).zip cls).all fun x => clsOk x.2 x.1.op)
theorem phase_chain (a h b : Nat) (cls : List Nat) (sc sc2 : List CallS) (md2 : Nat) (hok : okPhase ops a h b cls = true) (hd : ∀ o ∈ (ops.toList.drop a).take (h - a), ∀ d, o.dst = some d → d < e.length) (hns : noStop sc = true)
    (H : chn P ops s (((ops.toList.drop a).take (h - a)).zip cls) sc (fun sc' e s => wocs md2 P ops ((ops.toList.drop h).take (b - h)) (sc' ++ sc2) (fun e s => Phase P ops Q b e s) e s) e s) : Phase P ops Q a e s := by
  simp only [okPhase, Bool.and_eq_true, List.all_eq_true, decide_eq_true_eq] at hok
  obtain ⟨⟨⟨hok1, hok2⟩, hlen0⟩, hok3⟩ := hok
  have T := tabB_of hok1 hok2
  have hle := T.le
  have hleb := T.leb
  generalize hHd : (ops.toList.drop a).take (h - a) = hdl at *
  have hlen : hdl.length = cls.length := by rw [← hHd]; simp; omega
  have hah : h - a = cls.length := by omega
  obtain ⟨vs, S, sc', hvl, hS0, _, htail, hkeep, hrun⟩ := chn_head _ sc e s (fun x hx => hok3 x hx) hns H
  have hzl : (hdl.zip cls).length = cls.length := by rw [List.length_zip, hlen, Nat.min_self]
  rw [hzl] at hvl
  have hmap : (hdl.zip cls).map (·.1) = hdl := by rw [List.map_fst_zip]; omega
  have hrep : ∀ i, a ≤ i → (List.replicate a 0 ++ cls).take i = List.replicate a 0 ++ cls.take (i - a) := fun i hi => by
    rw [List.take_append, List.take_of_length_le (by simpa using hi)]; simp
  have hrk : ∀ i, a ≤ i → i ≤ h → rank (effOf (List.replicate a 0 ++ cls)) i = ((hdl.zip cls).take (i - a)).countP (fun x => isLoudC x.2) := by
    intro i ha hi
    rw [rank_cls _ i (by simp; omega), hrep i ha, List.countP_append, List.zip, List.take_zipWith]
    have := countP_zip (hdl.take (i - a)) (cls.take (i - a)) (by simp [hlen])
    rw [List.zip] at this
    rw [this]
    have hz : (List.replicate a 0).countP isLoudC = 0 := by rw [List.countP_eq_zero]; intro x hx; rw [List.eq_of_mem_replicate hx]; simp [isLoudC]
    rw [hz, Nat.zero_add]
  have hget : ∀ i o, a ≤ i → i < h → (ops[i]? = some o ↔ hdl[i - a]? = some o) := fun i o ha hi => by
    rw [← hHd, List.getElem?_take, if_pos (by omega), List.getElem?_drop, show a + (i - a) = i by omega]; simp
  rw [hmap] at htail
  have hcN := hrk h (by omega) (Nat.le_refl _)
  rw [List.take_of_length_le (by omega)] at hcN
  rw [← hcN] at htail
  rw [List.map_snd_zip (by omega)] at hkeep
  have hcls : ∀ i, a ≤ i → i < h → (List.replicate a 0 ++ cls).getD i 0 = cls.getD (i - a) 0 := fun i ha hi => by
    rw [List.getD_eq_getElem?_getD, List.getD_eq_getElem?_getD, List.getElem?_append_right (by simpa using ha)]; simp
  intro L hL fuel hf
  have hpt : ∀ j, a ≤ j → j < h → L[j]? = some false := fun j ha hj => by
    rcases bit_cases (L := L) (i := j) (by have := hL.1; omega) with h1 | h1
    · have := (hL.2 j (by omega)).1 h1; omega
    · exact h1
  have heffa : ∀ j, j < a → (effOf (List.replicate a 0 ++ cls)).getD j false = false := fun j hj => by
    simp [effOf, List.getD_eq_getElem?_getD, List.getElem?_append_left, hj, isLoudC]
  intro r B M ρ act w QQ hs hk
  refine va_headB (a := a) (A := cloT ops) T (ef := puts e hdl vs) (S := S) ?_ ?_ fuel L e s ⟨hL.1, fun i hi hi2 j hj => ?_, fun k hk hk2 => ?_, (puts_length _ _ _).symm, fun t ht => ?_, ?_⟩ (fun j hj => (hL.2 j (by omega)).2 hj) ?_ r B M ρ act w QQ hs hk
  · intro i o hai hi ho m hm1 hm2 hm3 e' hle' hlk
    have hoi := (hget i o hai hi).1 ho
    have hvi : i - a < vs.length := by omega
    have hci : i - a < cls.length := by omega
    have hpair : (hdl.zip cls)[i - a]? = some (o, cls[i - a]) := by
      rw [List.getElem?_zip_eq_some]; exact ⟨hoi, List.getElem?_eq_getElem hci⟩
    have hF := hrun (i - a) o cls[i - a] vs[i - a] hpair (List.getElem?_eq_getElem hvi)
    rw [← hrk i hai (by omega), hmap] at hF
    have hag : ∀ t ∈ o.looksAt ops, ev e' (.tmp t) = ev (puts e (hdl.take (i - a)) (vs.take (i - a))) (.tmp t) := by
      intro t ht
      rw [hlk t ht, puts_split e _ vs (i - a)]
      refine puts_ne _ _ _ fun o' ho' => ?_
      obtain ⟨j, hj⟩ := List.mem_iff_getElem?.1 ho'
      rw [List.getElem?_drop] at hj
      have hjh : i + j < h := by have := (List.getElem?_eq_some_iff.1 hj).1; omega
      intro hcon
      have h1 := T.looks i (i + j) t hi hjh (by rw [dstAt, (hget _ o' (by omega) hjh).2 (by rw [show i + j - a = i - a + j by omega]; exact hj)]; exact hcon) (by rw [looksAtI, ho]; exact ht)
      have := ancB_low T i (by omega) (i + j) h1
      omega
    have hdst : ∀ d, o.dst = some d → d < (puts e hdl vs).length ∧ vs[i - a] = ev (puts e hdl vs) (.tmp d) := by
      intro d hdd
      refine ⟨by rw [puts_length]; exact hd o (List.mem_of_getElem? hoi) d hdd, ?_⟩
      rw [puts_split e _ vs (i - a + 1)]
      rw [puts_ne]
      · have htk := puts_take hdl vs (i - a) e hoi (List.getElem?_eq_getElem hvi)
        rw [htk, hdd, ev_putv_same (by rw [puts_length]; exact hd o (List.mem_of_getElem? hoi) d hdd)]
      · intro o' ho' hcon
        obtain ⟨j, hj⟩ := List.mem_iff_getElem?.1 ho'
        rw [List.getElem?_drop] at hj
        have hjh : i + 1 + j < h := by have := (List.getElem?_eq_some_iff.1 hj).1; omega
        have := T.dst i (i + 1 + j) d hi hjh (by rw [dstAt, ho]; exact hdd) (by rw [dstAt, (hget _ o' (by omega) hjh).2 (by rw [show i + 1 + j - a = i - a + 1 + j by omega]; exact hj)]; exact hcon)
        omega
    have hci' : cls.getD (i - a) 0 = cls[i - a] := by simp [List.getD_eq_getElem?_getD, hci]
    have hiv : (ivOf h (List.replicate a 0 ++ cls)).getD i (0, 0) = if cls[i - a] = 0 then (0, rank (effOf (List.replicate a 0 ++ cls)) h) else if cls[i - a] = 2 then (0, kpOf (List.replicate a 0 ++ cls)) else (rank (effOf (List.replicate a 0 ++ cls)) i, rank (effOf (List.replicate a 0 ++ cls)) i) := by
      unfold ivOf
      rw [List.getD_eq_getElem?_getD, List.getElem?_map, List.getElem?_range hi]
      simp only [Option.map_some, Option.getD_some, hcls i hai hi, hci']
    have heff : (effOf (List.replicate a 0 ++ cls)).getD i false = isLoudC cls[i - a] := by
      unfold effOf
      rw [List.getD_eq_getElem?_getD, List.getElem?_map, List.getElem?_append_right (by simpa using hai)]
      simp [hci]
    have hkp := kpOf_rep a cls
    rw [hiv] at hm1 hm2
    rw [heff] at hm3 ⊢
    have hmem : cls[i - a] ∈ cls := List.getElem_mem hci
    generalize hcc : cls[i - a] = c at hm1 hm2 hm3 hF hmem ⊢
    match c, hF, hm1, hm2, hm3, hmem with
    | 0, hF, hm1, hm2, hm3, hmem => exact (hF (S m) e' hag).mono fun v s' hv => ⟨by simpa [isLoudC] using hv.2, fun d hdd => ⟨(hdst d hdd).1, hv.1.trans (hdst d hdd).2⟩⟩
    | 1, hF, hm1, hm2, hm3, hmem =>
      have : m = rank (effOf (List.replicate a 0 ++ cls)) i := by simp at hm1 hm2; omega
      subst this
      exact (hF e' hag).mono fun v s' hv => ⟨by simpa [isLoudC] using hv.2, fun d hdd => ⟨(hdst d hdd).1, hv.1.trans (hdst d hdd).2⟩⟩
    | 2, hF, hm1, hm2, hm3, hmem =>
      have hx : Ext0 s (S m) := by
        rcases Nat.eq_zero_or_pos m with rfl | hpos
        · rw [hS0]; exact fun _ _ h => h
        · exact fun n b hb => hkeep m hpos (by rw [← hkp]; simpa using hm2) n b (hs.sr.lt n b hb) hb
      exact OpI.mono (hF (S m) hx e' hag) fun v s' hv => ⟨by simpa [isLoudC] using hv.2, fun d hdd => ⟨(hdst d hdd).1, hv.1.trans (hdst d hdd).2⟩⟩
    | 3, hF, hm1, hm2, hm3, hmem =>
      have := hm3 rfl
      subst this
      exact OpI.mono (hF e' hag) fun v s' hv => ⟨by simpa [isLoudC] using hv.2, fun d hdd => ⟨(hdst d hdd).1, hv.1.trans (hdst d hdd).2⟩⟩
    | c + 4, hF, hm1, hm2, hm3, hmem =>
      have := hm3 (by simp [isLoudC])
      subst this
      exact OpI.mono (hF e' hag) fun v s' hv => ⟨by simpa [isLoudC] using hv.2, fun d hdd => ⟨(hdst d hdd).1, hv.1.trans (hdst d hdd).2⟩⟩
  · intro L' hL' fuel' hf'
    exact phase_wocs T _ _ h (Nat.le_refl _) (by simp; omega) (fun j o hj => by
      rw [List.getElem?_take] at hj
      split at hj
      · rw [List.getElem?_drop] at hj; simpa using hj
      · cases hj) htail L' hL' fuel' hf'
  · have := (hL.2 i hi).1 hi2
    have hji := ancB_low T i hi j hj
    exact (hL.2 j (by omega)).2 (by omega)
  · rcases bit_cases (L := L) (i := k) (by have := hL.1; omega) with h1 | h1
    · have := (hL.2 k hk2).1 h1; omega
    · exact h1
  · refine (puts_ne _ _ _ fun o ho hcon => ?_).symm
    obtain ⟨i, hi⟩ := List.mem_iff_getElem?.1 ho
    have hih : i < cls.length := by have := (List.getElem?_eq_some_iff.1 hi).1; omega
    have := ht (a + i) (by omega) (by rw [dstAt, (hget _ o (by omega) (by omega)).2 (by rw [show a + i - a = i by omega]; exact hi)]; exact hcon)
    rw [hpt _ (by omega) (by omega)] at this; cases this
  · rw [← hS0]
    congr 1
    symm
    rw [List.countP_eq_zero]
    intro j hj hcon
    simp only [Bool.and_eq_true, beq_iff_eq] at hcon
    rcases Nat.lt_or_ge j a with h1 | h1
    · rw [heffa j h1] at hcon; cases hcon.1
    · rw [hpt j h1 (by simpa using hj)] at hcon; simp at hcon
  · have : ((List.range h).countP fun j => L[j]? == some false) ≤ h - a := by
      have hsplit : List.range h = List.range a ++ List.range' a (h - a) := by
        have := List.range'_append (s := 0) (m := a) (n := h - a) (step := 1)
        rw [List.range_eq_range', List.range_eq_range']
        simp only [Nat.one_mul, Nat.zero_add] at this
        rw [this]; congr 1; omega
      rw [hsplit, List.countP_append]
      have h0 : (List.range a).countP (fun j => L[j]? == some false) = 0 := by
        rw [List.countP_eq_zero]; intro j hj hcon
        have hja : j < a := by simpa using hj
        rw [(hL.2 j (by omega)).2 hja] at hcon; simp at hcon
      have h1 : (List.range' a (h - a)).countP (fun j => L[j]? == some false) ≤ (List.range' a (h - a)).length := List.countP_le_length
      simp only [List.length_range'] at h1
      omega
    omega
end
end Go.V
