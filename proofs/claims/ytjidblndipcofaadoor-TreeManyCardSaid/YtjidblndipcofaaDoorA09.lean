/- Lemmas on the way to the statement of this claim; no conditions. -/
import Derived.Test.YtjidblndipcofaaDoorA08
namespace Go.V
open Go Go.RowKit
def repl {α : Type} (zs : List α) : Nat → List α
  | 0 => []
  | n + 1 => zs ++ repl zs n
theorem repl_length {α : Type} (zs : List α) : ∀ n, (repl zs n).length = n * zs.length
  | 0 => by simp [repl]
  | n + 1 => by simp [repl, repl_length zs n, Nat.add_mul]; omega
theorem repl_one {α : Type} (z : α) : ∀ n, repl [z] n = List.replicate n z
  | 0 => rfl
  | n + 1 => by simp [repl, repl_one z n, List.replicate_succ]
theorem repl_map {α β : Type} (f : α → β) (zs : List α) : ∀ n, (repl zs n).map f = repl (zs.map f) n
  | 0 => rfl
  | n + 1 => by simp [repl, repl_map f zs n]
theorem repl_get {α : Type} (zs : List α) : ∀ (n j : Nat), j < n * zs.length → (repl zs n)[j]? = zs[j % zs.length]?
  | 0, j, h => by simp at h
  | n + 1, j, h => by
    simp only [repl]
    by_cases hj : j < zs.length
    · rw [List.getElem?_append_left hj, Nat.mod_eq_of_lt hj]
    · rw [List.getElem?_append_right (by omega), repl_get zs n (j - zs.length) (by rw [Nat.add_mul] at h; omega)]
      congr 1
      rw [Nat.mod_eq_sub_mod (a := j) (by omega)]
theorem repl_mem {α : Type} {zs : List α} {x : α} : ∀ {n : Nat}, x ∈ repl zs n → x ∈ zs
  | 0, h => by simp [repl] at h
  | n + 1, h => by
    simp only [repl, List.mem_append] at h
    rcases h with h | h
    · exact h
    · exact repl_mem h
theorem madeCells_list (z : Array Value) {zs : List Value} (h : z.toList = zs) (c : Nat) : (madeCells z (c * zs.length)).toList = repl zs c := by
  subst h
  apply List.ext_getElem?
  intro j
  by_cases hj : j < c * z.toList.length
  · rw [repl_get _ _ _ hj]
    have hp : 0 < z.size := by
      rcases Nat.eq_zero_or_pos z.size with h0 | h0
      · simp [h0] at hj
      · exact h0
    have hm : j % z.size < z.size := Nat.mod_lt _ hp
    simp only [madeCells, Array.toList_map, Array.toList_range, List.getElem?_map]
    rw [List.getElem?_range hj]
    simp [hm]
  · rw [List.getElem?_eq_none (by simp [madeCells]; simpa using hj), List.getElem?_eq_none (by rw [repl_length]; simpa using hj)]
section
variable {P : Program} {o : Oper} {e : Env} {s : Sg} {K : V → Sg → Prop}
def placesL (P : Program) : List Field → Option (List (Nat × Nat))
  | [] => some []
  | f :: fs => match szOf P f.type, placesL P fs with
    | some k, some l => some ((f.offset, k) :: l)
    | _, _ => none
theorem placesL_run (w : World) : ∀ {fs : List Field} {l : List (Nat × Nat)}, placesL P fs = some l → (fs.mapM (m := Sem) fun f => do pure (f.offset, ← sizeOf f.type)).run P w = .ok l w
  | [], l, h => by simp [placesL] at h; subst h; simp
  | f :: fs, l, h => by
    simp only [placesL] at h
    split at h
    · rename_i k l' hk hl
      cases h
      rw [List.mapM_cons]
      simp only [Sem.run_bind, szOf_run hk, Result.andThen, Sem.run_pure]
      rw [placesL_run w hl]
    · cases h
def vparts (e : Env) : List (Nat × Operand) → Option (List (Nat × List V))
  | [] => some []
  | (i, x) :: ps => match (ev e x).cells, vparts e ps with
    | some cs, some l => some ((i, cs) :: l)
    | _, _ => none
theorem vparts_sound {w : World} {ρ : Rho} {a : Act} (he : All2 (VR P w s ρ) e a.tmps.toList) : ∀ {ps : List (Nat × Operand)} {l : List (Nat × List V)}, vparts e ps = some l →
    All2 (fun (p : Nat × List V) (v : Nat × Value) => p.1 = v.1 ∧ All2 (VR1 P w s ρ) p.2 v.2.cells.toList) l (ps.map fun (i, x) => (i, a.eval x))
  | [], l, h => by simp [vparts] at h; subst h; trivial
  | (i, x) :: ps, l, h => by
    simp only [vparts] at h
    split at h
    · rename_i cs l' hc hl
      cases h
      exact ⟨⟨rfl, V.cells_sound hc (ev_sound he x)⟩, vparts_sound he hl⟩
    · cases h
theorem sound_build {t : TypeId} {parts : Array (Nat × Operand)} (ho : o.op = .build t parts) {fs : Array Field} (hu : P.underlying t = some (.struct fs)) {pl : List (Nat × Nat)} (hp : placesL P fs.toList = some pl)
    {zs : List Value} (hz : zeroV P t = some zs) {ps : List (Nat × List V)} (hps : vparts e parts.toList = some ps) {cs : List V} (hf : gfill (fun i => pl[i]?) (zs.map fun z => V.t (.v z)) ps = some cs) (h : K (.agg cs) s) : Sound P o e s K := by
  refine sound_val _ h fun B ρ a w hs he => ?_
  obtain ⟨i, z, hi, hz1, hz2, hfl⟩ := zeroV_some hz
  have hc : All2 (VR1 P w s ρ) (zs.map fun z => V.t (.v z)) z.cells.toList := by
    have := all2_vr1 (P := P) (s := s) (ρ := ρ) (all2_flat (w := w) (A := Fr s ρ) hfl)
    rw [hz2]
    simpa [List.map_map, Function.comp_def] using this
  obtain ⟨arr, h1, h2⟩ := fill_sound (vparts_sound (P := P) (s := s) (ρ := ρ) he hps) hc hf
  refine ⟨.agg arr, ?_, arr.toList, by simp, h2⟩
  have hm : (fs.mapM (m := Sem) fun f => do pure (f.offset, ← sizeOf f.type)).run P w = .ok pl.toArray w := by
    rw [Array.mapM_eq_mapM_toList]
    show Sem.run P ((fs.toList.mapM (m := Sem) fun f => do pure (f.offset, ← sizeOf f.type)) >>= fun x => pure x.toArray) w = _
    rw [Sem.run_bind, placesL_run (P := P) w hp]
    rfl
  simp only [execOp, ho, Instr.build, Sem.run_bind, run_zero hi hz1, Result.andThen, run_underlying hu]
  rw [hm]
  simp only
  have e1 : (fun (x : Nat) => pl.toArray[x]?) = (fun (i : Nat) => pl[i]?) := by funext i; simp
  simp only [e1]
  have e2 : (parts.map fun (x : Nat × Operand) => (x.1, a.eval x.2)).toList = parts.toList.map fun (i, x) => (i, a.eval x) := by simp
  simp only [e2, h1]
  rfl
def Sg.frzP (s : Sg) : List (Nat × List V) → Option (List (Nat × List T) × Sg)
  | [] => some ([], s)
  | (i, xs) :: ps => match s.frzL xs with
    | some (ts, s1) => match s1.frzP ps with
      | some (l, s2) => some ((i, ts) :: l, s2)
      | none => none
    | none => none
theorem frzP_sound {B : Nat} {ρ : Rho} {w : World} : ∀ {ps : List (Nat × List V)} {s : Sg} {ts : List (Nat × List T)} {s' : Sg} {vs : List (Nat × Value)}, s.frzP ps = some (ts, s') → SR P B s ρ w →
    All2 (fun (p : Nat × List V) (v : Nat × Value) => p.1 = v.1 ∧ All2 (VR1 P w s ρ) p.2 v.2.cells.toList) ps vs →
    SR P B s' ρ w ∧ Stp s ρ w s' ρ w ∧ All2 (fun (p : Nat × List T) (v : Nat × Value) => p.1 = v.1 ∧ All2 (RepT w (Fr s' ρ)) p.2 v.2.cells.toList) ts vs
  | [], s, ts, s', [], h, hs, _ => by simp [Sg.frzP] at h; obtain ⟨rfl, rfl⟩ := h; exact ⟨hs, Stp.refl _ _ _, trivial⟩
  | (i, xs) :: ps, s, ts, s', v :: vs, h, hs, ⟨⟨h0, h1⟩, h2⟩ => by
    simp only [Sg.frzP] at h
    split at h
    · rename_i t s1 hx
      split at h
      · rename_i ts' s2 hxs
        simp at h; obtain ⟨rfl, rfl⟩ := h
        obtain ⟨a1, a2, a3⟩ := frzL_sound hx hs h1
        obtain ⟨b1, b2, b3⟩ := frzP_sound hxs a1 (h2.mono fun _ _ h => ⟨h.1, h.2.mono fun _ _ h => h.step a2⟩)
        exact ⟨b1, a2.trans b2, ⟨h0, a3.mono fun _ _ h => h.mono b2.keep⟩, b3⟩
      · cases h
    · cases h
  | [], _, _, _, _ :: _, _, _, h => h.elim
  | _ :: _, _, _, _, [], _, _, h => h.elim
theorem gfill_length {α : Type} {place : Nat → Option (Nat × Nat)} : ∀ {ps : List (Nat × List α)} {cells cs : List α}, gfill place cells ps = some cs → cs.length = cells.length
  | [], cells, cs, h => by simp [gfill] at h; rw [h]
  | (i, xs) :: ps, cells, cs, h => by
    simp only [gfill] at h
    split at h
    · cases h
    · split at h
      · rename_i hl
        rw [gfill_length h, setAll_length _ _ _ hl.2]
      · cases h
theorem sound_buildSlice {t el : TypeId} {len : Nat} {parts : Array (Nat × Operand)} (ho : o.op = .buildSlice t len parts) (hu : P.underlying t = some (.slice el)) {k : Nat} (hk : szOf P el = some k) (hk0 : 0 < k)
    {zs : List Value} (hz : zeroV P el = some zs) (hzl : zs.length = k) (hle : len * k ≤ 1000000) {ps : List (Nat × List V)} (hps : vparts e parts.toList = some ps) {ts : List (Nat × List T)} {s1 : Sg} (hfr : s.frzP ps = some (ts, s1))
    {cs : List T} (hf : gfill (fun i => some (i * k, k)) (repl (zs.map T.v) len) ts = some cs) (h : K (.loc s1.next 0 len) (s1.add (.arr k el cs))) : Sound P o e s K := by
  intro B ρ a w hs hB he
  obtain ⟨i, z, hi, hz1, hz2, hfl⟩ := zeroV_some hz
  obtain ⟨a1, a2, a3⟩ := frzP_sound hfr hs (vparts_sound (P := P) (s := s) (ρ := ρ) he hps)
  have hmade := madeCells_list z.cells hz2 len
  rw [hzl] at hmade
  have hc : All2 (RepT w (Fr s1 ρ)) (repl (zs.map T.v) len) (madeCells z.cells (len * k)).toList := by
    rw [hmade, ← repl_map]
    exact all2_flat fun x hx => hfl x (repl_mem hx)
  obtain ⟨arr, h1, h2⟩ := fill_sound a3 hc hf
  have hlen : arr.toList.length = len * k := by
    rw [← h2.length, gfill_length hf, repl_length]; simp [hzl]
  have hmax : len ≤ maxLen := by
    have : len ≤ len * k := Nat.le_mul_of_pos_right len hk0
    unfold maxLen; omega
  obtain ⟨ρ', b1, b2, b3⟩ := add_arr (P := P) (B := B) a1 hB k el [] h2 hk0 len len (Nat.le_refl _) (by simpa using hlen.symm) hmax
  simp only [List.append_nil] at b1 b2 b3
  refine ⟨_, _, _, _, ρ', .inl ?_, h, b1, b3, a2.trans b2⟩
  have hsz : ¬ (len * k > 2 ^ 24) := by omega
  have e2 : (parts.map fun (x : Nat × Operand) => (x.1, a.eval x.2)).toList = parts.toList.map fun (i, x) => (i, a.eval x) := by simp
  have hzc : z.cells.size = k := by rw [← hzl, ← hz2]; simp
  simp only [execOp, ho, Instr.buildSlice, Sem.run_bind, run_underlying hu, Result.andThen, szOf_run hk, hsz, if_false, e2]
  by_cases h0 : len * k = 0
  · have hm0 : madeCells z.cells (len * k) = (Array.range (len * k)).map fun x => (#[] : Array Value)[x % (#[] : Array Value).size]! := by
      apply Array.ext <;> simp [madeCells, h0]
    simp only [h0, if_true, Sem.run_bind, Sem.run_pure, Result.andThen]
    simp only [h0] at hm0 h1
    rw [← hm0, h1]
    have e0 : arr = #[] := by
      have : arr.toList.length = 0 := by rw [hlen, h0]
      apply Array.eq_empty_of_size_eq_zero; simpa using this
    simp [newRow, e0]
  · simp only [h0, if_false, Sem.run_bind, run_zero hi hz1, Result.andThen, Sem.run_pure]
    have : (Array.range (len * k)).map (fun x => z.cells[x % z.cells.size]!) = madeCells z.cells (len * k) := rfl
    rw [this, h1]
    simp [newRow]
theorem sound_makeSlice {t el : TypeId} {l c : Operand} (ho : o.op = .makeSlice t l c) (hu : P.underlying t = some (.slice el)) {k bytes : Nat} (hk : szOf P el = some k) (hby : (P.info? el).map (·.bytes) = some bytes) (hk0 : 0 < k)
    {zs : List Value} (hz : zeroV P el = some zs) (hzl : zs.length = k) {kl kc : IntKind} {lz cz : Int} (hl : ev e l = .t (.v (.int kl lz))) (hc : ev e c = .t (.v (.int kc cz))) (h0 : 0 ≤ lz) (hlc : lz ≤ cz) (hcb : cz * bytes ≤ 1000000000) (hcm : cz ≤ 1000000000)
    (h : K (.loc s.next 0 lz.toNat) (s.add (.arr k el (repl (zs.map T.v) cz.toNat)))) : Sound P o e s K := by
  intro B ρ a w hs hB he
  obtain ⟨i, z, hi, hz1, hz2, hfl⟩ := zeroV_some hz
  have hl' := repV (w := w) (A := Fr s ρ) (by have := ev_sound he l; rwa [hl] at this)
  have hc' := repV (w := w) (A := Fr s ρ) (by have := ev_sound he c; rwa [hc] at this)
  have hmade := madeCells_list z.cells hz2 cz.toNat
  rw [hzl] at hmade
  have hik : i.size = k := by simp [szOf, hi] at hk; exact hk
  have hib : i.bytes = bytes := by simp [hi] at hby; exact hby
  have hcs : All2 (RepT w (Fr s ρ)) (repl (zs.map T.v) cz.toNat) (madeCells z.cells (cz.toNat * k)).toList := by
    rw [hmade, ← repl_map]
    exact all2_flat fun x hx => hfl x (repl_mem hx)
  obtain ⟨ρ', b1, b2, b3⟩ := add_arr (P := P) (B := B) hs hB k el [] hcs hk0 lz.toNat cz.toNat (by omega) (by simp [madeCells]) (by unfold maxLen; omega)
  simp only [List.append_nil] at b1 b2 b3
  refine ⟨_, _, _, _, ρ', .inl ?_, h, b1, b3, b2⟩
  have := run_make (P := P) w t el i z hu hi hz1 kl kc lz cz h0 hlc (by rw [hib, Int.mul_comm]; omega) (by omega)
  simp [execOp, ho, hl', hc', this, hik]
end
end Go.V
