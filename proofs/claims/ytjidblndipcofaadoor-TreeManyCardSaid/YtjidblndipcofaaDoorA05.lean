/- Lemmas on the way to the statement of this claim; no conditions. -/
import Derived.Test.YtjidblndipcofaaDoorA04
namespace Go.V
open Go Go.RowKit
def calm {α : Type} (P : Program) : Sem α → Option α
  | .pure a => some a
  | .program k => calm P (k P)
  | .mark _ k => calm P k
  | _ => none
theorem calm_run {α : Type} {P : Program} {w : World} : ∀ {x : Sem α} {a : α}, calm P x = some a → x.run P w = .ok a w
  | .pure a, b, h => by simp only [calm, Option.some.injEq] at h; subst h; rfl
  | .program k, b, h => calm_run (x := k P) h
  | .mark _ k, b, h => calm_run (x := k) h
  | .load .., _, h => by simp [calm] at h
  | .store .., _, h => by simp [calm] at h
  | .new .., _, h => by simp [calm] at h
  | .shape .., _, h => by simp [calm] at h
  | .freeze .., _, h => by simp [calm] at h
  | .frozen .., _, h => by simp [calm] at h
  | .getObj .., _, h => by simp [calm] at h
  | .setObj .., _, h => by simp [calm] at h
  | .choose .., _, h => by simp [calm] at h
  | .sys .., _, h => by simp [calm] at h
  | .halt .., _, h => by simp [calm] at h
def szOf (P : Program) (t : TypeId) : Option Nat := (P.info? t).map (·.size)
def isAgg (P : Program) (t : TypeId) : Option Bool := (P.underlying t).map fun | .struct _ | .array _ _ => true | _ => false
def zeroV (P : Program) (t : TypeId) : Option (List Value) :=
  match (P.info? t).bind (·.zero) with
  | some z => if z.cells.toList.all flat = true then some z.cells.toList else none
  | none => none
def fieldOf (P : Program) (s : TypeId) (f : Nat) : Option (Nat × TypeId) :=
  match P.underlying s with
  | some (.struct fs) => (fs[f]?).map fun x => (x.offset, x.type)
  | _ => none
def ev (e : Env) : Operand → V
  | .tmp t => e.getD t .junk
  | .const v => if flat v = true then .t (.v v) else .junk
  | .global _ => .junk
  | .func f => .t (.v (.func (.func f) #[] #[]))
theorem ev_sound {P : Program} {w : World} {s : Sg} {ρ : Rho} {e : Env} {a : Act} (he : All2 (VR P w s ρ) e a.tmps.toList) (x : Operand) : VR P w s ρ (ev e x) (a.eval x) := by
  cases x with
  | tmp t =>
    simp only [ev, Act.eval]
    cases h : e[t]? with
    | none => simp only [List.getD, h, Option.getD_none]; trivial
    | some v =>
      obtain ⟨y, hy, hr⟩ := he.get t v h
      simp only [List.getD, h, Option.getD_some]
      have : a.tmps.getD t undef = y := by
        rw [Array.getD_eq_getD_getElem?]
        have : a.tmps[t]? = some y := by simpa using hy
        rw [this]; rfl
      rw [this]; exact hr
  | const v =>
    simp only [ev, Act.eval]
    split
    · rename_i h
      show RepT w (Fr s ρ) (.v v) v
      rw [RepT]; exact ⟨rfl, h⟩
    · trivial
  | global g => trivial
  | func f =>
    show RepT w (Fr s ρ) (.v (.func (.func f) #[] #[])) (.func (.func f) #[] #[])
    rw [RepT]; exact ⟨rfl, rfl⟩
def V.cells : V → Option (List V)
  | .agg cs => some cs
  | .tup _ | .junk | .nob => none
  | x => some [x]
theorem VR1.one {P : Program} {w : World} {s : Sg} {ρ : Rho} {x : V} {y : Value} (h : VR1 P w s ρ x y) : y.oneCell' = true := by
  cases x with
  | clo g caps => obtain ⟨l, rfl, _⟩ := h; rfl
  | yl n => exact VR0.one (w := w) (s := s) (ρ := ρ) (x := .yl n) h
  | mp n => exact VR0.one (w := w) (s := s) (ρ := ρ) (x := .mp n) h
  | t x => exact VR0.one (w := w) (x := .t x) h
  | loc a b c => exact VR0.one (w := w) (x := .loc a b c) h
  | ptr a b => exact VR0.one (w := w) (x := .ptr a b) h
  | iad a b => exact VR0.one (w := w) (x := .iad a b) h
  | _ => exact h.elim
theorem cells_one {y : Value} (h : y.oneCell' = true) : y.cells.toList = [y] := by
  cases y <;> first | rfl | (simp [Value.oneCell'] at h)
theorem V.cells_sound {P : Program} {w : World} {s : Sg} {ρ : Rho} {x : V} {cs : List V} {y : Value} (hc : x.cells = some cs) (h : VR P w s ρ x y) : All2 (VR1 P w s ρ) cs y.cells.toList := by
  have one : VR1 P w s ρ x y → cs = [x] → All2 (VR1 P w s ρ) cs y.cells.toList := by
    intro h1 e; subst e; rw [cells_one h1.one]; exact ⟨h1, trivial⟩
  cases x with
  | agg l => simp [V.cells] at hc; subst hc; obtain ⟨l', rfl, hl⟩ := h; exact hl
  | tup => simp [V.cells] at hc
  | junk => simp [V.cells] at hc
  | nob => simp [V.cells] at hc
  | t x => simp [V.cells] at hc; exact one h hc.symm
  | loc a b c => simp [V.cells] at hc; exact one h hc.symm
  | ptr a b => simp [V.cells] at hc; exact one h hc.symm
  | iad a b => simp [V.cells] at hc; exact one h hc.symm
  | clo a b => simp [V.cells] at hc; exact one h hc.symm
  | yl a => simp [V.cells] at hc; exact one h hc.symm
  | mp a => simp [V.cells] at hc; exact one h hc.symm
def vpart (P : Program) (t : TypeId) (cs : List V) (off : Nat) : Option V :=
  match isAgg P t, szOf P t with
  | some true, some k => if ((cs.drop off).take k).length = k then some (.agg ((cs.drop off).take k)) else none
  | some false, some _ => cs[off]?
  | _, _ => none
def Sound (P : Program) (o : Oper) (e : Env) (s : Sg) (K : V → Sg → Prop) : Prop :=
  ∀ (B : Nat) (ρ : Rho) (a : Act) (w : World), SR P B s ρ w → B ≤ w.heap.size → All2 (VR P w s ρ) e a.tmps.toList →
    ∃ y w' v s' ρ', ((execOp a.eval o).run P w = .ok (.value y) w' ∨ ((execOp a.eval o).run P w = .ok .skip w' ∧ y = undef)) ∧
      K v s' ∧ SR P B s' ρ' w' ∧ VR P w' s' ρ' v y ∧ Stp s ρ w s' ρ' w'
theorem sound_val {P : Program} {o : Oper} {e : Env} {s : Sg} {K : V → Sg → Prop} (v : V) (hk : K v s)
    (h : ∀ (B : Nat) (ρ : Rho) (a : Act) (w : World), SR P B s ρ w → All2 (VR P w s ρ) e a.tmps.toList → ∃ y, (execOp a.eval o).run P w = .ok (.value y) w ∧ VR P w s ρ v y) : Sound P o e s K := by
  intro B ρ a w hs _ he
  obtain ⟨y, hr, hv⟩ := h B ρ a w hs he
  exact ⟨y, w, v, s, ρ, .inl hr, hk, hs, hv, Stp.refl s ρ w⟩
section
variable {P : Program} {o : Oper} {e : Env} {s : Sg} {K : V → Sg → Prop}
theorem sound_move {x : Operand} (ho : o.op = .move x ∨ o.op = .assign x) (h : K (ev e x) s) : Sound P o e s K :=
  sound_val _ h fun B ρ a w hs he => ⟨_, by rcases ho with ho | ho <;> simp [execOp, ho], ev_sound he x⟩
theorem repV {w : World} {A : Nat → Prop} {x y : Value} (h : RepT w A (.v x) y) : y = x := by rw [RepT] at h; exact h.1
theorem sound_pick {c x y : Operand} (ho : o.op = .pick c x y) (b : Bool) (hb : ev e c = .t (.v (.bool b))) (h : K (if b then ev e x else ev e y) s) : Sound P o e s K := by
  refine sound_val _ h fun B ρ a w hs he => ⟨if b then a.eval x else a.eval y, ?_, ?_⟩
  · have hc := ev_sound he c
    rw [hb] at hc
    have hc : a.eval c = .bool b := repV (w := w) (A := Fr s ρ) hc
    cases b <;> simp [execOp, ho, hc, asBool]
  · cases b
    · exact ev_sound he y
    · exact ev_sound he x
theorem zeroV_some {t : TypeId} {zs : List Value} (h : zeroV P t = some zs) : ∃ i z, P.info? t = some i ∧ i.zero = some z ∧ z.cells.toList = zs ∧ ∀ x ∈ zs, flat x = true := by
  unfold zeroV at h
  cases hi : P.info? t with
  | none => simp [hi] at h
  | some i =>
    cases hz : i.zero with
    | none => simp [hi, hz] at h
    | some z =>
      simp only [hi, hz, Option.bind_some] at h
      split at h
      · rename_i h1
        have h2 := Option.some.inj h
        exact ⟨i, z, rfl, hz, h2, fun x hx => by rw [← h2] at hx; exact List.all_eq_true.1 h1 x hx⟩
      · cases h
theorem all2_flat {w : World} {A : Nat → Prop} : ∀ {zs : List Value}, (∀ x ∈ zs, flat x = true) → All2 (RepT w A) (zs.map T.v) zs
  | [], _ => trivial
  | z :: zs, h => ⟨by rw [RepT]; exact ⟨rfl, h z (by simp)⟩, all2_flat fun x hx => h x (by simp [hx])⟩
theorem all2_vr1 {w : World} {ρ : Rho} : ∀ {ts : List T} {ys : List Value}, All2 (RepT w (Fr s ρ)) ts ys → All2 (VR1 P w s ρ) (ts.map V.t) ys
  | [], [], _ => trivial
  | _ :: _, _ :: _, ⟨h1, h2⟩ => ⟨h1, all2_vr1 h2⟩
  | [], _ :: _, h => h.elim
  | _ :: _, [], h => h.elim
theorem run_zero {t : TypeId} {i : TypeInfo} {z : Value} (hi : P.info? t = some i) (hz : i.zero = some z) (w : World) : (zeroValue t).run P w = .ok z w := by
  simp [zeroValue, typeInfo, hi, hz]
theorem sound_alloc {t : TypeId} (ho : o.op = .alloc t) {zs : List Value} (hz : zeroV P t = some zs) (h : K (.ptr s.next 0) (s.add (.box t (zs.map fun z => .t (.v z))))) : Sound P o e s K := by
  intro B ρ a w hs hB he
  obtain ⟨i, z, hi, hz1, hz2, hf⟩ := zeroV_some hz
  have hc : All2 (VR1 P w s ρ) (zs.map fun z => V.t (.v z)) zs := by
    have := all2_vr1 (P := P) (s := s) (ρ := ρ) (all2_flat (w := w) (A := Fr s ρ) hf)
    simpa [List.map_map, Function.comp_def] using this
  obtain ⟨ρ', h1, h2, h3⟩ := add_box (P := P) hs hB t hc
  refine ⟨_, _, _, _, ρ', .inl ?_, h, h1, h3, h2⟩
  have e1 : z.cells = ⟨zs⟩ := by rw [← hz2]
  simp [execOp, ho, Instr.alloc, run_zero hi hz1, newVar, newRow, e1]
theorem sound_box {t : TypeId} {x : Operand} (ho : o.op = .box t x) {cs : List V} (hc : (ev e x).cells = some cs) (h : K (.ptr s.next 0) (s.add (.box t cs))) : Sound P o e s K := by
  intro B ρ a w hs hB he
  have hcs := V.cells_sound hc (ev_sound he x)
  obtain ⟨ρ', h1, h2, h3⟩ := add_box (P := P) hs hB t hcs
  refine ⟨_, _, _, _, ρ', .inl ?_, h, h1, h3, h2⟩
  simp [execOp, ho, Instr.box, newVar, newRow]
theorem isAgg_run {t : TypeId} {b : Bool} (h : isAgg P t = some b) (w : World) : (Go.isAgg t).run P w = .ok b w := by
  unfold isAgg at h
  cases hu : P.underlying t with
  | none => simp [hu] at h
  | some d =>
    simp [hu] at h
    simp only [Go.isAgg, Sem.run_bind, run_underlying hu, Result.andThen]
    cases d <;> simp_all
theorem szOf_run {t : TypeId} {k : Nat} (h : szOf P t = some k) (w : World) : (sizeOf t).run P w = .ok k w := by
  unfold szOf at h
  cases hi : P.info? t with
  | none => simp [hi] at h
  | some i => simp [hi] at h; simp [sizeOf, typeInfo, hi, h]
theorem addr_add (b o i : Nat) : (⟨b, o, none⟩ : Addr).add i = ⟨b, o + i, none⟩ := by
  unfold Addr.add; split
  · simp_all
  · rfl
theorem cell_of {w : World} {bl : Nat} {arr : Array Value} {ty : TypeId} {fr : Nat × Nat} (h : w.heap[bl]? = some (.cells arr ty fr)) (j : Nat) : w.cell? ⟨bl, j, none⟩ = arr[j]? := by
  simp [World.cell?, h]
theorem loadVar_agg {t : TypeId} {k : Nat} (ha : isAgg P t = some true) (hk : szOf P t = some k) {w : World} {bl off : Nat} {arr : Array Value} {ty : TypeId} {fr : Nat × Nat}
    (h : w.heap[bl]? = some (.cells arr ty fr)) (hl : off + k ≤ arr.size) : (loadVar t ⟨bl, off, none⟩).run P w = .ok (.agg ⟨(arr.toList.drop off).take k⟩) w := by
  have hlen : ((arr.toList.drop off).take k).length = k := by simp; omega
  have := run_loadCells_list (P := P) w ⟨bl, off, none⟩ ((arr.toList.drop off).take k) (fun j v hj => by
    have hjk : j < k := by have := (List.getElem?_eq_some_iff.1 hj).1; omega
    rw [addr_add, cell_of h, ← hj, List.getElem?_take, if_pos hjk, List.getElem?_drop]; simp)
  rw [hlen] at this
  simp [loadVar, isAgg_run ha, szOf_run hk, this]
theorem loadVar_one {t : TypeId} (ha : isAgg P t = some false) {w : World} {bl off : Nat} {arr : Array Value} {ty : TypeId} {fr : Nat × Nat} {x : Value}
    (h : w.heap[bl]? = some (.cells arr ty fr)) (hx : arr[off]? = some x) : (loadVar t ⟨bl, off, none⟩).run P w = .ok x w := by
  have : w.cell? ⟨bl, off, none⟩ = some x := by rw [cell_of h]; exact hx
  simp [loadVar, isAgg_run ha, load, Sem.run, this]
theorem Cells.len {α : Type} {R : α → Value → Prop} {cs : List α} {arr : Array Value} {o' : Nat} (h : Cells R cs arr o') (hne : cs.length ≠ 0) : o' + cs.length ≤ arr.size := by
  obtain ⟨x, hx, _⟩ := h (cs.length - 1) cs[cs.length - 1] (List.getElem?_eq_getElem (by omega))
  have := (Array.getElem?_eq_some_iff.1 hx).1
  omega
theorem Cells.all2 {α : Type} {R : α → Value → Prop} {cs : List α} {arr : Array Value} {o' : Nat} (h : Cells R cs arr o') : All2 R cs ((arr.toList.drop o').take cs.length) := by
  have key : ∀ (cs : List α) (ys : List Value), (∀ (i : Nat) (c : α), cs[i]? = some c → ∃ x, ys[i]? = some x ∧ R c x) → All2 R cs (ys.take cs.length) := by
    intro cs
    induction cs with
    | nil => intro ys _; simp [All2]
    | cons c cs ih =>
      intro ys h
      cases ys with
      | nil => obtain ⟨x, hx, _⟩ := h 0 c rfl; simp at hx
      | cons y ys =>
        simp only [List.length_cons, List.take_succ_cons]
        refine ⟨?_, ih ys (fun i d hd => ?_)⟩
        · obtain ⟨x, hx, hr⟩ := h 0 c rfl
          simp at hx; subst hx; exact hr
        · simpa using h (i + 1) d (by simpa using hd)
  refine key cs _ (fun i c hc => ?_)
  obtain ⟨x, hx, hr⟩ := h i c hc
  exact ⟨x, by rw [List.getElem?_drop]; simpa using hx, hr⟩
theorem part_sound {w : World} {ρ : Rho} {t : TypeId} {cs : List V} {off : Nat} {v : V} (hp : vpart P t cs off = some v) {bl o' : Nat} {arr : Array Value} {ty : TypeId} {fr : Nat × Nat}
    (h : w.heap[bl]? = some (.cells arr ty fr)) (hc : Cells (VR1 P w s ρ) cs arr o') : ∃ y, (loadVar t ⟨bl, o' + off, none⟩).run P w = .ok y w ∧ VR P w s ρ v y := by
  unfold vpart at hp
  split at hp
  · rename_i k ha hk
    split at hp
    · rename_i hlen
      cases hp
      by_cases hk0 : k = 0
      · subst hk0
        refine ⟨.agg #[], ?_, ⟨[], rfl, by simp [All2]⟩⟩
        simp [loadVar, isAgg_run ha, szOf_run hk, loadCells, loadCellsFrom]
      · have hlen' : off + k ≤ cs.length := by simp at hlen; omega
        have := hc.len (by omega)
        refine ⟨_, loadVar_agg ha hk h (by omega), _, rfl, ?_⟩
        have := (hc.all2.drop off).take k
        rw [List.drop_take, List.take_take, List.drop_drop] at this
        rwa [Nat.min_eq_left (by omega)] at this
    · cases hp
  · rename_i k ha hk
    obtain ⟨x, hx, hr⟩ := hc off v hp
    exact ⟨x, loadVar_one ha h hx, hr.vr⟩
  · cases hp
end
end Go.V
