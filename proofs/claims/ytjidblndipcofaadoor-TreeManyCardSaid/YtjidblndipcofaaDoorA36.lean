/- Lemmas on the way to the statement of this claim; no conditions. -/
import Derived.MapKept
import Derived.Test.YtjidblndipcofaaDoorA32
namespace Go.V
open Go Go.RowKit
def kOK : TypeDesc → Value → Bool
  | .string, .string _ => true
  | .int k, .int k' _ => k == k'
  | .bool, .bool _ => true
  | _, _ => false
def keq : Value → Value → Bool
  | .string a, .string b => a == b
  | .int _ a, .int _ b => a == b
  | .bool a, .bool b => a == b
  | _, _ => false
def mix (k : Value) : List (Value × V) → Option Nat
  | [] => none
  | p :: l => if keq k p.1 then some 0 else (mix k l).map (· + 1)
def mget (k : Value) (es : List (Value × V)) : Option V :=
  match mix k es with
  | some i => (es[i]?).map (·.2)
  | none => none
def mput (k : Value) (v : V) (es : List (Value × V)) : List (Value × V) :=
  match mix k es with
  | some i => es.set i (k, v)
  | none => es ++ [(k, v)]
def mdel (k : Value) (es : List (Value × V)) : List (Value × V) :=
  match mix k es with
  | some i => es.eraseIdx i
  | none => es
section
variable {P : Program} {w : World} {s : Sg} {ρ : Rho}
abbrev EntR (P : Program) (w : World) (s : Sg) (ρ : Rho) : Value × V → MapEntry → Prop := fun p x => x.key = p.1 ∧ VR2 P w s ρ p.2 x.val
theorem same_key {d : TypeDesc} {k k' : Value} (h : kOK d k = true) (h' : kOK d k' = true) : Instr.sameNow d k k' = some (keq k k') := by
  cases d <;> cases k <;> simp [kOK] at h <;> cases k' <;> simp [kOK] at h' <;> simp [Instr.sameNow, keq]
  exact h.symm.trans h'
theorem findNow_ix {d : TypeDesc} {k : Value} (hk : kOK d k = true) : ∀ {es : List (Value × V)} {l : List MapEntry} (i : Nat), All2 (EntR P w s ρ) es l → (∀ p ∈ es, kOK d p.1 = true) →
    Instr.findNow d k l i = some (match mix k es with | some j => (l[j]?).map fun x => (i + j, x.val) | none => none)
  | [], [], i, _, _ => by simp [Instr.findNow, mix]
  | p :: es, x :: l, i, ⟨h1, h2⟩, he => by
    have hp := he p (List.mem_cons_self ..)
    rw [Instr.findNow, h1.1, same_key hk hp]
    by_cases hq : keq k p.1 = true
    · simp [mix, hq]
    · have hq' : keq k p.1 = false := by simpa using hq
      have := findNow_ix hk (i + 1) h2 (fun q hq => he q (List.mem_cons_of_mem _ hq))
      simp only [hq', mix, if_false, Bool.false_eq_true]
      rw [this]
      cases hm : mix k es with
      | none => simp
      | some j => simp [Nat.add_assoc, Nat.add_comm 1 j]
  | [], _ :: _, _, hh, _ => hh.elim
  | _ :: _, [], _, hh, _ => hh.elim
theorem mix_lt {k : Value} : ∀ {es : List (Value × V)} {i : Nat}, mix k es = some i → ∃ p, es[i]? = some p ∧ keq k p.1 = true
  | [], _, h => by simp [mix] at h
  | p :: es, i, h => by
    simp only [mix] at h
    split at h
    · rename_i hq; cases h; exact ⟨p, rfl, hq⟩
    · cases hm : mix k es with
      | none => rw [hm] at h; cases h
      | some j => rw [hm] at h; cases h; simpa using mix_lt hm
theorem keq_key {d : TypeDesc} {k k' : Value} (h : kOK d k = true) (h' : kOK d k' = true) (hq : keq k k' = true) : k = k' := by
  cases d <;> cases k <;> simp [kOK] at h <;> cases k' <;> simp [kOK] at h' <;> simp [keq] at hq
  · exact congrArg _ hq
  · subst hq; rw [← h, ← h']
  · exact congrArg _ ((MapKept.bytes_beq _ _).1 hq)
theorem keyThatStays_key {d : TypeDesc} {k : Value} (h : kOK d k = true) (w : World) : (Instr.keyThatStays k k).run P w = .ok k w := by
  have : Instr.sameBits 10000 k k = true := by
    cases d <;> cases k <;> simp [kOK] at h <;> simp [Instr.sameBits]
    exact (MapKept.bytes_beq _ _).2 rfl
  simp [Instr.keyThatStays, this]
theorem checkKey_key {b : Bool} {kt : TypeId} {d : TypeDesc} (hu : P.underlying kt = some d) {k : Value} (h : kOK d k = true) (w : World) : (Instr.checkKey b 10000 kt k).run P w = .ok () w := by
  show (Instr.checkKey b (9999 + 1) kt k).run P w = _
  unfold Instr.checkKey
  cases d <;> cases k <;> simp [kOK] at h <;> simp [run_underlying hu]
theorem findKey_ix {kt : TypeId} {d : TypeDesc} (hu : P.underlying kt = some d) {k : Value} (hk : kOK d k = true) {es : List (Value × V)} {l : List MapEntry} (hr : All2 (EntR P w s ρ) es l) (he : ∀ p ∈ es, kOK d p.1 = true) (w' : World) :
    (Instr.findKey kt k l).run P w' = .ok (match mix k es with | some j => (l[j]?).map fun x => (j, x.val) | none => none) w' := by
  have := findNow_ix hk 0 hr he
  simp only [Nat.zero_add] at this
  simp [Instr.findKey, run_underlying hu, this]
end
section
variable {P : Program} {o : Oper} {e : Env} {s : Sg}
theorem mp_at {B : Nat} {ρ : Rho} {w : World} (hs : SR P B s ρ w) {n : Nat} {es : List (Value × V)} (hn : s.m n = some (.mp es)) {y : Value} (hy : VR P w s ρ (.mp n) y) :
    ∃ l arr clk, (ρ n).blk = some l ∧ y = .map (some l) ∧ w.heap[l]? = some (.map arr clk) ∧ All2 (EntR P w s ρ) es arr.toList ∧ (arr.toList.map (·.born)).Pairwise (· < ·) ∧ ∀ x ∈ arr.toList, x.born < clk := by
  obtain ⟨_, _, hb⟩ := hy
  obtain ⟨l, h1, rfl⟩ := hb _ hn
  obtain ⟨l', arr, clk, h2, h3, h4⟩ := hs.rep n _ hn
  rw [h1] at h2; cases h2
  exact ⟨l, arr, clk, h1, rfl, h3, h4⟩
def zVal (P : Program) (t : TypeId) : Option V :=
  match (P.info? t).bind (·.zero) with
  | some (.agg cs) => if cs.toList.all flat = true then some (.agg (cs.toList.map fun z => .t (.v z))) else none
  | some z => if flat z = true then some (.t (.v z)) else none
  | none => none
theorem zVal_some {t : TypeId} {v : V} (h : zVal P t = some v) (w : World) (s : Sg) (ρ : Rho) : ∃ z, (zeroValue t).run P w = .ok z w ∧ VR2 P w s ρ v z := by
  unfold zVal at h
  cases hi : P.info? t with
  | none => simp [hi] at h
  | some i =>
    cases hz : i.zero with
    | none => simp [hi, hz] at h
    | some z =>
      refine ⟨z, run_zero hi hz w, ?_⟩
      simp only [hi, hz, Option.bind_some] at h
      split at h
      · rename_i cs hcs
        cases hcs
        split at h
        · rename_i hf
          cases h
          refine ⟨cs.toList, rfl, ?_⟩
          rw [List.all_eq_true] at hf
          have := all2_vr1 (P := P) (s := s) (ρ := ρ) (all2_flat (w := w) (A := Fr s ρ) hf)
          simpa [List.map_map, Function.comp_def] using this
        · cases h
      · rename_i z' _ hz'
        cases hz'
        split at h
        · rename_i hf
          cases h
          have h1 : VR0 w s ρ (.t (.v z)) z := by
            show RepT w (Fr s ρ) (.v z) z
            rw [RepT]; exact ⟨rfl, hf⟩
          exact h1.vr1.vr2
        · cases h
      · cases h
def mlook (c : Bool) (z : V) (r : Option V) : V := if c = true then .tup [r.getD z, Bo r.isSome] else r.getD z
theorem mix_get {ρ : Rho} {w : World} {k : Value} {es : List (Value × V)} {l : List MapEntry} (hr : All2 (EntR P w s ρ) es l) : (mix k es = none ∧ mget k es = none) ∨ ∃ i p x, mix k es = some i ∧ es[i]? = some p ∧ l[i]? = some x ∧ EntR P w s ρ p x ∧ mget k es = some p.2 ∧ keq k p.1 = true := by
  cases hm : mix k es with
  | none => exact .inl ⟨rfl, by simp [mget, hm]⟩
  | some i =>
    obtain ⟨p, hp, hq⟩ := mix_lt hm
    obtain ⟨x, hx, he⟩ := hr.get i p hp
    exact .inr ⟨i, p, x, rfl, hp, hx, he, by simp [mget, hm, hp], hq⟩
theorem far_lookup {t kt el : TypeId} {x k : Operand} {c : Bool} (ho : o.op = .lookup t x k c) (hu : P.underlying t = some (.map kt el)) {d : TypeDesc} (hd : P.underlying kt = some d) {n : Nat} (hx : ev e x = .mp n) {es : List (Value × V)} (hn : s.m n = some (.mp es))
    {kv : Value} (hk : ev e k = .t (.v kv)) (hkk : kOK d kv = true) (hes : ∀ p ∈ es, kOK d p.1 = true) {z : V} (hz : zVal P el = some z) : FarO P o e s (mlook c z (mget kv es)) s := by
  intro e' K he hK
  refine (sound_val _ hK fun B ρ a w hs hE => ?_).opg
  have h1 := ev_sound hE x
  rw [he x (by simp [ho, Op.operands]), hx] at h1
  have h2 := ev_sound hE k
  rw [he k (by simp [ho, Op.operands]), hk] at h2
  have h2 := repV (w := w) (A := Fr s ρ) h2
  obtain ⟨l, arr, clk, hb, hy, hh, hR, _⟩ := mp_at hs hn h1
  obtain ⟨zz, hz1, hz2⟩ := zVal_some hz w s ρ
  have tail : ∀ (b : Bool) (v : V) (y : Value), VR2 P w s ρ v y → ∃ y2, (if c = true then Value.tuple #[y, .bool b] else y) = y2 ∧ VR P w s ρ (if c = true then .tup [v, Bo b] else v) y2 := by
    intro b v y hv
    cases c with
    | false => exact ⟨_, rfl, hv.vr⟩
    | true => exact ⟨_, rfl, [y, .bool b], rfl, hv, (by show RepT w (Fr s ρ) (.v (.bool b)) (.bool b); rw [RepT]; exact ⟨rfl, rfl⟩), trivial⟩
  rcases mix_get (k := kv) hR with ⟨hm, hg⟩ | ⟨i, p, en, hm, hp, hen, her, hg, _⟩
  · obtain ⟨y2, hy2, hv⟩ := tail false z zz hz2
    refine ⟨y2, ?_, ?_⟩
    · simp only [execOp, ho, Instr.lookup, h2, hy, Sem.run_bind, run_underlying hu, Result.andThen, MapKept.run_getObj_map hh, checkKey_key hd hkk, findKey_ix hd hkk hR hes, Sem.run_pure, hm, hz1, hy2]
    · rw [hg]; exact hv
  · obtain ⟨y2, hy2, hv⟩ := tail true p.2 en.val her.2
    refine ⟨y2, ?_, ?_⟩
    · simp only [execOp, ho, Instr.lookup, h2, hy, Sem.run_bind, run_underlying hu, Result.andThen, MapKept.run_getObj_map hh, checkKey_key hd hkk, findKey_ix hd hkk hR hes, Sem.run_pure, hm, hen, Option.map_some, hy2]
    · rw [hg]; exact hv
def twoV : V → Bool
  | .tup _ | .junk | .nob => false
  | _ => true
theorem VR.vr2 {w : World} {ρ : Rho} {x : V} {y : Value} (hx : twoV x = true) (h : VR P w s ρ x y) : VR2 P w s ρ x y := by
  cases x with
  | tup l => cases hx
  | junk => cases hx
  | nob => cases hx
  | agg cs => exact h
  | t x => exact h
  | loc n o l => exact h
  | ptr n o => exact h
  | iad n o => exact h
  | clo g c => exact h
  | yl e => exact h
  | mp e => exact h
theorem mp_put {B : Nat} {ρ : Rho} {w : World} (hs : SR P B s ρ w) {n l : Nat} {es : List (Value × V)} {arr arr' : Array MapEntry} {clk clk' : Nat} (hn : s.m n = some (.mp es)) (hb : (ρ n).blk = some l) (hh : w.heap[l]? = some (.map arr clk)) (es' : List (Value × V))
    (h1 : All2 (EntR P w s ρ) es' arr'.toList) (h2 : (arr'.toList.map (·.born)).Pairwise (· < ·)) (h3 : ∀ x ∈ arr'.toList, x.born < clk') :
    SR P B (s.set n (.mp es')) ρ (w.putObj l (.map arr' clk')) ∧ Stp s ρ w (s.set n (.mp es')) ρ (w.putObj l (.map arr' clk')) := by
  have hll := heap_lt hh
  have hc := chg_put hs hn hb (.mp es') (w' := w.putObj l (.map arr' clk')) rfl rfl rfl (by simp) (fun x hx => World.putObj_heap_other hx) (fun rec hl => by rw [hh] at hl; cases hl)
  refine ⟨?_, ?_⟩
  · have := hc.sr hs ⟨l, arr', clk', hb, World.putObj_heap_same hll, ?_, h2, h3⟩
    · rwa [up_self] at this
    · exact h1.mono fun _ _ h => ⟨h.1, h.2.step hc.stp⟩
  · have := hc.stp
    rwa [up_self] at this
theorem modify_list (arr : Array MapEntry) (i : Nat) (f : MapEntry → MapEntry) {x : MapEntry} (h : arr.toList[i]? = some x) : (arr.modify i f).toList = arr.toList.set i (f x) := by
  apply List.ext_getElem?
  intro j
  rw [Array.getElem?_toList, Array.getElem?_modify, List.getElem?_set]
  by_cases hj : i = j
  · subst hj
    have hl := (List.getElem?_eq_some_iff.1 h).1
    rw [if_pos rfl, if_pos rfl, if_pos hl, ← Array.getElem?_toList, h]; rfl
  · rw [if_neg hj, if_neg hj, Array.getElem?_toList]
theorem All2.erase {α β : Type} {R : α → β → Prop} : ∀ {l : List α} {m : List β}, All2 R l m → ∀ i, All2 R (l.eraseIdx i) (m.eraseIdx i)
  | [], [], _, _ => trivial
  | _ :: _, _ :: _, ⟨_, h2⟩, 0 => h2
  | _ :: _, _ :: _, ⟨h1, h2⟩, i + 1 => ⟨h1, All2.erase h2 i⟩
  | [], _ :: _, hh, _ => hh.elim
  | _ :: _, [], hh, _ => hh.elim
theorem all2_snoc {α β : Type} {R : α → β → Prop} {l : List α} {m : List β} (h : All2 R l m) {a : α} {b : β} (hab : R a b) : All2 R (l ++ [a]) (m ++ [b]) := h.append ⟨hab, trivial⟩
theorem far_update {t kt el : TypeId} {x k y : Operand} (ho : o.op = .mapUpdate t x k y) (hu : P.underlying t = some (.map kt el)) {d : TypeDesc} (hd : P.underlying kt = some d) {n : Nat} (hx : ev e x = .mp n) {es : List (Value × V)} (hn : s.m n = some (.mp es))
    {kv : Value} (hk : ev e k = .t (.v kv)) (hkk : kOK d kv = true) (hes : ∀ p ∈ es, kOK d p.1 = true) {u : V} (hy : ev e y = u) (hyt : twoV u = true) : FarO P o e s .junk (s.set n (.mp (mput kv u es))) := by
  intro e' K he hK
  have hS : Sound P o e' s K := by
    intro B ρ a w hs hB hE
    have h1 := ev_sound hE x
    rw [he x (by simp [ho, Op.operands]), hx] at h1
    have h2 := ev_sound hE k
    rw [he k (by simp [ho, Op.operands]), hk] at h2
    have h2 := repV (w := w) (A := Fr s ρ) h2
    have h3 := ev_sound hE y
    rw [he y (by simp [ho, Op.operands]), hy] at h3
    have h3 := VR.vr2 hyt h3
    obtain ⟨l, arr, clk, hb, hym, hh, hR, hP, hL⟩ := mp_at hs hn h1
    rcases mix_get (k := kv) hR with ⟨hm, hg⟩ | ⟨i, p, en, hm, hp, hen, her, hg, hq⟩
    · obtain ⟨g1, g2⟩ := mp_put (clk' := clk + 1) (arr' := arr.push { key := kv, val := a.eval y, born := clk }) hs hn hb hh (es ++ [(kv, u)]) (by rw [Array.toList_push]; exact all2_snoc hR ⟨rfl, h3⟩)
        (by rw [Array.toList_push, List.map_append, List.pairwise_append]
            exact ⟨hP, by simp, fun b hb c hc => by
              obtain ⟨z, hz, rfl⟩ := List.mem_map.1 hb
              simp at hc; subst hc; exact hL z hz⟩)
        (fun z hz => by
          rw [Array.toList_push] at hz
          rcases List.mem_append.1 hz with hz | hz
          · exact Nat.lt_succ_of_lt (hL z hz)
          · simp at hz; subst hz; exact Nat.lt_succ_self _)
      refine ⟨undef, _, .junk, s.set n (.mp (es ++ [(kv, u)])), ρ, .inr ⟨?_, rfl⟩, ?_, g1, trivial, g2⟩
      · simp only [execOp, ho, Instr.mapUpdate, h2, hym, Sem.run_bind, run_underlying hu, Result.andThen, MapKept.run_getObj_map hh, checkKey_key hd hkk, findKey_ix hd hkk hR hes, Sem.run_pure, hm, MapKept.run_setObj_map _ hh]
        rfl
      · have : mput kv u es = es ++ [(kv, u)] := by simp [mput, hm]
        rw [← this]; exact hK
    · have hkp : p.1 = kv := (keq_key hkk (hes p (List.mem_of_getElem? hp)) hq).symm
      have hml := modify_list arr i (fun z => { z with key := kv, val := a.eval y }) hen
      have hbs : ((arr.modify i fun z => { z with key := kv, val := a.eval y }).toList.map (·.born)) = arr.toList.map (·.born) := by
        rw [hml, List.map_set]
        apply List.ext_getElem?
        intro j
        rw [List.getElem?_set]
        split
        · rename_i hj; subst hj
          have := (List.getElem?_eq_some_iff.1 hen).1
          rw [if_pos (by simpa using this), List.getElem?_map, hen]; rfl
        · rfl
      obtain ⟨g1, g2⟩ := mp_put (clk' := clk) (arr' := arr.modify i fun z => { z with key := kv, val := a.eval y }) hs hn hb hh (es.set i (kv, u)) (by rw [hml]; exact hR.set ⟨rfl, h3⟩ i) (by rw [hbs]; exact hP)
        (fun z hz => by
          have : z.born ∈ (arr.modify i fun z => { z with key := kv, val := a.eval y }).toList.map (·.born) := List.mem_map.2 ⟨z, hz, rfl⟩
          rw [hbs] at this
          obtain ⟨z', hz', e1⟩ := List.mem_map.1 this
          rw [← e1]; exact hL z' hz')
      refine ⟨undef, _, .junk, s.set n (.mp (es.set i (kv, u))), ρ, .inr ⟨?_, rfl⟩, ?_, g1, trivial, g2⟩
      · have hai : arr[i]? = some en := by rw [← Array.getElem?_toList]; exact hen
        simp only [execOp, ho, Instr.mapUpdate, h2, hym, Sem.run_bind, run_underlying hu, Result.andThen, MapKept.run_getObj_map hh, checkKey_key hd hkk, findKey_ix hd hkk hR hes, Sem.run_pure, hm, hen, Option.map_some, hai, Option.getD_some, her.1, hkp, keyThatStays_key hkk, MapKept.run_setObj_map _ hh]
        rfl
      · have : mput kv u es = es.set i (kv, u) := by simp [mput, hm]
        rw [← this]; exact hK
  exact hS.opg
theorem far_delete {c : Call} (ho : o.op = .call c) (hc : c.callee = .builtin .delete) {t kt el : TypeId} {x k : Operand} (ha : c.args = #[x, k]) (ht : c.argTypes[0]? = some t) (hu : P.underlying t = some (.map kt el)) {d : TypeDesc} (hd : P.underlying kt = some d) {n : Nat} (hx : ev e x = .mp n) {es : List (Value × V)} (hn : s.m n = some (.mp es))
    {kv : Value} (hk : ev e k = .t (.v kv)) (hkk : kOK d kv = true) (hes : ∀ p ∈ es, kOK d p.1 = true) : FarO P o e s (.tup []) (s.set n (.mp (mdel kv es))) := by
  intro e' K he hK
  have hS : Sound P o e' s K := by
    intro B ρ a w hs hB hE
    have h1 := ev_sound hE x
    rw [he x (by simp [ho, Op.operands, Call.operands, ha]), hx] at h1
    have h2 := ev_sound hE k
    rw [he k (by simp [ho, Op.operands, Call.operands, ha]), hk] at h2
    have h2 := repV (w := w) (A := Fr s ρ) h2
    obtain ⟨l, arr, clk, hb, hym, hh, hR, hP, hL⟩ := mp_at hs hn h1
    rcases mix_get (k := kv) hR with ⟨hm, hg⟩ | ⟨i, p, en, hm, hp, hen, her, hg, hq⟩
    · obtain ⟨g1, g2⟩ := mp_put (clk' := clk) (arr' := arr) hs hn hb hh es hR hP hL
      refine ⟨.tuple #[], _, .tup [], s.set n (.mp es), ρ, .inl ?_, ?_, g1, ⟨[], rfl, trivial⟩, g2⟩
      · simp [execOp, ho, resolve, hc, invoke, builtin, ha, Builtin.delete_, h2, hym, run_underlying hu, MapKept.run_getObj_map hh, checkKey_key hd hkk, findKey_ix hd hkk hR hes, hm, MapKept.run_setObj_map _ hh, ht, Result.andThen, World.putObj]
      · have : mdel kv es = es := by simp [mdel, hm]
        rw [← this]; exact hK
    · have hel : (arr.eraseIdxIfInBounds i).toList = arr.toList.eraseIdx i := by
        have hlt := (List.getElem?_eq_some_iff.1 hen).1
        rw [Array.eraseIdxIfInBounds, dif_pos (by simpa using hlt), Array.toList_eraseIdx]
      obtain ⟨g1, g2⟩ := mp_put (clk' := clk) (arr' := arr.eraseIdxIfInBounds i) hs hn hb hh (es.eraseIdx i) (by rw [hel]; exact hR.erase i)
        (by rw [hel]; exact hP.sublist ((List.eraseIdx_sublist _ _).map _)) (fun z hz => by rw [hel] at hz; exact hL z (List.mem_of_mem_eraseIdx hz))
      refine ⟨.tuple #[], _, .tup [], s.set n (.mp (es.eraseIdx i)), ρ, .inl ?_, ?_, g1, ⟨[], rfl, trivial⟩, g2⟩
      · simp [execOp, ho, resolve, hc, invoke, builtin, ha, Builtin.delete_, h2, hym, run_underlying hu, MapKept.run_getObj_map hh, checkKey_key hd hkk, findKey_ix hd hkk hR hes, hm, hen, MapKept.run_setObj_map _ hh, ht, Result.andThen, World.putObj]
      · have : mdel kv es = es.eraseIdx i := by simp [mdel, hm]
        rw [← this]; exact hK
  exact hS.opg
theorem far_len {c : Call} (ho : o.op = .call c) (hc : c.callee = .builtin .len) {t kt el : TypeId} {x : Operand} (ha : c.args = #[x]) (ht : c.argTypes[0]? = some t) (hu : P.underlying t = some (.map kt el)) {n : Nat} (hx : ev e x = .mp n) {es : List (Value × V)} (hn : s.m n = some (.mp es)) : FarO P o e s (I es.length) s := by
  intro e' K he hK
  refine (sound_val _ hK fun B ρ a w hs hE => ?_).opg
  have h1 := ev_sound hE x
  rw [he x (by simp [ho, Op.operands, Call.operands, ha]), hx] at h1
  obtain ⟨l, arr, clk, hb, hym, hh, hR, hP, hL⟩ := mp_at hs hn h1
  refine ⟨.int .i64 es.length, ?_, vr_flat rfl⟩
  have hlen : es.length = arr.size := by have := hR.length; simpa using this
  simp [execOp, ho, resolve, hc, invoke, builtin, ha, Builtin.len_, hym, run_underlying hu, MapKept.run_getObj_map hh, ht, Result.andThen, goInt, hlen]
theorem far_make {t : TypeId} (ho : o.op = .makeMap t none) : FarO P o e s (.mp s.next) (s.add (.mp [])) := by
  intro e' K he hK
  have hS : Sound P o e' s K := by
    intro B ρ a w hs hB hE
    have hc := chg_new hs hB (.map #[] 0) ⟨some w.heap.size, 0, 0⟩ rfl (.mp [])
    refine ⟨.map (some w.heap.size), w.alloc (.map #[] 0), .mp s.next, s.add (.mp []), _, .inl ?_, hK, hc.sr hs ⟨w.heap.size, #[], 0, rfl, World.alloc_heap_new _ _, trivial, by simp, by simp⟩, ?_, hc.stp⟩
    · simp [execOp, ho, Instr.makeMap, newObj, Sem.run, Result.andThen]
    · exact ⟨Nat.lt_succ_self _, ⟨_, rfl⟩, fun b _ => ⟨w.heap.size, by simp [Rho.up], rfl⟩⟩
  exact hS.opg
theorem far_byte {t : TypeId} {x y : Operand} (ho : o.op = .index t x y) (hu : P.underlying t = some .string) {b : ByteArray} (hx : ev e x = Str b) {z : Int} (hy : ev e y = I z) (h0 : 0 ≤ z) {c : UInt8} (hc : b[z.toNat]? = some c) : FarO P o e s (.t (.v (.int .u8 (c.toNat : Int)))) s := by
  intro e' K he hK
  refine (sound_val _ hK fun B ρ a w hs hE => ⟨.int .u8 (c.toNat : Int), ?_, vr_flat rfl⟩).opg
  have h1 := ev_sound hE x
  rw [he x (by simp [ho, Op.operands]), hx] at h1
  have h1 := repV (w := w) (A := Fr s ρ) h1
  have h2 := ev_sound hE y
  rw [he y (by simp [ho, Op.operands]), hy] at h2
  have h2 := repV (w := w) (A := Fr s ρ) h2
  simp [execOp, ho, Instr.index, h1, h2, asIntOf, run_underlying hu, Result.andThen, h0, hc]
end
end Go.V
