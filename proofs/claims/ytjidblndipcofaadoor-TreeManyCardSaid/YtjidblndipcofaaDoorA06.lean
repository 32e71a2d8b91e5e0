/- Lemmas on the way to the statement of this claim; no conditions. -/
import Derived.Test.YtjidblndipcofaaDoorA05
namespace Go.V
open Go Go.RowKit
def Sg.frz1 (s : Sg) : V → Option (T × Sg)
  | .t x => some (x, s)
  | .loc n off len => match s.m n with
    | some (.arr k _ cs) => if off + len * k ≤ cs.length then some (.sl k ((cs.drop off).take (len * k)), s.del n) else none
    | _ => none
  | _ => none
def Sg.frzL (s : Sg) : List V → Option (List T × Sg)
  | [] => some ([], s)
  | x :: xs => match s.frz1 x with
    | some (t, s1) => match s1.frzL xs with
      | some (ts, s2) => some (t :: ts, s2)
      | none => none
    | none => none
theorem wk_del (s : Sg) (n : Nat) : Wk [] s [] (s.del n) where
  next := rfl
  dom m b hb := by
    unfold Sg.del at hb
    simp only at hb
    split at hb
    · cases hb
    · exact ⟨b, hb, by cases b <;> simp [BWk]; exact all2_refl (fun _ => .inl rfl) _⟩
  env := trivial
section
variable {P : Program} {o : Oper} {e : Env} {s : Sg} {K : V → Sg → Prop}
theorem frz1_sound {B : Nat} {ρ : Rho} {w : World} {x : V} {t : T} {s' : Sg} {y : Value} (h : s.frz1 x = some (t, s')) (hs : SR P B s ρ w) (hr : VR1 P w s ρ x y) :
    SR P B s' ρ w ∧ Stp s ρ w s' ρ w ∧ RepT w (Fr s' ρ) t y := by
  cases x with
  | t x => simp [Sg.frz1] at h; obtain ⟨rfl, rfl⟩ := h; exact ⟨hs, Stp.refl _ _ _, hr⟩
  | loc n off len =>
    simp only [Sg.frz1] at h
    split at h
    · rename_i k ty cs hn
      split at h
      · rename_i hle
        simp at h; obtain ⟨rfl, rfl⟩ := h
        have hw := wk_del s n
        refine ⟨hw.sr hs, hw.stp ρ w, frozen_read hs (fun m b hb => let ⟨b', h1, _⟩ := hw.dom m b hb; ⟨b', h1⟩) hn (by simp [Sg.del]) hle hr⟩
      · cases h
    · cases h
  | _ => simp [Sg.frz1] at h
theorem frzL_sound {B : Nat} {ρ : Rho} {w : World} : ∀ {xs : List V} {s : Sg} {ts : List T} {s' : Sg} {ys : List Value}, s.frzL xs = some (ts, s') → SR P B s ρ w → All2 (VR1 P w s ρ) xs ys →
    SR P B s' ρ w ∧ Stp s ρ w s' ρ w ∧ All2 (RepT w (Fr s' ρ)) ts ys
  | [], s, ts, s', [], h, hs, _ => by simp [Sg.frzL] at h; obtain ⟨rfl, rfl⟩ := h; exact ⟨hs, Stp.refl _ _ _, trivial⟩
  | x :: xs, s, ts, s', y :: ys, h, hs, ⟨h1, h2⟩ => by
    simp only [Sg.frzL] at h
    split at h
    · rename_i t s1 hx
      split at h
      · rename_i ts' s2 hxs
        simp at h; obtain ⟨rfl, rfl⟩ := h
        obtain ⟨a1, a2, a3⟩ := frz1_sound hx hs h1
        obtain ⟨b1, b2, b3⟩ := frzL_sound hxs a1 (h2.mono fun _ _ h => h.step a2)
        exact ⟨b1, a2.trans b2, a3.mono b2.keep, b3⟩
      · cases h
    · cases h
  | [], _, _, _, _ :: _, _, _, h => h.elim
  | _ :: _, _, _, _, [], _, _, h => h.elim
def dLoad (P : Program) (s : Sg) (t : TypeId) : V → Option V
  | .ptr n off => match s.m n with
    | some (.box _ cs) => vpart P t cs off
    | some (.arr _ _ cs) => vpart P t (cs.map V.t) off
    | _ => none
  | .iad cs off => vpart P t (cs.map V.t) off
  | _ => none
theorem cells_t {w : World} {ρ : Rho} {cs : List T} {arr : Array Value} {o' : Nat} (h : Cells (RepT w (Fr s ρ)) cs arr o') : Cells (VR1 P w s ρ) (cs.map V.t) arr o' := by
  intro i c hc
  rw [List.getElem?_map] at hc
  cases h' : cs[i]? with
  | none => simp [h'] at hc
  | some d =>
    simp [h'] at hc; subst hc
    exact h i d h'
theorem sound_load {t : TypeId} {x : Operand} (ho : o.op = .load t x) (v : V) (hv : dLoad P s t (ev e x) = some v) (h : K v s) : Sound P o e s K := by
  refine sound_val v h fun B ρ a w hs he => ?_
  have hx := ev_sound he x
  have fin : ∀ (ad : Addr) (y : Value), a.eval x = .pointer (some ad) → (loadVar t ad).run P w = .ok y w → VR P w s ρ v y → ∃ y, (execOp a.eval o).run P w = .ok (.value y) w ∧ VR P w s ρ v y := by
    intro ad y h1 h2 h3
    refine ⟨y, ?_, h3⟩
    simp [execOp, ho, Instr.loadAt, h1, Instr.sureAddr, h2]
  unfold dLoad at hv
  split at hv
  · rename_i n off hev
    rw [hev] at hx
    split at hv
    · rename_i ty cs hn
      obtain ⟨_, _, hy⟩ := hx
      obtain ⟨bl', hb', hy⟩ := hy _ hn
      rcases hs.rep n _ hn with hq | ⟨bl, arr, hb, hh, _, hc, _⟩
      · rw [hq.1] at hb'; cases hb'
      rw [hb] at hb'; cases hb'
      obtain ⟨y, h1, h2⟩ := part_sound hv hh hc
      rw [Nat.zero_add] at h1
      exact fin _ y hy h1 h2
    · rename_i k ty cs hn
      obtain ⟨_, _, hy⟩ := hx
      obtain ⟨bl', hb', hy⟩ := hy _ hn
      obtain ⟨_, _, hr | ⟨bl, arr, hb, hh, _, _, hc⟩⟩ := hs.rep n _ hn
      · rw [hr.1] at hb'; cases hb'
      rw [hb] at hb'; cases hb'
      obtain ⟨y, h1, h2⟩ := part_sound hv hh (cells_t (P := P) ((repTs_iff _ _).1 hc))
      rw [Nat.zero_add] at h1
      exact fin _ y hy h1 h2
    · cases hv
  · rename_i cs off hev
    rw [hev] at hx
    obtain ⟨b, o', arr, ty, fr, hy, _, hh, hc⟩ := hx
    obtain ⟨y, h1, h2⟩ := part_sound hv hh (cells_t (P := P) ((repTs_iff _ _).1 hc))
    exact fin _ y hy h1 h2
  · cases hv
theorem storeVar_run {t : TypeId} {v : Value} {w w' : World} {ad : Addr} (hk : szOf P t = some v.cells.size) (h : (storeCells ad v.cells.toList).run P w = .ok () w') : (storeVar t ad v).run P w = .ok () w' := by
  simp [storeVar, szOf_run hk, h]
theorem sound_store_box {t : TypeId} {x y : Operand} (ho : o.op = .store t x y) {n off : Nat} (hx : ev e x = .ptr n off) {ty : TypeId} {cs xs : List V} (hn : s.m n = some (.box ty cs)) (hy : (ev e y).cells = some xs)
    (hk : szOf P t = some xs.length) (hle : off + xs.length ≤ cs.length) (h : K .junk (s.set n (.box ty (setAll cs off xs)))) : Sound P o e s K := by
  intro B ρ a w hs hB he
  have h1 := ev_sound he x
  rw [hx] at h1
  obtain ⟨_, _, h1⟩ := h1
  obtain ⟨bl, hb, h1⟩ := h1 _ hn
  have h2 := V.cells_sound hy (ev_sound he y)
  obtain ⟨w', a1, a2, a3⟩ := set_box hs hn h2 hle hb
  refine ⟨undef, w', .junk, _, ρ, .inr ⟨?_, rfl⟩, h, a2, trivial, a3⟩
  have hk' : szOf P t = some (a.eval y).cells.size := by rw [hk, h2.length]; simp
  simp [execOp, ho, Instr.storeAt, h1, Instr.sureAddr, storeVar_run hk' a1]
theorem sound_store_arr {t : TypeId} {x y : Operand} (ho : o.op = .store t x y) {n off : Nat} (hx : ev e x = .ptr n off) {ty : TypeId} {k : Nat} {cs ts : List T} {xs : List V} {s1 : Sg} (hy : (ev e y).cells = some xs)
    (hf : s.frzL xs = some (ts, s1)) (hn : s1.m n = some (.arr k ty cs)) (hk : szOf P t = some xs.length) (hle : off + xs.length ≤ cs.length) (h : K .junk (s1.set n (.arr k ty (setAll cs off ts)))) : Sound P o e s K := by
  intro B ρ a w hs hB he
  have h2 := V.cells_sound hy (ev_sound he y)
  obtain ⟨b1, b2, b3⟩ := frzL_sound hf hs h2
  have h1 := (ev_sound he x).step b2
  rw [hx] at h1
  obtain ⟨_, _, h1⟩ := h1
  obtain ⟨bl, hb, h1⟩ := h1 _ hn
  have hlen : ts.length = xs.length := b3.length.trans h2.length.symm
  have hle' : off + ts.length ≤ cs.length := by omega
  obtain ⟨w', a1, a2, a3⟩ := set_arr b1 hn b3 hle' hb
  refine ⟨undef, w', .junk, _, ρ, .inr ⟨?_, rfl⟩, h, a2, trivial, b2.trans a3⟩
  have hk' : szOf P t = some (a.eval y).cells.size := by rw [hk, h2.length]; simp
  simp [execOp, ho, Instr.storeAt, h1, Instr.sureAddr, storeVar_run hk' a1]
def dSure : V → Bool
  | .ptr .. | .iad .. | .clo .. => true
  | .t (.v (.func (.func _) _ _)) => true
  | _ => false
theorem sound_nilCheck {x : Operand} (ho : o.op = .nilCheck x) (hx : dSure (ev e x) = true) (h : K (ev e x) s) : Sound P o e s K := by
  refine sound_val _ h fun B ρ a w hs he => ⟨a.eval x, ?_, ev_sound he x⟩
  have hv := ev_sound he x
  unfold dSure at hx
  split at hx
  · rename_i n off hev; rw [hev] at hv; obtain ⟨_, ⟨ad, hy⟩, _⟩ := hv; simp [execOp, ho, hy]
  · rename_i n off hev; rw [hev] at hv; obtain ⟨b, o', arr, ty, fr, hy, _⟩ := hv; simp [execOp, ho, hy]
  · rename_i g caps hev; rw [hev] at hv; obtain ⟨l, hy, _⟩ := hv; simp [execOp, ho, hy]
  · rename_i f a1 a2 hev; rw [hev] at hv
    have hy := repV (w := w) (A := Fr s ρ) hv
    simp [execOp, ho, hy]
  · cases hx
def vflat : V → Option Value
  | .t (.v x) => some x
  | _ => none
def flatly (x : Option Value) : Option Value := x.bind fun v => if flat v = true then some v else none
theorem vflat_sound {w : World} {ρ : Rho} {x : V} {u y : Value} (h : vflat x = some u) (hr : VR P w s ρ x y) : y = u := by
  cases x with
  | t t => cases t with
    | v z => simp [vflat] at h; subst h; exact repV (w := w) (A := Fr s ρ) hr
    | sl => simp [vflat] at h
  | _ => simp [vflat] at h
theorem flatly_some {x : Option Value} {v : Value} (h : flatly x = some v) : x = some v ∧ flat v = true := by
  unfold flatly at h
  cases x with
  | none => simp at h
  | some u =>
    simp only [Option.bind_some] at h
    split at h
    · rename_i hf; cases h; exact ⟨rfl, hf⟩
    · cases h
theorem vr_flat {w : World} {ρ : Rho} {v : Value} (h : flat v = true) : VR P w s ρ (.t (.v v)) v := by
  show RepT w (Fr s ρ) (.v v) v
  rw [RepT]; exact ⟨rfl, h⟩
def vbin (P : Program) (op : BinOp) (t : TypeId) (x y : Operand) (a b : Value) : Option Value := flatly (calm P (do eqGuard op t x y a b; binOp op t a b))
theorem sound_bin {op : BinOp} {t t' : TypeId} {x y : Operand} (ho : o.op = .binOp op t x y t') {a' b' v : Value} (hx : vflat (ev e x) = some a') (hy : vflat (ev e y) = some b') (hv : vbin P op t x y a' b' = some v) (h : K (.t (.v v)) s) : Sound P o e s K := by
  obtain ⟨h1, h2⟩ := flatly_some hv
  refine sound_val _ h fun B ρ a w hs he => ⟨v, ?_, vr_flat h2⟩
  have e1 := vflat_sound hx (ev_sound he x)
  have e2 := vflat_sound hy (ev_sound he y)
  have := calm_run (w := w) h1
  simp only [execOp, ho, e1, e2]
  simp only [Sem.run_bind] at this ⊢
  rw [this]; rfl
def vflats : List V → Option (List Value)
  | [] => some []
  | x :: xs => match vflat x, vflats xs with
    | some a, some l => some (a :: l)
    | _, _ => none
theorem vflats_sound {w : World} {ρ : Rho} : ∀ {xs : List V} {us ys : List Value}, vflats xs = some us → All2 (VR1 P w s ρ) xs ys → ys = us
  | [], us, [], h, _ => by simp [vflats] at h; exact h.symm ▸ rfl
  | x :: xs, us, y :: ys, h, ⟨h1, h2⟩ => by
    simp only [vflats] at h
    split at h
    · rename_i a l ha hl
      cases h
      rw [vflat_sound ha h1.vr, vflats_sound hl h2]
    · cases h
  | [], _, _ :: _, _, h => h.elim
  | _ :: _, _, [], _, h => h.elim
theorem sound_bin_agg {op : BinOp} {t t' : TypeId} {x y : Operand} (ho : o.op = .binOp op t x y t') {cs ds : List V} {us vs : List Value} {v : Value} (hx : ev e x = .agg cs) (hy : ev e y = .agg ds) (hu : vflats cs = some us) (hw : vflats ds = some vs)
    (hv : flat v = true ∧ ∀ w, (do eqGuard op t x y (.agg ⟨us⟩) (.agg ⟨vs⟩); binOp op t (.agg ⟨us⟩) (.agg ⟨vs⟩) : Sem Value).run P w = .ok v w) (h : K (.t (.v v)) s) : Sound P o e s K := by
  obtain ⟨h2, h1⟩ := hv
  refine sound_val _ h fun B ρ a w hs he => ⟨v, ?_, vr_flat h2⟩
  have e1 := ev_sound he x
  have e2 := ev_sound he y
  rw [hx] at e1; rw [hy] at e2
  obtain ⟨l1, e1, f1⟩ := e1
  obtain ⟨l2, e2, f2⟩ := e2
  rw [vflats_sound hu f1] at e1
  rw [vflats_sound hw f2] at e2
  have := h1 w
  simp only [execOp, ho, e1, e2]
  simp only [Sem.run_bind] at this ⊢
  rw [this]; rfl
theorem sound_un {op : UnOp} {t : TypeId} {x : Operand} (ho : o.op = .unOp op t x) {a' v : Value} (hx : vflat (ev e x) = some a') (hv : flatly (calm P (Op.unary op a')) = some v) (h : K (.t (.v v)) s) : Sound P o e s K := by
  obtain ⟨h1, h2⟩ := flatly_some hv
  refine sound_val _ h fun B ρ a w hs he => ⟨v, ?_, vr_flat h2⟩
  have e1 := vflat_sound hx (ev_sound he x)
  have := calm_run (w := w) h1
  simp [execOp, ho, e1, this]
theorem sound_conv {t t' : TypeId} {x : Operand} (ho : o.op = .convert t t' x) {a' v : Value} (hx : vflat (ev e x) = some a') (hv : flatly (calm P (convert t t' a')) = some v) (h : K (.t (.v v)) s) : Sound P o e s K := by
  obtain ⟨h1, h2⟩ := flatly_some hv
  refine sound_val _ h fun B ρ a w hs he => ⟨v, ?_, vr_flat h2⟩
  have e1 := vflat_sound hx (ev_sound he x)
  have := calm_run (w := w) h1
  simp [execOp, ho, e1, this]
theorem sound_fieldAddr {t ft : TypeId} {x : Operand} {f d : Nat} (ho : o.op = .fieldAddr t x f) (hf : fieldOf P t f = some (d, ft)) {k : Nat} (hk : szOf P ft = some k) (hk0 : k ≠ 0)
    (h : (∃ n off, ev e x = .ptr n off ∧ K (.ptr n (off + d)) s) ∨ (∃ cs off, ev e x = .iad cs off ∧ K (.iad cs (off + d)) s)) : Sound P o e s K := by
  have run : ∀ (a : Act) (w : World) (b off : Nat), a.eval x = .pointer (some ⟨b, off, none⟩) → (execOp a.eval o).run P w = .ok (.value (.pointer (some ⟨b, off + d, none⟩))) w := by
    intro a w b off ha
    unfold fieldOf at hf
    split at hf
    · rename_i fs hu
      cases hfs : fs[f]? with
      | none => simp [hfs] at hf
      | some fd =>
        simp [hfs] at hf
        obtain ⟨rfl, rfl⟩ := hf
        simp [execOp, ho, Instr.fieldAt, run_underlying hu, hfs, ha, Instr.sureAddr, fieldPlace, szOf_run hk, hk0, addr_add]
    · cases hf
  rcases h with ⟨n, off, hx, h⟩ | ⟨cs, off, hx, h⟩
  · refine sound_val _ h fun B ρ a w hs he => ?_
    have hv := ev_sound he x
    rw [hx] at hv
    obtain ⟨h1, ⟨ad, h2⟩, h3⟩ := hv
    cases hn : s.m n with
    | some b =>
      obtain ⟨bl, hb, hy⟩ := h3 b hn
      exact ⟨_, run a w bl off hy, h1, ⟨_, rfl⟩, fun b' _ => ⟨bl, hb, rfl⟩⟩
    | none =>
      -- the name is gone: any address will do, but the machine must go on
      obtain ⟨b, o', sp⟩ := ad
      cases sp with
      | none => exact ⟨_, run a w b o' h2, h1, ⟨_, rfl⟩, fun b' hb' => by rw [hn] at hb'; cases hb'⟩
      | some sp =>
        unfold fieldOf at hf
        split at hf
        · rename_i fs hu
          cases hfs : fs[f]? with
          | none => simp [hfs] at hf
          | some fd =>
            simp [hfs] at hf
            obtain ⟨rfl, rfl⟩ := hf
            refine ⟨.pointer (some ((⟨b, o', some sp⟩ : Addr).add fd.offset)), ?_, h1, ⟨_, rfl⟩, fun b' hb' => by rw [hn] at hb'; cases hb'⟩
            simp [execOp, ho, Instr.fieldAt, run_underlying hu, hfs, h2, Instr.sureAddr, fieldPlace, szOf_run hk, hk0]
        · cases hf
  · refine sound_val _ h fun B ρ a w hs he => ?_
    have hv := ev_sound he x
    rw [hx] at hv
    obtain ⟨b, o', arr, ty, fr, hy, h1, h2, h3⟩ := hv
    exact ⟨_, run a w b (o' + off) hy, b, o', arr, ty, fr, by rw [Nat.add_assoc], h1, h2, h3⟩
theorem sound_makeFunc {g : Nat} {caps : Array Operand} (ho : o.op = .makeFunc (.func g) #[] caps) (hc : caps.toList.all (fun x => match ev e x with | .ptr .. | .t _ | .loc .. => true | _ => false) = true)
    (h : K (.clo g (caps.toList.map (ev e))) s) : Sound P o e s K := by
  refine sound_val _ h fun B ρ a w hs he => ⟨.func (.func g) #[] (caps.map a.eval), ?_, ?_⟩
  · simp [execOp, ho, Instr.makeFunc]
  · refine ⟨caps.toList.map a.eval, ?_, ?_⟩
    · congr 1; apply Array.toList_inj.1; simp
    · have hall := List.all_eq_true.1 hc
      generalize caps.toList = l at hall ⊢
      induction l with
      | nil => trivial
      | cons x l ih =>
        refine ⟨?_, ih fun y hy => hall y (by simp [hy])⟩
        have h1 := hall x (by simp)
        have h2 := ev_sound he x
        revert h1 h2
        cases ev e x with
        | t x => exact fun _ h => h
        | loc a b c => exact fun _ h => h
        | ptr a b => exact fun _ h => h
        | _ => intro h; simp at h
end
end Go.V
