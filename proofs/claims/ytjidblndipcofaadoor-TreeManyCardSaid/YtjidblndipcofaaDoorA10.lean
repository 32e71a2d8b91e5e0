/- Lemmas on the way to the statement of this claim; no conditions. -/
import Derived.Test.YtjidblndipcofaaDoorA09
namespace Go.V
open Go Go.RowKit
section
variable {P : Program} {o : Oper} {e : Env} {s : Sg} {K : V → Sg → Prop}
def bnd (e : Env) (d : Nat) : Option Operand → Option Int
  | none => some d
  | some x => match vflat (ev e x) with
    | some (.int _ z) => some z
    | _ => none
theorem bnd_sound {w : World} {ρ : Rho} {a : Act} (he : All2 (VR P w s ρ) e a.tmps.toList) {d : Nat} {x : Option Operand} {z : Int} (h : bnd e d x = some z) (h0 : 0 ≤ z) {cap : Nat} (hc : z ≤ cap) (code : BoundsCode) :
    (x = none ∧ z = d) ∨ ∃ y, x.map a.eval = some y ∧ (Instr.sliceBound y cap code).run P w = .ok z.toNat w := by
  cases x with
  | none => simp [bnd] at h; exact .inl ⟨rfl, h.symm⟩
  | some x =>
    simp only [bnd] at h
    split at h
    · rename_i k z' hv
      cases h
      refine .inr ⟨_, rfl, ?_⟩
      rw [vflat_sound hv (ev_sound he x)]
      simp [Instr.sliceBound, asIntOf, h0, hc]
    · cases h
theorem run_slice {t el : TypeId} {k : Nat} (hu : P.underlying t = some (.slice el)) (hk : szOf P el = some k) {x : Operand} {lo hi : Option Operand} (ho : o.op = .slice t x lo hi none) {w : World} {ρ : Rho} {a : Act} (he : All2 (VR P w s ρ) e a.tmps.toList)
    {ad : Option Addr} {len cap : Nat} (hy : a.eval x = .slice ad len cap) (hlc : len ≤ cap) {lz hz : Int} (hl : bnd e 0 lo = some lz) (hh : bnd e len hi = some hz) (h0 : 0 ≤ lz) (h1 : lz ≤ hz) (h2 : hz ≤ len) :
    (execOp a.eval o).run P w = .ok (.value (.slice (if cap = lz.toNat then ad else ad.map (·.add (lz.toNat * k))) (hz.toNat - lz.toNat) (cap - lz.toNat))) w := by
  have bh := bnd_sound he hh (by omega) (cap := cap) (by omega) .sliceAcap
  have bl := bnd_sound he hl h0 (cap := hz.toNat) (by omega) .sliceB
  rcases bh with ⟨rfl, rfl⟩ | ⟨yh, eh, rh⟩ <;> rcases bl with ⟨rfl, rfl⟩ | ⟨yl, el', rl⟩
  · simp [execOp, ho, Instr.sliceAt, run_underlying hu, Instr.slice, hy, Instr.sliceBounds, szOf_run hk]
  · have el'' : lo.map a.eval = some yl := el'
    simp only [Int.toNat_natCast] at rl
    simp [execOp, ho, Instr.sliceAt, run_underlying hu, Instr.slice, hy, Instr.sliceBounds, szOf_run hk, el'', rl]
  · have eh' : hi.map a.eval = some yh := eh
    simp [execOp, ho, Instr.sliceAt, run_underlying hu, Instr.slice, hy, Instr.sliceBounds, szOf_run hk, eh', rh]
  · have eh' : hi.map a.eval = some yh := eh
    have el'' : lo.map a.eval = some yl := el'
    simp [execOp, ho, Instr.sliceAt, run_underlying hu, Instr.slice, hy, Instr.sliceBounds, szOf_run hk, eh', rh, el'', rl]
theorem sound_slice_loc {t el : TypeId} {k : Nat} (hu : P.underlying t = some (.slice el)) (hk : szOf P el = some k) {x : Operand} {lo hi : Option Operand} (ho : o.op = .slice t x lo hi none)
    {n off len : Nat} (hx : ev e x = .loc n off len) {ty : TypeId} {cs : List T} (hn : s.m n = some (.arr k ty cs)) {lz hz : Int} (hl : bnd e 0 lo = some lz) (hh : bnd e len hi = some hz) (h0 : 0 ≤ lz) (h1 : lz ≤ hz) (h2 : hz ≤ len)
    (h : K (.loc n (off + lz.toNat * k) (hz.toNat - lz.toNat)) s) : Sound P o e s K := by
  refine sound_val _ h fun B ρ a w hs he => ?_
  have hv := ev_sound he x
  rw [hx] at hv
  obtain ⟨a1, ⟨_, _, _⟩, a3⟩ := hv
  have hk' := (hs.rep n _ hn).1
  have hk0 := (hs.rep n _ hn).2.1
  rcases a3 _ hn with ⟨b1, hy, rfl⟩ | ⟨b1, rfl, ad, hy⟩ | ⟨bl, cap, b1, hy, b2, b3, b4⟩
  · obtain rfl : lz = 0 := by omega
    obtain rfl : hz = 0 := by omega
    refine ⟨_, run_slice hu hk ho he hy (Nat.le_refl _) hl hh h0 h1 h2, a1, ⟨_, _, rfl⟩, fun b hb => .inl ⟨b1, by simp, by simp⟩⟩
  · obtain rfl : lz = 0 := by omega
    obtain rfl : hz = 0 := by omega
    refine ⟨_, run_slice hu hk ho he hy (Nat.le_refl _) hl hh h0 h1 h2, a1, ⟨_, _, rfl⟩, fun b hb => .inr (.inl ⟨by omega, by simp, _, rfl⟩)⟩
  · refine ⟨_, run_slice hu hk ho he hy b2 hl hh h0 h1 h2, a1, ⟨_, _, rfl⟩, fun b hb => ?_⟩
    by_cases hc : cap = lz.toNat
    · have hz' : hz.toNat - lz.toNat = 0 := by omega
      rw [if_pos hc, hz', hc, Nat.sub_self]
      by_cases hl0 : lz.toNat = 0
      · refine .inr (.inr ⟨bl, 0, b1, by simp [hl0], Nat.le_refl _, ?_, by omega⟩)
        rw [hl0] at hc ⊢
        rw [hc] at b3; simpa using b3
      · exact .inr (.inl ⟨by have := Nat.mul_pos (Nat.pos_of_ne_zero hl0) hk0; omega, rfl, _, rfl⟩)
    · rw [if_neg hc]
      refine .inr (.inr ⟨bl, cap - lz.toNat, b1, ?_, by omega, ?_, by omega⟩)
      · simp [addr_add]
      · rw [hk'] at b3 ⊢
        rw [Nat.sub_mul]
        have : lz.toNat * k ≤ cap * k := Nat.mul_le_mul_right k (by omega)
        omega
theorem sound_slice_im {t el : TypeId} {k : Nat} (hu : P.underlying t = some (.slice el)) (hk : szOf P el = some k) {x : Operand} {lo hi : Option Operand} (ho : o.op = .slice t x lo hi none)
    {cs : List T} (hx : ev e x = .t (.sl k cs)) {lz hz : Int} (hl : bnd e 0 lo = some lz) (hh : bnd e (cs.length / k) hi = some hz) (h0 : 0 ≤ lz) (h1 : lz ≤ hz) (h2 : hz ≤ (cs.length / k : Nat))
    (h : K (.t (.sl k ((cs.drop (lz.toNat * k)).take ((hz.toNat - lz.toNat) * k)))) s) : Sound P o e s K := by
  refine sound_val _ h fun B ρ a w hs he => ?_
  have hv := ev_sound he x
  rw [hx] at hv
  have hv : RepT w (Fr s ρ) (.sl k cs) (a.eval x) := hv
  rw [RepT] at hv
  obtain ⟨ad, len, cap, hy, hk0, hlen, hlc, hcn, hr⟩ := hv
  have hlen' : cs.length / k = len := by rw [hlen]; exact Nat.mul_div_cancel len hk0
  rw [hlen'] at hh h2
  refine ⟨_, run_slice hu hk ho he hy hlc hl hh h0 h1 h2, ?_⟩
  show RepT w (Fr s ρ) _ _
  rw [RepT]
  have hsub : ((cs.drop (lz.toNat * k)).take ((hz.toNat - lz.toNat) * k)).length = (hz.toNat - lz.toNat) * k := by
    simp only [List.length_take, List.length_drop, hlen, ← Nat.sub_mul]
    exact Nat.min_eq_left (Nat.mul_le_mul_right k (by omega))
  refine ⟨_, _, _, rfl, hk0, hsub, by omega, ?_, ?_⟩
  · intro hn
    split at hn
    · omega
    · cases ad with
      | none => have := hcn rfl; omega
      | some ad => simp at hn
  · by_cases hz' : hz.toNat - lz.toNat = 0
    · left; apply List.eq_nil_of_length_eq_zero; rw [hsub, hz']; simp
    · rcases hr with rfl | ⟨b, off, arr, ty, fr, rfl, hA, hb, hc⟩
      · have : len = 0 := by
          have h0 : len * k = 0 := by simpa using hlen.symm
          rcases Nat.mul_eq_zero.1 h0 with h | h
          · exact h
          · omega
        omega
      · right
        refine ⟨b, off + lz.toNat * k, arr, ty, fr, ?_, hA, hb, ?_⟩
        · rw [if_neg (by omega)]; simp [addr_add]
        · rw [repTs_iff] at hc ⊢
          exact hc.sub _ _
def vlen : V → Option Nat
  | .loc _ _ len => some len
  | .t (.sl k cs) => some (cs.length / k)
  | .t (.v (.slice none 0 0)) => some 0
  | _ => none
theorem sound_len {t : TypeId} {ts : Array TypeId} {x : Operand} (ho : ∃ c, o.op = .call c ∧ c.callee = .builtin .len ∧ c.args = #[x] ∧ c.argTypes = ts) (ht : ts[0]? = some t) {el : TypeId} (hu : P.underlying t = some (.slice el)) {n : Nat} (hx : vlen (ev e x) = some n)
    (h : K (.t (.v (.int .i64 n))) s) : Sound P o e s K := by
  refine sound_val _ h fun B ρ a w hs he => ?_
  obtain ⟨c, ho, h1, h2, h3⟩ := ho
  have hv := ev_sound he x
  have key : ∃ ad cap, a.eval x = .slice ad n cap := by
    unfold vlen at hx
    split at hx
    · rename_i n' off len hev; cases hx; rw [hev] at hv; obtain ⟨_, ⟨ad, cap, hy⟩, _⟩ := hv; exact ⟨ad, cap, hy⟩
    · rename_i k cs hev; cases hx; rw [hev] at hv
      have hv : RepT w (Fr s ρ) (.sl k cs) (a.eval x) := hv
      rw [RepT] at hv
      obtain ⟨ad, len, cap, hy, hk0, hlen, _⟩ := hv
      exact ⟨ad, cap, by rw [hy, hlen, Nat.mul_div_cancel len hk0]⟩
    · rename_i hev; cases hx; rw [hev] at hv; exact ⟨none, 0, repV (w := w) (A := Fr s ρ) hv⟩
    · cases hx
  obtain ⟨ad, cap, hy⟩ := key
  refine ⟨.int .i64 n, ?_, vr_flat rfl⟩
  subst h3
  simp [execOp, ho, resolve, h1, h2, invoke, builtin, Builtin.len_, ht, hy, run_underlying hu, goInt]
theorem vflats_eval {w : World} {ρ : Rho} {a : Act} (he : All2 (VR P w s ρ) e a.tmps.toList) : ∀ {l : List Operand} {us : List Value}, vflats (l.map (ev e)) = some us → l.map a.eval = us
  | [], us, h => by simp [vflats] at h; simp [← h]
  | x :: l, us, h => by
    simp only [List.map_cons, vflats] at h
    split at h
    · rename_i a' l' ha hl
      cases h
      simp only [List.map_cons]
      rw [vflat_sound ha (ev_sound he x), vflats_eval he hl]
    · cases h
theorem sound_flat_builtin {c : Call} (ho : o.op = .call c) {b : Builtin} (hb : c.callee = .builtin b) {us : List Value} (hus : vflats (c.args.toList.map (ev e)) = some us) {v : Value}
    (hv : flatly (calm P (do match ← builtin b c.argTypes o.type (c.args.map fun | .const _ => true | _ => false) ⟨us⟩ with | .value v => pure v | _ => stuck "")) = some v)
    (h : K (.t (.v v)) s) : Sound P o e s K := by
  obtain ⟨h1, h2⟩ := flatly_some hv
  refine sound_val _ h fun B ρ a w hs he => ⟨v, ?_, vr_flat h2⟩
  have e1 : c.args.map a.eval = ⟨us⟩ := by
    apply Array.toList_inj.1
    simp only [Array.toList_map]
    exact vflats_eval he hus
  have hr := calm_run (w := w) h1
  simp only [Sem.run_bind] at hr
  simp only [execOp, ho, resolve, hb, Sem.run_bind, Sem.run_pure, Result.andThen, invoke, e1]
  cases hq : (builtin b c.argTypes o.type (c.args.map fun | .const _ => true | _ => false) ⟨us⟩).run P w with
  | halt x w' => rw [hq] at hr; simp at hr
  | ok n w' =>
    rw [hq] at hr
    cases n <;> simp [stuck, Sem.run] at hr
    obtain ⟨rfl, rfl⟩ := hr
    rfl
theorem run_equalIn_ptr {t el : TypeId} (hu : P.underlying t = some (.pointer el)) (w : World) (ad : Addr) (d : Nat) : (Op.equalIn (d + 1) t (.pointer (some ad)) (.pointer none)).run P w = .ok false w ∧
    (Op.equalIn (d + 1) t (.pointer none) (.pointer (some ad))).run P w = .ok false w := by
  constructor <;> simp [Op.equalIn, run_underlying hu]
theorem run_eql_ptr {t el : TypeId} (hu : P.underlying t = some (.pointer el)) (w : World) (ad : Addr) : (Op.equal t (.pointer (some ad)) (.pointer none)).run P w = .ok false w := (run_equalIn_ptr hu w ad 9999).1
theorem run_eql_ptr' {t el : TypeId} (hu : P.underlying t = some (.pointer el)) (w : World) (ad : Addr) : (Op.equal t (.pointer none) (.pointer (some ad))).run P w = .ok false w := (run_equalIn_ptr hu w ad 9999).2
theorem sound_ptr_nil {op : BinOp} {t t' el : TypeId} {x y : Operand} (ho : o.op = .binOp op t x y t') (hu : P.underlying t = some (.pointer el)) (hop : op = .eql ∨ op = .neq)
    (hxy : ((∃ n off, ev e x = .ptr n off) ∧ ev e y = .t (.v (.pointer none))) ∨ (ev e x = .t (.v (.pointer none)) ∧ ∃ n off, ev e y = .ptr n off))
    (h : K (.t (.v (.bool (op == .neq)))) s) : Sound P o e s K := by
  refine sound_val _ h fun B ρ a w hs he => ⟨.bool (op == .neq), ?_, vr_flat rfl⟩
  have e1 := ev_sound he x
  have e2 := ev_sound he y
  rcases hxy with ⟨⟨n, off, hx⟩, hy⟩ | ⟨hx, n, off, hy⟩
  · rw [hx] at e1; rw [hy] at e2
    obtain ⟨_, ⟨ad, e1⟩, _⟩ := e1
    have e2 := repV (w := w) (A := Fr s ρ) e2
    rcases hop with rfl | rfl <;> simp only [execOp, ho, e1, e2, eqGuard, Go.binOp, Sem.run_bind, Sem.run_pure, Result.andThen, run_eql_ptr hu, run_eql_ptr' hu] <;> rfl
  · rw [hx] at e1; rw [hy] at e2
    obtain ⟨_, ⟨ad, e2⟩, _⟩ := e2
    have e1 := repV (w := w) (A := Fr s ρ) e1
    rcases hop with rfl | rfl <;> simp only [execOp, ho, e1, e2, eqGuard, Go.binOp, Sem.run_bind, Sem.run_pure, Result.andThen, run_eql_ptr hu, run_eql_ptr' hu] <;> rfl
end
end Go.V
