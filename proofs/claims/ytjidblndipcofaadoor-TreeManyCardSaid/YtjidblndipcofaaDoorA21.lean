/- Lemmas on the way to the statement of this claim; no conditions. -/
import Derived.Test.YtjidblndipcofaaDoorA20
namespace Go.V
open Go Go.RowKit
def slInfo (P : Program) (t : TypeId) : Option (TypeId × Nat × Nat × List Value) :=
  match P.underlying t with
  | some (.slice el) => match szOf P el, (P.info? el).map (·.bytes), zeroV P el with
    | some k, some b, some zs => if 0 < k ∧ zs.length = k then some (el, k, b, zs) else none
    | _, _, _ => none
  | _ => none
def stInfo (P : Program) (t : TypeId) : Option (List (Nat × Nat) × List Value) :=
  match P.underlying t with
  | some (.struct fs) => match placesL P fs.toList, zeroV P t with
    | some pl, some zs => some (pl, zs)
    | _, _ => none
  | _ => none
section
variable {P : Program} {o : Oper} {e : Env} {s : Sg} {K : V → Sg → Prop}
theorem slInfo_some {t el : TypeId} {k b : Nat} {zs : List Value} (h : slInfo P t = some (el, k, b, zs)) : P.underlying t = some (.slice el) ∧ szOf P el = some k ∧ (P.info? el).map (·.bytes) = some b ∧ zeroV P el = some zs ∧ 0 < k ∧ zs.length = k := by
  unfold slInfo at h
  split at h
  · rename_i el' hu
    split at h
    · rename_i k' b' zs' h1 h2 h3
      split at h
      · rename_i h4
        simp only [Option.some.injEq, Prod.mk.injEq] at h
        obtain ⟨rfl, rfl, rfl, rfl⟩ := h
        exact ⟨hu, h1, h2, h3, h4.1, h4.2⟩
      · cases h
    · cases h
  · cases h
theorem stInfo_some {t : TypeId} {pl : List (Nat × Nat)} {zs : List Value} (h : stInfo P t = some (pl, zs)) : ∃ fs, P.underlying t = some (.struct fs) ∧ placesL P fs.toList = some pl ∧ zeroV P t = some zs := by
  unfold stInfo at h
  split at h
  · rename_i fs hu
    split at h
    · rename_i pl' zs' h1 h2
      simp only [Option.some.injEq, Prod.mk.injEq] at h
      obtain ⟨rfl, rfl⟩ := h
      exact ⟨fs, hu, h1, h2⟩
    · cases h
  · cases h
theorem fz_settled {k : Nat} {el : TypeId} {cs : List T} {len : Nat} (hl : len * k ≤ cs.length) (h : K (.t (.sl k (cs.take (len * k)))) s) : Settled s K (.loc s.next 0 len) (s.add (.arr k el cs)) := by
  refine ⟨.t (.sl k (cs.take (len * k))), (s.add (.arr k el cs)).del s.next, s, ?_, trivial, ⟨rfl, fun n b hn => .inr hn, fun n b hlt hn => ⟨?_, .inl hn⟩⟩, h⟩
  · refine ⟨rfl, fun n b hb => ?_, .inr (.inl (.inr (.inl ⟨s.next, 0, len, k, el, cs, rfl, by simp [Sg.add], by simp [Sg.del], by simpa using hl, by simp⟩))), trivial⟩
    simp only [Sg.del] at hb
    split at hb
    · cases hb
    · exact ⟨b, hb, by cases b <;> simp [BWk]; exact all2_refl (fun _ => .inl rfl) _⟩
  · have hne : n ≠ s.next := by omega
    simp [Sg.del, Sg.add, hne, hn]
def capOk : V → Bool
  | .ptr .. | .t _ | .loc .. => true
  | _ => false
def opFar (op : BinOp) (u1 u2 : V) (P : Program) (t : TypeId) (x y : Operand) (v : Value) : Prop :=
  (∃ a b, vflat u1 = some a ∧ vflat u2 = some b ∧ vbin P op t x y a b = some v) ∨
  (∃ cs ds us vs, u1 = .agg cs ∧ u2 = .agg ds ∧ vflats cs = some us ∧ vflats ds = some vs ∧ flat v = true ∧ ∀ w, (do eqGuard op t x y (.agg ⟨us⟩) (.agg ⟨vs⟩); Go.binOp op t (.agg ⟨us⟩) (.agg ⟨vs⟩) : Sem Value).run P w = .ok v w) ∨
  ((∃ el, P.underlying t = some (.pointer el)) ∧ (op = .eql ∨ op = .neq) ∧ v = .bool (op == .neq) ∧
    (((∃ n off, u1 = .ptr n off) ∧ u2 = .t (.v (.pointer none))) ∨ (u1 = .t (.v (.pointer none)) ∧ ∃ n off, u2 = .ptr n off)))
theorem min_val (at_ : Array TypeId) (ty : TypeId) (l : Array Bool) (a b : Int) : flatly (calm P (do match ← builtin .min at_ ty l ⟨[.int .i64 a, .int .i64 b]⟩ with | .value v => pure v | _ => stuck "")) = some (.int .i64 (min a b)) := by
  simp [builtin, Builtin.min_]
  show some (Value.int .i64 (if b < a then b else a)) = _
  congr 2
  split <;> omega
theorem max_val (at_ : Array TypeId) (ty : TypeId) (l : Array Bool) (a b : Int) : flatly (calm P (do match ← builtin .max at_ ty l ⟨[.int .i64 a, .int .i64 b]⟩ with | .value v => pure v | _ => stuck "")) = some (.int .i64 (max a b)) := by
  simp [builtin, Builtin.max_]
  show some (Value.int .i64 (if a < b then b else a)) = _
  congr 2
  split <;> omega
def vopx (tr : Bool) (P : Program) (o : Oper) (e : Env) (s : Sg) (K : V → Sg → Prop) : Prop :=
  match o.op with
  | .makeSlice t l c => match slInfo P t with
    | some (el, k, bytes, zs) => match ev e l, ev e c with
      | .t (.v (.int .i64 lz)), .t (.v (.int .i64 cz)) => 0 ≤ lz ∧ lz ≤ cz ∧ cz * bytes ≤ 1000000000 ∧ cz ≤ 1000000000 ∧
          (if tr = true then K (.t (.sl k ((repl (zs.map T.v) cz.toNat).take (lz.toNat * k)))) s else K (.loc s.next 0 lz.toNat) (s.add (.arr k el (repl (zs.map T.v) cz.toNat))))
      | _, _ => False
    | none => False
  | .buildSlice t len parts => match slInfo P t with
    | some (el, k, _, zs) => match vparts e parts.toList with
      | some ps => match s.frzP ps with
        | some (ts, s1) => match gfill (fun i => some (i * k, k)) (repl (zs.map T.v) len) ts with
          | some cs => len * k ≤ 1000000 ∧ (if tr = true then s1 = s ∧ K (.t (.sl k cs)) s else K (.loc s1.next 0 len) (s1.add (.arr k el cs)))
          | none => False
        | none => False
      | none => False
    | none => False
  | .build t parts => match stInfo P t with
    | some (pl, zs) => match vparts e parts.toList with
      | some ps => match gfill (fun i => pl[i]?) (zs.map fun z => V.t (.v z)) ps with
        | some cs => K (.agg cs) s
        | none => False
      | none => False
    | none => False
  | .makeFunc (.func g) fst caps => fst = #[] ∧ caps.toList.all (fun x => capOk (ev e x)) = true ∧ K (.clo g (caps.toList.map (ev e))) s
  | .slice t x lo hi none => match slInfo P t with
    | some (_, k, _, _) => match ev e x with
      | .t (.sl k' cs) => match bnd e 0 lo, bnd e (cs.length / k) hi with
        | some lz, some hz => k' = k ∧ 0 ≤ lz ∧ lz ≤ hz ∧ hz ≤ (cs.length / k : Nat) ∧ K (.t (.sl k ((cs.drop (lz.toNat * k)).take ((hz.toNat - lz.toNat) * k)))) s
        | _, _ => False
      | .loc n off len => match bnd e 0 lo, bnd e len hi with
        | some lz, some hz => (∃ ty cs, s.m n = some (.arr k ty cs)) ∧ 0 ≤ lz ∧ lz ≤ hz ∧ hz ≤ len ∧ K (.loc n (off + lz.toNat * k) (hz.toNat - lz.toNat)) s
        | _, _ => False
      | _ => False
    | none => False
  | .binOp op t x y _ => match ev e x, ev e y with
    | .t (.v (.int .i64 a)), .t (.v (.int .i64 b)) => opII op a b fun v => K v s
    | .t (.v (.string a)), .t (.v (.string b)) => opSS op a b fun v => K v s
    | u1, u2 => ∃ v, opFar op u1 u2 P t x y v ∧ K (.t (.v v)) s
  | .call c => match c.callee with
    | .builtin .append => match c.args.toList, c.argTypes.toList with
      | [x, y], [t, t'] => match slInfo P t with
        | some (el, k, bytes, _) => match dstT s k el (ev e x), srcT s k (ev e y) with
          | some (olds, s1), some news => t' = t ∧ (olds.length + news.length) / k * bytes ≤ 100000000000000 ∧ (olds.length + news.length) / k ≤ 100000000000000 ∧
              (if tr = true then s1 = s ∧ (olds.length + news.length) / k * k = (olds.length + news.length) ∧ K (.t (.sl k (olds ++ news))) s else K (.loc s.next 0 ((olds.length + news.length) / k)) (s1.add (.arr k el (olds ++ news))))
          | _, _ => False
        | none => False
      | _, _ => False
    | .builtin .copy => match c.args.toList, c.argTypes.toList with
      | [x, y], [dT, _] => match slInfo P dT with
        | some (_, k, _, _) => match ev e x, srcT s 1 (ev e y) with
          | .loc n off len, some news => match s.m n with
            | some (.arr k' ty cs) => k = 1 ∧ k' = 1 ∧ off + len ≤ cs.length ∧ K (.t (.v (.int .i64 (min news.length len : Nat)))) (s.set n (.arr 1 ty (setAll cs off (news.take (min news.length len)))))
            | _ => False
          | _, _ => False
        | none => False
      | _, _ => False
    | .builtin .min => match c.args.toList.map (ev e) with
      | [.t (.v (.int .i64 a)), .t (.v (.int .i64 b))] => K (I (min a b)) s
      | _ => False
    | .builtin .max => match c.args.toList.map (ev e) with
      | [.t (.v (.int .i64 a)), .t (.v (.int .i64 b))] => K (I (max a b)) s
      | _ => False
    | _ => vop P o e s K
  | _ => vop P o e s K
theorem opII_far {op : BinOp} {t t' : TypeId} {x y : Operand} (ho : o.op = .binOp op t x y t') {a b : Int} (hx : ev e x = I a) (hy : ev e y = I b) (h : opII op a b fun v => K v s) : OpG P o e s K :=
  vop_sound (by unfold vop; simp only [ho, hx, hy]; exact h)
theorem opSS_far {op : BinOp} {t t' : TypeId} {x y : Operand} (ho : o.op = .binOp op t x y t') {a b : ByteArray} (hx : ev e x = Str a) (hy : ev e y = Str b) (h : opSS op a b fun v => K v s) : OpG P o e s K :=
  vop_sound (by unfold vop; simp only [ho, hx, hy]; exact h)
theorem vopx_sound {tr : Bool} (h : vopx tr P o e s K) : OpG P o e s K := by
  unfold vopx at h
  split at h
  · rename_i t l c ho
    split at h
    · rename_i el k bytes zs hi
      obtain ⟨hu, hk, hb, hz, hk0, hzl⟩ := slInfo_some hi
      split at h
      · rename_i lz cz hl hc
        obtain ⟨h0, h1, h2, h3, h⟩ := h
        have base : ∀ K' : V → Sg → Prop, K' (.loc s.next 0 lz.toNat) (s.add (.arr k el (repl (zs.map T.v) cz.toNat))) → OpG P o e s K' := fun K' hK => (sound_makeSlice ho hu hk hb hk0 hz hzl hl hc h0 h1 h2 h3 hK).opg
        split at h
        · refine OpG.settle (base _ (fz_settled ?_ h))
          rw [repl_length, List.length_map, hzl]
          exact Nat.mul_le_mul_right _ (by omega)
        · exact base _ h
      · exact h.elim
    · exact h.elim
  · rename_i t len parts ho
    split at h
    · rename_i el k bytes zs hi
      obtain ⟨hu, hk, hb, hz, hk0, hzl⟩ := slInfo_some hi
      split at h
      · rename_i ps hps
        split at h
        · rename_i ts s1 hfr
          split at h
          · rename_i cs hcs
            obtain ⟨h1, h⟩ := h
            have base : ∀ K' : V → Sg → Prop, K' (.loc s1.next 0 len) (s1.add (.arr k el cs)) → OpG P o e s K' := fun K' hK => (sound_buildSlice ho hu hk hk0 hz hzl h1 hps hfr hcs hK).opg
            split at h
            · obtain ⟨rfl, h⟩ := h
              have hlen : cs.length = len * k := by rw [gfill_length hcs, repl_length, List.length_map, hzl]
              refine OpG.settle (base _ (fz_settled (by omega) ?_))
              rw [List.take_of_length_le (by omega)]
              exact h
            · exact base _ h
          · exact h.elim
        · exact h.elim
      · exact h.elim
    · exact h.elim
  · rename_i t parts ho
    split at h
    · rename_i pl zs hi
      obtain ⟨fs, hu, hp, hz⟩ := stInfo_some hi
      split at h
      · rename_i ps hps
        split at h
        · rename_i cs hcs
          exact (sound_build ho hu hp hz hps hcs h).opg
        · exact h.elim
      · exact h.elim
    · exact h.elim
  · rename_i g fst caps ho
    obtain ⟨rfl, h1, h⟩ := h
    refine (sound_makeFunc ho ?_ h).opg
    rw [List.all_eq_true] at h1 ⊢
    intro x hx
    have := h1 x hx
    revert this
    cases ev e x <;> simp [capOk]
  · rename_i t x lo hi ho
    split at h
    · rename_i el k b zs hi
      obtain ⟨hu, hk, hb, hz, hk0, hzl⟩ := slInfo_some hi
      split at h
      · rename_i k' cs hx
        split at h
        · rename_i lz hz hl hh
          obtain ⟨rfl, h0, h1, h2, h⟩ := h
          exact (sound_slice_im hu hk ho hx hl hh h0 h1 h2 h).opg
        · exact h.elim
      · rename_i n off len hx
        split at h
        · rename_i lz hz hl hh
          obtain ⟨⟨ty, cs, hn⟩, h0, h1, h2, h⟩ := h
          exact (sound_slice_loc hu hk ho hx hn hl hh h0 h1 h2 h).opg
        · exact h.elim
      · exact h.elim
    · exact h.elim
  · rename_i op t x y t' ho
    split at h
    · rename_i a b ha hb; exact opII_far ho ha hb h
    · rename_i a b ha hb; exact opSS_far ho ha hb h
    · obtain ⟨v, hv, h⟩ := h
      rcases hv with ⟨a, b, h1, h2, h3⟩ | ⟨cs, ds, us, vs, h1, h2, h3, h4, h5⟩ | ⟨⟨el, hu⟩, hop, rfl, h3⟩
      · exact (sound_bin ho h1 h2 h3 h).opg
      · exact (sound_bin_agg ho h1 h2 h3 h4 h5 h).opg
      · exact (sound_ptr_nil ho hu hop h3 h).opg
  · rename_i c ho
    split at h
    · rename_i hc
      split at h
      · rename_i x y t t' ha ht
        split at h
        · rename_i el k bytes zs hi
          obtain ⟨hu, hk, hb, hz, hk0, hzl⟩ := slInfo_some hi
          split at h
          · rename_i olds s1 news hd hs
            obtain ⟨rfl, h1, h2, h⟩ := h
            have base : ∀ K' : V → Sg → Prop, K' (.loc s.next 0 ((olds.length + news.length) / k)) (s1.add (.arr k el (olds ++ news))) → OpG P o e s K' := fun K' hK =>
              (sound_append ho hc (by apply Array.toList_inj.1; rw [ha]) (by apply Array.toList_inj.1; rw [ht]) hu hk hb hk0 hz hzl hd hs h1 h2 hK).opg
            split at h
            · obtain ⟨rfl, h3, h⟩ := h
              refine OpG.settle (base _ (fz_settled (by rw [h3]; simp) ?_))
              rw [h3, List.take_of_length_le (by simp)]
              exact h
            · exact base _ h
          · exact h.elim
        · exact h.elim
      · exact h.elim
    · rename_i hc
      split at h
      · rename_i x y dT sT ha ht
        split at h
        · rename_i el k bytes zs hi
          obtain ⟨hu, hk, hb, hz, hk0, hzl⟩ := slInfo_some hi
          split at h
          · rename_i n off len news hx hsr
            split at h
            · rename_i k' ty cs hn
              obtain ⟨rfl, rfl, hfit, h⟩ := h
              exact (sound_copy ho hc (by apply Array.toList_inj.1; rw [ha]) (by apply Array.toList_inj.1; rw [ht]) hu hk hx hn hfit hsr h).opg
            · exact h.elim
          · exact h.elim
        · exact h.elim
      · exact h.elim
    · rename_i hc
      split at h
      · rename_i a b ha
        exact (sound_flat_builtin ho hc (us := [.int .i64 a, .int .i64 b]) (by rw [ha]; rfl) (min_val _ _ _ _ _) h).opg
      · exact h.elim
    · rename_i hc
      split at h
      · rename_i a b ha
        exact (sound_flat_builtin ho hc (us := [.int .i64 a, .int .i64 b]) (by rw [ha]; rfl) (max_val _ _ _ _ _) h).opg
      · exact h.elim
    · exact vop_sound h
  · exact vop_sound h
def stillX (tr : Bool) (o : Op) : Bool :=
  match o with
  | .makeSlice .. | .buildSlice .. => tr
  | .call c => match c.callee with
    | .builtin .append => tr
    | .builtin .copy => false
    | _ => true
  | o => stillO o
theorem vparts_congr {e e' : Env} : ∀ {l : List (Nat × Operand)}, (∀ x ∈ l.map (·.2), ev e' x = ev e x) → vparts e' l = vparts e l
  | [], _ => rfl
  | (i, x) :: l, h => by
    simp only [vparts]
    rw [h x (by simp), vparts_congr (l := l) fun y hy => h y (by simp only [List.map_cons, List.mem_cons]; exact .inr hy)]
theorem bnd_congr {e e' : Env} {d : Nat} {x : Option Operand} (h : ∀ y, x = some y → ev e' y = ev e y) : bnd e' d x = bnd e d x := by
  cases x with
  | none => rfl
  | some y => simp only [bnd]; rw [h y rfl]
theorem vopx_det {tr : Bool} (h : vopx tr P o e s K) : ∃ v s', K v s' ∧ (stillX tr o.op = true → s' = s) ∧ ∀ (e' : Env) (K' : V → Sg → Prop), (∀ x ∈ o.op.operands, ev e' x = ev e x) → K' v s' → vopx tr P o e' s K' := by
  have old : (∀ (e' : Env) (K' : V → Sg → Prop), vop P o e' s K' → vopx tr P o e' s K') → (stillX tr o.op = true → stillO o.op = true) → vop P o e s K →
      ∃ v s', K v s' ∧ (stillX tr o.op = true → s' = s) ∧ ∀ (e' : Env) (K' : V → Sg → Prop), (∀ x ∈ o.op.operands, ev e' x = ev e x) → K' v s' → vopx tr P o e' s K' := fun up hst hv => by
    obtain ⟨v, s', h1, h2, h3⟩ := vop_det hv
    exact ⟨v, s', h1, fun hs => h2 (hst hs), fun e' K' he hk => up e' K' (h3 e' K' he hk)⟩
  unfold vopx at h
  split at h
  · rename_i t l c ho
    split at h
    · rename_i el k bytes zs hi
      split at h
      · rename_i lz cz hl hc
        obtain ⟨h0, h1, h2, h3, h⟩ := h
        have eqs : ∀ e' : Env, (∀ x ∈ o.op.operands, ev e' x = ev e x) → ev e' l = I lz ∧ ev e' c = I cz := fun e' he => ⟨(he l (by simp [ho, Op.operands])).trans hl, (he c (by simp [ho, Op.operands])).trans hc⟩
        split at h
        · rename_i htr
          exact ⟨_, _, h, fun _ => rfl, fun e' K' he hk => by obtain ⟨e1, e2⟩ := eqs e' he; unfold vopx; simp only [ho, hi, e1, e2]; rw [if_pos htr]; exact ⟨h0, h1, h2, h3, hk⟩⟩
        · rename_i htr
          exact ⟨_, _, h, fun hs => by simp [ho, stillX] at hs; exact absurd hs htr, fun e' K' he hk => by obtain ⟨e1, e2⟩ := eqs e' he; unfold vopx; simp only [ho, hi, e1, e2]; rw [if_neg htr]; exact ⟨h0, h1, h2, h3, hk⟩⟩
      · exact h.elim
    · exact h.elim
  · rename_i t len parts ho
    split at h
    · rename_i el k bytes zs hi
      split at h
      · rename_i ps hps
        split at h
        · rename_i ts s1 hfr
          split at h
          · rename_i cs hcs
            obtain ⟨h1, h⟩ := h
            have eqs : ∀ e' : Env, (∀ x ∈ o.op.operands, ev e' x = ev e x) → vparts e' parts.toList = some ps := fun e' he => (vparts_congr fun x hx => he x (by simpa [ho, Op.operands] using hx)).trans hps
            split at h
            · rename_i htr
              exact ⟨_, _, h.2, fun _ => rfl, fun e' K' he hk => by unfold vopx; simp only [ho, hi, eqs e' he, hfr, hcs]; rw [if_pos htr]; exact ⟨h1, h.1, hk⟩⟩
            · rename_i htr
              exact ⟨_, _, h, fun hs => by simp [ho, stillX] at hs; exact absurd hs htr, fun e' K' he hk => by unfold vopx; simp only [ho, hi, eqs e' he, hfr, hcs]; rw [if_neg htr]; exact ⟨h1, hk⟩⟩
          · exact h.elim
        · exact h.elim
      · exact h.elim
    · exact h.elim
  · rename_i t parts ho
    split at h
    · rename_i pl zs hi
      split at h
      · rename_i ps hps
        split at h
        · rename_i cs hcs
          exact ⟨_, _, h, fun _ => rfl, fun e' K' he hk => by
            have := (vparts_congr (e := e) (e' := e') (l := parts.toList) fun x hx => he x (by simpa [ho, Op.operands] using hx)).trans hps
            unfold vopx; simp only [ho, hi, this, hcs]; exact hk⟩
        · exact h.elim
      · exact h.elim
    · exact h.elim
  · rename_i g fst caps ho
    obtain ⟨rfl, h1, h⟩ := h
    refine ⟨_, _, h, fun _ => rfl, fun e' K' he hk => ?_⟩
    have hm : ∀ x ∈ caps.toList, ev e' x = ev e x := fun x hx => he x (by simp [ho, Op.operands]; simpa using hx)
    unfold vopx; simp only [ho]
    refine ⟨trivial, ?_, ?_⟩
    · rw [List.all_eq_true] at h1 ⊢
      intro x hx
      rw [hm x hx]; exact h1 x hx
    · rw [List.map_congr_left hm]; exact hk
  · rename_i t x lo hi ho
    have hx' : ∀ e' : Env, (∀ x ∈ o.op.operands, ev e' x = ev e x) → ev e' x = ev e x ∧ (∀ d, bnd e' d lo = bnd e d lo) ∧ (∀ d, bnd e' d hi = bnd e d hi) := fun e' he =>
      ⟨he x (by simp [ho, Op.operands]), fun d => bnd_congr fun y hy => he y (by subst hy; simp [ho, Op.operands]), fun d => bnd_congr fun y hy => he y (by subst hy; simp [ho, Op.operands])⟩
    split at h
    · rename_i el k b zs hi'
      split at h
      · rename_i k' cs hx
        split at h
        · rename_i lz hz hl hh
          exact ⟨_, _, h.2.2.2.2, fun _ => rfl, fun e' K' he hk => by
            obtain ⟨e1, e2, e3⟩ := hx' e' he
            unfold vopx; simp only [ho, hi', e1, hx, e2, e3, hl, hh]; exact ⟨h.1, h.2.1, h.2.2.1, h.2.2.2.1, hk⟩⟩
        · exact h.elim
      · rename_i n off len hx
        split at h
        · rename_i lz hz hl hh
          exact ⟨_, _, h.2.2.2.2, fun _ => rfl, fun e' K' he hk => by
            obtain ⟨e1, e2, e3⟩ := hx' e' he
            unfold vopx; simp only [ho, hi', e1, hx, e2, e3, hl, hh]; exact ⟨h.1, h.2.1, h.2.2.1, h.2.2.2.1, hk⟩⟩
        · exact h.elim
      · exact h.elim
    · exact h.elim
  · rename_i op t x y t' ho
    have hx' : ∀ e' : Env, (∀ x ∈ o.op.operands, ev e' x = ev e x) → ev e' x = ev e x ∧ ev e' y = ev e y := fun e' he => ⟨he x (by simp [ho, Op.operands]), he y (by simp [ho, Op.operands])⟩
    split at h
    · rename_i a b ha hb
      obtain ⟨v, hv, hK⟩ := opII_det h
      exact ⟨v, s, hv, fun _ => rfl, fun e' K' he hk => by obtain ⟨e1, e2⟩ := hx' e' he; unfold vopx; simp only [ho, e1, e2, ha, hb]; exact hK _ hk⟩
    · rename_i a b ha hb
      obtain ⟨v, hv, hK⟩ := opSS_det h
      exact ⟨v, s, hv, fun _ => rfl, fun e' K' he hk => by obtain ⟨e1, e2⟩ := hx' e' he; unfold vopx; simp only [ho, e1, e2, ha, hb]; exact hK _ hk⟩
    · rename_i n1 n2
      obtain ⟨v, hv, h⟩ := h
      refine ⟨_, _, h, fun _ => rfl, fun e' K' he hk => ?_⟩
      obtain ⟨e1, e2⟩ := hx' e' he
      unfold vopx; simp only [ho, e1, e2]
      exact ⟨v, hv, hk⟩
  · rename_i c ho
    split at h
    · rename_i hc
      split at h
      · rename_i x y t t' ha ht
        split at h
        · rename_i el k bytes zs hi
          split at h
          · rename_i olds s1 news hd hs
            obtain ⟨rfl, h1, h2, h⟩ := h
            have hx' : ∀ e' : Env, (∀ x ∈ o.op.operands, ev e' x = ev e x) → ev e' x = ev e x ∧ ev e' y = ev e y := fun e' he => by
              have m1 : x ∈ c.args := by rw [← Array.mem_toList_iff, ha]; simp
              have m2 : y ∈ c.args := by rw [← Array.mem_toList_iff, ha]; simp
              exact ⟨he x (by simp [ho, Op.operands, Call.operands, m1]), he y (by simp [ho, Op.operands, Call.operands, m2])⟩
            split at h
            · rename_i htr
              exact ⟨_, _, h.2.2, fun _ => rfl, fun e' K' he hk => by obtain ⟨e1, e2⟩ := hx' e' he; unfold vopx; simp only [ho, hc, ha, ht, hi, e1, e2, hd, hs]; rw [if_pos htr]; exact ⟨trivial, h1, h2, h.1, h.2.1, hk⟩⟩
            · rename_i htr
              exact ⟨_, _, h, fun hs => by simp [ho, stillX, hc] at hs; exact absurd hs htr, fun e' K' he hk => by obtain ⟨e1, e2⟩ := hx' e' he; unfold vopx; simp only [ho, hc, ha, ht, hi, e1, e2, hd, hs]; rw [if_neg htr]; exact ⟨trivial, h1, h2, hk⟩⟩
          · exact h.elim
        · exact h.elim
      · exact h.elim
    · rename_i hc
      split at h
      · rename_i x y dT sT ha ht
        have hx' : ∀ e' : Env, (∀ x ∈ o.op.operands, ev e' x = ev e x) → ev e' x = ev e x ∧ ev e' y = ev e y := fun e' he => by
          have m1 : x ∈ c.args := by rw [← Array.mem_toList_iff, ha]; simp
          have m2 : y ∈ c.args := by rw [← Array.mem_toList_iff, ha]; simp
          exact ⟨he x (by simp [ho, Op.operands, Call.operands, m1]), he y (by simp [ho, Op.operands, Call.operands, m2])⟩
        split at h
        · rename_i el k bytes zs hi
          split at h
          · rename_i n off len news hx hsr
            split at h
            · rename_i k' ty cs hn
              exact ⟨_, _, h.2.2.2, fun hs => by simp [ho, stillX, hc] at hs, fun e' K' he hk => by
                obtain ⟨e1, e2⟩ := hx' e' he
                unfold vopx; simp only [ho, hc, ha, ht, hi, e1, e2, hx, hsr, hn]; exact ⟨h.1, h.2.1, h.2.2.1, hk⟩⟩
            · exact h.elim
          · exact h.elim
        · exact h.elim
      · exact h.elim
    · rename_i hc
      split at h
      · rename_i a b ha
        exact ⟨_, _, h, fun _ => rfl, fun e' K' he hk => by
          have h2 : c.args.toList.map (ev e') = c.args.toList.map (ev e) := List.map_congr_left fun x hx => he x (by
            have : x ∈ c.args := by simpa using hx
            simp [ho, Op.operands, Call.operands, this])
          unfold vopx; simp only [ho, hc, h2, ha]; exact hk⟩
      · exact h.elim
    · rename_i hc
      split at h
      · rename_i a b ha
        exact ⟨_, _, h, fun _ => rfl, fun e' K' he hk => by
          have h2 : c.args.toList.map (ev e') = c.args.toList.map (ev e) := List.map_congr_left fun x hx => he x (by
            have : x ∈ c.args := by simpa using hx
            simp [ho, Op.operands, Call.operands, this])
          unfold vopx; simp only [ho, hc, h2, ha]; exact hk⟩
      · exact h.elim
    · rename_i n1 n1b n2 n3
      refine old (fun e' K' hv => ?_) (fun _ => by simp [ho, stillO]) h
      unfold vopx; simp only [ho]
      exact hv
  · rename_i n1 n2 n3 n4 n5 n6 n7
    refine old (fun e' K' hv => ?_) (fun hs => ?_) h
    · unfold vopx
      split
      · rename_i ho; exact absurd ho (n1 _ _ _)
      · rename_i ho; exact absurd ho (n2 _ _ _)
      · rename_i ho; exact absurd ho (n3 _ _)
      · rename_i ho; exact absurd ho (n4 _ _ _)
      · rename_i ho; exact absurd ho (n5 _ _ _ _)
      · rename_i ho; exact absurd ho (n6 _ _ _ _ _)
      · rename_i ho; exact absurd ho (n7 _)
      · exact hv
    · unfold stillX at hs
      split at hs
      · rename_i ho; exact absurd ho (n1 _ _ _)
      · rename_i ho; exact absurd ho (n2 _ _ _)
      · rename_i ho; exact absurd ho (n7 _)
      · exact hs
end
end Go.V
