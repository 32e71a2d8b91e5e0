/- Lemmas on the way to the statement of this claim; no conditions. -/
import Derived.Test.YtjidblndipcofaaDoorA19
namespace Go.V
open Go Go.RowKit
theorem ev_const (e : Env) (v : Value) : ev e (.const v) = if flat v = true then .t (.v v) else .junk := rfl
theorem ev_func (e : Env) (f : Nat) : ev e (.func f) = .t (.v (.func (.func f) #[] #[])) := rfl
def opII (op : BinOp) (a b : Int) (K : V → Prop) : Prop :=
  match op with
  | .lss => K (Bo (decide (a < b)))
  | .leq => K (Bo (decide (a ≤ b)))
  | .gtr => K (Bo (decide (a > b)))
  | .geq => K (Bo (decide (a ≥ b)))
  | .eql => K (Bo (a == b))
  | .neq => K (Bo (a != b))
  | .add => inI (a + b) ∧ K (I (a + b))
  | .sub => inI (a - b) ∧ K (I (a - b))
  | .mul => inI (a * b) ∧ K (I (a * b))
  | _ => False
def opSS (op : BinOp) (a b : ByteArray) (K : V → Prop) : Prop :=
  match op with
  | .eql => K (Bo (a.toList == b.toList))
  | .neq => K (Bo (!(a.toList == b.toList)))
  | .add => a.size + b.size ≤ 9223372036854775807 ∧ K (Str (a ++ b))
  | .lss => K (Bo (Op.bytesLess a.toList b.toList))
  | .leq => K (Bo (Op.bytesLess a.toList b.toList || a.toList == b.toList))
  | .gtr => K (Bo (!(Op.bytesLess a.toList b.toList || a.toList == b.toList)))
  | .geq => K (Bo (!(Op.bytesLess a.toList b.toList)))
  | _ => False
theorem opII_det {op : BinOp} {a b : Int} {K : V → Prop} (h : opII op a b K) : ∃ v, K v ∧ ∀ K', K' v → opII op a b K' := by
  unfold opII at h
  split at h
  any_goals exact ⟨_, h, fun K' hk => hk⟩
  any_goals exact ⟨_, h.2, fun K' hk => ⟨h.1, hk⟩⟩
  exact h.elim
theorem opSS_det {op : BinOp} {a b : ByteArray} {K : V → Prop} (h : opSS op a b K) : ∃ v, K v ∧ ∀ K', K' v → opSS op a b K' := by
  unfold opSS at h
  split at h
  any_goals exact ⟨_, h, fun K' hk => hk⟩
  any_goals exact ⟨_, h.2, fun K' hk => ⟨h.1, hk⟩⟩
  exact h.elim
def vop (P : Program) (o : Oper) (e : Env) (s : Sg) (K : V → Sg → Prop) : Prop :=
  match o.op with
  | .move x | .assign x => K (ev e x) s
  | .pick c x y => match ev e c with
    | .t (.v (.bool b)) => K (if b then ev e x else ev e y) s
    | _ => False
  | .extract x i => match ev e x with
    | .tup vs => match vs[i]? with | some v => K v s | none => False
    | _ => False
  | .load t x => match dLoad P s t (ev e x) with | some v => K v s | none => False
  | .nilCheck x => dSure (ev e x) = true ∧ K (ev e x) s
  | .unOp .not _ x => match ev e x with
    | .t (.v (.bool b)) => K (Bo (!b)) s
    | _ => False
  | .binOp op _ x y _ => match ev e x, ev e y with
    | .t (.v (.int .i64 a)), .t (.v (.int .i64 b)) => opII op a b fun v => K v s
    | .t (.v (.string a)), .t (.v (.string b)) => opSS op a b fun v => K v s
    | _, _ => False
  | .indexAddr t x y => match ev e y with
    | .t (.v (.int .i64 z)) => match P.underlying t with
      | some (.slice el) => match szOf P el with
        | some k => match ev e x with
          | .t (.sl k' cs) => k' = k ∧ 0 ≤ z ∧ z.toNat * k < cs.length ∧ K (.iad cs (z.toNat * k)) s
          | .loc n off len => (∃ b, s.m n = some b) ∧ 0 ≤ z ∧ z < len ∧ K (.ptr n (off + z.toNat * k)) s
          | _ => False
        | none => False
      | _ => False
    | _ => False
  | .fieldAddr t x f => match fieldOf P t f with
    | some (d, ft) => match szOf P ft with
      | some k => k ≠ 0 ∧ (match ev e x with
        | .ptr n off => K (.ptr n (off + d)) s
        | .iad cs off => K (.iad cs (off + d)) s
        | _ => False)
      | none => False
    | none => False
  | .field t x f => match fieldOf P t f with
    | some (d, ft) => match ev e x with
      | .agg cs => match vpart P ft cs d with | some v => K v s | none => False
      | _ => False
    | none => False
  | .alloc t => match zeroV P t with | some zs => K (.ptr s.next 0) (s.add (.box t (zs.map fun z => .t (.v z)))) | none => False
  | .box t x => match (ev e x).cells with | some cs => K (.ptr s.next 0) (s.add (.box t cs)) | none => False
  | .store t x y => match ev e x with
    | .ptr n off => match (ev e y).cells with
      | some xs => match s.m n with
        | some (.box ty cs) => szOf P t = some xs.length ∧ off + xs.length ≤ cs.length ∧ K .junk (s.set n (.box ty (setAll cs off xs)))
        | some (.arr _ _ _) => match s.frzL xs with
          | some (ts, s1) => match s1.m n with
            | some (.arr k ty cs) => szOf P t = some xs.length ∧ off + xs.length ≤ cs.length ∧ K .junk (s1.set n (.arr k ty (setAll cs off ts)))
            | _ => False
          | none => False
        | _ => False
      | none => False
    | _ => False
  | .call c => match c.callee with
    | .builtin .len => match c.args.toList, c.argTypes.toList with
      | [x], t :: _ => match P.underlying t with
        | some (.slice _) => match vlen (ev e x) with | some n => K (I n) s | none => False
        | some .string => match ev e x with
          | .t (.v (.string b)) => K (I b.size) s
          | _ => False
        | _ => False
      | _, _ => False
    | .value (.func g) => ∃ fn res, P.funcs[g]? = some fn ∧ fn.body.isSome = true ∧ fn.name ≠ "runtime.NumGoroutine" ∧ PCall P g (c.args.toList.map (ev e)) res ∧ K res s
    | _ => False
  | _ => False
section
variable {P : Program} {o : Oper} {e : Env} {s : Sg} {K : V → Sg → Prop}
theorem vop_sound (h : vop P o e s K) : OpG P o e s K := by
  unfold vop at h
  split at h
  · rename_i x ho; exact op_move ho h
  · rename_i x ho; exact op_assign ho h
  · rename_i c x y ho
    split at h
    · rename_i b hb; exact op_pick ho b hb h
    · exact h.elim
  · rename_i x i ho
    split at h
    · rename_i vs hx
      split at h
      · rename_i v hv; exact op_extract ho hx hv h
      · exact h.elim
    · exact h.elim
  · rename_i t x ho
    split at h
    · rename_i v hv; exact op_load ho rfl hv h
    · exact h.elim
  · rename_i x ho; exact op_nilCheck ho rfl h.1 h.2
  · rename_i t x ho
    split at h
    · rename_i b hb; exact op_not ho hb h
    · exact h.elim
  · rename_i op t x y t' ho
    split at h
    · rename_i a b ha hb
      unfold opII at h
      split at h
      · exact op_lss ho ha hb h
      · exact op_leq ho ha hb h
      · exact op_gtr ho ha hb h
      · exact op_geq ho ha hb h
      · exact op_eql ho ha hb h
      · exact op_neq ho ha hb h
      · exact op_add ho ha hb h.1 h.2
      · exact op_sub ho ha hb h.1 h.2
      · exact op_mul ho ha hb h.1 h.2
      · exact h.elim
    · rename_i a b ha hb
      unfold opSS at h
      split at h
      · exact op_eql_s ho ha hb h
      · exact op_neq_s ho ha hb h
      · exact op_add_s ho ha hb h.1 h.2
      · exact op_bool_s ho ha hb (fun _ _ => rfl) h
      · exact op_bool_s ho ha hb (fun _ _ => rfl) h
      · exact op_bool_s ho ha hb (fun _ _ => rfl) h
      · exact op_bool_s ho ha hb (fun _ _ => rfl) h
      · exact h.elim
    · exact h.elim
  · rename_i t x y ho
    split at h
    · rename_i z hz
      split at h
      · rename_i el hu
        split at h
        · rename_i k hk
          split at h
          · rename_i k' cs hx
            obtain ⟨rfl, h0, h1, h⟩ := h
            exact op_index_im ho hx hz hu hk h0 h1 h
          · rename_i n off len hx
            obtain ⟨⟨b, hb⟩, h0, h1, h⟩ := h
            exact op_index_loc ho hx hb hz hu hk h0 h1 h
          · exact h.elim
        · exact h.elim
      · exact h.elim
    · exact h.elim
  · rename_i t x f ho
    split at h
    · rename_i d ft hf
      split at h
      · rename_i k hk
        obtain ⟨hk0, h⟩ := h
        split at h
        · rename_i n off hx; exact op_field_ptr ho hf hk hk0 hx h
        · rename_i cs off hx; exact op_field_iad ho hf hk hk0 hx h
        · exact h.elim
      · exact h.elim
    · exact h.elim
  · rename_i t x f ho
    split at h
    · rename_i d ft hf
      split at h
      · rename_i cs hx
        split at h
        · rename_i v hv; exact op_field ho hf hx hv h
        · exact h.elim
      · exact h.elim
    · exact h.elim
  · rename_i t ho
    split at h
    · rename_i zs hz; exact op_alloc ho hz h
    · exact h.elim
  · rename_i t x ho
    split at h
    · rename_i cs hc; exact op_box ho rfl hc h
    · exact h.elim
  · rename_i t x y ho
    split at h
    · rename_i n off hx
      split at h
      · rename_i xs hy
        split at h
        · rename_i ty cs hn
          exact op_store ho hx hn rfl hy h.1 h.2.1 h.2.2
        · split at h
          · rename_i ts s1 hf
            split at h
            · rename_i k ty cs hn
              exact op_store_arr ho hx rfl hy hf hn h.1 h.2.1 h.2.2
            · exact h.elim
          · exact h.elim
        · exact h.elim
      · exact h.elim
    · exact h.elim
  · rename_i c ho
    split at h
    · rename_i hc
      split at h
      · rename_i x t tl ha ht
        split at h
        · rename_i el hu
          split at h
          · rename_i n hn
            refine op_len (x := x) (t := t) ho hc ?_ ?_ hu rfl hn h
            · apply Array.toList_inj.1; rw [ha]
            · rw [← Array.getElem?_toList, ht]; rfl
          · exact h.elim
        · rename_i hu
          split at h
          · rename_i b hb
            refine op_len_s (x := x) (t := t) ho hc ?_ ?_ hu hb h
            · apply Array.toList_inj.1; rw [ha]
            · rw [← Array.getElem?_toList, ht]; rfl
          · exact h.elim
        · exact h.elim
      · exact h.elim
    · rename_i g hc
      obtain ⟨fn, res, hf, hb, hn, hp, hk⟩ := h
      exact op_pcall ho hc hf hb hn rfl hp hk
    · exact h.elim
  · exact h.elim
def stillO : Op → Bool
  | .alloc _ | .box _ _ | .store _ _ _ => false
  | _ => true
theorem vop_det (h : vop P o e s K) : ∃ v s', K v s' ∧ (stillO o.op = true → s' = s) ∧ ∀ (e' : Env) (K' : V → Sg → Prop), (∀ x ∈ o.op.operands, ev e' x = ev e x) → K' v s' → vop P o e' s K' := by
  unfold vop at h
  split at h
  · rename_i x ho; exact ⟨_, _, h, fun _ => rfl, fun e' K' he hk => by have h1 := he x (by simp [ho, Op.operands]); unfold vop; simp only [ho, h1]; exact hk⟩
  · rename_i x ho; exact ⟨_, _, h, fun _ => rfl, fun e' K' he hk => by have h1 := he x (by simp [ho, Op.operands]); unfold vop; simp only [ho, h1]; exact hk⟩
  · rename_i c x y ho
    split at h
    · rename_i b hb
      exact ⟨_, _, h, fun _ => rfl, fun e' K' he hk => by
        have h1 := he x (by simp [ho, Op.operands]); have h2 := he y (by simp [ho, Op.operands]); have h3 := he c (by simp [ho, Op.operands])
        unfold vop; simp only [ho, h1, h2, h3, hb]; exact hk⟩
    · exact h.elim
  · rename_i x i ho
    split at h
    · rename_i vs hx
      split at h
      · rename_i v hv
        exact ⟨_, _, h, fun _ => rfl, fun e' K' he hk => by have h1 := he x (by simp [ho, Op.operands]); unfold vop; simp only [ho, h1, hx, hv]; exact hk⟩
      · exact h.elim
    · exact h.elim
  · rename_i t x ho
    split at h
    · rename_i v hv
      exact ⟨_, _, h, fun _ => rfl, fun e' K' he hk => by have h1 := he x (by simp [ho, Op.operands]); unfold vop; simp only [ho, h1, hv]; exact hk⟩
    · exact h.elim
  · rename_i x ho; exact ⟨_, _, h.2, fun _ => rfl, fun e' K' he hk => by have h1 := he x (by simp [ho, Op.operands]); unfold vop; simp only [ho, h1]; exact ⟨h.1, hk⟩⟩
  · rename_i t x ho
    split at h
    · rename_i b hb
      exact ⟨_, _, h, fun _ => rfl, fun e' K' he hk => by have h1 := he x (by simp [ho, Op.operands]); unfold vop; simp only [ho, h1, hb]; exact hk⟩
    · exact h.elim
  · rename_i op t x y t' ho
    split at h
    · rename_i a b ha hb
      obtain ⟨v, hv, hK⟩ := opII_det h
      exact ⟨v, s, hv, fun _ => rfl, fun e' K' he hk' => by
        have h1 := he x (by simp [ho, Op.operands]); have h2 := he y (by simp [ho, Op.operands])
        unfold vop; simp only [ho, h1, h2, ha, hb]; exact hK _ hk'⟩
    · rename_i a b ha hb
      obtain ⟨v, hv, hK⟩ := opSS_det h
      exact ⟨v, s, hv, fun _ => rfl, fun e' K' he hk' => by
        have h1 := he x (by simp [ho, Op.operands]); have h2 := he y (by simp [ho, Op.operands])
        unfold vop; simp only [ho, h1, h2, ha, hb]; exact hK _ hk'⟩
    · exact h.elim
  · rename_i t x y ho
    split at h
    · rename_i z hz
      split at h
      · rename_i el hu
        split at h
        · rename_i k hk
          split at h
          · rename_i k' cs hx
            obtain ⟨rfl, h0, h1, h⟩ := h
            exact ⟨_, _, h, fun _ => rfl, fun e' K' he hk' => by
              have h2 := he x (by simp [ho, Op.operands]); have h3 := he y (by simp [ho, Op.operands])
              unfold vop; simp only [ho, h2, h3, hz, hu, hk, hx]; exact ⟨trivial, h0, h1, hk'⟩⟩
          · rename_i n off len hx
            obtain ⟨h00, h0, h1, h⟩ := h
            exact ⟨_, _, h, fun _ => rfl, fun e' K' he hk' => by
              have h2 := he x (by simp [ho, Op.operands]); have h3 := he y (by simp [ho, Op.operands])
              unfold vop; simp only [ho, h2, h3, hz, hu, hk, hx]; exact ⟨h00, h0, h1, hk'⟩⟩
          · exact h.elim
        · exact h.elim
      · exact h.elim
    · exact h.elim
  · rename_i t x f ho
    split at h
    · rename_i d ft hf
      split at h
      · rename_i k hk
        obtain ⟨hk0, h⟩ := h
        split at h
        · rename_i n off hx
          exact ⟨_, _, h, fun _ => rfl, fun e' K' he hk' => by have h2 := he x (by simp [ho, Op.operands]); unfold vop; simp only [ho, h2, hf, hk, hx]; exact ⟨hk0, hk'⟩⟩
        · rename_i cs off hx
          exact ⟨_, _, h, fun _ => rfl, fun e' K' he hk' => by have h2 := he x (by simp [ho, Op.operands]); unfold vop; simp only [ho, h2, hf, hk, hx]; exact ⟨hk0, hk'⟩⟩
        · exact h.elim
      · exact h.elim
    · exact h.elim
  · rename_i t x f ho
    split at h
    · rename_i d ft hf
      split at h
      · rename_i cs hx
        split at h
        · rename_i v hv
          exact ⟨_, _, h, fun _ => rfl, fun e' K' he hk' => by have h2 := he x (by simp [ho, Op.operands]); unfold vop; simp only [ho, h2, hf, hx, hv]; exact hk'⟩
        · exact h.elim
      · exact h.elim
    · exact h.elim
  · rename_i t ho
    split at h
    · rename_i zs hz
      exact ⟨_, _, h, fun hs => by simp [stillO, ho] at hs, fun e' K' he hk' => by unfold vop; simp only [ho, hz]; exact hk'⟩
    · exact h.elim
  · rename_i t x ho
    split at h
    · rename_i cs hc
      exact ⟨_, _, h, fun hs => by simp [stillO, ho] at hs, fun e' K' he hk' => by have h2 := he x (by simp [ho, Op.operands]); unfold vop; simp only [ho, h2, hc]; exact hk'⟩
    · exact h.elim
  · rename_i t x y ho
    split at h
    · rename_i n off hx
      split at h
      · rename_i xs hy
        split at h
        · rename_i ty cs hn
          exact ⟨_, _, h.2.2, fun hs => by simp [stillO, ho] at hs, fun e' K' he hk' => by
            have h2 := he x (by simp [ho, Op.operands]); have h3 := he y (by simp [ho, Op.operands])
            unfold vop; simp only [ho, h2, h3, hx, hy, hn]; exact ⟨h.1, h.2.1, hk'⟩⟩
        · rename_i hn
          split at h
          · rename_i ts s1 hf
            split at h
            · rename_i k ty cs hn1
              exact ⟨_, _, h.2.2, fun hs => by simp [stillO, ho] at hs, fun e' K' he hk' => by
                have h2 := he x (by simp [ho, Op.operands]); have h3 := he y (by simp [ho, Op.operands])
                unfold vop; simp only [ho, h2, h3, hx, hy, hn, hf, hn1]; exact ⟨h.1, h.2.1, hk'⟩⟩
            · exact h.elim
          · exact h.elim
        · exact h.elim
      · exact h.elim
    · exact h.elim
  · rename_i c ho
    split at h
    · rename_i hc
      split at h
      · rename_i x t tl ha ht
        split at h
        · rename_i el hu
          split at h
          · rename_i n hn
            exact ⟨_, _, h, fun _ => rfl, fun e' K' he hk' => by
              have hmem : x ∈ c.args := by rw [← Array.mem_toList_iff, ha]; exact List.mem_singleton.2 rfl
              have h2 := he x (by simp [ho, Op.operands, Call.operands, hmem])
              unfold vop; simp only [ho, hc, ha, ht, hu, h2, hn]; exact hk'⟩
          · exact h.elim
        · rename_i hu
          split at h
          · rename_i b hb
            exact ⟨_, _, h, fun _ => rfl, fun e' K' he hk' => by
              have hmem : x ∈ c.args := by rw [← Array.mem_toList_iff, ha]; exact List.mem_singleton.2 rfl
              have h2 := he x (by simp [ho, Op.operands, Call.operands, hmem])
              unfold vop; simp only [ho, hc, ha, ht, hu, h2, hb]; exact hk'⟩
          · exact h.elim
        · exact h.elim
      · exact h.elim
    · rename_i g hc
      obtain ⟨fn, res, hf, hb, hn, hp, hk⟩ := h
      exact ⟨_, _, hk, fun _ => rfl, fun e' K' he hk' => by
        have h2 : c.args.toList.map (ev e') = c.args.toList.map (ev e) := List.map_congr_left fun x hx => he x (by
          have : x ∈ c.args := by simpa using hx
          simp [ho, Op.operands, Call.operands, this])
        unfold vop; simp only [ho, hc, h2]; exact ⟨fn, res, hf, hb, hn, hp, hk'⟩⟩
    · exact h.elim
  · exact h.elim
end
end Go.V
