/- Lemmas on the way to the statement of this claim; no conditions. -/
import Derived.Test.YtjidblndipcofaaDoorA18
namespace Go.V
open Go Go.RowKit
abbrev I (z : Int) : V := .t (.v (.int .i64 z))
abbrev Bo (b : Bool) : V := .t (.v (.bool b))
abbrev Str (b : ByteArray) : V := .t (.v (.string b))
abbrev TI (z : Int) : T := .v (.int .i64 z)
abbrev TS (b : ByteArray) : T := .v (.string b)
def inI (z : Int) : Prop := -9223372036854775808 ≤ z ∧ z ≤ 9223372036854775807
theorem wrap_i64 {z : Int} (h : inI z) : IntKind.wrap .i64 z = z := by
  unfold inI at h
  simp only [IntKind.wrap, IntKind.bits, IntKind.signed]
  simp
  omega
section
variable {P : Program} {o : Oper} {e : Env} {s : Sg} {K : V → Sg → Prop} {t t' : TypeId} {x y : Operand}
theorem op_move (ho : o.op = .move x) (h : K (ev e x) s) : OpG P o e s K := (sound_move (.inl ho) h).opg
theorem op_assign (ho : o.op = .assign x) (h : K (ev e x) s) : OpG P o e s K := (sound_move (.inr ho) h).opg
theorem op_pick {c : Operand} (ho : o.op = .pick c x y) (b : Bool) (hb : ev e c = Bo b) (h : K (if b then ev e x else ev e y) s) : OpG P o e s K := (sound_pick ho b hb h).opg
theorem op_extract {i : Nat} (ho : o.op = .extract x i) {vs : List V} (hx : ev e x = .tup vs) {v : V} (hi : vs[i]? = some v) (h : K v s) : OpG P o e s K := (sound_extract ho hx hi h).opg
theorem op_load (ho : o.op = .load t x) {u : V} (hu : ev e x = u) {v : V} (hv : dLoad P s t u = some v) (h : K v s) : OpG P o e s K := (sound_load ho v (by rw [hu]; exact hv) h).opg
theorem op_nilCheck (ho : o.op = .nilCheck x) {u : V} (hu : ev e x = u) (hs : dSure u = true) (h : K u s) : OpG P o e s K := (sound_nilCheck ho (by rw [hu]; exact hs) (by rw [hu]; exact h)).opg
theorem op_not (ho : o.op = .unOp .not t x) {b : Bool} (hx : ev e x = Bo b) (h : K (Bo (!b)) s) : OpG P o e s K :=
  (sound_un ho (by rw [hx]; rfl) (by rfl) h).opg
theorem bin_i {op : BinOp} (ho : o.op = .binOp op t x y t') {a b : Int} (hx : ev e x = I a) (hy : ev e y = I b) {v : Value} (hv : ∀ x y, vbin P op t x y (.int .i64 a) (.int .i64 b) = some v) (h : K (.t (.v v)) s) : OpG P o e s K :=
  (sound_bin ho (by rw [hx]; rfl) (by rw [hy]; rfl) (hv _ _) h).opg
theorem op_lss (ho : o.op = .binOp .lss t x y t') {a b : Int} (hx : ev e x = I a) (hy : ev e y = I b) (h : K (Bo (decide (a < b))) s) : OpG P o e s K := bin_i ho hx hy (fun _ _ => rfl) h
theorem op_leq (ho : o.op = .binOp .leq t x y t') {a b : Int} (hx : ev e x = I a) (hy : ev e y = I b) (h : K (Bo (decide (a ≤ b))) s) : OpG P o e s K := bin_i ho hx hy (fun _ _ => rfl) h
theorem op_gtr (ho : o.op = .binOp .gtr t x y t') {a b : Int} (hx : ev e x = I a) (hy : ev e y = I b) (h : K (Bo (decide (a > b))) s) : OpG P o e s K := bin_i ho hx hy (fun _ _ => rfl) h
theorem op_geq (ho : o.op = .binOp .geq t x y t') {a b : Int} (hx : ev e x = I a) (hy : ev e y = I b) (h : K (Bo (decide (a ≥ b))) s) : OpG P o e s K := bin_i ho hx hy (fun _ _ => rfl) h
theorem op_eql (ho : o.op = .binOp .eql t x y t') {a b : Int} (hx : ev e x = I a) (hy : ev e y = I b) (h : K (Bo (a == b)) s) : OpG P o e s K := bin_i ho hx hy (fun _ _ => rfl) h
theorem op_neq (ho : o.op = .binOp .neq t x y t') {a b : Int} (hx : ev e x = I a) (hy : ev e y = I b) (h : K (Bo (a != b)) s) : OpG P o e s K := bin_i ho hx hy (fun _ _ => rfl) h
theorem op_add (ho : o.op = .binOp .add t x y t') {a b : Int} (hx : ev e x = I a) (hy : ev e y = I b) (hr : inI (a + b)) (h : K (I (a + b)) s) : OpG P o e s K := bin_i (v := .int .i64 (a + b)) ho hx hy (fun _ _ => by
    show some (Value.int .i64 (IntKind.wrap .i64 (a + b))) = _
    rw [wrap_i64 hr]) h
theorem op_sub (ho : o.op = .binOp .sub t x y t') {a b : Int} (hx : ev e x = I a) (hy : ev e y = I b) (hr : inI (a - b)) (h : K (I (a - b)) s) : OpG P o e s K := bin_i (v := .int .i64 (a - b)) ho hx hy (fun _ _ => by
    show some (Value.int .i64 (IntKind.wrap .i64 (a - b))) = _
    rw [wrap_i64 hr]) h
theorem op_mul (ho : o.op = .binOp .mul t x y t') {a b : Int} (hx : ev e x = I a) (hy : ev e y = I b) (hr : inI (a * b)) (h : K (I (a * b)) s) : OpG P o e s K := bin_i (v := .int .i64 (a * b)) ho hx hy (fun _ _ => by
    show some (Value.int .i64 (IntKind.wrap .i64 (a * b))) = _
    rw [wrap_i64 hr]) h
theorem op_eql_s (ho : o.op = .binOp .eql t x y t') {a b : ByteArray} (hx : ev e x = Str a) (hy : ev e y = Str b) (h : K (Bo (a.toList == b.toList)) s) : OpG P o e s K := (sound_bin (v := .bool (a.toList == b.toList)) ho (by rw [hx]; rfl) (by rw [hy]; rfl) (by rfl) h).opg
theorem op_neq_s (ho : o.op = .binOp .neq t x y t') {a b : ByteArray} (hx : ev e x = Str a) (hy : ev e y = Str b) (h : K (Bo (!(a.toList == b.toList))) s) : OpG P o e s K := (sound_bin (v := .bool (!(a.toList == b.toList))) ho (by rw [hx]; rfl) (by rw [hy]; rfl) (by rfl) h).opg
theorem op_bool_s {op : BinOp} (ho : o.op = .binOp op t x y t') {a b : ByteArray} (hx : ev e x = Str a) (hy : ev e y = Str b) {r : Bool} (hr : ∀ x y, vbin P op t x y (.string a) (.string b) = some (.bool r)) (h : K (Bo r) s) : OpG P o e s K :=
  (sound_bin (v := .bool r) ho (a' := .string a) (b' := .string b) (by rw [hx]; rfl) (by rw [hy]; rfl) (hr _ _) h).opg
theorem op_add_s (ho : o.op = .binOp .add t x y t') {a b : ByteArray} (hx : ev e x = Str a) (hy : ev e y = Str b) (hl : a.size + b.size ≤ 9223372036854775807) (h : K (Str (a ++ b)) s) : OpG P o e s K :=
  (sound_bin (v := .string (a ++ b)) ho (a' := .string a) (b' := .string b) (by rw [hx]; rfl) (by rw [hy]; rfl) (by
    have : ¬ ((a.size + b.size : Nat) : Int) > IntKind.i64.max := by rw [show IntKind.i64.max = 9223372036854775807 from rfl]; omega
    have h2 : Op.stringOp .add a b = pure (.string (a ++ b)) := by simp only [Op.stringOp]; rw [if_neg this]
    show flatly (calm P (Op.stringOp .add a b)) = _
    rw [h2]; rfl) h).opg
theorem op_len {c : Call} (ho : o.op = .call c) (h1 : c.callee = .builtin .len) {x : Operand} (h2 : c.args = #[x]) (h3 : c.argTypes[0]? = some t) {el : TypeId} (hu : P.underlying t = some (.slice el)) {u : V} (hu2 : ev e x = u) {n : Nat} (hx : vlen u = some n) (h : K (I n) s) : OpG P o e s K :=
  (sound_len ⟨c, ho, h1, h2, rfl⟩ h3 hu (by rw [hu2]; exact hx) h).opg
theorem op_len_s {c : Call} (ho : o.op = .call c) (h1 : c.callee = .builtin .len) {x : Operand} (h2 : c.args = #[x]) (h3 : c.argTypes[0]? = some t) (hu : P.underlying t = some .string) {b : ByteArray} (hx : ev e x = Str b) (h : K (I b.size) s) : OpG P o e s K := by
  refine (sound_val (s := s) (.t (.v (.int .i64 b.size))) h fun B ρ a w hs he => ⟨.int .i64 b.size, ?_, vr_flat rfl⟩).opg
  have hv := ev_sound he x
  rw [hx] at hv
  have hy := repV (w := w) (A := Fr s ρ) hv
  simp [execOp, ho, resolve, h1, h2, invoke, builtin, Builtin.len_, h3, hy, run_underlying hu, goInt]
theorem op_index_im (ho : o.op = .indexAddr t x y) {k : Nat} {cs : List T} (hx : ev e x = .t (.sl k cs)) {z : Int} (hi : ev e y = I z) {el : TypeId} (hu : P.underlying t = some (.slice el)) (hk : szOf P el = some k) (h0 : 0 ≤ z) (hz : z.toNat * k < cs.length) (h : K (.iad cs (z.toNat * k)) s) : OpG P o e s K :=
  (sound_indexAddr_im ho hx hi hu hk h0 hz h).opg
theorem op_index_loc (ho : o.op = .indexAddr t x y) {n off len : Nat} (hx : ev e x = .loc n off len) {b : Blk} (hn : s.m n = some b) {z : Int} (hi : ev e y = I z) {el : TypeId} {k : Nat} (hu : P.underlying t = some (.slice el)) (hk : szOf P el = some k) (h0 : 0 ≤ z) (hz : z < len) (h : K (.ptr n (off + z.toNat * k)) s) : OpG P o e s K :=
  (sound_indexAddr_loc ho hx hn hi hu hk h0 hz h).opg
theorem op_field_ptr {f d : Nat} {ft : TypeId} (ho : o.op = .fieldAddr t x f) (hf : fieldOf P t f = some (d, ft)) {k : Nat} (hk : szOf P ft = some k) (hk0 : k ≠ 0) {n off : Nat} (hx : ev e x = .ptr n off) (h : K (.ptr n (off + d)) s) : OpG P o e s K :=
  (sound_fieldAddr ho hf hk hk0 (.inl ⟨n, off, hx, h⟩)).opg
theorem op_field_iad {f d : Nat} {ft : TypeId} (ho : o.op = .fieldAddr t x f) (hf : fieldOf P t f = some (d, ft)) {k : Nat} (hk : szOf P ft = some k) (hk0 : k ≠ 0) {cs : List T} {off : Nat} (hx : ev e x = .iad cs off) (h : K (.iad cs (off + d)) s) : OpG P o e s K :=
  (sound_fieldAddr ho hf hk hk0 (.inr ⟨cs, off, hx, h⟩)).opg
theorem op_field {f d : Nat} {ft : TypeId} (ho : o.op = .field t x f) (hf : fieldOf P t f = some (d, ft)) {cs : List V} (hx : ev e x = .agg cs) {v : V} (hp : vpart P ft cs d = some v) (h : K v s) : OpG P o e s K := (sound_field ho hf hx hp h).opg
theorem op_alloc (ho : o.op = .alloc t) {zs : List Value} (hz : zeroV P t = some zs) (h : K (.ptr s.next 0) (s.add (.box t (zs.map fun z => .t (.v z))))) : OpG P o e s K := (sound_alloc ho hz h).opg
theorem op_box (ho : o.op = .box t x) {u : V} (hu : ev e x = u) {cs : List V} (hc : u.cells = some cs) (h : K (.ptr s.next 0) (s.add (.box t cs))) : OpG P o e s K := (sound_box ho (by rw [hu]; exact hc) h).opg
theorem op_store (ho : o.op = .store t x y) {n off : Nat} (hx : ev e x = .ptr n off) {ty : TypeId} {cs xs : List V} (hn : s.m n = some (.box ty cs)) {u : V} (hu : ev e y = u) (hy : u.cells = some xs) (hk : szOf P t = some xs.length) (hle : off + xs.length ≤ cs.length)
    (h : K .junk (s.set n (.box ty (setAll cs off xs)))) : OpG P o e s K := (sound_store_box ho hx hn (by rw [hu]; exact hy) hk hle h).opg
theorem op_store_arr (ho : o.op = .store t x y) {n off : Nat} (hx : ev e x = .ptr n off) {ty : TypeId} {k : Nat} {cs ts : List T} {xs : List V} {s1 : Sg} {u : V} (hu : ev e y = u) (hy : u.cells = some xs)
    (hf : s.frzL xs = some (ts, s1)) (hn : s1.m n = some (.arr k ty cs)) (hk : szOf P t = some xs.length) (hle : off + xs.length ≤ cs.length) (h : K .junk (s1.set n (.arr k ty (setAll cs off ts)))) : OpG P o e s K :=
  (sound_store_arr ho hx (by rw [hu]; exact hy) hf hn hk hle h).opg
theorem op_pcall {c : Call} (ho : o.op = .call c) {g : Nat} (hc : c.callee = .value (.func g)) {fn : Func} (hf : P.funcs[g]? = some fn) (hb : fn.body.isSome = true) (hn : fn.name ≠ "runtime.NumGoroutine") {args : List V} (ha : c.args.toList.map (ev e) = args)
    {res : V} (h : PCall P g args res) (hk : K res s) : OpG P o e s K :=
  opg_call ho hc (.inr ⟨rfl, rfl⟩) hf hb hn (by rw [ha, List.append_nil]; exact (h s).mono fun v s' h => by obtain ⟨rfl, rfl⟩ := h; exact hk)
end
end Go.V
