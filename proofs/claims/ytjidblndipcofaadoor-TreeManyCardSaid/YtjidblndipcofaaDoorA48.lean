/- Lemmas on the way to the statement of this claim; no conditions. -/
import Derived.Lib.Builder
import Derived.Lib.AppendStr
import Derived.Lib.UnsafeStr
import Derived.Tactics
import Derived.Test.YtjidblndipcofaaDoorA36
import Derived.Test.YtjidblndipcofaaDoorA46
open Go Go.V Go.RowKit
namespace Go.Proofs
theorem bld_info : ∃ j, Tryd.prog.info? 72 = some j ∧ j.size = 2 := by
  have h := Tryd.sz72
  cases hq : Tryd.prog.info? 72 with
  | none => simp [szOf, hq] at h
  | some i0 => simp [szOf, hq] at h; exact ⟨i0, rfl, h⟩
set_option maxHeartbeats 1000000 in
set_option maxRecDepth 100000 in
theorem cc_used (b : Nat) (w : World) (h0 : w.cell? ⟨b, 0, none⟩ = some (.pointer (some ⟨b, 0, none⟩))) :
    Calls Tryd.prog 44 #[.pointer (some ⟨b, 0, none⟩)] w fun e w' => e = .returned (.tuple #[]) ∧ w' = w := by
  obtain ⟨j, hj, _⟩ := bld_info
  go_enter Tryd.func44, Tryd.ntmps44
  go_wp2
  rw [Lib.run_neq_ptr_same w _ Tryd.underlying70 hj]
  go_wp2
  go_end0
  exact ⟨rfl, rfl⟩
set_option maxHeartbeats 1000000 in
set_option maxRecDepth 100000 in
theorem cc_fresh (b : Nat) (w : World) (h0 : w.cell? ⟨b, 0, none⟩ = some (.pointer none)) {N : Nat} (hN : 0 < N) (hsh : w.shape? b = some (72, N)) (hlies : liesAt Tryd.prog Tryd.prog.depth 72 (N / Tryd.prog.cellsOf 72) 0 72 1 = true) (hfz : w.frozen? ⟨b, 0, none⟩ = false) :
    Calls Tryd.prog 44 #[.pointer (some ⟨b, 0, none⟩)] w fun e w' => e = .returned (.tuple #[]) ∧ w' = w.setCell ⟨b, 0, none⟩ (.pointer (some ⟨b, 0, none⟩)) := by
  obtain ⟨j, hj, hjs⟩ := bld_info
  go_enter Tryd.func44, Tryd.ntmps44
  go_wp2
  rw [Lib.run_to_unsafe w ⟨b, 0, none⟩ Tryd.underlying70 Tryd.underlying110 hj (by rw [hjs]; decide) hsh hN]
  simp only [Result.andThen]
  rw [Oper.upon_value]
  go_wp2
  rw [run_callFunc_extern Tryd.func60 (by kernel_rfl) (by kernel_rfl) (by kernel_rfl) (e := Extern.AbiNoEscape.same) (by kernel_rfl)]
  rw [Lib.run_noEscape]
  simp only [Result.andThen]
  rw [Oper.upon_value]
  go_wp2
  rw [Lib.run_from_unsafe w ⟨b, 0, none⟩ Tryd.underlying110 Tryd.underlying70 hj hsh hlies]
  simp only [Result.andThen]
  rw [Oper.upon_value]
  go_wp2
  go_end0
  exact ⟨rfl, rfl⟩
theorem bld_cells : Tryd.prog.cellsOf 72 = 2 := by kernel_rfl
theorem bld_lies (N : Nat) (h : 1 ≤ N) : liesAt Tryd.prog Tryd.prog.depth 72 N 0 72 1 = true := by
  have hd : Tryd.prog.depth = (2 * (Tryd.prog.types.size + Made.depth) + 1) + 1 := rfl
  rw [hd]
  simp only [liesAt, Bool.or_eq_true]
  left
  rw [hd]
  simp [rowAt, bld_cells, h, sameLayout]
theorem set_selfb {s : Sg} {n : Nat} {b : Blk} (h : s.m n = some b) : s.set n b = s := by
  cases s with
  | mk nx m =>
    simp only [Sg.set, Sg.mk.injEq, true_and]
    funext j
    split
    · rename_i e; subst e; exact h.symm
    · rfl
theorem bCheck_ (s : Sg) (n : Nat) (p x : V) (hn : s.m n = some (.box 72 [p, x])) (hp : p = .t (.v (.pointer none)) ∨ p = .ptr n 0) :
    VCall Tryd.prog 44 [.ptr n 0] s fun v s' => v = .tup [] ∧ s' = s.set n (.box 72 [.ptr n 0, x]) := by
  intro B ρ w vs hs hB ha
  match vs, ha with
  | [y], ⟨hy, _⟩ =>
  obtain ⟨hnl, _, hy⟩ := hy
  obtain ⟨bl, hb, rfl⟩ := hy _ hn
  rcases hs.rep n _ hn with hq | ⟨bl', arr, hb', hh, hl, hc, hk1, htot⟩
  · rw [hq.1] at hb; cases hb
  rw [hb] at hb'; cases hb'
  simp at hl
  obtain ⟨v0, h0, hr0⟩ := hc 0 p rfl
  rw [Nat.zero_add] at h0
  have hcell : w.cell? ⟨bl, 0, none⟩ = some v0 := by simp [World.cell?, hh, h0]
  have hfz : w.frozen? ⟨bl, 0, none⟩ = false := by simp [World.frozen?, hh]
  refine callsIn_wide.2 ?_
  rcases hp with rfl | rfl
  · have hr0 : RepT w (Fr s ρ) (.v (.pointer none)) v0 := hr0
    rw [RepT] at hr0
    obtain ⟨rfl, _⟩ := hr0
    have hsh : w.shape? bl = some (72, arr.size) := by simp [World.shape?, hh]
    refine (cc_fresh bl w hcell (N := arr.size) (by omega) hsh (bld_lies _ (by rw [bld_cells]; omega)) hfz).mono fun e w' he => ?_
    obtain ⟨rfl, rfl⟩ := he
    have hv : VR1 Tryd.prog w s ρ (.ptr n 0) (.pointer (some ⟨bl, 0, none⟩)) := ⟨hnl, ⟨_, rfl⟩, fun b hb2 => ⟨bl, hb, rfl⟩⟩
    obtain ⟨w', a1, a2, a3⟩ := set_box hs hn (off := 0) (xs := [.ptr n 0]) (ys := [.pointer (some ⟨bl, 0, none⟩)]) ⟨hv, trivial⟩ (by simp) hb
    have hw : w' = w.setCell ⟨bl, 0, none⟩ (.pointer (some ⟨bl, 0, none⟩)) := by
      simp only [storeCells] at a1
      simp [Addr.add] at a1
      rw [run_store _ _ _ _ _ rfl] at a1
      simp [hfz, hcell] at a1
      exact a1.symm
    subst hw
    exact ⟨_, .tup [], _, ρ, rfl, ⟨rfl, rfl⟩, a2, ⟨[], rfl, trivial⟩, a3⟩
  · obtain ⟨_, _, hr0⟩ := hr0
    obtain ⟨bl2, hb2, rfl⟩ := hr0 _ hn
    rw [hb] at hb2; cases hb2
    refine (cc_used bl w hcell).mono fun e w' he => ?_
    obtain ⟨rfl, rfl⟩ := he
    exact ⟨_, .tup [], s, ρ, rfl, ⟨rfl, (set_selfb hn).symm⟩, hs, ⟨[], rfl, trivial⟩, Stp.refl _ _ _⟩
end Go.Proofs
namespace Go.V
section
variable {P : Program} {o : Oper} {e : Env} {s : Sg}
def tBytes (l : List UInt8) : List T := l.map fun x => .v (.int .u8 (x.toNat : Int))
theorem tBytes_all {w : World} {A : Nat → Prop} : ∀ l : List UInt8, All2 (RepT w A) (tBytes l) (l.map fun x => Value.int .u8 (x.toNat : Int))
  | [] => trivial
  | a :: l => ⟨by rw [RepT]; exact ⟨rfl, rfl⟩, tBytes_all l⟩
theorem far_append_text {c : Call} (ho : o.op = .call c) (hc1 : c.callee = .builtin .append) {x y : Operand} (hc2 : c.args = #[x, y]) {t u el : TypeId} (hc3 : c.argTypes = #[t, u]) (ht : P.underlying t = some (.slice el)) (hu : P.underlying u = some .string) {i : TypeInfo} (hi : P.info? el = some i) (hz : i.zero = some (.int .u8 0)) (hsize : i.size = 1) (hby : i.bytes = 1)
    {olds : List T} {s1 : Sg} (hd : dstT s 1 el (ev e x) = some (olds, s1)) {b : ByteArray} (hy : ev e y = Str b) (hlen : olds.length + b.size ≤ 100000000000000) : FarO P o e s (.loc s.next 0 (olds.length + b.size)) (s1.add (.arr 1 el (olds ++ tBytes b.data.toList))) := by
  intro e' K he hK
  have hS : Sound P o e' s K := by
    intro B ρ a w hs hB hE
    have h1 := ev_sound hE x
    rw [he x (by simp [ho, Op.operands, Call.operands, hc2])] at h1
    have h2 := ev_sound hE y
    rw [he y (by simp [ho, Op.operands, Call.operands, hc2]), hy] at h2
    have h2 := repV (w := w) (A := Fr s ρ) h2
    obtain ⟨h1n, h1m, m0, us0, hl0, ha0, hD⟩ := dstT_sound hd (by omega) hs h1
    simp only [Nat.mul_one] at hl0
    subst hl0
    have hts := ha0.append (tBytes_all (w := w) (A := Fr s ρ) b.data.toList)
    have hmx : maxLen ≥ 100000000000000 := by decide
    have hus0 : us0.length = olds.length := ha0.length.symm
    suffices hmain : ∃ v' w' row base, (Builtin.append_ #[t, u] o.type #[a.eval x, a.eval y]).run P w = .ok v' w' ∧ w'.ownsRow base el 1 v' (olds.length + b.size) (us0 ++ Lib.strCells b) ∧ w.grownBy w' row ∧ (∀ b, row = some b → ∃ arr ty fr, w.heap[b]? = some (Obj.cells arr ty fr)) ∧
        (∀ b, row = some b → ∃ n c, s.m n = some c ∧ (ρ n).blk = some b ∧ s1.m n = none) ∧ (∀ g, v'.ownBlock = some g → w.heap.size ≤ g ∨ some g = row) by
      obtain ⟨v', w', row, base, hr, hown, hg, hrowc, hrow, hb⟩ := hmain
      obtain ⟨ρ', b1, b2, b3⟩ := own_new hs hB h1n h1m hrow hown hg hrowc hb (by omega) hts
      refine ⟨_, _, _, _, ρ', .inl ?_, hK, b1, b3, b2⟩
      simp [execOp, ho, resolve, hc1, hc2, hc3, invoke, builtin, hr]
    rw [h2]
    rcases hD with ⟨hx, rfl, hm0⟩ | ⟨hown, ⟨g, cp, hx⟩, hrow⟩
    · have hus : us0 = [] := List.eq_nil_of_length_eq_zero (by simpa using hus0)
      subst hus
      rw [hx]
      obtain ⟨v', w', hr, h3, h4, h5⟩ := Lib.run_append_own_string (P := P) w w.heap.size t u o.type el i ht hu hi hz hsize hby (.slice none 0 0) 0 [] (World.ownsRow_nil w _ el 1) b (by simp at hlen; omega) (by simp at hlen; omega) (Nat.le_refl _)
      exact ⟨v', w', none, w.heap.size, hr, h3, h4, by simp, by simp, fun g hg => .inl (h3.lt g hg).1⟩
    · have hcells : ∀ b, (a.eval x).ownBlock = some b → ∃ arr ty fr, w.heap[b]? = some (Obj.cells arr ty fr) := by
        intro b hb
        rcases hown.2 with ⟨h, _⟩ | ⟨g', cp', cur, h, _, hg', _⟩
        · rw [h] at hb; simp [Value.ownBlock] at hb
        · rw [h] at hb; simp [Value.ownBlock] at hb; subst hb; exact ⟨_, _, _, hg'⟩
      rw [hx] at hown hrow hcells ⊢
      have hxl : us0.length = olds.length := hus0
      have hlen' : (us0 ++ Lib.strCells b).length = (olds.length + b.size) * 1 := by rw [List.length_append, hxl, Lib.strCells_length, Nat.mul_one]
      by_cases hroom : olds.length + b.size ≤ cp
      · rcases hown.2 with ⟨h, _⟩ | ⟨g', cap, cur, h, hbg, hg, hnc, hcm, hcs, htake⟩
        · cases h
        · cases h
          have hr := Lib.run_append_room_string (P := P) w t u o.type el i ht hu hi hsize g olds.length cp cur hg b hroom (by omega)
          refine ⟨_, _, some g, 0, hr, ⟨hlen', .inr ⟨g, cp, _, rfl, hbg, setRow_heap w g cur _ el _ hg, hroom, hcm, ?_, ?_⟩⟩, ⟨rfl, rfl, rfl, by simp, fun k _ hk => setRow_other w g k _ (fun e => hk (by simp [e]))⟩, hcells, by simpa [Value.ownBlock] using hrow, fun b hb => .inr hb.symm⟩
          · simp only [List.size_toArray, List.length_append, List.length_take, List.length_drop, Array.length_toList, Lib.strCells_length]
            omega
          · have ht' : cur.toList.take olds.length = us0 := by simpa using htake
            rw [ht', ← hlen']
            exact List.take_left
      · have holds : ∀ j u, us0[j]? = some u → w.cell? ((⟨g, 0, none⟩ : Addr).add j) = some u := hown.cells (g := g) rfl
        have hr := Lib.run_append_grow_string (P := P) w t u o.type el i (.int .u8 0) ht hu hi hz ⟨g, 0, none⟩ olds.length cp us0 (by rw [hsize]; simpa using hxl) holds b (by omega) (by omega) (by rw [hby]; exact growslice_fits (by omega) (by omega))
        have hge := grownCap_ge w (olds.length + b.size) cp el
        have hcm : grownCap w (olds.length + b.size) cp el ≤ maxLen := grownCap_le_maxLen w (olds.length + b.size) cp el (by omega)
        refine ⟨_, _, none, 0, hr, ⟨hlen', .inr ⟨w.heap.size, _, _, rfl, Nat.zero_le _, heap_alloc_new w.drew _, hge, hcm, ?_, ?_⟩⟩, ⟨rfl, rfl, rfl, by simp, fun k hk _ => (heap_alloc_old w.drew _ hk :)⟩, by simp, by simp, fun g' hg' => .inl (by simp [Value.ownBlock] at hg'; omega)⟩
        · have hz1 : (Value.int IntKind.u8 0).cells.size = 1 := rfl
          simp only [Array.size_append, List.size_toArray, size_zeroCells, hz1, hxl, Lib.strCells_length]
          omega
        · simp only [Array.toList_append, List.append_assoc]
          rw [← List.append_assoc, ← hlen']
          exact List.take_left
  exact hS.opg
end
end Go.V

open Go Go.V Go.RowKit
namespace Go.V
theorem drop_sr {P : Program} {B : Nat} {s : Sg} {ρ : Rho} {w : World} (hs : SR P B s ρ w) {m : Nat} {c : Blk} (hm : s.m m = some c) {row : Option Nat} {w' : World} (hg : w.grownBy w' row) (hrow : ∀ b, row = some b → (ρ m).blk = some b) (hlp : ∀ b rec, row = some b → w.heap[b]? ≠ some (Obj.loop rec)) :
    SR P B (s.del m) ρ w' ∧ Stp s ρ w (s.del m) ρ w' := by
  have hd : ∀ n b, (s.del m).m n = some b → n ≠ m ∧ s.m n = some b := fun n b h => by
    simp only [Sg.del] at h
    split at h
    · cases h
    · exact ⟨‹_›, h⟩
  have hst : Stp s ρ w (s.del m) ρ w' := {
    os := hg.os
    tape := hg.tape
    output := hg.output
    size := hg.size
    same := fun b hb hf => hg.block b hb fun e => hf m c hm (hrow b e.symm)
    info := fun _ _ => rfl
    next := Nat.le_refl _
    dom := fun n b' _ h => ⟨b', (hd n b' h).2⟩
    free := fun b _ hf n k hn => hf n k (hd n k hn).2
    loops := fun l rec hl => ⟨rec, (hg.block l (heap_lt hl) fun e => hlp l rec e.symm hl).trans hl⟩ }
  refine ⟨{ lt := fun n b h => hs.lt n b (hd n b h).2, lo := fun n b bl h => hs.lo n b bl (hd n b h).2, inj := fun n n' b b' bl h h' => hs.inj n n' b b' bl (hd n b h).2 (hd n' b' h').2, rep := fun n b h => ?_, tab := ?_ }, hst⟩
  · obtain ⟨hne, hn⟩ := hd n b h
    refine BR.step hst (fun bl hbl => hg.block bl (hs.blk_lt hn hbl) fun e => ?_) (hs.rep n b hn)
    exact hne (hs.inj n m b c bl hn hm hbl (hrow bl e.symm))
  · exact hs.tab.keep fun bl arr ty fr hbl hh => by
      refine (hst.same bl (heap_lt hh) fun n c hn hbn => ?_).trans hh
      have := hs.lo n c bl hn hbn
      omega
theorem grown_drew (w : World) : w.grownBy w.drew none := ⟨rfl, rfl, rfl, Nat.le_refl _, fun _ _ _ => rfl⟩
theorem grown_freeze {w w' : World} (h : w.grownBy w' none) (g n : Nat) : w.grownBy (w'.freeze ⟨g, 0, none⟩ n) (some g) := by
  unfold World.freeze
  split
  · exact ⟨h.os, h.tape, h.output, h.size, fun k hk _ => h.block k hk (by simp)⟩
  · exact ⟨h.os, h.tape, h.output, by simpa using h.size, fun k hk hne => by
      simp only [Array.getElem?_modify]
      rw [if_neg (fun e => hne (by rw [e]))]
      exact h.block k hk (by simp)⟩
theorem grown_alloc {w w' : World} (h : w.grownBy w' none) (o : Obj) : w.grownBy (w'.alloc o) none := ⟨h.os, h.tape, h.output, Nat.le_trans h.size (by simp), fun k hk hne => (heap_alloc_old w' o (Nat.lt_of_lt_of_le hk h.size) :).trans (h.block k hk hne)⟩
theorem keep_sr {P : Program} {B : Nat} {s : Sg} {ρ : Rho} {w : World} (hs : SR P B s ρ w) {w' : World} (hg : w.grownBy w' none) : SR P B s ρ w' ∧ Stp s ρ w s ρ w' := by
  have hst : Stp s ρ w s ρ w' := {
    os := hg.os
    tape := hg.tape
    output := hg.output
    size := hg.size
    same := fun b hb hf => hg.block b hb (by simp)
    info := fun _ _ => rfl
    next := Nat.le_refl _
    dom := fun n b' _ h => ⟨b', h⟩
    free := fun b _ hf => hf
    loops := fun l rec hl => ⟨rec, (hg.block l (heap_lt hl) (by simp)).trans hl⟩ }
  exact ⟨{ lt := hs.lt, lo := hs.lo, inj := hs.inj, rep := fun n b h => BR.step hst (fun bl hbl => hg.block bl (hs.blk_lt h hbl) (by simp)) (hs.rep n b h), tab := hs.tab.keep fun bl arr ty fr hbl hh => (hg.block bl (heap_lt hh) (by simp)).trans hh }, hst⟩
end Go.V
namespace Go.Proofs
theorem cells5 : Tryd.prog.cellsOf 5 = 1 := by kernel_rfl
set_option maxHeartbeats 2000000 in
set_option maxRecDepth 100000 in
theorem bs_full (b g cap : Nat) (l : List UInt8) (arr cur : Array Value) (w : World) (h0 : l ≠ []) (hbk : w.heap[b]? = some (.cells arr 72 (0, 0))) (h1 : arr[1]? = some (.slice (some ⟨g, 0, none⟩) l.length cap)) (hg : w.heap[g]? = some (.cells cur 5 (0, 0))) (hc : l.length ≤ cap) (hcs : cap ≤ cur.size) (hcm : cap ≤ maxLen)
    (hcell : ∀ (j : Nat) (x : UInt8), l[j]? = some x → cur[j]? = some (Value.int .u8 (x.toNat : Int))) :
    Calls Tryd.prog 31 #[.pointer (some ⟨b, 0, none⟩)] w fun e w' => e = .returned (.string ⟨l.toArray⟩) ∧ w.grownBy w' (some g) := by
  have hl0 : l.length ≠ 0 := by simpa using h0
  have c1 : w.drew.cell? ⟨b, 1, none⟩ = some (.slice (some ⟨g, 0, none⟩) l.length cap) := by
    have : w.drew.heap[b]? = some (.cells arr 72 (0, 0)) := hbk
    rw [Lib.cell_of_heap this]; exact h1
  have hSD : (Builtin.unsafeSliceData_ #[27] 93 #[.slice (some ⟨g, 0, none⟩) l.length cap]).run Tryd.prog w.drew = .ok (.pointer (some ⟨g, 0, none⟩)) w.drew :=
    Lib.run_unsafeSliceData_row _ _ _ _ _ _ (by omega)
  have hg' : w.drew.heap[g]? = some (.cells cur 5 (0, 0)) := hg
  have hUS : (Builtin.unsafeString_ #[93, 3] 9 #[.pointer (some ⟨g, 0, none⟩), .int .i64 l.length]).run Tryd.prog w.drew = .ok (.string ⟨l.toArray⟩) (w.drew.freeze ⟨g, 0, none⟩ l.length) := by
    refine Lib.run_unsafeString_row w.drew 93 3 9 5 Tryd.underlying93 cells5 g cur.size (by simp [World.shape?, hg']) l h0 (by omega) (by unfold maxLen at hcm; omega) ?_
    intro j x hx
    rw [addr_add, Nat.zero_add, Lib.cell_of_heap hg']
    exact hcell j x hx
  have mixed : Tryd.prog.follows .mixedOrders = true := by kernel_rfl
  go_enter Tryd.func31, Tryd.ntmps31
  go_wp2
  go_region_o
  all_goals (go_wp2; go_ret; exact ⟨rfl, grown_freeze (grown_drew w) g _⟩)
set_option maxHeartbeats 2000000 in
set_option maxRecDepth 100000 in
theorem bs_nil (b : Nat) (arr : Array Value) (w : World) (hbk : w.heap[b]? = some (.cells arr 72 (0, 0))) (h1 : arr[1]? = some (.slice none 0 0)) :
    Calls Tryd.prog 31 #[.pointer (some ⟨b, 0, none⟩)] w fun e w' => e = .returned (.string ⟨#[]⟩) ∧ w.grownBy w' none := by
  have hUS := fun W q => Lib.run_unsafeString_none (P := Tryd.prog) W 93 3 9 q
  have c1 : w.drew.cell? ⟨b, 1, none⟩ = some (.slice none 0 0) := by
    have : w.drew.heap[b]? = some (.cells arr 72 (0, 0)) := hbk
    rw [Lib.cell_of_heap this]; exact h1
  have hSD : (Builtin.unsafeSliceData_ #[27] 93 #[.slice none 0 0]).run Tryd.prog w.drew = .ok (.pointer none) w.drew := rfl
  have mixed : Tryd.prog.follows .mixedOrders = true := by kernel_rfl
  go_enter Tryd.func31, Tryd.ntmps31
  go_wp2
  go_region_o
  all_goals (go_wp2; go_ret; exact ⟨rfl, grown_drew w⟩)
set_option maxHeartbeats 2000000 in
set_option maxRecDepth 100000 in
theorem bs_room (b g cap : Nat) (arr : Array Value) (w : World) (hc0 : cap ≠ 0) (hbk : w.heap[b]? = some (.cells arr 72 (0, 0))) (h1 : arr[1]? = some (.slice (some ⟨g, 0, none⟩) 0 cap)) :
    Calls Tryd.prog 31 #[.pointer (some ⟨b, 0, none⟩)] w fun e w' => e = .returned (.string ⟨#[]⟩) ∧ w.grownBy w' none := by
  have hUS := fun W q => Lib.run_unsafeString_none (P := Tryd.prog) W 93 3 9 q
  have c1 : w.drew.cell? ⟨b, 1, none⟩ = some (.slice (some ⟨g, 0, none⟩) 0 cap) := by
    have : w.drew.heap[b]? = some (.cells arr 72 (0, 0)) := hbk
    rw [Lib.cell_of_heap this]; exact h1
  have hSD : (Builtin.unsafeSliceData_ #[27] 93 #[.slice (some ⟨g, 0, none⟩) 0 cap]).run Tryd.prog w.drew = .ok (.pointer (some ⟨g, 0, none⟩)) w.drew :=
    Lib.run_unsafeSliceData_row _ _ _ _ _ _ hc0
  clear hc0
  have mixed : Tryd.prog.follows .mixedOrders = true := by kernel_rfl
  go_enter Tryd.func31, Tryd.ntmps31
  go_wp2
  go_region_o
  all_goals (go_wp2; go_ret; exact ⟨rfl, grown_drew w⟩)
set_option maxHeartbeats 2000000 in
set_option maxRecDepth 100000 in
theorem bs_none (b g : Nat) (arr cur : Array Value) (w : World) (hbk : w.heap[b]? = some (.cells arr 72 (0, 0))) (h1 : arr[1]? = some (.slice (some ⟨g, 0, none⟩) 0 0)) (hg : w.heap[g]? = some (.cells cur 5 (0, 0))) :
    Calls Tryd.prog 31 #[.pointer (some ⟨b, 0, none⟩)] w fun e w' => e = .returned (.string ⟨#[]⟩) ∧ w.grownBy w' none := by
  have hUS := fun W q => Lib.run_unsafeString_none (P := Tryd.prog) W 93 3 9 q
  have hlt : b < w.heap.size := heap_lt hbk
  have c1 : w.drew.cell? ⟨b, 1, none⟩ = some (.slice (some ⟨g, 0, none⟩) 0 0) := by
    have : w.drew.heap[b]? = some (.cells arr 72 (0, 0)) := hbk
    rw [Lib.cell_of_heap this]; exact h1
  have hg' : w.drew.heap[g]? = some (.cells cur 5 (0, 0)) := hg
  have hSD : (Builtin.unsafeSliceData_ #[27] 93 #[.slice (some ⟨g, 0, none⟩) 0 0]).run Tryd.prog w.drew = .ok (.pointer (some ⟨w.drew.heap.size, 0, none⟩)) (w.drew.alloc (.view ⟨g, 0, none⟩ 5)) :=
    Lib.run_unsafeSliceData_zero w.drew _ _ 5 Tryd.underlying93 ⟨g, 0, none⟩ 0 (5, cur.size) (by simp [World.shape?, hg'])
  have c2 : (w.drew.alloc (.view ⟨g, 0, none⟩ 5)).cell? ⟨b, 1, none⟩ = some (.slice (some ⟨g, 0, none⟩) 0 0) := by
    have : (w.drew.alloc (.view ⟨g, 0, none⟩ 5)).heap[b]? = _ := (Lib.alloc_old w.drew _ b hlt).trans hbk
    rw [Lib.cell_of_heap this]; exact h1
  have c3 : (w.alloc (.view ⟨g, 0, none⟩ 5)).drew.cell? ⟨b, 1, none⟩ = some (.slice (some ⟨g, 0, none⟩) 0 0) := c2
  have c0 : w.cell? ⟨b, 1, none⟩ = some (.slice (some ⟨g, 0, none⟩) 0 0) := c1
  have mixed : Tryd.prog.follows .mixedOrders = true := by kernel_rfl
  go_enter Tryd.func31, Tryd.ntmps31
  go_wp2
  go_region_o
  all_goals (go_wp2; go_ret; exact ⟨rfl, grown_alloc (grown_drew w) _⟩)
structure Bld (s : Sg) (n m : Nat) (bs : List UInt8) : Prop where
  hn : n < s.next
  ex : ∃ p, (p = .t (.v (.pointer none)) ∨ p = .ptr n 0) ∧ ((bs = [] ∧ s.m n = some (.box 72 [p, .t (.v (.slice none 0 0))]) ∧ m = n) ∨ (s.m n = some (.box 72 [p, .loc m 0 bs.length]) ∧ s.m m = some (.arr 1 5 (tBytes bs)) ∧ m < s.next ∧ m ≠ n))
theorem tBytes_len (l : List UInt8) : (tBytes l).length = l.length := by simp [tBytes]
theorem bString_ (s : Sg) (n m : Nat) (bs : List UInt8) (hb : Bld s n m bs) : VCall Tryd.prog 31 [.ptr n 0] s fun v s' => v = Str ⟨bs.toArray⟩ ∧ s'.next = s.next ∧ ∀ k, k ≠ m → s'.m k = s.m k := by
  intro B ρ w vs hs hB ha
  match vs, ha with
  | [y], ⟨hy, _⟩ =>
  obtain ⟨hnl, _, hy⟩ := hy
  obtain ⟨hn, p, hp, hb⟩ := hb
  refine callsIn_wide.2 ?_
  rcases hb with ⟨rfl, hbn, hbm⟩ | ⟨hbn, hbm, _, _⟩
  · obtain ⟨bl, hbl, rfl⟩ := hy _ hbn
    rcases hs.rep n _ hbn with hq | ⟨bl', arr, hb', hh, hl, hc, hk1, htot⟩
    · rw [hq.1] at hbl; cases hbl
    rw [hbl] at hb'; cases hb'
    obtain ⟨v1, h1, hr1⟩ := hc 1 _ rfl
    have hr1 : RepT w (Fr s ρ) (.v (.slice none 0 0)) v1 := hr1
    rw [RepT] at hr1
    obtain ⟨rfl, _⟩ := hr1
    refine (bs_nil bl arr w hh h1).mono fun e w' he => ?_
    obtain ⟨rfl, hg⟩ := he
    obtain ⟨p1, p2⟩ := keep_sr hs hg
    exact ⟨_, _, s, ρ, rfl, ⟨rfl, rfl, fun _ _ => rfl⟩, p1, vr_flat rfl, p2⟩
  · obtain ⟨bl, hbl, rfl⟩ := hy _ hbn
    rcases hs.rep n _ hbn with hq | ⟨bl', arr, hb', hh, hl, hc, hk1, htot⟩
    · rw [hq.1] at hbl; cases hbl
    rw [hbl] at hb'; cases hb'
    obtain ⟨v1, h1, hr1⟩ := hc 1 _ rfl
    rw [show 0 + 1 = 1 from rfl] at h1
    obtain ⟨hml, ⟨ya, yc, hyv⟩, hloc⟩ := hr1
    have fin : ∀ (row : Option Nat) (e : Ending) (w' : World), (∀ b, row = some b → (ρ m).blk = some b) → (∀ b rec, row = some b → w.heap[b]? ≠ some (Obj.loop rec)) → (e = .returned (.string ⟨bs.toArray⟩) ∧ w.grownBy w' row) →
        ∃ y v s' ρ', e = .returned y ∧ (v = Str ⟨bs.toArray⟩ ∧ s'.next = s.next ∧ ∀ k, k ≠ m → s'.m k = s.m k) ∧ SR Tryd.prog B s' ρ' w' ∧ VR Tryd.prog w' s' ρ' v y ∧ Stp s ρ w s' ρ' w' := fun row e w' h1 h2 he => by
      obtain ⟨rfl, hg⟩ := he
      obtain ⟨p1, p2⟩ := drop_sr hs hbm hg h1 h2
      exact ⟨_, _, s.del m, ρ, rfl, ⟨rfl, rfl, fun k hk => by simp only [Sg.del, hk, if_false]⟩, p1, vr_flat rfl, p2⟩
    rcases hloc _ hbm with ⟨hb0, hv, hz⟩ | ⟨h1, _⟩ | ⟨g, cp, hb, hdy, hlc, hcap, hmx⟩
    · subst hv
      have : bs = [] := List.eq_nil_of_length_eq_zero hz
      subst this
      exact (bs_nil bl arr w hh h1).mono fun e w' he => fin none e w' (by simp) (by simp) he
    · omega
    · subst hdy
      obtain ⟨hk, hk0, hr | ⟨bl', cur, hb', hg, h5, h6, h7⟩⟩ := hs.rep m _ hbm
      · rw [hr.1] at hb; cases hb
      rw [hb] at hb'; cases hb'
      have hnl : ∀ b rec, some g = some b → w.heap[b]? ≠ some (Obj.loop rec) := fun b rec e => by cases e; rw [hg]; simp
      by_cases h0 : bs = []
      · subst h0
        by_cases hc0 : cp = 0
        · subst hc0
          exact (bs_none bl g arr cur w hh h1 hg).mono fun e w' he => fin none e w' (by simp) (by simp) he
        · exact (bs_room bl g cp arr w hc0 hh h1).mono fun e w' he => fin none e w' (by simp) (by simp) he
      · have hcs : cp = cur.size := by rw [hk] at hcap; omega
        refine (bs_full bl g cp bs arr cur w h0 hh h1 hg hlc (by omega) hmx fun j x hx => ?_).mono fun e w' he => fin (some g) e w' (by rintro b ⟨⟩; exact hb) hnl he
        obtain ⟨v, hv, hr⟩ := (repTs_iff _ _).1 h7 j (.v (.int .u8 (x.toNat : Int))) (by simp [tBytes, hx])
        rw [RepT] at hr
        rw [Nat.zero_add] at hv
        rw [hv, hr.1]
end Go.Proofs

open Go Go.V
namespace Go.Proofs
theorem byte_info : ∃ i, Tryd.prog.info? 5 = some i ∧ i.zero = some (.int .u8 0) ∧ i.size = 1 ∧ i.bytes = 1 := by
  have h1 := Tryd.zv5
  have h2 := Tryd.sz5
  have h3 : (Tryd.prog.info? 5).map (·.bytes) = some 1 := by kernel_rfl
  obtain ⟨i, z, hi, hz, hc, hf⟩ := zeroV_some h1
  refine ⟨i, hi, ?_, by simpa [szOf, hi] using h2, by simpa [hi] using h3⟩
  have h4 : (Tryd.prog.info? 5).map (·.zero) = some (some (Value.int .u8 0)) := by kernel_rfl
  simpa [hi] using h4
abbrev nilE : V := .t (.v .nilIface)
def Wrote (s : Sg) (n m : Nat) (bt : List UInt8) (s' : Sg) : Prop := ∃ m', Bld s' n m' bt ∧ (∀ k, k ≠ n → k ≠ m → k < s.next → s'.m k = s.m k) ∧ s.next ≤ s'.next ∧ m' < s'.next ∧ (m' = m ∨ s.next ≤ m')
set_option maxRecDepth 20000 in
theorem bWriteS_ (s : Sg) (n m : Nat) (bt : List UInt8) (hB : Bld s n m bt) (b : ByteArray) (hlen : bt.length + b.size ≤ 100000000000000) : VCall Tryd.prog 30 [.ptr n 0, Str b] s (fun v s' => v = .tup [I b.size, nilE] ∧ Wrote s n m (bt ++ b.data.toList) s') := by
  refine kcall_of_body Tryd.func30 rfl fun Q hQ => ?_
  obtain ⟨e, he, hl, h0, h1⟩ : ∃ e : Env, ([.ptr n 0, Str b] ++ List.replicate (Tryd.f30.ntmps - ([.ptr n 0, Str b] : List V).length) .junk) = e ∧ e.length = 19 ∧ ev e (.tmp 0) = .ptr n 0 ∧ ev e (.tmp 1) = Str b := ⟨_, rfl, rfl, rfl, rfl⟩
  rw [he]
  clear he
  obtain ⟨hn, p, hp, hB⟩ := hB
  obtain ⟨x, s1, hbn, hd, hn1, hb1, hf1⟩ : ∃ x s1, s.m n = some (.box 72 [p, x]) ∧ dstT (s.set n (.box 72 [.ptr n 0, x])) 1 5 x = some (tBytes bt, s1) ∧ s1.next = s.next ∧ s1.m n = some (.box 72 [.ptr n 0, x]) ∧ ∀ k, k ≠ n → k ≠ m → s1.m k = s.m k := by
    rcases hB with ⟨rfl, h2, h3⟩ | ⟨h2, h3, h4, h5⟩
    · exact ⟨_, _, h2, rfl, rfl, by simp [Sg.set], fun k h1 h2 => by simp only [Sg.set, h1, if_false]⟩
    · have h6 : n ≠ m := fun e => h5 e.symm
      exact ⟨_, (s.set n (.box 72 [.ptr n 0, .loc m 0 bt.length])).del m, h2, by simp [dstT, Sg.set, h3, h5, tBytes_len], rfl, by simp [Sg.set, Sg.del, h6], fun k h1 h2 => by simp only [Sg.set, Sg.del, h1, h2, if_false]⟩
  have hns : ¬ n = s.next := by omega
  have hsn : ¬ s.next = n := by omega
  obtain ⟨i5, hi1, hi2, hi3, hi4⟩ := byte_info
  refine vsk fun K1 hK1 => ?_
  refine vw_sc 0 [] ?_
  simp only [bs, ↓vopx, ↓vop, thenV, flat, wocs, ↓goc, ↓woc, ↓vopm0]
  repeat ((with_reducible refine And.intro ?_ ?_); · first | (with_reducible assumption) | omega | exact ⟨by omega, by omega⟩ | with_reducible rfl | (repeat' first | exact Keep.refl _ | refine Keep.add ?_ ?_ _ | refine Keep.set ?_ ?_ _ | exact Nat.le_refl _ | (simp only [Sg.add, Sg.set, Sg.del]; omega)))
  refine hK1 _ _ ?_
  refine vsk fun K2 hK2 => ?_
  refine vw_sc 0 [.det (.tup []) (s.set n (.box 72 [.ptr n 0, x]))] ?_
  simp only [bs, ↓vopx, ↓vop, Nat.reduceBEq, thenV, Nat.reduceLT, hl, h0, wocs, ↓goc, ↓woc, ↓vopm0, ↓callC, calleeV]
  repeat ((with_reducible refine And.intro ?_ ?_); · first | (with_reducible assumption) | omega | exact ⟨by omega, by omega⟩ | exact ⟨Tryd.is44, bCheck_ s n p x hbn hp⟩ | with_reducible rfl | (repeat' first | exact Keep.refl _ | refine Keep.add ?_ ?_ _ | refine Keep.set ?_ ?_ _ | exact Nat.le_refl _ | (simp only [Sg.add, Sg.set, Sg.del]; omega)))
  refine hK2 _ _ ?_
  refine vsk fun K3 hK3 => ?_
  refine vw_sc 0 [.dst 14 (.loc s.next 0 (bt.length + b.size)) (s1.add (.arr 1 5 (tBytes bt ++ tBytes b.data.toList)))] ?_
  simp only [dstIs, bs, dstT, srcT, Nat.reduceAdd, dSure, ↓vopx, ↓vop, Nat.reduceBEq, thenV, Nat.reduceEqDiff, Nat.reduceLT, V.cells, dLoad, vpart, Sg.frzL, Sg.frz1, hl, h0, h1, wocs, ↓goc, ↓woc, ↓vopm0, Tryd.ag27, Tryd.fd72_1, Tryd.sl27, Tryd.sz27, hn1, hb1, hns]
  refine Or.inl (And.intro (tBytes_len bt ▸ far_append_text rfl rfl rfl rfl Tryd.underlying27 Tryd.underlying9 hi1 hi2 hi3 hi4 (olds := tBytes bt) (s1 := s1) (b := b) ?_ ?_ (by rw [tBytes_len]; exact hlen)) ?_)
  · simp only [ev_hit, ev_miss, Nat.reduceBEq, lpv, hl, Nat.reduceLT]; exact hd
  · simp only [ev_hit, lpv, hl, Nat.reduceLT]
  try simp only [dstIs, or_false, bs, dstT, srcT, Nat.reduceLeDiff, Nat.reduceAdd, vparts, gfill, repl, Sg.frzP, dSure, wops, ↓gow, ↓wop, vops, ↓gop, ↓vopx, ↓vop, Nat.reduceBEq, thenV, blockV, flat, Nat.reduceEqDiff, Nat.reduceLT, V.cells, dLoad, vpart, opII, opSS, gtmp, Sg.frzL, Sg.frz1, reduceCtorEq, hl, h0, h1, wocs, ↓goc, ↓woc, ↓vopm0, ↓vopm1, ↓vopm2, ↓callC, ↓pick_tt, ↓pick_ff, ↓pick_tf, ↓pick_ft, calleeV, ↓yieldC, ↓farC, List.append_nil, Tryd.ag27, Tryd.ag72, Tryd.fd72_1, Tryd.sl132, Tryd.sl106, Tryd.sl124, Tryd.sl142, Tryd.sl46, Tryd.sl41, Tryd.sl42, Tryd.sl29, Tryd.sl85, Tryd.sl66, Tryd.sl27, Tryd.st72, Tryd.sz27, Tryd.sz72, Tryd.un27, Tryd.zv27, Tryd.zv72, hn1, hb1, hns, hsn, Hold]
  repeat ((with_reducible refine And.intro ?_ ?_); · first | (with_reducible assumption) | omega | exact ⟨by omega, by omega⟩ | with_reducible rfl | (repeat' first | exact Keep.refl _ | refine Keep.add ?_ ?_ _ | refine Keep.set ?_ ?_ _ | exact Nat.le_refl _ | (simp only [Sg.add, Sg.set, Sg.del]; omega)))
  refine hK3 _ _ ?_
  refine vsk fun K4 hK4 => ?_
  refine vw_sc 0 [] ?_
  simp only [bs, ↓vopx, ↓vop, Nat.reduceBEq, thenV, flat, Nat.reduceLT, hl, h1, wocs, ↓goc, ↓woc, ↓vopm0]
  repeat ((with_reducible refine And.intro ?_ ?_); · first | (with_reducible assumption) | omega | exact ⟨by omega, by omega⟩ | with_reducible rfl | (repeat' first | exact Keep.refl _ | refine Keep.add ?_ ?_ _ | refine Keep.set ?_ ?_ _ | exact Nat.le_refl _ | (simp only [Sg.add, Sg.set, Sg.del]; omega)))
  refine hK4 _ _ ?_
  refine vw_ret ?_
  refine hQ _ _ _ (.inr rfl) (donek_pair (v := I b.size) (v' := nilE) ?_ ?_ rfl rfl ⟨rfl, s1.next, ?_, ?_, ?_, ?_, .inr (by omega)⟩)
  try simp only [ev_hit, ev_miss, Nat.reduceBEq, lpv, hl, Nat.reduceLT]
  try simp only [ev_hit, lpv, hl, Nat.reduceLT]
  · refine ⟨by simp only [Sg.add, Sg.set]; omega, _, .inr rfl, .inr ⟨?_, ?_, by simp only [Sg.add, Sg.set]; omega, by omega⟩⟩
    · simp [Sg.add, Sg.set, hn1]
    · simp only [Sg.add, Sg.set, hn1, hsn, if_false, if_true, tBytes, List.map_append]
  · intro k h1 h2 h3
    have : ¬ k = s1.next := by omega
    simp only [Sg.add, Sg.set, h1, this, if_false]; exact hf1 k h1 h2
  · simp only [Sg.add, Sg.set]; omega
  · simp only [Sg.add, Sg.set]; omega
end Go.Proofs

open Go Go.V
namespace Go.Proofs
def lnB (f : Fl) (i : Int) : List UInt8 := match f.lines[i.toNat]? with
  | some x => x.tx.data.toList
  | none => []
def txtK (f : Fl) (k : Nat) : List UInt8 := ((seeS f).take k).flatMap fun p => lnB f p.1
def txtS (f : Fl) : ByteArray := if linS f = true then ⟨(txtK f (seeS f).length).toArray⟩ else ⟨#[]⟩
theorem seeS_at {f : Fl} {k : Nat} {p : Int × Int} (h : (seeS f)[k]? = some p) : ∃ i : Nat, p.1 = (i : Int) ∧ i < f.lines.length := by
  unfold seeS at h
  rw [List.getElem?_map] at h
  obtain ⟨z, hz, hp⟩ := Option.map_eq_some_iff.1 h
  subst hp
  obtain ⟨hz0, hz1⟩ := srtS_lt _ _ z (List.mem_of_getElem? hz)
  obtain ⟨a, rfl⟩ : ∃ a : Nat, z = (a : Int) := ⟨z.toNat, by omega⟩
  obtain ⟨b, hb, hb1, hb2⟩ := alvS_at (l := f.lines) (i := a) (by omega)
  exact ⟨b, by simp only [Int.toNat_natCast, List.getD_eq_getElem?_getD, hb, Option.getD_some], hb1⟩
theorem seeS_len {f : Fl} (hf : f.lines.length ≤ 200) : (seeS f).length ≤ 40200 := by
  have h1 := alvS_len f.lines
  unfold seeS
  rw [List.length_map]
  exact srtS_len _ (by omega)
theorem txtK_succ {f : Fl} {k : Nat} {p : Int × Int} (h : (seeS f)[k]? = some p) : txtK f (k + 1) = txtK f k ++ lnB f p.1 := by
  unfold txtK
  rw [List.take_add_one, h]
  simp
theorem lnB_len {f : Fl} (hb : ∀ x ∈ f.lines, x.tx.size ≤ 1000000) (i : Int) : (lnB f i).length ≤ 1000000 := by
  unfold lnB
  split
  · rename_i x hx
    exact hb x (List.mem_of_getElem? hx)
  · simp
theorem txtK_len {f : Fl} (hb : ∀ x ∈ f.lines, x.tx.size ≤ 1000000) : ∀ k, (txtK f k).length ≤ 1000000 * k
  | 0 => by simp [txtK]
  | k + 1 => by
    have ih := txtK_len hb k
    cases h : (seeS f)[k]? with
    | none =>
      have : txtK f (k + 1) = txtK f k := by unfold txtK; rw [List.take_add_one, h]; simp
      rw [this]; omega
    | some p =>
      have := lnB_len hb p.1
      rw [txtK_succ h, List.length_append]; omega
theorem Bld.keep {s s' : Sg} {n m : Nat} {bt : List UInt8} (h : Bld s n m bt) (hk : Keep s s') (hn : s.next ≤ s'.next) : Bld s' n m bt := by
  obtain ⟨h1, p, hp, h2⟩ := h
  refine ⟨by omega, p, hp, ?_⟩
  rcases h2 with ⟨a, b, c⟩ | ⟨a, b, c, d⟩
  · exact .inl ⟨a, hk _ _ h1 b, c⟩
  · exact .inr ⟨hk _ _ h1 a, hk _ _ c b, by omega, d⟩
theorem Bld.fr {s s' : Sg} {n m : Nat} {bt : List UInt8} (h : Bld s n m bt) (h1 : s'.m n = s.m n) (h2 : s'.m m = s.m m) (hn : s.next ≤ s'.next) : Bld s' n m bt := by
  obtain ⟨h3, p, hp, h4⟩ := h
  refine ⟨by omega, p, hp, ?_⟩
  rcases h4 with ⟨a, b, c⟩ | ⟨a, b, c, d⟩
  · exact .inl ⟨a, h1.trans b, c⟩
  · exact .inr ⟨h1.trans a, h2.trans b, by omega, d⟩
theorem Bld.ml {s : Sg} {n m : Nat} {bt : List UInt8} (h : Bld s n m bt) : m < s.next := by
  obtain ⟨h3, p, hp, h4⟩ := h
  rcases h4 with ⟨a, b, c⟩ | ⟨a, b, c, d⟩ <;> omega
structure TxtI (s0 : Sg) (nb cb ln : Nat) (lp : Blk) (f : Fl) (bt : Nat → List UInt8) (X : Nat → Prop) (k : Nat) (s5 : Sg) : Prop where
  hb : ∃ m, Bld s5 nb m (bt k) ∧ (m = nb ∨ ln < m) ∧ ¬ X m
  hk : Keep s0 s5
  hc : s5.m cb = some (bxF f)
  hl : s5.m ln = some lp
  nx : ln < s5.next
  hX : ∀ x, X x → ln < x ∧ x < s5.next
theorem TxtI.ext {s0 : Sg} {nb cb ln : Nat} {lp : Blk} {f : Fl} {bt : Nat → List UInt8} {X : Nat → Prop} {k : Nat} {s s' : Sg} (h : TxtI s0 nb cb ln lp f bt X k s) (hcb : cb < ln) (h0 : s0.next ≤ ln) (hk : Keep s s') (hn : s.next ≤ s'.next) : TxtI s0 nb cb ln lp f bt (fun x => X x ∨ (s.next ≤ x ∧ x < s'.next)) k s' := by
  obtain ⟨⟨m, hb, hm, hx⟩, h2, h3, h4, h5, h6⟩ := h
  have hml := hb.ml
  refine ⟨⟨m, hb.keep hk hn, hm, fun hh => ?_⟩, h2.trans (by omega) hk, hk _ _ (by omega) h3, hk _ _ h5 h4, by omega, fun x hx => ?_⟩
  · rcases hh with hh | hh
    · exact hx hh
    · omega
  · rcases hx with hx | hx
    · have := h6 x hx; omega
    · omega
theorem TxtI.next {s0 : Sg} {nb cb ln : Nat} {lp lb : Blk} {f : Fl} {bt : Nat → List UInt8} {X : Nat → Prop} {k m : Nat} {s s' : Sg} (h : TxtI s0 nb cb ln lp f bt X k s) (h1 : s0.next ≤ nb) (h2 : nb < cb) (h3 : cb < ln) (hm : m = nb ∨ ln < m) (hXm : ¬ X m) (hw : Wrote (s.set ln lb) nb m (bt (k + 1)) s') : TxtI s0 nb cb ln lp f bt X (k + 1) (s'.set ln lp) ∧ (∀ x, X x → (s'.set ln lp).m x = s.m x) ∧ s.next ≤ (s'.set ln lp).next := by
  obtain ⟨_, g2, g3, g4, g5, g6⟩ := h
  obtain ⟨m', w1, w2, w3, w4, w5⟩ := hw
  have w3 : s.next ≤ s'.next := w3
  have w5 : m' = m ∨ s.next ≤ m' := w5
  have fr : ∀ x, x ≠ nb → x ≠ m → x ≠ ln → x < s.next → (s'.set ln lp).m x = s.m x := fun x a1 a2 a3 a4 => by
    simp only [Sg.set, a3, if_false]
    rw [w2 x a1 a2 a4]
    simp only [Sg.set, a3, if_false]
  refine ⟨⟨⟨m', w1.fr (by simp only [Sg.set]; rw [if_neg (by omega)]) (by simp only [Sg.set]; rw [if_neg (by omega)]) (Nat.le_refl _), by omega, fun hx => ?_⟩, fun x b hx hb => ?_, ?_, by simp [Sg.set], by show ln < s'.next; omega, fun x hx => ⟨(g6 x hx).1, by have := (g6 x hx).2; show x < s'.next; omega⟩⟩, fun x hx => fr x ?_ ?_ ?_ (g6 x hx).2, w3⟩
  · rcases w5 with rfl | w5
    · exact hXm hx
    · have := (g6 _ hx).2; omega
  · rw [fr x (by omega) (by omega) (by omega) (by omega)]; exact g2 x b hx hb
  · rw [fr cb (by omega) (by omega) (by omega) (by omega)]; exact g3
  · have := (g6 x hx).1; omega
  · intro e; subst e; exact hXm hx
  · have := (g6 x hx).1; omega
set_option maxRecDepth 20000 in
set_option maxHeartbeats 1000000 in
theorem vText_ (f : Fl) (hf : f.lines.length ≤ 200) (hp0 : f.pairs.length < 1000000000) (hbt : ∀ x ∈ f.lines, x.tx.size ≤ 1000000) : PCall Tryd.prog 20 [vFile f] (.tup [Str (txtS f), Bo (linS f)]) := by
  refine pcall_of_body Tryd.func20 rfl fun s Q hQ => ?_
  obtain ⟨e, he, hl, h0⟩ : ∃ e : Env, ([vFile f] ++ List.replicate (Tryd.f20.ntmps - ([vFile f] : List V).length) .junk) = e ∧ e.length = 21 ∧ ev e (.tmp 0) = vFile f := ⟨_, rfl, rfl, rfl⟩
  rw [he]
  clear he
  refine vsk fun K1 hK1 => ?_
  refine vw_sc 0 [] ?_
  simp only [bs, ↓vopx, ↓vop, thenV, flat, V.cells, h0, wocs, ↓goc, ↓woc, ↓vopm0]
  repeat ((with_reducible refine And.intro ?_ ?_); · first | (with_reducible assumption) | omega | exact ⟨by omega, by omega⟩ | with_reducible rfl | (repeat' first | exact Keep.refl _ | refine Keep.add ?_ ?_ _ | refine Keep.set ?_ ?_ _ | exact Nat.le_refl _ | (simp only [Sg.add, Sg.set, Sg.del]; omega)))
  refine hK1 _ _ ?_
  refine vsk fun K2 hK2 => ?_
  refine vsk fun K3 hK3 => ?_
  refine vw_sc 0 [.pur (Bo (linS f))] ?_
  simp only [bs, Nat.reduceAdd, ↓vopx, ↓vop, Nat.reduceBEq, thenV, Nat.reduceLT, dLoad, vpart, hl, wocs, ↓goc, ↓woc, ↓vopm0, ↓callC, calleeV, Tryd.ag44, Tryd.sz44]
  repeat ((with_reducible refine And.intro ?_ ?_); · first | (with_reducible assumption) | omega | exact ⟨by omega, by omega⟩ | exact ⟨Tryd.is28, vLinear_ f hf hp0⟩ | with_reducible rfl | (repeat' first | exact Keep.refl _ | refine Keep.add ?_ ?_ _ | refine Keep.set ?_ ?_ _ | exact Nat.le_refl _ | (simp only [Sg.add, Sg.set, Sg.del]; omega)))
  refine hK3 _ _ ?_
  refine vck fun A B hA hB => ?_
  simp only [condV, ev_hit, lpv, Nat.reduceLT, Bool.not_eq_true', Bool.not_eq_false', hl]
  refine ⟨fun hc8 => hA ?_, fun hc8 => hB ?_⟩
  · clear hA hB A B
    refine vsk fun K4 hK4 => ?_
    refine vw_sc 0 [] ?_
    simp only [bs, ↓vopx, ↓vop, thenV, flat, wocs, ↓goc, ↓woc, ↓vopm0]
    repeat ((with_reducible refine And.intro ?_ ?_); · first | (with_reducible assumption) | omega | exact ⟨by omega, by omega⟩ | with_reducible rfl | (repeat' first | exact Keep.refl _ | refine Keep.add ?_ ?_ _ | refine Keep.set ?_ ?_ _ | exact Nat.le_refl _ | (simp only [Sg.add, Sg.set, Sg.del]; omega)))
    refine hK4 _ _ ?_
    refine vw_ret ?_
    have hlin : linS f = false := by simpa using hc8
    refine hQ _ _ _ (.inr rfl) ?_
    rw [show txtS f = ⟨#[]⟩ from if_neg (by simp [hlin]), hlin]
    refine done_pair ?_ ?_ fun n b hn h => ?_
    try simp only [ev_hit, ev_miss, Nat.reduceBEq, lpv, hl, Nat.reduceLT]
    try simp only [ev_hit, lpv, hl, Nat.reduceLT]
    · exact (Keep.refl s).add (Nat.le_refl _) _ n b hn h
  · clear hA hB A B
    refine vw_skip ?_
    refine hK2 _ _ ?_
    refine vsk fun K5 hK5 => ?_
    refine vw_sc 0 [] ?_
    simp only [bs, ↓vopx, ↓vop, thenV, wocs, ↓goc, ↓woc, ↓vopm0, Tryd.zv72]
    repeat ((with_reducible refine And.intro ?_ ?_); · first | (with_reducible assumption) | omega | exact ⟨by omega, by omega⟩ | with_reducible rfl | (repeat' first | exact Keep.refl _ | refine Keep.add ?_ ?_ _ | refine Keep.set ?_ ?_ _ | exact Nat.le_refl _ | (simp only [Sg.add, Sg.set, Sg.del]; omega)))
    refine hK5 _ _ ?_
    refine vsk fun K6 hK6 => ?_
    refine vsk fun K7 hK7 => ?_
    refine vw_sc 0 [.stop] ?_
    simp only [bs, Nat.reduceAdd, ↓vopx, ↓vop, Nat.reduceBEq, thenV, Nat.reduceLT, dLoad, vpart, hl, wocs, ↓goc, ↓woc, ↓vopm0, ↓callC, calleeV, Tryd.ag44, Tryd.sz44]
    refine ⟨Tryd.is29, (vEach_ _ f).mono fun v s3_ hv => ?_⟩
    obtain ⟨rfl, rfl⟩ := hv
    try simp only [bs, Hold]
    refine hK7 _ _ ?_
    refine vw_block ?_
    refine vw_env2 fun e1 s3 hE hS => ?_
    have hlE : e1.length = 21 := by rw [hE]; simp only [lpv, hl]
    have k1E : ev e1 (.tmp 1) = .ptr s.next 0 := by rw [hE]; simp only [ev_hit, ev_miss, Nat.reduceBEq, hl, Nat.reduceLT]
    have h4E : ev e1 (.tmp 4) = .ptr (s.next + 1) 0 := by rw [hE]; simp only [ev_hit, ev_miss, Nat.reduceBEq, lpv, hl, Nat.reduceLT]
    have h10E : ev e1 (.tmp 10) = .clo 41 [.ptr (s.next + 1 + 1) 0] := by rw [hE]; simp only [ev_hit, lpv, hl, Nat.reduceLT]
    clear hE
    have n3 : s3.next = s.next + 3 := by rw [hS]; rfl
    have b1 : s3.m (s.next + 1) = some (.box 72 [.t (.v (.pointer none)), .t (.v (.slice none 0 0))]) := by rw [hS]; simp [Sg.add]
    have b2 : s3.m (s.next + 1 + 1) = some (bxF f) := by rw [hS]; simp [Sg.add]
    have hk3 : Keep (s.add (bxF f)) s3 := by rw [hS]; exact ((Keep.refl _).add (Nat.le_refl _) _).add (by simp [Sg.add]) _
    have hn0 : (s.add (bxF f)).next = s.next + 1 := rfl
    clear hS
    refine vw_range (g := 41) (caps := [.ptr (s.next + 1 + 1) 0]) h10E Tryd.func41 rfl (by decide) fun s4 h4e h4n h4m h4l => ?_
    obtain ⟨lp0, hlp0⟩ : ∃ lp0, s4.m s3.next = some lp0 := ⟨_, h4l⟩
    have hst : (TxtI (s.add (bxF f)) (s.next + 1) (s.next + 1 + 1) s3.next lp0 f (txtK f)) (fun _ => False) 0 s4 := ⟨⟨s.next + 1, ⟨by omega, _, .inl rfl, .inl ⟨rfl, by rw [h4m _ (by omega)]; exact b1, rfl⟩⟩, .inl rfl, fun h => h⟩, fun x b hx hb => by rw [h4m _ (by omega)]; exact hk3 x b hx hb, by rw [h4m _ (by omega)]; exact b2, hlp0, by omega, fun x h => h.elim⟩
    refine (vEach1_ s3.next (s.next + 1 + 1) f hf hp0 (TxtI (s.add (bxF f)) (s.next + 1) (s.next + 1 + 1) s3.next lp0 f (txtK f)) (fun _ => False) ⟨fun X k s5 h => ⟨h.hc, by have := h.nx; omega, fun x hx => (h.hX x hx).2⟩, fun X k s5 s6 h hk hn => h.ext (by omega) (by omega) hk hn, fun X k s5 p hp hk => ?_⟩ s4 _ hst).mono fun v s6 h6 => ?_
    rotate_left
    · rcases h6 with ⟨X, h6⟩ | h6
      rotate_left
      · exact h6.elim
      refine ⟨none, .ready, h6.hl.trans (hlp0.symm.trans h4l), by simp, ?_⟩
      obtain ⟨m, hB6, hm6, _⟩ := h6.hb
      have h6n := h6.nx
      simp only []
      refine hK6 _ _ ?_
      refine vsk fun K8 hK8 => ?_
      have hB7 : Bld (s6.del s3.next) (s.next + 1) m (txtK f (seeS f).length) := hB6.fr (by simp only [Sg.del]; rw [if_neg (by omega)]) (by simp only [Sg.del]; rw [if_neg (by omega)]) (Nat.le_refl _)
      refine vw_sc 0 [.stop] ?_
      simp only [dstIs, bs, ↓vopx, ↓vop, thenV, h4E, wocs, ↓goc, ↓woc, ↓vopm0, ↓callC, calleeV]
      refine ⟨Tryd.is31, (bString_ _ (s.next + 1) m _ hB7).mono fun v s8 hv => ?_⟩
      obtain ⟨rfl, hn8, hf8⟩ := hv
      try simp only [bs, flat, Nat.reduceLT, hlE, Hold]
      refine hK8 _ _ ?_
      refine vw_ret ?_
      have hlin : linS f = true := by simpa using hc8
      refine hQ _ _ _ (.inr rfl) ?_
      rw [show txtS f = ⟨(txtK f (seeS f).length).toArray⟩ from if_pos hlin, hlin]
      refine done_pair ?_ ?_ fun n b hn h => ?_
      try simp only [ev_hit, ev_miss, Nat.reduceBEq, lpv, hlE, Nat.reduceLT]
      try simp only [ev_hit, lpv, hlE, Nat.reduceLT]
      · rw [hf8 n (by omega)]; simp only [Sg.del]; rw [if_neg (by omega)]; exact h6.hk n b (by omega) ((Keep.refl s).add (Nat.le_refl _) _ n b hn h)
    obtain ⟨i, hi1, hi2⟩ := seeS_at hp
    obtain ⟨x, hx⟩ : ∃ x, f.lines[i]? = some x := ⟨_, List.getElem?_eq_getElem hi2⟩
    have hlb : lnB f p.1 = x.tx.data.toList := by unfold lnB; rw [hi1, Int.toNat_natCast, hx]
    rw [hi1]
    have hkl : k < (seeS f).length := (List.getElem?_eq_some_iff.1 hp).1
    have hsl := seeS_len hf
    have htl := txtK_len hbt k
    have hxs := hbt x (List.mem_of_getElem? hx)
    have hnx5 := hk.nx
    have hat := atL hx
    have hi4 : i * 4 < (f.lines.flatMap lcells).length := by rw [flatL]; omega
    refine ycall_of (hk.hl.trans (hlp0.symm.trans h4l)) rfl fun KA hKA => ?_
    rw [show (#[11, 12] : Array Tmp).toList = [11, 12] from rfl, setps_two]
    refine vw_sc 0 [] ?_
    simp only [bs, ↓vopx, ↓vop, Nat.reduceBEq, thenV, Nat.reduceLT, hlE, wocs, ↓goc, ↓woc, ↓vopm0]
    repeat ((with_reducible refine And.intro ?_ ?_); · first | (with_reducible assumption) | omega | exact ⟨by omega, by omega⟩ | with_reducible rfl | (repeat' first | exact Keep.refl _ | refine Keep.add ?_ ?_ _ | refine Keep.set ?_ ?_ _ | exact Nat.le_refl _ | (simp only [Sg.add, Sg.set, Sg.del]; omega)))
    refine hKA _ _ (hk.hl.trans (hlp0.symm.trans h4l)) ?_
    refine vw_env2 fun e2 sc hE2 hSc => ?_
    subst hE2
    obtain ⟨lpb, hSc2⟩ : ∃ lpb, sc = s5.set s3.next lpb := ⟨_, hSc⟩
    obtain ⟨m, hB5, hm5, hXm⟩ := hk.hb
    have hbs : sc.m s.next = some (bxF f) := by rw [hSc2]; simp only [Sg.set]; rw [if_neg (by omega)]; exact hk.hk _ _ (by omega) (by simp [Sg.add])
    have hBs : Bld sc (s.next + 1) m (txtK f k) := by rw [hSc2]; exact hB5.fr (by simp only [Sg.set]; rw [if_neg (by omega)]) (by simp only [Sg.set]; rw [if_neg (by omega)]) (Nat.le_refl _)
    refine vw_block ?_
    refine vw_sc 0 [.stop] ?_
    simp only [bs, Nat.reduceAdd, ↓vopx, ↓vop, Nat.reduceBEq, blockV, Nat.reduceLT, dLoad, vpart, hlE, k1E, h4E, wocs, ↓goc, ↓woc, ↓vopm0, ↓callC, calleeV, Tryd.ag41, Tryd.ag9, Tryd.fd44_1, Tryd.fd40_1, Tryd.sz41, Tryd.sz40, Tryd.sz9, Tryd.un41, hbs, hat, hi4, Int.toNat_natCast]
    refine ⟨Tryd.is30, (bWriteS_ sc (s.next + 1) m (txtK f k) hBs x.tx (by omega)).mono fun v s9 hv => ?_⟩
    obtain ⟨rfl, hw⟩ := hv
    try simp only [bs, Nat.reduceBEq, Nat.reduceLT, hlE, Hold]
    show _ ∧ _
    rw [← hlb, ← txtK_succ hp] at hw
    obtain ⟨g1, g2, g3⟩ := hk.next (by omega) (by omega) (by omega) hm5 hXm (lb := lpb) (hSc2 ▸ hw)
    obtain ⟨_, _, w2, _⟩ := hw
    refine And.intro (by rw [w2 _ (by omega) (by omega) (by rw [hSc2]; exact hnx5), hSc]; exact if_pos rfl) ⟨true, rfl, fun _ => ?_, (fun h => by cases h), ?_, ?_⟩
    · rw [Option.some.inj (h4l.symm.trans hlp0)]; exact g1
    · rw [Option.some.inj (h4l.symm.trans hlp0)]; exact g2
    · exact g3
end Go.Proofs

open Go Go.V
namespace Go.Proofs
def okC (c : UInt8) : Bool := (decide (97 ≤ c.toNat) && decide (c.toNat ≤ 122)) || (decide (48 ≤ c.toNat) && decide (c.toNat ≤ 57)) || decide (c.toNat = 46) || decide (c.toNat = 47)
def pathS (b : ByteArray) : Bool := decide (0 < b.size) && decide (b.size ≤ 20) && b.data.toList.all okC
theorem pathS_no1 {b : ByteArray} (h : b.size = 0) : pathS b = false := by simp [pathS, h]
theorem pathS_no2 {b : ByteArray} (h : 20 < b.size) : pathS b = false := by
  have : ¬ b.size ≤ 20 := by omega
  simp [pathS, this]
theorem pathS_no3 {b : ByteArray} {k : Nat} {c : UInt8} (h : b.data.toList[k]? = some c) (hc : okC c = false) : pathS b = false := by
  have : b.data.toList.all okC = false := List.all_eq_false.2 ⟨c, List.mem_of_getElem? h, by simp [hc]⟩
  unfold pathS; rw [this]; simp
theorem pathS_yes {b : ByteArray} (h1 : 0 < b.size) (h2 : b.size ≤ 20) (h : ∀ j c, j < b.size → b.data.toList[j]? = some c → okC c = true) : pathS b = true := by
  have : b.data.toList.all okC = true := List.all_eq_true.2 fun c hc => by
    obtain ⟨j, hj⟩ := List.mem_iff_getElem?.1 hc
    exact h j c (by have := (List.getElem?_eq_some_iff.1 hj).1; simpa using this) hj
  unfold pathS; rw [this]; simp [h1, h2]
theorem eqE (b : ByteArray) : (b.toList == (⟨#[]⟩ : ByteArray).toList) = decide (b.size = 0) := by
  rw [ByteArray.toList_eq, ByteArray.toList_eq]
  have h : b.size = b.data.toList.length := by rw [Array.length_toList]; rfl
  rw [h]
  have h2 : (⟨#[]⟩ : ByteArray).data.toList = [] := rfl
  rw [h2]
  cases b.data.toList with
  | nil => rfl
  | cons a l => rfl
abbrev U8 (z : Int) : V := .t (.v (.int .u8 z))
theorem lss8 (P : Program) (t : TypeId) (x y : Operand) (a b : Int) : vbin P .lss t x y (.int .u8 a) (.int .u8 b) = some (.bool (decide (a < b))) := rfl
theorem gtr8 (P : Program) (t : TypeId) (x y : Operand) (a b : Int) : vbin P .gtr t x y (.int .u8 a) (.int .u8 b) = some (.bool (decide (a > b))) := rfl
theorem neq8 (P : Program) (t : TypeId) (x y : Operand) (a b : Int) : vbin P .neq t x y (.int .u8 a) (.int .u8 b) = some (.bool (a != b)) := rfl
theorem far8 {P : Program} {op : BinOp} {t : TypeId} {x y : Operand} {a b : Int} {r q : Bool} (h : vbin P op t x y (.int .u8 a) (.int .u8 b) = some (.bool q)) (e : q = r) : opFar op (U8 a) (U8 b) P t x y (.bool r) := .inl ⟨_, _, rfl, rfl, by rw [h, e]⟩
theorem getU {b : ByteArray} {k : Nat} {c : UInt8} (h : b.data.toList[k]? = some c) : b[k]? = some c := by
  obtain ⟨h1, h2⟩ := List.getElem?_eq_some_iff.1 h
  have h3 : k < b.size := by simpa using h1
  rw [getElem?_pos b k h3]
  congr 1
set_option maxRecDepth 20000 in
set_option maxHeartbeats 1000000 in
theorem isPath_ (b : ByteArray) : PCall Tryd.prog 13 [Str b] (Bo (pathS b)) := by
  refine pcall_of_body Tryd.func13 rfl fun s Q hQ => ?_
  obtain ⟨e, he, hl, h0⟩ : ∃ e : Env, ([Str b] ++ List.replicate (Tryd.f13.ntmps - ([Str b] : List V).length) .junk) = e ∧ e.length = 43 ∧ ev e (.tmp 0) = Str b := ⟨_, rfl, rfl, rfl⟩
  rw [he]
  clear he
  refine vsk fun K1 hK1 => ?_
  refine vw_sc 0 [] ?_
  simp only [bs, ↓vopx, ↓vop, thenV, flat, wocs, ↓goc, ↓woc, ↓vopm0]
  repeat ((with_reducible refine And.intro ?_ ?_); · first | (with_reducible assumption) | omega | exact ⟨by omega, by omega⟩ | with_reducible rfl | (repeat' first | exact Keep.refl _ | refine Keep.add ?_ ?_ _ | refine Keep.set ?_ ?_ _ | exact Nat.le_refl _ | (simp only [Sg.add, Sg.set, Sg.del]; omega)))
  refine hK1 _ _ ?_
  refine vsk fun K2 hK2 => ?_
  refine vsk fun K3 hK3 => ?_
  rcases (show b.size = 0 ∨ (b.size ≠ 0 ∧ 20 < b.size) ∨ (b.size ≠ 0 ∧ b.size ≤ 20) by omega) with hz | ⟨hz, hz2⟩ | ⟨hz, hz2⟩
  · have hd : decide (b.size = 0) = true := by simp [hz]
    refine vw_sc 0 [] ?_
    simp only [bs, ↓vopx, ↓vop, Nat.reduceBEq, thenV, flat, Nat.reduceLT, opSS, gtmp, hl, h0, wocs, ↓goc, ↓woc, ↓vopm0, ↓pick_tf, eqE, hd]
    repeat ((with_reducible refine And.intro ?_ ?_); · first | (with_reducible assumption) | omega | exact ⟨by omega, by omega⟩ | with_reducible rfl | (repeat' first | exact Keep.refl _ | refine Keep.add ?_ ?_ _ | refine Keep.set ?_ ?_ _ | exact Nat.le_refl _ | (simp only [Sg.add, Sg.set, Sg.del]; omega)))
    refine hK3 _ _ ?_
    refine vck fun A B hA hB => ?_
    simp only [condV, ev_hit, lpv, Nat.reduceLT, true_implies, reduceCtorEq, false_implies, and_true, hl]
    refine hA ?_
    clear hA hB A B
    refine vsk fun K4 hK4 => ?_
    refine vw_sc 0 [] ?_
    simp only [bs, ↓vopx, ↓vop, thenV, flat, wocs, ↓goc, ↓woc, ↓vopm0]
    repeat ((with_reducible refine And.intro ?_ ?_); · first | (with_reducible assumption) | omega | exact ⟨by omega, by omega⟩ | with_reducible rfl | (repeat' first | exact Keep.refl _ | refine Keep.add ?_ ?_ _ | refine Keep.set ?_ ?_ _ | exact Nat.le_refl _ | (simp only [Sg.add, Sg.set, Sg.del]; omega)))
    refine hK4 _ _ ?_
    refine vw_ret ?_
    have hpf := pathS_no1 hz
    refine hQ _ _ _ (.inr rfl) ?_
    rw [hpf]
    refine done_tmp ?_ fun n b hn h => h
    try simp only [ev_hit, lpv, hl, Nat.reduceLT]
  · have hd : decide (b.size = 0) = false := by simp [hz]
    have hd2 : decide ((b.size : Int) > 20) = true := by simp; omega
    refine vw_sc 0 [] ?_
    simp only [bs, ↓vopx, ↓vop, Nat.reduceBEq, thenV, flat, Nat.reduceLT, opII, opSS, gtmp, hl, h0, wocs, ↓goc, ↓woc, ↓vopm0, ↓pick_ff, eqE, hd, hd2]
    repeat ((with_reducible refine And.intro ?_ ?_); · first | (with_reducible assumption) | omega | exact ⟨by omega, by omega⟩ | with_reducible rfl | (repeat' first | exact Keep.refl _ | refine Keep.add ?_ ?_ _ | refine Keep.set ?_ ?_ _ | exact Nat.le_refl _ | (simp only [Sg.add, Sg.set, Sg.del]; omega)))
    refine hK3 _ _ ?_
    refine vck fun A B hA hB => ?_
    simp only [condV, ev_hit, lpv, Nat.reduceLT, true_implies, reduceCtorEq, false_implies, and_true, hl]
    refine hA ?_
    clear hA hB A B
    refine vsk fun K5 hK5 => ?_
    refine vw_sc 0 [] ?_
    simp only [bs, ↓vopx, ↓vop, thenV, flat, wocs, ↓goc, ↓woc, ↓vopm0]
    repeat ((with_reducible refine And.intro ?_ ?_); · first | (with_reducible assumption) | omega | exact ⟨by omega, by omega⟩ | with_reducible rfl | (repeat' first | exact Keep.refl _ | refine Keep.add ?_ ?_ _ | refine Keep.set ?_ ?_ _ | exact Nat.le_refl _ | (simp only [Sg.add, Sg.set, Sg.del]; omega)))
    refine hK5 _ _ ?_
    refine vw_ret ?_
    have hpf := pathS_no2 hz2
    refine hQ _ _ _ (.inr rfl) ?_
    rw [hpf]
    refine done_tmp ?_ fun n b hn h => h
    try simp only [ev_hit, lpv, hl, Nat.reduceLT]
  · have hd : decide (b.size = 0) = false := by simp [hz]
    have hd2 : decide ((b.size : Int) > 20) = false := by simp; omega
    refine vw_sc 0 [] ?_
    simp only [bs, ↓vopx, ↓vop, Nat.reduceBEq, thenV, flat, Nat.reduceLT, opII, opSS, gtmp, hl, h0, wocs, ↓goc, ↓woc, ↓vopm0, ↓pick_ff, eqE, hd, hd2]
    repeat ((with_reducible refine And.intro ?_ ?_); · first | (with_reducible assumption) | omega | exact ⟨by omega, by omega⟩ | with_reducible rfl | (repeat' first | exact Keep.refl _ | refine Keep.add ?_ ?_ _ | refine Keep.set ?_ ?_ _ | exact Nat.le_refl _ | (simp only [Sg.add, Sg.set, Sg.del]; omega)))
    refine hK3 _ _ ?_
    refine vck fun A B hA hB => ?_
    simp only [condV, ev_hit, lpv, Nat.reduceLT, true_implies, reduceCtorEq, false_implies, true_and, hl]
    refine hB ?_
    clear hA hB A B
    refine vw_skip ?_
    refine hK2 _ _ ?_
    refine vsk fun K6 hK6 => ?_
    refine vsk fun K7 hK7 => ?_
    refine vw_sc 0 [] ?_
    simp only [bs, ↓vopx, ↓vop, Nat.reduceBEq, thenV, flat, Nat.reduceLT, hl, h0, wocs, ↓goc, ↓woc, ↓vopm0]
    repeat ((with_reducible refine And.intro ?_ ?_); · first | (with_reducible assumption) | omega | exact ⟨by omega, by omega⟩ | with_reducible rfl | (repeat' first | exact Keep.refl _ | refine Keep.add ?_ ?_ _ | refine Keep.set ?_ ?_ _ | exact Nat.le_refl _ | (simp only [Sg.add, Sg.set, Sg.del]; omega)))
    refine hK7 _ _ ?_
    refine vw_block ?_
    refine vw_loop (fun mm e' s' => ∃ k : Nat, mm = b.size - k ∧ k ≤ b.size ∧ e'.length = 43 ∧ ev e' (.tmp 0) = Str b ∧ ev e' (.tmp 13) = I b.size ∧ ev e' (.tmp 14) = I k ∧ s = s' ∧ ∀ j c, j < k → b.data.toList[j]? = some c → okC c = true) (⟨0, rfl, Nat.zero_le _, ?_⟩) ?_
    · try simp only [ev_hit, ev_miss, Nat.reduceBEq, lpv, hl, h0, Nat.reduceLT, true_and]
      repeat ((with_reducible refine And.intro ?_ ?_); · first | trivial | assumption | omega | rfl | (push_cast; rfl) | exact ⟨by omega, by omega⟩)
      exact fun j c h => by omega
    rintro mm e _ ⟨k, rfl, hle_k, hl, h0, h13, h_k, rfl, hok⟩
    refine vsk fun K8 hK8 => ?_
    refine vw_sc 0 [] ?_
    simp only [thenV, opII, h13, h_k, wocs, ↓goc, ↓woc]
    repeat ((with_reducible refine And.intro ?_ ?_); · first | (with_reducible assumption) | omega | exact ⟨by omega, by omega⟩ | with_reducible rfl | (repeat' first | exact Keep.refl _ | refine Keep.add ?_ ?_ _ | refine Keep.set ?_ ?_ _ | exact Nat.le_refl _ | (simp only [Sg.add, Sg.set, Sg.del]; omega)))
    refine hK8 _ _ ?_
    refine vsk fun K9 hK9 => ?_
    refine vck fun A B hA hB => ?_
    simp only [condV, ev_hit, Nat.reduceLT, decide_eq_true_eq, decide_eq_false_iff_not, hl]
    refine ⟨fun hc15 => hA ?_, fun hc15 => hB ?_⟩
    · clear hA hB A B
      refine vw_skip ?_
      refine hK9 _ _ ?_
      refine vsk fun K10 hK10 => ?_
      refine vw_block ?_
      refine vsk fun K11 hK11 => ?_
      refine vw_sc 0 [] ?_
      simp only [bs, ↓vopx, ↓vop, Nat.reduceBEq, thenV, Nat.reduceLT, hl, h_k, wocs, ↓goc, ↓woc, ↓vopm0]
      repeat ((with_reducible refine And.intro ?_ ?_); · first | (with_reducible assumption) | omega | exact ⟨by omega, by omega⟩ | with_reducible rfl | (repeat' first | exact Keep.refl _ | refine Keep.add ?_ ?_ _ | refine Keep.set ?_ ?_ _ | exact Nat.le_refl _ | (simp only [Sg.add, Sg.set, Sg.del]; omega)))
      refine hK11 _ _ ?_
      refine vsk fun K12 hK12 => ?_
      have hkl : k < b.size := by omega
      obtain ⟨c, hc⟩ : ∃ c, b.data.toList[k]? = some c := ⟨_, List.getElem?_eq_getElem (by simpa using hkl)⟩
      obtain ⟨n, hcn⟩ : ∃ n, c.toNat = n := ⟨_, rfl⟩
      refine vw_sc 0 [.op (U8 (c.toNat : Int)) s] ?_
      simp only [bs, ↓vopx, ↓vop, Nat.reduceBEq, thenV, Nat.reduceLT, hl, h0, wocs, ↓goc, ↓woc, ↓vopm0, farOp]
      repeat ((with_reducible refine And.intro ?_ ?_); · first | (with_reducible assumption) | omega | exact ⟨by omega, by omega⟩ | exact far_byte rfl Tryd.underlying9 (b := b) (z := (k : Int)) (by simp only [ev_hit, ev_miss, Nat.reduceBEq, lpv, hl, Nat.reduceLT]) (by simp only [ev_hit, lpv, hl, Nat.reduceLT]) (by omega) (by rw [Int.toNat_natCast]; exact getU hc) | with_reducible rfl | (repeat' first | exact Keep.refl _ | refine Keep.add ?_ ?_ _ | refine Keep.set ?_ ?_ _ | exact Nat.le_refl _ | (simp only [Sg.add, Sg.set, Sg.del]; omega)))
      refine hK12 _ _ ?_
      refine vsk fun K13 hK13 => ?_
      rcases (show (n < 48 ∧ n ≠ 46 ∧ n ≠ 47) ∨ (n = 46) ∨ (n = 47) ∨ (48 ≤ n ∧ n ≤ 57) ∨ (58 ≤ n ∧ n ≤ 96) ∨ (97 ≤ n ∧ n ≤ 122) ∨ (123 ≤ n) by omega) with hn | hn | hn | hn | hn | hn | hn
      · have hoc : okC c = false := by unfold okC; rw [hcn]; simp; omega
        refine vw_sc 0 [.far (.bool true), .far (.bool true), .far (.bool true), .far (.bool true)] ?_
        simp only [bs, ↓vopx, ↓vop, Nat.reduceBEq, thenV, flat, Nat.reduceLT, gtmp, hl, wocs, ↓goc, ↓woc, ↓vopm0, ↓pick_tt, ↓pick_tf, ↓farC]
        repeat ((with_reducible refine And.intro ?_ ?_); · first | (with_reducible assumption) | omega | exact ⟨by omega, by omega⟩ | exact far8 (lss8 _ _ _ _ _ _) (by simp; try omega) | exact far8 (lss8 _ _ _ _ _ _) (by simp; try omega) | exact far8 (neq8 _ _ _ _ _ _) (by simp; try omega) | exact far8 (neq8 _ _ _ _ _ _) (by simp; try omega) | with_reducible rfl | (repeat' first | exact Keep.refl _ | refine Keep.add ?_ ?_ _ | refine Keep.set ?_ ?_ _ | exact Nat.le_refl _ | (simp only [Sg.add, Sg.set, Sg.del]; omega)))
        refine hK13 _ _ ?_
        refine vck fun A B hA hB => ?_
        simp only [condV, ev_hit, lpv, Nat.reduceLT, true_implies, reduceCtorEq, false_implies, and_true, hl]
        refine hA ?_
        clear hA hB A B
        refine vsk fun K14 hK14 => ?_
        refine vw_sc 0 [] ?_
        simp only [bs, ↓vopx, ↓vop, thenV, flat, wocs, ↓goc, ↓woc, ↓vopm0]
        repeat ((with_reducible refine And.intro ?_ ?_); · first | (with_reducible assumption) | omega | exact ⟨by omega, by omega⟩ | with_reducible rfl | (repeat' first | exact Keep.refl _ | refine Keep.add ?_ ?_ _ | refine Keep.set ?_ ?_ _ | exact Nat.le_refl _ | (simp only [Sg.add, Sg.set, Sg.del]; omega)))
        refine hK14 _ _ ?_
        refine vw_ret ?_
        have hpf := pathS_no3 hc hoc
        refine hQ _ _ _ (.inr rfl) ?_
        rw [hpf]
        refine done_tmp ?_ fun n b hn h => h
        try simp only [ev_hit, lpv, hl, Nat.reduceLT]
      · have hoc : okC c = true := by unfold okC; rw [hcn]; simp; omega
        refine vw_sc 0 [.far (.bool true), .far (.bool true), .far (.bool false)] ?_
        simp only [bs, ↓vopx, ↓vop, Nat.reduceBEq, thenV, flat, Nat.reduceLT, gtmp, hl, wocs, ↓goc, ↓woc, ↓vopm0, ↓pick_tt, ↓pick_tf, ↓pick_ft, ↓farC]
        repeat ((with_reducible refine And.intro ?_ ?_); · first | (with_reducible assumption) | omega | exact ⟨by omega, by omega⟩ | exact far8 (lss8 _ _ _ _ _ _) (by simp; try omega) | exact far8 (lss8 _ _ _ _ _ _) (by simp; try omega) | exact far8 (neq8 _ _ _ _ _ _) (by simp; try omega) | with_reducible rfl | (repeat' first | exact Keep.refl _ | refine Keep.add ?_ ?_ _ | refine Keep.set ?_ ?_ _ | exact Nat.le_refl _ | (simp only [Sg.add, Sg.set, Sg.del]; omega)))
        refine hK13 _ _ ?_
        refine vck fun A B hA hB => ?_
        simp only [condV, ev_hit, lpv, Nat.reduceLT, true_implies, reduceCtorEq, false_implies, true_and, hl]
        refine hB ?_
        clear hA hB A B
        refine vw_skip ?_
        refine hK10 _ _ ?_
        refine vw_sc 0 [] ?_
        simp only [bs, ↓vopx, ↓vop, Nat.reduceBEq, thenV, flat, Nat.reduceLT, opII, hl, h0, h13, h_k, wocs, ↓goc, ↓woc, ↓vopm0]
        repeat ((with_reducible refine And.intro ?_ ?_); · first | (with_reducible assumption) | omega | exact ⟨by omega, by omega⟩ | with_reducible rfl | (repeat' first | exact Keep.refl _ | refine Keep.add ?_ ?_ _ | refine Keep.set ?_ ?_ _ | exact Nat.le_refl _ | (simp only [Sg.add, Sg.set, Sg.del]; omega)))
        refine ⟨b.size - (k + 1), by omega, k + 1, rfl, by omega, ?_⟩
        try simp only [ev_hit, ev_miss, Nat.reduceBEq, lpv, hl, h0, h13, h_k, if_true, if_false, Nat.reduceEqDiff, Nat.reduceLT, true_and, and_true]
        repeat ((with_reducible refine And.intro ?_ ?_); · first | trivial | assumption | omega | rfl | (push_cast; rfl) | exact ⟨by omega, by omega⟩)
        intro j c' hj hc'
        rcases Nat.lt_succ_iff_lt_or_eq.1 hj with hj | rfl
        · exact hok j c' hj hc'
        · rw [hc] at hc'; cases hc'; exact hoc
      · have hoc : okC c = true := by unfold okC; rw [hcn]; simp; omega
        refine vw_sc 0 [.far (.bool true), .far (.bool true), .far (.bool true), .far (.bool false)] ?_
        simp only [bs, ↓vopx, ↓vop, Nat.reduceBEq, thenV, flat, Nat.reduceLT, gtmp, hl, wocs, ↓goc, ↓woc, ↓vopm0, ↓pick_tt, ↓pick_tf, ↓farC]
        repeat ((with_reducible refine And.intro ?_ ?_); · first | (with_reducible assumption) | omega | exact ⟨by omega, by omega⟩ | exact far8 (lss8 _ _ _ _ _ _) (by simp; try omega) | exact far8 (lss8 _ _ _ _ _ _) (by simp; try omega) | exact far8 (neq8 _ _ _ _ _ _) (by simp; try omega) | exact far8 (neq8 _ _ _ _ _ _) (by simp; try omega) | with_reducible rfl | (repeat' first | exact Keep.refl _ | refine Keep.add ?_ ?_ _ | refine Keep.set ?_ ?_ _ | exact Nat.le_refl _ | (simp only [Sg.add, Sg.set, Sg.del]; omega)))
        refine hK13 _ _ ?_
        refine vck fun A B hA hB => ?_
        simp only [condV, ev_hit, lpv, Nat.reduceLT, true_implies, reduceCtorEq, false_implies, true_and, hl]
        refine hB ?_
        clear hA hB A B
        refine vw_skip ?_
        refine hK10 _ _ ?_
        refine vw_sc 0 [] ?_
        simp only [bs, ↓vopx, ↓vop, Nat.reduceBEq, thenV, flat, Nat.reduceLT, opII, hl, h0, h13, h_k, wocs, ↓goc, ↓woc, ↓vopm0]
        repeat ((with_reducible refine And.intro ?_ ?_); · first | (with_reducible assumption) | omega | exact ⟨by omega, by omega⟩ | with_reducible rfl | (repeat' first | exact Keep.refl _ | refine Keep.add ?_ ?_ _ | refine Keep.set ?_ ?_ _ | exact Nat.le_refl _ | (simp only [Sg.add, Sg.set, Sg.del]; omega)))
        refine ⟨b.size - (k + 1), by omega, k + 1, rfl, by omega, ?_⟩
        try simp only [ev_hit, ev_miss, Nat.reduceBEq, lpv, hl, h0, h13, h_k, if_true, if_false, Nat.reduceEqDiff, Nat.reduceLT, true_and, and_true]
        repeat ((with_reducible refine And.intro ?_ ?_); · first | trivial | assumption | omega | rfl | (push_cast; rfl) | exact ⟨by omega, by omega⟩)
        intro j c' hj hc'
        rcases Nat.lt_succ_iff_lt_or_eq.1 hj with hj | rfl
        · exact hok j c' hj hc'
        · rw [hc] at hc'; cases hc'; exact hoc
      · have hoc : okC c = true := by unfold okC; rw [hcn]; simp; omega
        refine vw_sc 0 [.far (.bool true), .far (.bool false), .far (.bool false)] ?_
        simp only [bs, ↓vopx, ↓vop, Nat.reduceBEq, thenV, flat, Nat.reduceLT, gtmp, hl, wocs, ↓goc, ↓woc, ↓vopm0, ↓pick_tt, ↓pick_ff, ↓pick_tf, ↓pick_ft, ↓farC]
        repeat ((with_reducible refine And.intro ?_ ?_); · first | (with_reducible assumption) | omega | exact ⟨by omega, by omega⟩ | exact far8 (lss8 _ _ _ _ _ _) (by simp; try omega) | exact far8 (lss8 _ _ _ _ _ _) (by simp; try omega) | exact far8 (gtr8 _ _ _ _ _ _) (by simp; try omega) | with_reducible rfl | (repeat' first | exact Keep.refl _ | refine Keep.add ?_ ?_ _ | refine Keep.set ?_ ?_ _ | exact Nat.le_refl _ | (simp only [Sg.add, Sg.set, Sg.del]; omega)))
        refine hK13 _ _ ?_
        refine vck fun A B hA hB => ?_
        simp only [condV, ev_hit, lpv, Nat.reduceLT, true_implies, reduceCtorEq, false_implies, true_and, hl]
        refine hB ?_
        clear hA hB A B
        refine vw_skip ?_
        refine hK10 _ _ ?_
        refine vw_sc 0 [] ?_
        simp only [bs, ↓vopx, ↓vop, Nat.reduceBEq, thenV, flat, Nat.reduceLT, opII, hl, h0, h13, h_k, wocs, ↓goc, ↓woc, ↓vopm0]
        repeat ((with_reducible refine And.intro ?_ ?_); · first | (with_reducible assumption) | omega | exact ⟨by omega, by omega⟩ | with_reducible rfl | (repeat' first | exact Keep.refl _ | refine Keep.add ?_ ?_ _ | refine Keep.set ?_ ?_ _ | exact Nat.le_refl _ | (simp only [Sg.add, Sg.set, Sg.del]; omega)))
        refine ⟨b.size - (k + 1), by omega, k + 1, rfl, by omega, ?_⟩
        try simp only [ev_hit, ev_miss, Nat.reduceBEq, lpv, hl, h0, h13, h_k, if_true, if_false, Nat.reduceEqDiff, Nat.reduceLT, true_and, and_true]
        repeat ((with_reducible refine And.intro ?_ ?_); · first | trivial | assumption | omega | rfl | (push_cast; rfl) | exact ⟨by omega, by omega⟩)
        intro j c' hj hc'
        rcases Nat.lt_succ_iff_lt_or_eq.1 hj with hj | rfl
        · exact hok j c' hj hc'
        · rw [hc] at hc'; cases hc'; exact hoc
      · have hoc : okC c = false := by unfold okC; rw [hcn]; simp; omega
        refine vw_sc 0 [.far (.bool true), .far (.bool false), .far (.bool true), .far (.bool true), .far (.bool true)] ?_
        simp only [bs, ↓vopx, ↓vop, Nat.reduceBEq, thenV, flat, Nat.reduceLT, gtmp, hl, wocs, ↓goc, ↓woc, ↓vopm0, ↓pick_tt, ↓pick_ff, ↓pick_tf, ↓farC]
        repeat ((with_reducible refine And.intro ?_ ?_); · first | (with_reducible assumption) | omega | exact ⟨by omega, by omega⟩ | exact far8 (lss8 _ _ _ _ _ _) (by simp; try omega) | exact far8 (lss8 _ _ _ _ _ _) (by simp; try omega) | exact far8 (gtr8 _ _ _ _ _ _) (by simp; try omega) | exact far8 (neq8 _ _ _ _ _ _) (by simp; try omega) | exact far8 (neq8 _ _ _ _ _ _) (by simp; try omega) | with_reducible rfl | (repeat' first | exact Keep.refl _ | refine Keep.add ?_ ?_ _ | refine Keep.set ?_ ?_ _ | exact Nat.le_refl _ | (simp only [Sg.add, Sg.set, Sg.del]; omega)))
        refine hK13 _ _ ?_
        refine vck fun A B hA hB => ?_
        simp only [condV, ev_hit, lpv, Nat.reduceLT, true_implies, reduceCtorEq, false_implies, and_true, hl]
        refine hA ?_
        clear hA hB A B
        refine vsk fun K15 hK15 => ?_
        refine vw_sc 0 [] ?_
        simp only [bs, ↓vopx, ↓vop, thenV, flat, wocs, ↓goc, ↓woc, ↓vopm0]
        repeat ((with_reducible refine And.intro ?_ ?_); · first | (with_reducible assumption) | omega | exact ⟨by omega, by omega⟩ | with_reducible rfl | (repeat' first | exact Keep.refl _ | refine Keep.add ?_ ?_ _ | refine Keep.set ?_ ?_ _ | exact Nat.le_refl _ | (simp only [Sg.add, Sg.set, Sg.del]; omega)))
        refine hK15 _ _ ?_
        refine vw_ret ?_
        have hpf := pathS_no3 hc hoc
        refine hQ _ _ _ (.inr rfl) ?_
        rw [hpf]
        refine done_tmp ?_ fun n b hn h => h
        try simp only [ev_hit, lpv, hl, Nat.reduceLT]
      · have hoc : okC c = true := by unfold okC; rw [hcn]; simp; omega
        refine vw_sc 0 [.far (.bool false), .far (.bool false)] ?_
        simp only [bs, ↓vopx, ↓vop, Nat.reduceBEq, thenV, flat, Nat.reduceLT, gtmp, hl, wocs, ↓goc, ↓woc, ↓vopm0, ↓pick_ff, ↓pick_ft, ↓farC]
        repeat ((with_reducible refine And.intro ?_ ?_); · first | (with_reducible assumption) | omega | exact ⟨by omega, by omega⟩ | exact far8 (lss8 _ _ _ _ _ _) (by simp; try omega) | exact far8 (gtr8 _ _ _ _ _ _) (by simp; try omega) | with_reducible rfl | (repeat' first | exact Keep.refl _ | refine Keep.add ?_ ?_ _ | refine Keep.set ?_ ?_ _ | exact Nat.le_refl _ | (simp only [Sg.add, Sg.set, Sg.del]; omega)))
        refine hK13 _ _ ?_
        refine vck fun A B hA hB => ?_
        simp only [condV, ev_hit, lpv, Nat.reduceLT, true_implies, reduceCtorEq, false_implies, true_and, hl]
        refine hB ?_
        clear hA hB A B
        refine vw_skip ?_
        refine hK10 _ _ ?_
        refine vw_sc 0 [] ?_
        simp only [bs, ↓vopx, ↓vop, Nat.reduceBEq, thenV, flat, Nat.reduceLT, opII, hl, h0, h13, h_k, wocs, ↓goc, ↓woc, ↓vopm0]
        repeat ((with_reducible refine And.intro ?_ ?_); · first | (with_reducible assumption) | omega | exact ⟨by omega, by omega⟩ | with_reducible rfl | (repeat' first | exact Keep.refl _ | refine Keep.add ?_ ?_ _ | refine Keep.set ?_ ?_ _ | exact Nat.le_refl _ | (simp only [Sg.add, Sg.set, Sg.del]; omega)))
        refine ⟨b.size - (k + 1), by omega, k + 1, rfl, by omega, ?_⟩
        try simp only [ev_hit, ev_miss, Nat.reduceBEq, lpv, hl, h0, h13, h_k, if_true, if_false, Nat.reduceEqDiff, Nat.reduceLT, true_and, and_true]
        repeat ((with_reducible refine And.intro ?_ ?_); · first | trivial | assumption | omega | rfl | (push_cast; rfl) | exact ⟨by omega, by omega⟩)
        intro j c' hj hc'
        rcases Nat.lt_succ_iff_lt_or_eq.1 hj with hj | rfl
        · exact hok j c' hj hc'
        · rw [hc] at hc'; cases hc'; exact hoc
      · have hoc : okC c = false := by unfold okC; rw [hcn]; simp; omega
        refine vw_sc 0 [.far (.bool false), .far (.bool true), .far (.bool false), .far (.bool true), .far (.bool true), .far (.bool true)] ?_
        simp only [bs, ↓vopx, ↓vop, Nat.reduceBEq, thenV, flat, Nat.reduceLT, gtmp, hl, wocs, ↓goc, ↓woc, ↓vopm0, ↓pick_tt, ↓pick_ff, ↓farC]
        repeat ((with_reducible refine And.intro ?_ ?_); · first | (with_reducible assumption) | omega | exact ⟨by omega, by omega⟩ | exact far8 (lss8 _ _ _ _ _ _) (by simp; try omega) | exact far8 (gtr8 _ _ _ _ _ _) (by simp; try omega) | exact far8 (lss8 _ _ _ _ _ _) (by simp; try omega) | exact far8 (gtr8 _ _ _ _ _ _) (by simp; try omega) | exact far8 (neq8 _ _ _ _ _ _) (by simp; try omega) | exact far8 (neq8 _ _ _ _ _ _) (by simp; try omega) | with_reducible rfl | (repeat' first | exact Keep.refl _ | refine Keep.add ?_ ?_ _ | refine Keep.set ?_ ?_ _ | exact Nat.le_refl _ | (simp only [Sg.add, Sg.set, Sg.del]; omega)))
        refine hK13 _ _ ?_
        refine vck fun A B hA hB => ?_
        simp only [condV, ev_hit, lpv, Nat.reduceLT, true_implies, reduceCtorEq, false_implies, and_true, hl]
        refine hA ?_
        clear hA hB A B
        refine vsk fun K16 hK16 => ?_
        refine vw_sc 0 [] ?_
        simp only [bs, ↓vopx, ↓vop, thenV, flat, wocs, ↓goc, ↓woc, ↓vopm0]
        repeat ((with_reducible refine And.intro ?_ ?_); · first | (with_reducible assumption) | omega | exact ⟨by omega, by omega⟩ | with_reducible rfl | (repeat' first | exact Keep.refl _ | refine Keep.add ?_ ?_ _ | refine Keep.set ?_ ?_ _ | exact Nat.le_refl _ | (simp only [Sg.add, Sg.set, Sg.del]; omega)))
        refine hK16 _ _ ?_
        refine vw_ret ?_
        have hpf := pathS_no3 hc hoc
        refine hQ _ _ _ (.inr rfl) ?_
        rw [hpf]
        refine done_tmp ?_ fun n b hn h => h
        try simp only [ev_hit, lpv, hl, Nat.reduceLT]
    · clear hA hB A B
      refine vw_exit ?_
      simp only [thenV, blockV, if_true]
      refine hK6 _ _ ?_
      refine vsk fun K17 hK17 => ?_
      refine vw_sc 0 [] ?_
      simp only [bs, ↓vopx, ↓vop, thenV, flat, wocs, ↓goc, ↓woc, ↓vopm0]
      repeat ((with_reducible refine And.intro ?_ ?_); · first | (with_reducible assumption) | omega | exact ⟨by omega, by omega⟩ | with_reducible rfl | (repeat' first | exact Keep.refl _ | refine Keep.add ?_ ?_ _ | refine Keep.set ?_ ?_ _ | exact Nat.le_refl _ | (simp only [Sg.add, Sg.set, Sg.del]; omega)))
      refine hK17 _ _ ?_
      refine vw_ret ?_
      refine hQ _ _ _ (.inr rfl) ?_
      rw [pathS_yes (by omega) hz2 (fun j c hj => hok j c (by omega))]
      refine done_tmp ?_ fun n b hn h => h
      try simp only [ev_hit, lpv, hl, Nat.reduceLT]
end Go.Proofs
