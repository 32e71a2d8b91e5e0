/- Lemmas on the way to the statement of this claim; no conditions. -/
import Derived.Shelf.SlicesE.Delete
import Derived.Sort.EveryDepth
import Derived.Test.YtjidblndipcofaaDoorA32
import Derived.Test.YtjidblndipcofaaDoorA36
import Derived.Test.YtjidblndipcofaaDoorA44
namespace Go.Proofs
open Go.Shelf
def Tryd.laysSlE45_f90_ren : Go.Shelf.Ren := ⟨fun | 45 => 59 | n => n, fun | 22 => 106 | 23 => 85 | 3 => 3 | 4 => 4 | 0 => 0 | n => n, fun | n => n⟩
theorem Tryd.laysSlE45_f90 : Go.Proofs.SlLaysE.n45 Tryd.prog Tryd.laysSlE45_f90_ren := {
  mixed := by kernel_rfl
  f45 := ⟨Tryd.f59.name, by decide, Tryd.func59.trans (congrArg some (by kernel_rfl))⟩
  t0 := Tryd.underlying0
  a0 := Tryd.isAgg0
  z0 := Tryd.sizeOf0
  v0 := Tryd.zeroValue0
  t3 := Tryd.underlying3
  a3 := Tryd.isAgg3
  z3 := Tryd.sizeOf3
  v3 := Tryd.zeroValue3
  t4 := Tryd.underlying4
  a4 := Tryd.isAgg4
  z4 := Tryd.sizeOf4
  v4 := Tryd.zeroValue4
  t22 := Tryd.underlying106
  a22 := Tryd.isAgg106
  z22 := Tryd.sizeOf106
  v22 := Tryd.zeroValue106
  a23 := Tryd.isAgg85
  z23 := Tryd.sizeOf85 }
end Go.Proofs
open Go Go.V
namespace Go.V
theorem chg_more {P : Program} {B : Nat} {s : Sg} {ρ : Rho} {w : World} (hs : SR P B s ρ w) {n : Nat} {c : Blk} (hn : s.m n = some c) {bl : Nat} (hb : (ρ n).blk = some bl) (b : Blk) {w' : World}
    (h1 : w'.os = w.os) (h2 : w'.tape = w.tape) (h3 : w'.output = w.output) (h4 : w.heap.size ≤ w'.heap.size) (h5 : ∀ x, x < w.heap.size → x ≠ bl → w'.heap[x]? = w.heap[x]?)
    (h6 : ∀ rec, w.heap[bl]? = some (Obj.loop rec) → ∃ rec', w'.heap[bl]? = some (Obj.loop rec')) : Chg B s ρ w (s.set n b) w' n (ρ n) b where
  os := h1
  tape := h2
  output := h3
  size := h4
  same x hx he _ := h5 x hx (fun e => he (by rw [hb, e]))
  here m d hm := by
    unfold Sg.set at hm
    simp only at hm
    split at hm
    · rename_i e; cases hm; exact .inl ⟨e, rfl⟩
    · rename_i hne
      refine .inr ⟨hne, hm, ?_⟩
      rw [hb]
      by_cases hx : (ρ m).blk = some bl
      · exact absurd (hs.inj m n d c bl hm hn hx hb) hne
      · exact .inr hx
  name := .inr ⟨rfl, hs.lt n c hn, ⟨c, hn⟩, rfl⟩
  owned x hx := ⟨hs.lo n c x hn hx, .inr ⟨n, c, hn, hx⟩⟩
  loops l rec hl := by
    by_cases e : l = bl
    · subst e; exact h6 rec hl
    · exact ⟨rec, (h5 l (heap_lt hl) e).trans hl⟩
theorem repTs_all2 {w : World} {A : Nat → Prop} : ∀ {cs : List T} {arr : Array Value}, cs.length ≤ arr.size → RepTs w A cs arr 0 → All2 (RepT w A) cs (arr.toList.take cs.length) := by
  intro cs arr hl h
  rw [repTs_iff] at h
  have key : ∀ (cs : List T) (l : List Value), cs.length = l.length → (∀ (i : Nat) (c : T), cs[i]? = some c → ∃ x : Value, l[i]? = some x ∧ RepT w A c x) → All2 (RepT w A) cs l := by
    intro cs
    induction cs with
    | nil => intro l hl _; cases l with
      | nil => trivial
      | cons a l => cases hl
    | cons c cs ih => intro l hl hc; cases l with
      | nil => cases hl
      | cons a l =>
        refine ⟨?_, ih l (by simpa using hl) fun i c hi => by simpa using hc (i + 1) c (by simpa using hi)⟩
        obtain ⟨x, hx, hr⟩ := hc 0 c rfl
        simp at hx; subst hx; exact hr
  refine key cs _ (by simp; omega) fun i c hi => ?_
  obtain ⟨x, hx, hr⟩ := h i c hi
  have hlt := (List.getElem?_eq_some_iff.1 hi).1
  rw [Nat.zero_add] at hx
  exact ⟨x, by rw [List.getElem?_take, if_pos hlt, Array.getElem?_toList]; exact hx, hr⟩
theorem All2.at {α β : Type} {R : α → β → Prop} {l : List α} {m : List β} (h : All2 R l m) {i : Nat} {a : α} (hi : l[i]? = some a) : ∃ b, m[i]? = some b ∧ R a b := h.get i a hi
end Go.V
namespace Go.Proofs
open Go.Sort Go.Shelf
abbrev OneC := { v : Value // v.oneCell' = true }
instance : Inhabited OneC := ⟨⟨.slice none 0 0, rfl⟩⟩
theorem oDelete_ (s : Sg) (n : Nat) (cls : List (List Int)) (junk : List T) (hn : s.m n = some (.arr 1 85 (cls.map tInts ++ junk))) (i : Nat) (hi : i < cls.length) :
    VCall Tryd.prog 59 [.loc n 0 cls.length, I i, I ((i : Int) + 1)] s fun v s' => v = .loc n 0 (cls.length - 1) ∧ s' = s.set n (.arr 1 85 ((cls.eraseIdx i).map tInts ++ (.v (.slice none 0 0)) :: junk)) := by
  intro B ρ w vs hs hB ha
  match vs, ha with
  | [y, y1, y2], ⟨⟨hnl, ⟨ya, yc, hy⟩, hloc⟩, g1, g2, _⟩ =>
  have g1 := repV (w := w) (A := Fr s ρ) g1
  have g2 := repV (w := w) (A := Fr s ρ) g2
  subst g1 g2
  rcases hloc _ hn with ⟨_, _, hz⟩ | ⟨h1, _⟩ | ⟨bl, cp, hb, hdy, hlc, hcap, hmx⟩
  · omega
  · omega
  obtain ⟨hk1, hk0, hr | ⟨bl', arr, hb', hh, h5, h6, h7⟩⟩ := hs.rep n _ hn
  · rw [hr.1] at hb; cases hb
  rw [hb] at hb'; cases hb'
  have hbl : bl < w.heap.size := heap_lt hh
  have hcl : (cls.map tInts ++ junk).length = cls.length + junk.length := by simp
  have hsz : cls.length + junk.length ≤ arr.size := by rw [← hcl, ← h6]; exact h5
  have h7' := (repTs_iff _ _).1 h7
  have hA : All2 (RepT w (Fr s ρ)) (cls.map tInts) (arr.toList.take cls.length) := by
    have := repTs_all2 (w := w) (A := Fr s ρ) (cs := cls.map tInts) (arr := arr) (by simp; omega) ((repTs_iff _ _).2 fun j c hj => h7' j c (by rw [List.getElem?_append_left (List.getElem?_eq_some_iff.1 hj).1]; exact hj))
    simpa using this
  have hone : ∀ v ∈ arr.toList.take cls.length, v.oneCell' = true := by
    intro v hv
    obtain ⟨j, hj⟩ := List.mem_iff_getElem?.1 hv
    have hjl : j < cls.length := by have := (List.getElem?_eq_some_iff.1 hj).1; simp at this; omega
    obtain ⟨x, hx, hr⟩ := hA.at (i := j) (List.getElem?_eq_getElem (by simpa using hjl))
    rw [hj] at hx; cases hx; exact hr.one
  obtain ⟨dl, hdl⟩ : ∃ dl : List OneC, dl.map (·.1) = arr.toList.take cls.length := ⟨(arr.toList.take cls.length).pmap Subtype.mk hone, by rw [List.map_pmap]; simp⟩
  have hdn : dl.length = cls.length := by have := congrArg List.length hdl; simp at this; omega
  have hdat : ∀ j, j < dl.toArray.size → (dl.toArray[j]!).1 = arr[j]! ∧ j < cls.length := fun j hj => by
    have hj' : j < dl.length := by simpa using hj
    have h1 : (dl.map (·.1))[j]? = some (dl[j]).1 := by rw [List.getElem?_map, List.getElem?_eq_getElem hj']; rfl
    rw [hdl, List.getElem?_take, if_pos (by omega), Array.getElem?_toList] at h1
    have hja : j < arr.size := by omega
    rw [Array.getElem?_eq_getElem hja] at h1
    rw [getElem!_pos _ j hj, getElem!_pos _ j hja]
    exact ⟨by simpa using (Option.some.inj h1).symm, by omega⟩
  have hH : Holds (Subtype.val : OneC → Value) w bl 0 dl.toArray := fun j hj => by
    obtain ⟨h1, h2⟩ := hdat j hj
    refine ⟨?_, ?_⟩
    · unfold World.cell?
      rw [Nat.zero_add]
      simp only [hh]
      rw [show (if (none : Option Nat).isSome = true then none else arr[j]?) = arr[j]? from rfl, Array.getElem?_eq_getElem (by omega), h1, getElem!_pos _ j (by omega)]
    · unfold World.frozen?; simp [hh]
  refine callsIn_wide.2 ?_
  rw [hdy]
  obtain ⟨i0, hi0, hz1⟩ : ∃ i0, Tryd.prog.info? 85 = some i0 ∧ i0.size = 1 := by
    have h := Tryd.sz85
    cases hq : Tryd.prog.info? 85 with
    | none => simp [szOf, hq] at h
    | some i0 => simp [szOf, hq] at h; exact ⟨i0, rfl, h⟩
  have hmain := AnyE.slices_Delete Tryd.laysSlE45_f90 (Subtype.val : OneC → Value) (fun x => x.2) ⟨.slice none 0 0, rfl⟩ Tryd.zeroValue85 i0 hi0 hz1 bl 0 cp i (i + 1) dl.toArray w hH (by simp; omega) (by unfold maxLen at hmx; omega) (by omega) (by simp; omega)
  have hd0 : dl.toArray.size = cls.length := by simpa using hdn
  rw [hd0, show (((i + 1 : Nat)) : Int) = (i : Int) + 1 from by push_cast; rfl] at hmain
  refine hmain.mono fun e w' he => ?_
  obtain ⟨rfl, q, rfl⟩ := he
  generalize hdd : (dl.toArray.toList.take i ++ dl.toArray.toList.drop (i + 1) ++ List.replicate (i + 1 - i) (⟨.slice none 0 0, rfl⟩ : OneC)) = dd
  have hddv : dd.map (·.1) = ((arr.toList.take cls.length).eraseIdx i) ++ [.slice none 0 0] := by
    rw [← hdd, List.eraseIdx_eq_take_drop_succ, ← hdl]
    simp [List.map_append, List.map_take, List.map_drop, show i + 1 - i = 1 by omega]
  have hddn : dd.length = cls.length := by
    have := congrArg List.length hddv
    simp [List.length_eraseIdx] at this
    have hm : min cls.length arr.size = cls.length := by omega
    rw [hm, if_pos hi] at this; omega
  have hsz2 : (putRow (Subtype.val : OneC → Value) (Go.Sort.ahead w q) bl 0 dd.toArray).heap.size = w.heap.size := by simp [putRow, mapBlock, Go.Sort.ahead]
  have hold : ∀ x, x < w.heap.size → x ≠ bl → (putRow (Subtype.val : OneC → Value) (Go.Sort.ahead w q) bl 0 dd.toArray).heap[x]? = w.heap[x]? := fun x hx hxb => by
    simp only [putRow, mapBlock, Go.Sort.ahead, Array.getElem?_modify]
    rw [if_neg (Ne.symm hxb)]
  have hnew : (putRow (Subtype.val : OneC → Value) (Go.Sort.ahead w q) bl 0 dd.toArray).heap[bl]? = some (.cells (putCells (Subtype.val : OneC → Value) 0 dd.toArray arr) 85 (0, 0)) := by
    simp only [putRow, mapBlock, Go.Sort.ahead, Array.getElem?_modify, if_true]
    rw [hh]; rfl
  have hchg := chg_more hs hn hb (.arr 1 85 ((cls.eraseIdx i).map tInts ++ (.v (.slice none 0 0)) :: junk)) (w' := putRow (Subtype.val : OneC → Value) (Go.Sort.ahead w q) bl 0 dd.toArray) rfl rfl rfl (by rw [hsz2]; omega) hold (fun rec hl => by rw [hh] at hl; cases hl)
  have hst := hchg.stp
  rw [up_self] at hst
  have hE : All2 (RepT w (Fr s ρ)) ((cls.eraseIdx i).map tInts ++ [.v (.slice none 0 0)]) (dd.map (·.1)) := by
    rw [hddv]
    have h1 : (cls.eraseIdx i).map tInts = (cls.map tInts).eraseIdx i := by
      apply List.ext_getElem?
      intro j
      simp only [List.getElem?_map, List.getElem?_eraseIdx]
      split <;> rfl
    rw [h1]
    exact (hA.erase i).append ⟨by rw [RepT]; exact ⟨rfl, rfl⟩, trivial⟩
  have hel : (cls.eraseIdx i).length = cls.length - 1 := by rw [List.length_eraseIdx, if_pos hi]
  have hspl : (cls.eraseIdx i).map tInts ++ (T.v (Value.slice none 0 0)) :: junk = ((cls.eraseIdx i).map tInts ++ [T.v (Value.slice none 0 0)]) ++ junk := by simp
  have hsl : ((cls.eraseIdx i).map tInts ++ [T.v (Value.slice none 0 0)]).length = cls.length := by rw [List.length_append, List.length_map, hel]; simp; omega
  have hcel : ∀ j, j < cls.length → (putCells (Subtype.val : OneC → Value) 0 dd.toArray arr)[j]? = (dd.map (·.1))[j]? := fun j hj => by
    have hja : j < arr.size := by omega
    have hjd : j < dd.toArray.size := by simpa [hddn] using hj
    rw [putCells, Array.getElem?_mapIdx, Array.getElem?_eq_getElem hja, Option.map_some, if_pos ⟨by omega, by omega⟩, Nat.sub_zero, getElem!_pos _ j hjd, List.getElem?_map, List.getElem?_eq_getElem (by omega)]
    simp
  have hcel2 : ∀ j, cls.length ≤ j → (putCells (Subtype.val : OneC → Value) 0 dd.toArray arr)[j]? = arr[j]? := fun j hj => by
    rw [putCells, Array.getElem?_mapIdx]
    have : ¬ (0 ≤ j ∧ j < 0 + dd.toArray.size) := by simp; omega
    simp only [this, if_false]
    cases arr[j]? <;> rfl
  refine ⟨_, .loc n 0 (cls.length - 1), s.set n (.arr 1 85 ((cls.eraseIdx i).map tInts ++ (.v (.slice none 0 0)) :: junk)), ρ, rfl, ⟨rfl, rfl⟩, ?_, ?_, hst⟩
  · have := hchg.sr hs ?_
    · rwa [up_self] at this
    · rw [up_self]
      refine ⟨hk1, hk0, .inr ⟨bl, _, hb, hnew, ?_, ?_, (repTs_iff _ _).2 fun j c hj => ?_⟩⟩
      · have : ((cls.eraseIdx i).map tInts ++ (T.v (Value.slice none 0 0)) :: junk).length = cls.length + junk.length := by
          rw [hspl, List.length_append, hsl]
        rw [this, h6]; exact hsz
      · simp [putCells, h6]
      · rw [Nat.zero_add]
        by_cases hjl : j < cls.length
        · have hj' : ((cls.eraseIdx i).map tInts ++ [T.v (Value.slice none 0 0)])[j]? = some c := by
            have hj2 := hj
            rw [hspl, List.getElem?_append_left (by rw [hsl]; exact hjl)] at hj2
            exact hj2
          obtain ⟨x, hx, hr⟩ := hE.at hj'
          exact ⟨x, by rw [hcel j hjl]; exact hx, RepT.mono hst.keep hr⟩
        · have hj' : junk[j - cls.length]? = some c := by
            have hj2 := hj
            rw [hspl, List.getElem?_append_right (by rw [hsl]; omega), hsl] at hj2
            exact hj2
          obtain ⟨x, hx, hr⟩ := h7' j c (by rw [List.getElem?_append_right (by simp; omega)]; simpa using hj')
          rw [Nat.zero_add] at hx
          exact ⟨x, by rw [hcel2 j (by omega)]; exact hx, RepT.mono hst.keep hr⟩
  · rw [show cls.length - (i + 1 - i) = cls.length - 1 by omega]
    exact ⟨hnl, ⟨_, _, rfl⟩, fun b hb2 => .inr (.inr ⟨bl, cp, hb, rfl, by omega, hcap, hmx⟩)⟩
end Go.Proofs

open Go Go.V
namespace Go.Proofs
def fstI (M : Mx) (cls : List (List Int)) : Option Nat := (List.range cls.length).find? (fstS M cls)
def srtF (M : Mx) : Nat → List (List Int) → List Int → List Int
  | 0, _, out => out
  | f + 1, cls, out => match fstI M cls with
    | none => out
    | some i => srtF M f (cls.eraseIdx i) (out ++ cls.getD i [])
def srtS (n : Nat) (M : Mx) : List Int := srtF (cloK M n) (cirS n (cloK M n)).length (cirS n (cloK M n)) []
theorem fstI_none {M : Mx} {cls : List (List Int)} (h : ∀ x, x < cls.length → fstS M cls x = false) : fstI M cls = none := by
  unfold fstI; rw [List.find?_eq_none]; intro x hx; rw [h x (List.mem_range.1 hx)]; simp
theorem fstI_some {M : Mx} {cls : List (List Int)} {i : Nat} (hi : i < cls.length) (h : ∀ x, x < i → fstS M cls x = false) (hf : fstS M cls i = true) : fstI M cls = some i := by
  unfold fstI
  rw [List.find?_eq_some_iff_append]
  refine ⟨hf, List.range i, (List.range (cls.length - i)).tail.map (· + i), ?_, fun x hx => by rw [h x (List.mem_range.1 hx)]; rfl⟩
  apply List.ext_getElem?
  intro j
  by_cases hj : j < i
  · rw [List.getElem?_append_left (by simpa using hj)]; simp [hj, show j < cls.length by omega]
  · rw [List.getElem?_append_right (by simp; omega), List.length_range]
    by_cases hj2 : j < cls.length
    · rw [List.getElem?_range hj2]
      by_cases hj3 : j = i
      · subst hj3; simp
      · obtain ⟨d, rfl⟩ : ∃ d, j = i + (d + 1) := ⟨j - i - 1, by omega⟩
        rw [show i + (d + 1) - i = d + 1 by omega, List.getElem?_cons_succ, List.getElem?_map, List.getElem?_tail, List.getElem?_range (by omega)]
        simp; omega
    · rw [List.getElem?_eq_none (by simp; omega), List.getElem?_eq_none]
      simp; omega
theorem clsOK_cir (n : Nat) (M : Mx) : ∀ i, i ≤ n → ClsOK n (cirK n M i).1 ∧ ∀ c ∈ (cirK n M i).1, c.length ≤ n + 1
  | 0, _ => ⟨fun k c h => by simp [cirK] at h, fun c h => by simp [cirK] at h⟩
  | i + 1, hi => by
    obtain ⟨h1, h2⟩ := clsOK_cir n M i (by omega)
    simp only [cirK]
    split
    · exact ⟨h1, h2⟩
    · refine ⟨fun k c h => ?_, fun c h => ?_⟩
      · rcases Nat.lt_or_ge k (cirK n M i).1.length with hk | hk
        · rw [List.getElem?_append_left hk] at h; exact h1 k c h
        · rw [List.getElem?_append_right hk] at h
          have : c = cirC M i n := by
            cases hq : k - (cirK n M i).1.length with
            | zero => rw [hq] at h; simpa using h.symm
            | succ q => rw [hq] at h; simp at h
          subst this
          exact ⟨i, rfl, by omega⟩
      · rcases List.mem_append.1 h with h | h
        · exact h2 c h
        · simp at h; subst h; exact cirC_len M i n
theorem ClsOK.erase {n : Nat} {cls : List (List Int)} (h : ClsOK n cls) (i : Nat) : ClsOK n (cls.eraseIdx i) := fun k c hk => by
  have := List.mem_of_mem_eraseIdx (List.mem_of_getElem? hk)
  obtain ⟨j, hj⟩ := List.mem_iff_getElem?.1 this
  exact h j c hj
structure SrtI (s0 : Sg) (n : Nat) (M : Mx) (cls : List (List Int)) (junk : List T) (out : List Int) (mo m5 : Nat) (s' : Sg) : Prop where
  hc : s'.m mo = some (.arr 1 85 (cls.map tInts ++ junk))
  ho : s'.m m5 = some (.arr 1 3 (out.map TI))
  hk : Keep s0 s'
  l : s0.next ≤ mo ∧ mo < s'.next ∧ s0.next ≤ m5 ∧ m5 < s'.next ∧ mo ≠ m5
  ok : ClsOK n cls
  bc : ∀ c ∈ cls, c.length ≤ 201
  bo : out.length + 201 * cls.length ≤ 201 * 201
  eq : srtF (cloK M n) cls.length cls out = srtS n M
theorem SrtI.step {s0 : Sg} {n : Nat} {M : Mx} {cls : List (List Int)} {junk : List T} {out : List Int} {mo m5 : Nat} {s1 : Sg} (h : SrtI s0 n M cls junk out mo m5 s1) {i : Nat} {c : List Int} (hc : cls[i]? = some c) (hf : fstI (cloK M n) cls = some i) :
    SrtI s0 n M (cls.eraseIdx i) ((.v (.slice none 0 0)) :: junk) (out ++ c) mo s1.next (((s1.del m5).add (.arr 1 3 (out.map TI ++ c.map TI))).set mo (.arr 1 85 ((cls.eraseIdx i).map tInts ++ (.v (.slice none 0 0)) :: junk))) := by
  obtain ⟨h1, h2, h3, ⟨l1, l2, l3, l4, l5⟩, h5, h6, h7, h8⟩ := h
  have hi := (List.getElem?_eq_some_iff.1 hc).1
  have hel : (cls.eraseIdx i).length + 1 = cls.length := by rw [List.length_eraseIdx, if_pos hi]; omega
  have hcl := h6 c (List.mem_of_getElem? hc)
  refine ⟨by rw [m_set, if_pos rfl], by rw [m_set, if_neg (by omega), m_add, if_pos (by simp only [n_del]), List.map_append], ((h3.del l3).add (by simp only [n_del]; omega) _).set l1 _, ⟨l1, by simp only [n_set, n_add, n_del]; omega, by omega, by simp only [n_set, n_add, n_del]; omega, by omega⟩, h5.erase i, fun c hc => h6 c (List.mem_of_mem_eraseIdx hc), by rw [List.length_append]; omega, ?_⟩
  rw [← h8, ← hel]
  simp only [srtF, hf, List.getD_eq_getElem?_getD, hc, Option.getD_some]
theorem SrtI.stop {s0 : Sg} {n : Nat} {M : Mx} {cls : List (List Int)} {junk : List T} {out : List Int} {mo m5 : Nat} {s1 : Sg} (h : SrtI s0 n M cls junk out mo m5 s1) (hf : fstI (cloK M n) cls = none) : out = srtS n M := by
  rw [← h.eq]
  cases hn : cls.length with
  | zero => rfl
  | succ k => simp only [srtF, hf]
set_option maxRecDepth 20000 in
theorem oFirstL_ (s : Sg) (p n : Nat) (M : Mx) (na : Nat) (rp rq : Nat → Nat) (h : RelP s p n M na rp rq) (cls : List (List Int)) (junk : List T) (mo : Nat) (hmo : s.m mo = some (.arr 1 85 (cls.map tInts ++ junk))) (hc0 : ClsOK n cls) (hcl : cls.length ≤ 1000) (i : Nat) (hi : i < cls.length) : DCall Tryd.prog 58 [.ptr p 0, .loc mo 0 cls.length, I i] s (Bo (fstS M cls i)) (s) := by
  refine dcall_of_body Tryd.func58 rfl fun Q hQ => ?_
  obtain ⟨e, he, hl, h0, h1, h2⟩ : ∃ e : Env, ([.ptr p 0, .loc mo 0 cls.length, I i] ++ List.replicate (Tryd.f58.ntmps - ([.ptr p 0, .loc mo 0 cls.length, I i] : List V).length) .junk) = e ∧ e.length = 33 ∧ ev e (.tmp 0) = .ptr p 0 ∧ ev e (.tmp 1) = .loc mo 0 cls.length ∧ ev e (.tmp 2) = I i := ⟨_, rfl, rfl, rfl, rfl, rfl⟩
  rw [he]
  clear he
  refine vsk fun K1 hK1 => ?_
  refine vw_sc 0 [] ?_
  simp only [bs, ↓vopx, ↓vop, thenV, flat, wocs, ↓goc, ↓woc, ↓vopm0]
  repeat ((with_reducible refine And.intro ?_ ?_); · first | (with_reducible assumption) | omega | exact ⟨by omega, by omega⟩ | with_reducible rfl | (repeat' first | exact Keep.refl _ | refine Keep.add ?_ ?_ _ | refine Keep.set ?_ ?_ _ | exact Nat.le_refl _ | (simp only [Sg.add, Sg.set, Sg.del]; omega)))
  refine hK1 _ _ ?_
  refine vsk fun K2 hK2 => ?_
  refine vsk fun K3 hK3 => ?_
  refine vw_sc 0 [] ?_
  simp only [bs, ↓vopx, ↓vop, Nat.reduceBEq, thenV, flat, Nat.reduceLT, hl, h1, wocs, ↓goc, ↓woc, ↓vopm0]
  repeat ((with_reducible refine And.intro ?_ ?_); · first | (with_reducible assumption) | omega | exact ⟨by omega, by omega⟩ | with_reducible rfl | (repeat' first | exact Keep.refl _ | refine Keep.add ?_ ?_ _ | refine Keep.set ?_ ?_ _ | exact Nat.le_refl _ | (simp only [Sg.add, Sg.set, Sg.del]; omega)))
  refine hK3 _ _ ?_
  refine vw_block ?_
  refine vw_loop (fun mm e' s' => ∃ k : Nat, mm = cls.length - k ∧ k ≤ cls.length ∧ e'.length = 33 ∧ ev e' (.tmp 0) = .ptr p 0 ∧ ev e' (.tmp 1) = .loc mo 0 cls.length ∧ ev e' (.tmp 2) = I i ∧ ev e' (.tmp 9) = .loc mo 0 cls.length ∧ ev e' (.tmp 10) = I cls.length ∧ ev e' (.tmp 11) = I k ∧ s = s' ∧ ∀ x, x < k → ahB M cls i x = false) (⟨0, rfl, Nat.zero_le _, ?_⟩) ?_
  · try simp only [ev_hit, ev_miss, Nat.reduceBEq, lpv, hl, h0, h1, h2, Nat.reduceLT, true_and]
    repeat ((with_reducible refine And.intro ?_ ?_); · first | trivial | assumption | omega | rfl | (push_cast; rfl) | exact ⟨by omega, by omega⟩)
    all_goals (exact fun x hx => by omega)
  rintro mm e _ ⟨k, rfl, hle_k, hl, h0, h1, h2, h9, h10, h_k, rfl, hno⟩
  refine vsk fun K4 hK4 => ?_
  refine vw_sc 0 [] ?_
  simp only [thenV, opII, h10, h_k, wocs, ↓goc, ↓woc]
  repeat ((with_reducible refine And.intro ?_ ?_); · first | (with_reducible assumption) | omega | exact ⟨by omega, by omega⟩ | with_reducible rfl | (repeat' first | exact Keep.refl _ | refine Keep.add ?_ ?_ _ | refine Keep.set ?_ ?_ _ | exact Nat.le_refl _ | (simp only [Sg.add, Sg.set, Sg.del]; omega)))
  refine hK4 _ _ ?_
  refine vsk fun K5 hK5 => ?_
  refine vck fun A B hA hB => ?_
  simp only [condV, ev_hit, Nat.reduceLT, decide_eq_true_eq, decide_eq_false_iff_not, hl]
  refine ⟨fun hc12 => hA ?_, fun hc12 => hB ?_⟩
  · clear hA hB A B
    refine vw_skip ?_
    refine hK5 _ _ ?_
    refine vsk fun K6 hK6 => ?_
    refine vw_block ?_
    refine vsk fun K7 hK7 => ?_
    have hkl : k < cls.length := by omega
    obtain ⟨c, a, e1, e2_, e3, e4⟩ := clsAt hc0 hkl
    obtain ⟨d, b, f1, f2, f3, f4⟩ := clsAt hc0 hi
    have e5 : 0 < c.length := (List.getElem?_eq_some_iff.1 e2_).1
    have f5 : 0 < d.length := (List.getElem?_eq_some_iff.1 f2).1
    have hah : ahB M cls i k = (k != i && M a b) := by unfold ahB; rw [e4, f4]
    have g1 : (cls.map tInts ++ junk)[k]? = some (tInts c) := by rw [List.getElem?_append_left (by simpa using hkl), List.getElem?_map, e1]; rfl
    have g2 : (cls.map tInts ++ junk)[i]? = some (tInts d) := by rw [List.getElem?_append_left (by simpa using hi), List.getElem?_map, f1]; rfl
    refine vw_sc 0 [] ?_
    simp only [bs, ↓vopx, ↓vop, Nat.reduceBEq, thenV, Nat.reduceLT, dLoad, vpart, hl, h9, h_k, wocs, ↓goc, ↓woc, ↓vopm0, Tryd.ag85, Tryd.sz85, Tryd.un106, hmo, g1]
    repeat ((with_reducible refine And.intro ?_ ?_); · first | (with_reducible assumption) | omega | exact ⟨by omega, by omega⟩ | with_reducible rfl | (repeat' first | exact Keep.refl _ | refine Keep.add ?_ ?_ _ | refine Keep.set ?_ ?_ _ | exact Nat.le_refl _ | (simp only [Sg.add, Sg.set, Sg.del]; omega)))
    refine hK7 _ _ ?_
    refine vsk fun K8 hK8 => ?_
    rcases (show k = i ∨ (k ≠ i ∧ M a b = true) ∨ (k ≠ i ∧ M a b = false) by rcases Classical.em (k = i) with e | e <;> cases M a b <;> simp [e]) with e | ⟨e, e6⟩ | ⟨e, e6⟩
    · have hne : ((k : Int) != (i : Int)) = false := by simp [e]
      have hb : ahB M cls i k = false := by rw [hah]; simp [e]
      refine vw_chain Tryd.mixed 14 [0, 0, 0, 0, 0, 0, 1, 1, 0, 0, 1, 1, 1, 1] [] [] 0 (by decide +kernel) (by simp [lpv, hl]) rfl ?_
      simp only [bs, ↓vopx, ↓vop, Nat.reduceBEq, thenV, flat, Nat.reduceLT, opII, gtmp, hl, h2, wocs, ↓goc, ↓woc, ↓vopm0, ↓callC, ↓pick_ft, calleeV, chn, ↓goq, ↓woq, List.zip_cons_cons, List.zip_nil_right, hne]
      repeat ((with_reducible refine And.intro ?_ ?_); · first | (with_reducible assumption) | omega | exact ⟨by omega, by omega⟩ | with_reducible rfl | (repeat' first | exact Keep.refl _ | refine Keep.add ?_ ?_ _ | refine Keep.set ?_ ?_ _ | exact Nat.le_refl _ | (simp only [Sg.add, Sg.set, Sg.del]; omega)))
      refine hK8 _ _ ?_
      refine vck fun A B hA hB => ?_
      simp only [condV, ev_hit, lpv, Nat.reduceLT, true_implies, reduceCtorEq, false_implies, true_and, hl]
      refine hB ?_
      clear hA hB A B
      refine vw_skip ?_
      refine hK6 _ _ ?_
      refine vw_sc 0 [] ?_
      simp only [bs, ↓vopx, ↓vop, Nat.reduceBEq, thenV, flat, Nat.reduceLT, opII, hl, h0, h1, h2, h9, h10, h_k, wocs, ↓goc, ↓woc, ↓vopm0]
      repeat ((with_reducible refine And.intro ?_ ?_); · first | (with_reducible assumption) | omega | exact ⟨by omega, by omega⟩ | with_reducible rfl | (repeat' first | exact Keep.refl _ | refine Keep.add ?_ ?_ _ | refine Keep.set ?_ ?_ _ | exact Nat.le_refl _ | (simp only [Sg.add, Sg.set, Sg.del]; omega)))
      refine ⟨cls.length - (k + 1), by omega, k + 1, rfl, by omega, ?_⟩
      try simp only [ev_hit, ev_miss, Nat.reduceBEq, lpv, hl, h0, h1, h2, h9, h10, h_k, if_true, if_false, Nat.reduceEqDiff, Nat.reduceLT, true_and, and_true]
      repeat ((with_reducible refine And.intro ?_ ?_); · first | trivial | assumption | omega | rfl | (push_cast; rfl) | exact ⟨by omega, by omega⟩)
      intro x hx
      rcases Nat.lt_succ_iff_lt_or_eq.1 hx with hx | rfl
      · exact hno x hx
      · exact hb
    · have hne : ((k : Int) != (i : Int)) = true := by simp; omega
      have hb : ahB M cls i k = true := by rw [hah]; simp [e, e6]
      refine vw_chain Tryd.mixed 14 [0, 0, 0, 0, 0, 0, 1, 1, 0, 0, 1, 1, 1, 1] [.det (Bo true) s] [] 0 (by decide +kernel) (by simp [lpv, hl]) rfl ?_
      simp only [bs, ↓vopx, ↓vop, Nat.reduceBEq, thenV, flat, Nat.reduceLT, dLoad, vpart, opII, gtmp, hl, h0, h1, h2, wocs, ↓goc, ↓woc, ↓vopm0, ↓vopm1, ↓callC, ↓pick_tt, calleeV, chn, ↓goq, ↓woq, List.zip_cons_cons, List.zip_nil_right, Tryd.ag3, Tryd.ag85, Tryd.sz3, Tryd.sz85, Tryd.un106, Tryd.un85, hmo, hne, g2, e2_, e5, f2, f5, Int.toNat_zero]
      repeat ((with_reducible refine And.intro ?_ ?_); · first | (with_reducible assumption) | omega | exact ⟨by omega, by omega⟩ | exact ⟨Tryd.is54, by simpa only [e6] using hasN_ s p n M na rp rq h e3 f3⟩ | with_reducible rfl | (repeat' first | exact Keep.refl _ | refine Keep.add ?_ ?_ _ | refine Keep.set ?_ ?_ _ | exact Nat.le_refl _ | (simp only [Sg.add, Sg.set, Sg.del]; omega)))
      refine hK8 _ _ ?_
      refine vck fun A B hA hB => ?_
      simp only [condV, ev_hit, lpv, Nat.reduceLT, true_implies, reduceCtorEq, false_implies, and_true, hl]
      refine hA ?_
      clear hA hB A B
      refine vsk fun K9 hK9 => ?_
      refine vw_sc 0 [] ?_
      simp only [bs, ↓vopx, ↓vop, thenV, flat, wocs, ↓goc, ↓woc, ↓vopm0]
      repeat ((with_reducible refine And.intro ?_ ?_); · first | (with_reducible assumption) | omega | exact ⟨by omega, by omega⟩ | with_reducible rfl | (repeat' first | exact Keep.refl _ | refine Keep.add ?_ ?_ _ | refine Keep.set ?_ ?_ _ | exact Nat.le_refl _ | (simp only [Sg.add, Sg.set, Sg.del]; omega)))
      refine hK9 _ _ ?_
      refine vw_ret ?_
      refine hQ _ _ _ (.inr rfl) (Done.toS (done_tmp ?_ fun n b hn h => h))
      try simp only [ev_hit, lpv, hl, Nat.reduceLT]
      rw [show fstS M cls i = false from by unfold fstS; rw [Bool.not_eq_false', List.any_eq_true]; exact ⟨k, List.mem_range.2 hkl, hb⟩]
    · have hne : ((k : Int) != (i : Int)) = true := by simp; omega
      have hb : ahB M cls i k = false := by rw [hah]; simp [e6]
      refine vw_chain Tryd.mixed 14 [0, 0, 0, 0, 0, 0, 1, 1, 0, 0, 1, 1, 1, 1] [.det (Bo false) s] [] 0 (by decide +kernel) (by simp [lpv, hl]) rfl ?_
      simp only [bs, ↓vopx, ↓vop, Nat.reduceBEq, thenV, flat, Nat.reduceLT, dLoad, vpart, opII, gtmp, hl, h0, h1, h2, wocs, ↓goc, ↓woc, ↓vopm0, ↓vopm1, ↓callC, ↓pick_tt, calleeV, chn, ↓goq, ↓woq, List.zip_cons_cons, List.zip_nil_right, Tryd.ag3, Tryd.ag85, Tryd.sz3, Tryd.sz85, Tryd.un106, Tryd.un85, hmo, hne, g2, e2_, e5, f2, f5, Int.toNat_zero]
      repeat ((with_reducible refine And.intro ?_ ?_); · first | (with_reducible assumption) | omega | exact ⟨by omega, by omega⟩ | exact ⟨Tryd.is54, by simpa only [e6] using hasN_ s p n M na rp rq h e3 f3⟩ | with_reducible rfl | (repeat' first | exact Keep.refl _ | refine Keep.add ?_ ?_ _ | refine Keep.set ?_ ?_ _ | exact Nat.le_refl _ | (simp only [Sg.add, Sg.set, Sg.del]; omega)))
      refine hK8 _ _ ?_
      refine vck fun A B hA hB => ?_
      simp only [condV, ev_hit, lpv, Nat.reduceLT, true_implies, reduceCtorEq, false_implies, true_and, hl]
      refine hB ?_
      clear hA hB A B
      refine vw_skip ?_
      refine hK6 _ _ ?_
      refine vw_sc 0 [] ?_
      simp only [bs, ↓vopx, ↓vop, Nat.reduceBEq, thenV, flat, Nat.reduceLT, opII, hl, h0, h1, h2, h9, h10, h_k, wocs, ↓goc, ↓woc, ↓vopm0]
      repeat ((with_reducible refine And.intro ?_ ?_); · first | (with_reducible assumption) | omega | exact ⟨by omega, by omega⟩ | with_reducible rfl | (repeat' first | exact Keep.refl _ | refine Keep.add ?_ ?_ _ | refine Keep.set ?_ ?_ _ | exact Nat.le_refl _ | (simp only [Sg.add, Sg.set, Sg.del]; omega)))
      refine ⟨cls.length - (k + 1), by omega, k + 1, rfl, by omega, ?_⟩
      try simp only [ev_hit, ev_miss, Nat.reduceBEq, lpv, hl, h0, h1, h2, h9, h10, h_k, if_true, if_false, Nat.reduceEqDiff, Nat.reduceLT, true_and, and_true]
      repeat ((with_reducible refine And.intro ?_ ?_); · first | trivial | assumption | omega | rfl | (push_cast; rfl) | exact ⟨by omega, by omega⟩)
      intro x hx
      rcases Nat.lt_succ_iff_lt_or_eq.1 hx with hx | rfl
      · exact hno x hx
      · exact hb
  · clear hA hB A B
    refine vw_exit ?_
    simp only [thenV, blockV, if_true]
    refine hK2 _ _ ?_
    refine vsk fun K10 hK10 => ?_
    refine vw_sc 0 [] ?_
    simp only [bs, ↓vopx, ↓vop, thenV, flat, wocs, ↓goc, ↓woc, ↓vopm0]
    repeat ((with_reducible refine And.intro ?_ ?_); · first | (with_reducible assumption) | omega | exact ⟨by omega, by omega⟩ | with_reducible rfl | (repeat' first | exact Keep.refl _ | refine Keep.add ?_ ?_ _ | refine Keep.set ?_ ?_ _ | exact Nat.le_refl _ | (simp only [Sg.add, Sg.set, Sg.del]; omega)))
    refine hK10 _ _ ?_
    refine vw_ret ?_
    refine hQ _ _ _ (.inr rfl) (Done.toS (done_tmp ?_ fun n b hn h => h))
    try simp only [ev_hit, lpv, hl, Nat.reduceLT]
    rw [show fstS M cls i = true from by unfold fstS; rw [Bool.not_eq_true', List.any_eq_false]; intro x hx; rw [hno x (by have := List.mem_range.1 hx; omega)]; simp]
set_option maxRecDepth 20000 in
set_option maxHeartbeats 4000000 in
theorem oSort_ (s : Sg) (p n : Nat) (M : Mx) (na : Nat) (rp rq : Nat → Nat) (h : RelP s p n M na rp rq) : DCall Tryd.prog 42 [.ptr p 0] s (.t (tInts (srtS n M))) (s) := by
  refine dcall_of_body Tryd.func42 rfl fun Q hQ => ?_
  obtain ⟨e, he, hl, h0⟩ : ∃ e : Env, ([.ptr p 0] ++ List.replicate (Tryd.f42.ntmps - ([.ptr p 0] : List V).length) .junk) = e ∧ e.length = 37 ∧ ev e (.tmp 0) = .ptr p 0 := ⟨_, rfl, rfl, rfl⟩
  rw [he]
  clear he
  have hle := h.le
  refine vsk fun K1 hK1 => ?_
  refine vw_sc 0 [] ?_
  simp only [bs, ↓vopx, ↓vop, thenV, flat, wocs, ↓goc, ↓woc, ↓vopm0]
  repeat ((with_reducible refine And.intro ?_ ?_); · first | (with_reducible assumption) | omega | exact ⟨by omega, by omega⟩ | with_reducible rfl | (repeat' first | exact Keep.refl _ | refine Keep.add ?_ ?_ _ | refine Keep.set ?_ ?_ _ | exact Nat.le_refl _ | (simp only [Sg.add, Sg.set, Sg.del]; omega)))
  refine hK1 _ _ ?_
  refine vw_scope ?_
  refine vsk fun K2 hK2 => ?_
  refine vw_sc 0 [.stop] ?_
  simp only [bs, ↓vopx, ↓vop, Nat.reduceBEq, thenV, Nat.reduceLT, hl, h0, wocs, ↓goc, ↓woc, ↓vopm0, ↓callC, calleeV]
  refine ⟨Tryd.is55, (oClosed_ s p n M na rp rq h).mono fun v s2 hv => ?_⟩
  obtain ⟨c, na1, rp1, rq1, rfl, hR, hF, hk, hnx⟩ := hv
  try simp only [bs, Nat.reduceBEq, Nat.reduceLT, hl, h0, Hold]
  refine hK2 _ _ ?_
  refine vsk fun K3 hK3 => ?_
  refine vw_sc 0 [.stop] ?_
  simp only [bs, ↓vopx, ↓vop, thenV, Nat.reduceLT, hl, wocs, ↓goc, ↓woc, ↓vopm0, ↓callC, calleeV]
  refine ⟨Tryd.is57, (oCircles_ s2 c n _ na1 rp1 rq1 hR).mono fun v s3 hv => ?_⟩
  obtain ⟨mo, rfl, hmo, hk3, lm1, lm2⟩ := hv
  try simp only [bs, Nat.reduceLT, hl, Hold]
  refine hK3 _ _ ?_
  refine vsk fun K4 hK4 => ?_
  refine vw_sc 0 [] ?_
  simp only [bs, ↓vopx, ↓vop, thenV, flat, wocs, ↓goc, ↓woc, ↓vopm0]
  repeat ((with_reducible refine And.intro ?_ ?_); · first | (with_reducible assumption) | omega | exact ⟨by omega, by omega⟩ | with_reducible rfl | (repeat' first | exact Keep.refl _ | refine Keep.add ?_ ?_ _ | refine Keep.set ?_ ?_ _ | exact Nat.le_refl _ | (simp only [Sg.add, Sg.set, Sg.del]; omega)))
  refine hK4 _ _ ?_
  refine vsk fun K5 hK5 => ?_
  refine vw_label ?_
  try simp only [thenV]
  refine hK5 _ _ ?_
  refine vsk fun K6 hK6 => ?_
  refine vw_block ?_
  refine VW.name 5 1 3 (by omega) (by simp only [ev_hit, lpv, hl, Nat.reduceLT]) ?_
  have hlen0 := cirK_len n (cloK M n) n
  have hI0 : SrtI s2 n M (cirS n (cloK M n)) [] [] mo s3.next (s3.add (.arr 1 3 [])) := ⟨by rw [m_add, if_neg (by omega), List.append_nil]; exact hmo, by rw [m_add, if_pos rfl]; rfl, hk3.add (by omega) _, ⟨by omega, by simp only [n_add]; omega, by omega, by simp only [n_add]; omega, by omega⟩, (clsOK_cir n _ n (Nat.le_refl n)).1, fun c hc => by have := (clsOK_cir n _ n (Nat.le_refl n)).2 c hc; omega, by unfold cirS; simp; omega, rfl⟩
  refine vw_loop (fun mm e' s' => ∃ (cls : List (List Int)) (junk : List T) (out : List Int) (m5 : Nat), mm = cls.length ∧ e'.length = 37 ∧ ev e' (.tmp 3) = .ptr c 0 ∧ ev e' (.tmp 4) = .loc mo 0 cls.length ∧ ev e' (.tmp 5) = .loc m5 0 out.length ∧ SrtI s2 n M cls junk out mo m5 s') (⟨cirS n (cloK M n), [], [], s3.next, rfl, ?_⟩) ?_
  · refine ⟨?_, ?_, ?_, ?_, hI0⟩
    all_goals (try simp only [ev_hit, ev_miss, Nat.reduceBEq, lpv, hl, Nat.reduceLT])
    all_goals (try rfl)
  rintro mm e sa ⟨cls, junk, out, m5, rfl, hl, k3, k4, k5, hI⟩
  refine vsk fun K7 hK7 => ?_
  refine vsk fun K8 hK8 => ?_
  refine vw_sc 0 [] ?_
  simp only [bs, ↓vopx, ↓vop, thenV, flat, Nat.reduceLT, opII, hl, k4, wocs, ↓goc, ↓woc, ↓vopm0]
  repeat ((with_reducible refine And.intro ?_ ?_); · first | (with_reducible assumption) | omega | exact ⟨by omega, by omega⟩ | with_reducible rfl | (repeat' first | exact Keep.refl _ | refine Keep.add ?_ ?_ _ | refine Keep.set ?_ ?_ _ | exact Nat.le_refl _ | (simp only [Sg.add, Sg.set, Sg.del]; omega)))
  refine hK8 _ _ ?_
  refine vck fun A B hA hB => ?_
  simp only [condV, ev_hit, lpv, Nat.reduceLT, decide_eq_true_eq, decide_eq_false_iff_not, hl]
  refine ⟨fun hc14 => hA ?_, fun hc14 => hB ?_⟩
  · clear hA hB A B
    refine vw_skip ?_
    refine hK7 _ _ ?_
    refine vw_block ?_
    refine vsk fun K9 hK9 => ?_
    refine vsk fun K10 hK10 => ?_
    refine vw_sc 0 [] ?_
    simp only [bs, ↓vopx, ↓vop, Nat.reduceBEq, thenV, flat, Nat.reduceLT, hl, k4, wocs, ↓goc, ↓woc, ↓vopm0]
    repeat ((with_reducible refine And.intro ?_ ?_); · first | (with_reducible assumption) | omega | exact ⟨by omega, by omega⟩ | with_reducible rfl | (repeat' first | exact Keep.refl _ | refine Keep.add ?_ ?_ _ | refine Keep.set ?_ ?_ _ | exact Nat.le_refl _ | (simp only [Sg.add, Sg.set, Sg.del]; omega)))
    refine hK10 _ _ ?_
    refine vw_block ?_
    refine vw_loop (fun mm e' s' => ∃ j : Nat, mm = cls.length - j ∧ j ≤ cls.length ∧ e'.length = 37 ∧ ev e' (.tmp 3) = .ptr c 0 ∧ ev e' (.tmp 4) = .loc mo 0 cls.length ∧ ev e' (.tmp 5) = .loc m5 0 out.length ∧ ev e' (.tmp 15) = .loc mo 0 cls.length ∧ ev e' (.tmp 16) = I cls.length ∧ ev e' (.tmp 17) = I j ∧ sa = s' ∧ ∀ x, x < j → fstS (cloK M n) cls x = false) (⟨0, rfl, Nat.zero_le _, ?_⟩) ?_
    · try simp only [ev_hit, ev_miss, Nat.reduceBEq, lpv, hl, k3, k4, k5, Nat.reduceLT, true_and]
      repeat ((with_reducible refine And.intro ?_ ?_); · first | trivial | assumption | omega | rfl | (push_cast; rfl) | exact ⟨by omega, by omega⟩)
      all_goals (exact fun x hx => by omega)
    rintro mm e _ ⟨j, rfl, hle_j, hl, q3, q4, q5, q15, q16, h_j, rfl, hno⟩
    refine vsk fun K11 hK11 => ?_
    refine vw_sc 0 [] ?_
    simp only [thenV, opII, q16, h_j, wocs, ↓goc, ↓woc]
    repeat ((with_reducible refine And.intro ?_ ?_); · first | (with_reducible assumption) | omega | exact ⟨by omega, by omega⟩ | with_reducible rfl | (repeat' first | exact Keep.refl _ | refine Keep.add ?_ ?_ _ | refine Keep.set ?_ ?_ _ | exact Nat.le_refl _ | (simp only [Sg.add, Sg.set, Sg.del]; omega)))
    refine hK11 _ _ ?_
    refine vsk fun K12 hK12 => ?_
    refine vck fun A B hA hB => ?_
    simp only [condV, ev_hit, Nat.reduceLT, decide_eq_true_eq, decide_eq_false_iff_not, hl]
    refine ⟨fun hc18 => hA ?_, fun hc18 => hB ?_⟩
    · clear hA hB A B
      refine vw_skip ?_
      refine hK12 _ _ ?_
      refine vsk fun K13 hK13 => ?_
      refine vw_block ?_
      refine vsk fun K14 hK14 => ?_
      have hjl : j < cls.length := by omega
      obtain ⟨cj, hcj⟩ : ∃ cj, cls[j]? = some cj := ⟨_, List.getElem?_eq_getElem hjl⟩
      have y1 := hI.hc
      have y5 := hI.ho
      have yl := hI.l
      have g1 : (cls.map tInts ++ junk)[j]? = some (tInts cj) := by rw [List.getElem?_append_left (by simpa using hjl), List.getElem?_map, hcj]; rfl
      refine vw_sc 0 [] ?_
      simp only [bs, ↓vopx, ↓vop, Nat.reduceBEq, thenV, Nat.reduceLT, dLoad, vpart, hl, q15, h_j, wocs, ↓goc, ↓woc, ↓vopm0, Tryd.ag85, Tryd.sz85, Tryd.un106, y1, g1]
      repeat ((with_reducible refine And.intro ?_ ?_); · first | (with_reducible assumption) | omega | exact ⟨by omega, by omega⟩ | with_reducible rfl | (repeat' first | exact Keep.refl _ | refine Keep.add ?_ ?_ _ | refine Keep.set ?_ ?_ _ | exact Nat.le_refl _ | (simp only [Sg.add, Sg.set, Sg.del]; omega)))
      refine hK14 _ _ ?_
      refine vsk fun K15 hK15 => ?_
      have hRj := hR.keep hI.hk (by omega)
      have hcl : cls.length ≤ 201 := by have := hI.bo; omega
      rcases Bool.eq_false_or_eq_true (fstS (cloK M n) cls j) with hf | hf
      · refine vw_sc 0 [.det (Bo true) sa] ?_
        simp only [bs, ↓vopx, ↓vop, Nat.reduceBEq, thenV, Nat.reduceLT, hl, q3, q4, wocs, ↓goc, ↓woc, ↓vopm0, ↓callC, calleeV]
        repeat ((with_reducible refine And.intro ?_ ?_); · first | (with_reducible assumption) | omega | exact ⟨by omega, by omega⟩ | exact ⟨Tryd.is58, by simpa only [hf] using oFirstL_ sa c n _ na1 rp1 rq1 hRj cls junk mo hI.hc hI.ok (by omega) j hjl⟩ | with_reducible rfl | (repeat' first | exact Keep.refl _ | refine Keep.add ?_ ?_ _ | refine Keep.set ?_ ?_ _ | exact Nat.le_refl _ | (simp only [Sg.add, Sg.set, Sg.del]; omega)))
        refine hK15 _ _ ?_
        refine vck fun A B hA hB => ?_
        simp only [condV, ev_hit, lpv, Nat.reduceLT, true_implies, reduceCtorEq, false_implies, and_true, hl]
        refine hA ?_
        clear hA hB A B
        refine vsk fun K16 hK16 => ?_
        have hbc := hI.bc cj (List.mem_of_getElem? hcj)
        have hbo := hI.bo
        have hcl : cls.length ≤ 201 := by omega
        refine vw_sc 0 [] ?_
        simp only [bs, dstT, srcT, ↓vopx, ↓vop, Nat.reduceBEq, thenV, Nat.reduceLT, hl, q5, wocs, ↓goc, ↓woc, ↓vopm0, Tryd.sl85, y5, Nat.div_one]
        repeat ((with_reducible refine And.intro ?_ ?_); · first | (with_reducible assumption) | omega | exact ⟨by omega, by omega⟩ | with_reducible rfl | (repeat' first | exact Keep.refl _ | refine Keep.add ?_ ?_ _ | refine Keep.set ?_ ?_ _ | exact Nat.le_refl _ | (simp only [Sg.add, Sg.set, Sg.del]; omega)))
        refine hK16 _ _ ?_
        refine vsk fun K17 hK17 => ?_
        have hel : (cls.eraseIdx j).length = cls.length - 1 := by rw [List.length_eraseIdx, if_pos hjl]
        have hfi := fstI_some hjl hno hf
        refine vw_sc 0 [.stop] ?_
        simp only [bs, ↓vopx, ↓vop, Nat.reduceBEq, thenV, flat, Nat.reduceLT, opII, hl, q4, wocs, ↓goc, ↓woc, ↓vopm0, ↓callC, calleeV]
        refine ⟨⟨by omega, by omega⟩, Tryd.is59, (oDelete_ _ mo cls junk (by rw [m_add, if_neg (by simp only [n_del]; omega), m_del, if_neg (by omega)]; exact hI.hc) j hjl).mono fun v s5 hv => ?_⟩
        obtain ⟨rfl, rfl⟩ := hv
        try simp only [bs, Nat.reduceBEq, Nat.reduceLT, hl, q4, Hold]
        refine hK17 _ _ ?_
        refine vw_exit ?_
        simp only [thenV, blockV, noGoto, if_true, if_false, Nat.reduceEqDiff, reduceCtorEq]
        refine ⟨(cls.eraseIdx j).length, by omega, cls.eraseIdx j, _, out ++ cj, sa.next, rfl, ?_, ?_, ?_, ?_, hI.step hcj hfi⟩
        try simp only [lpv, hl]
        try simp only [ev_miss, Nat.reduceBEq, q3]
        try simp only [ev_hit, lpv, hl, hel, Nat.reduceLT]
        try simp only [ev_hit, ev_miss, Nat.reduceBEq, lpv, hl, List.length_append, Nat.reduceLT]
      · refine vw_sc 0 [.det (Bo false) sa] ?_
        simp only [bs, ↓vopx, ↓vop, Nat.reduceBEq, thenV, Nat.reduceLT, hl, q3, q4, wocs, ↓goc, ↓woc, ↓vopm0, ↓callC, calleeV]
        repeat ((with_reducible refine And.intro ?_ ?_); · first | (with_reducible assumption) | omega | exact ⟨by omega, by omega⟩ | exact ⟨Tryd.is58, by simpa only [hf] using oFirstL_ sa c n _ na1 rp1 rq1 hRj cls junk mo hI.hc hI.ok (by omega) j hjl⟩ | with_reducible rfl | (repeat' first | exact Keep.refl _ | refine Keep.add ?_ ?_ _ | refine Keep.set ?_ ?_ _ | exact Nat.le_refl _ | (simp only [Sg.add, Sg.set, Sg.del]; omega)))
        refine hK15 _ _ ?_
        refine vck fun A B hA hB => ?_
        simp only [condV, ev_hit, lpv, Nat.reduceLT, true_implies, reduceCtorEq, false_implies, true_and, hl]
        refine hB ?_
        clear hA hB A B
        refine vw_skip ?_
        refine hK13 _ _ ?_
        refine vw_sc 0 [] ?_
        simp only [bs, ↓vopx, ↓vop, Nat.reduceBEq, thenV, flat, Nat.reduceLT, opII, hl, q3, q4, q5, q15, q16, h_j, wocs, ↓goc, ↓woc, ↓vopm0]
        repeat ((with_reducible refine And.intro ?_ ?_); · first | (with_reducible assumption) | omega | exact ⟨by omega, by omega⟩ | with_reducible rfl | (repeat' first | exact Keep.refl _ | refine Keep.add ?_ ?_ _ | refine Keep.set ?_ ?_ _ | exact Nat.le_refl _ | (simp only [Sg.add, Sg.set, Sg.del]; omega)))
        refine ⟨cls.length - (j + 1), by omega, j + 1, rfl, by omega, ?_⟩
        try simp only [ev_hit, ev_miss, Nat.reduceBEq, lpv, hl, q3, q4, q5, q15, q16, h_j, if_true, if_false, Nat.reduceEqDiff, Nat.reduceLT, true_and, and_true]
        repeat ((with_reducible refine And.intro ?_ ?_); · first | trivial | assumption | omega | rfl | (push_cast; rfl) | exact ⟨by omega, by omega⟩)
        intro x hx
        rcases Nat.lt_succ_iff_lt_or_eq.1 hx with hx | rfl
        · exact hno x hx
        · exact hf
    · clear hA hB A B
      refine vw_exit ?_
      simp only [thenV, blockV, noGoto, if_true, if_false, Nat.reduceEqDiff, reduceCtorEq]
      refine hK9 _ _ ?_
      refine vsk fun K18 hK18 => ?_
      refine vw_sc 0 [] ?_
      simp only [bs, ↓vopx, ↓vop, Nat.reduceBEq, thenV, Nat.reduceLT, hl, q5, wocs, ↓goc, ↓woc, ↓vopm0]
      repeat ((with_reducible refine And.intro ?_ ?_); · first | (with_reducible assumption) | omega | exact ⟨by omega, by omega⟩ | with_reducible rfl | (repeat' first | exact Keep.refl _ | refine Keep.add ?_ ?_ _ | refine Keep.set ?_ ?_ _ | exact Nat.le_refl _ | (simp only [Sg.add, Sg.set, Sg.del]; omega)))
      refine hK18 _ _ ?_
      refine vw_ret ?_
      show Q _ _ _
      have hlo := hI.l
      have hst : out = srtS n M := by
        first
          | exact hI.stop (fstI_none (fun x hx => hno x (by omega)))
          | exact hI.stop (fstI_none (fun x hx => by omega))
      rw [← hst] at hQ
      refine hQ _ _ _ (.inr rfl) (Done.toS (done_loc (n := m5) (len := out.length) ?_ hI.ho ?_ (by omega) (hk.trans hnx hI.hk)))
      all_goals (first | (simp only [ev_hit, lpv, hl, Nat.reduceLT]; done) | (simp only [ev_hit, ev_miss, Nat.reduceBEq, lpv, hl, k5, if_true, if_false, Nat.reduceLT]; done) | (rw [List.length_map, Nat.mul_one]))
  · clear hA hB A B
    refine vw_exit ?_
    simp only [thenV, blockV, noGoto, if_true]
    refine hK6 _ _ ?_
    refine vsk fun K19 hK19 => ?_
    refine vw_sc 0 [] ?_
    simp only [bs, ↓vopx, ↓vop, Nat.reduceBEq, thenV, Nat.reduceLT, hl, k5, wocs, ↓goc, ↓woc, ↓vopm0]
    repeat ((with_reducible refine And.intro ?_ ?_); · first | (with_reducible assumption) | omega | exact ⟨by omega, by omega⟩ | with_reducible rfl | (repeat' first | exact Keep.refl _ | refine Keep.add ?_ ?_ _ | refine Keep.set ?_ ?_ _ | exact Nat.le_refl _ | (simp only [Sg.add, Sg.set, Sg.del]; omega)))
    refine hK19 _ _ ?_
    refine vw_ret ?_
    show Q _ _ _
    have hlo := hI.l
    have hst : out = srtS n M := by
      first
        | exact hI.stop (fstI_none (fun x hx => hno x (by omega)))
        | exact hI.stop (fstI_none (fun x hx => by omega))
    rw [← hst] at hQ
    refine hQ _ _ _ (.inr rfl) (Done.toS (done_loc (n := m5) (len := out.length) ?_ hI.ho ?_ (by omega) (hk.trans hnx hI.hk)))
    all_goals (first | (simp only [ev_hit, ev_miss, Nat.reduceBEq, lpv, hl, q5, if_true, if_false, Nat.reduceLT]; done) | (simp only [ev_hit, lpv, hl, Nat.reduceLT]; done) | (rw [List.length_map, Nat.mul_one]))
end Go.Proofs

open Go Go.V
namespace Go.Proofs
def seeS (f : Fl) : List (Int × Int) := (srtS (alvS f.lines).length (aliM f)).map fun z => ((alvS f.lines).getD z.toNat 0, mkS (alvS f.lines).length (aliM f) z.toNat)
theorem cirC_lt {M : Mx} {i n : Nat} (hi : i < n) : ∀ z ∈ cirC M i n, 0 ≤ z ∧ z < n := by
  intro z hz
  rcases List.mem_cons.1 hz with rfl | hz
  · omega
  · obtain ⟨b, hb, rfl⟩ := List.mem_map.1 hz
    have := List.mem_range.1 (List.mem_filter.1 hb).1
    omega
theorem cirK_lt (n : Nat) (M : Mx) : ∀ i, i ≤ n → ∀ c ∈ (cirK n M i).1, ∀ z ∈ c, 0 ≤ z ∧ z < n
  | 0, _ => fun c h => by simp [cirK] at h
  | i + 1, hi => by
    have ih := cirK_lt n M i (by omega)
    simp only [cirK]
    split
    · exact ih
    · intro c hc
      rcases List.mem_append.1 hc with hc | hc
      · exact ih c hc
      · simp at hc; subst hc; exact cirC_lt (by omega)
theorem srtF_lt {M : Mx} {n : Nat} : ∀ k cls out, (∀ c ∈ cls, ∀ z ∈ c, 0 ≤ z ∧ z < (n : Int)) → (∀ z ∈ out, 0 ≤ z ∧ z < (n : Int)) → ∀ z ∈ srtF M k cls out, 0 ≤ z ∧ z < (n : Int)
  | 0, cls, out, _, h2 => h2
  | k + 1, cls, out, h1, h2 => by
    simp only [srtF]
    cases hf : fstI M cls with
    | none => exact h2
    | some i =>
      refine srtF_lt k _ _ (fun c hc => h1 c (List.mem_of_mem_eraseIdx hc)) fun z hz => ?_
      rcases List.mem_append.1 hz with hz | hz
      · exact h2 z hz
      · rw [List.getD_eq_getElem?_getD] at hz
        cases hq : cls[i]? with
        | none => rw [hq] at hz; cases hz
        | some c => rw [hq] at hz; exact h1 c (List.mem_of_getElem? hq) z hz
theorem srtS_lt (n : Nat) (M : Mx) : ∀ z ∈ srtS n M, 0 ≤ z ∧ z < (n : Int) :=
  srtF_lt _ _ _ (fun c hc => cirK_lt n _ n (Nat.le_refl n) c hc) (fun z hz => by cases hz)
theorem srtF_len {M : Mx} {b : Nat} : ∀ k cls out, (∀ c ∈ cls, c.length ≤ b) → (srtF M k cls out).length ≤ out.length + b * k
  | 0, cls, out, _ => Nat.le_refl _
  | k + 1, cls, out, h1 => by
    simp only [srtF]
    cases hf : fstI M cls with
    | none => exact Nat.le_add_right _ _
    | some i =>
      have := srtF_len (M := M) k (cls.eraseIdx i) (out ++ cls.getD i []) (fun c hc => h1 c (List.mem_of_mem_eraseIdx hc))
      have h2 : (cls.getD i []).length ≤ b := by
        rw [List.getD_eq_getElem?_getD]
        cases hq : cls[i]? with
        | none => exact Nat.zero_le _
        | some c => exact h1 c (List.mem_of_getElem? hq)
      rw [List.length_append] at this
      simp only [Nat.mul_succ]
      omega
theorem srtS_len {n : Nat} (M : Mx) (hn : n ≤ 200) : (srtS n M).length ≤ 40200 := by
  have h1 := srtF_len (M := cloK M n) (b := 201) (cirS n (cloK M n)).length (cirS n (cloK M n)) [] (fun c hc => by have := (clsOK_cir n (cloK M n) n (Nat.le_refl n)).2 c hc; omega)
  have h2 : (cirS n (cloK M n)).length ≤ n := cirK_len n (cloK M n) n
  simp only [List.length_nil] at h1
  unfold srtS
  omega
def YR (Iv : (Nat → Prop) → Nat → Sg → Prop) (F : Sg → Prop) (X : Nat → Prop) (k : Nat) (s : Sg) (v : V) (s' : Sg) : Prop :=
  ∃ b : Bool, v = Bo b ∧ (b = true → Iv X (k + 1) s') ∧ (b = false → F s') ∧ (∀ x, X x → s'.m x = s.m x) ∧ s.next ≤ s'.next
abbrev bxF (f : Fl) : Blk := .box 44 [.t (TS f.path), .t (tLines f.lines), .t (tPairs f.pairs)]
structure SeeI (n0 cb : Nat) (f : Fl) (Iv : (Nat → Prop) → Nat → Sg → Prop) (F : Sg → Prop) : Prop where
  hI : ∀ X k s, Iv X k s → s.m cb = some (bxF f) ∧ cb < s.next ∧ ∀ x, X x → x < s.next
  hext : ∀ X k s s', Iv X k s → Keep s s' → s.next ≤ s'.next → Iv (fun x => X x ∨ (s.next ≤ x ∧ x < s'.next)) k s'
  hY : ∀ X k s p, (seeS f)[k]? = some p → Iv X k s → YCall Tryd.prog n0 [I p.1, .t (.v (.int .u8 p.2))] s (YR Iv F X k s)
theorem RelP.fr {s s' : Sg} {p n : Nat} {M : Mx} {na : Nat} {rp rq : Nat → Nat} (h : RelP s p n M na rp rq) {Y : Nat → Prop} (hp : Y p) (ha : Y na) (hr : ∀ i, i < n → Y (rp i)) (hq : ∀ i, i < n → Y (rq i)) (hx : ∀ x, Y x → s'.m x = s.m x) (hn : s.next ≤ s'.next) : RelP s' p n M na rp rq := by
  obtain ⟨h1, h2, h3, h4, h5, h6, h7, h8, h9, h10⟩ := h
  exact ⟨by rw [hx _ hp]; exact h1, by rw [hx _ ha]; exact h2, fun i hi => by rw [hx _ (hr i hi)]; exact h3 i hi, fun i hi => by rw [hx _ (hq i hi)]; exact h4 i hi, h5, h6, by omega, by omega, fun i hi => by have := h9 i hi; omega, fun i hi => by have := h10 i hi; omega⟩
set_option maxRecDepth 20000 in
theorem vEach_ (s : Sg) (f : Fl) : VCall Tryd.prog 29 [vFile f] s (fun v s' => v = .clo 41 [.ptr s.next 0] ∧ s' = s.add (bxF f)) := by
  refine kcall_of_body Tryd.func29 rfl fun Q hQ => ?_
  obtain ⟨e, he, hl, h0⟩ : ∃ e : Env, ([vFile f] ++ List.replicate (Tryd.f29.ntmps - ([vFile f] : List V).length) .junk) = e ∧ e.length = 4 ∧ ev e (.tmp 0) = vFile f := ⟨_, rfl, rfl, rfl⟩
  rw [he]
  clear he
  refine vsk fun K1 hK1 => ?_
  refine vw_sc 0 [] ?_
  simp only [bs, ↓vopx, ↓vop, thenV, flat, V.cells, h0, wocs, ↓goc, ↓woc, ↓vopm0]
  repeat ((with_reducible refine And.intro ?_ ?_); · first | (with_reducible assumption) | omega | exact ⟨by omega, by omega⟩ | with_reducible rfl | (repeat' first | exact Keep.refl _ | refine Keep.add ?_ ?_ _ | refine Keep.set ?_ ?_ _ | exact Nat.le_refl _ | (simp only [Sg.add, Sg.set, Sg.del]; omega)))
  refine hK1 _ _ ?_
  refine vsk fun K2 hK2 => ?_
  refine vw_sc 0 [] ?_
  simp only [bs, ↓vopx, ↓vop, Nat.reduceBEq, thenV, Nat.reduceLT, hl, wocs, ↓goc, ↓woc, ↓vopm0, capOk, List.all_cons, List.all_nil, Bool.and_self]
  repeat ((with_reducible refine And.intro ?_ ?_); · first | (with_reducible assumption) | omega | exact ⟨by omega, by omega⟩ | with_reducible rfl | (repeat' first | exact Keep.refl _ | refine Keep.add ?_ ?_ _ | refine Keep.set ?_ ?_ _ | exact Nat.le_refl _ | (simp only [Sg.add, Sg.set, Sg.del]; omega)))
  refine hK2 _ _ ?_
  refine vw_ret ?_
  refine hQ _ _ _ (.inr rfl) (donek_tmp (v := .clo 41 [.ptr s.next 0]) ?_ rfl ⟨rfl, rfl⟩)
  try simp only [ev_hit, lpv, hl, Nat.reduceLT]
set_option maxRecDepth 20000 in
set_option maxHeartbeats 1000000 in
theorem vEach1_ (n0 cb : Nat) (f : Fl) (hf : f.lines.length ≤ 200) (hp0 : f.pairs.length < 1000000000) (Iv : (Nat → Prop) → Nat → Sg → Prop) (F : Sg → Prop) (E : SeeI n0 cb f Iv F) (s : Sg) (X0 : Nat → Prop) (hs0 : Iv X0 0 s) : VCall Tryd.prog 41 [.yl n0, .ptr cb 0] s (fun _ s' => (∃ X, Iv X (seeS f).length s') ∨ F s') := by
  refine kcall_of_body Tryd.func41 rfl fun Q hQ => ?_
  obtain ⟨e, he, hl, h0, h1⟩ : ∃ e : Env, ([.yl n0, .ptr cb 0] ++ List.replicate (Tryd.f41.ntmps - ([.yl n0, .ptr cb 0] : List V).length) .junk) = e ∧ e.length = 30 ∧ ev e (.tmp 0) = .yl n0 ∧ ev e (.tmp 1) = .ptr cb 0 := ⟨_, rfl, rfl, rfl, rfl⟩
  rw [he]
  clear he
  obtain ⟨hcb, hcl, _⟩ := E.hI _ _ s hs0
  have hal0 := alvS_len f.lines
  have hLl := srtS_len (n := (alvS f.lines).length) (aliM f) (by omega)
  refine vsk fun K1 hK1 => ?_
  refine vw_sc 0 [.stop] ?_
  simp only [bs, Nat.reduceAdd, ↓vopx, ↓vop, thenV, Nat.reduceLT, dLoad, vpart, hl, h1, wocs, ↓goc, ↓woc, ↓vopm0, ↓callC, calleeV, Tryd.ag44, Tryd.sz44, hcb]
  refine ⟨Tryd.is39, (vAlive_ s f hf hp0).mono fun v s2 hv => ?_⟩
  obtain ⟨c, na1, rp1, rq1, rfl, hR, hF, hk, hnx⟩ := hv
  try simp only [bs, Nat.reduceBEq, Nat.reduceLT, hl, Hold]
  refine hK1 _ _ ?_
  refine vsk fun K2 hK2 => ?_
  refine vw_sc 0 [.det (.t (tInts (srtS (alvS f.lines).length (aliM f)))) s2] ?_
  simp only [bs, ↓vopx, ↓vop, thenV, flat, Nat.reduceLT, hl, wocs, ↓goc, ↓woc, ↓vopm0, ↓callC, calleeV, len_tInts]
  repeat ((with_reducible refine And.intro ?_ ?_); · first | (with_reducible assumption) | omega | exact ⟨by omega, by omega⟩ | exact ⟨Tryd.is42, oSort_ s2 c _ _ na1 rp1 rq1 hR⟩ | with_reducible rfl | (repeat' first | exact Keep.refl _ | refine Keep.add ?_ ?_ _ | refine Keep.set ?_ ?_ _ | exact Nat.le_refl _ | (simp only [Sg.add, Sg.set, Sg.del]; omega)))
  refine hK2 _ _ ?_
  refine vw_block ?_
  refine vw_loop (fun mm e' s' => ∃ k : Nat, mm = (srtS (alvS f.lines).length (aliM f)).length - k ∧ k ≤ (srtS (alvS f.lines).length (aliM f)).length ∧ e'.length = 30 ∧ ev e' (.tmp 0) = .yl n0 ∧ ev e' (.tmp 3) = .t (tInts (alvS f.lines)) ∧ ev e' (.tmp 4) = .ptr c 0 ∧ ev e' (.tmp 13) = .t (tInts (srtS (alvS f.lines).length (aliM f))) ∧ ev e' (.tmp 14) = I (srtS (alvS f.lines).length (aliM f)).length ∧ ev e' (.tmp 15) = I k ∧ True ∧ ∃ X, Iv X k s' ∧ (∀ x, s.next ≤ x → x < s2.next → X x) ∧ RelP s' c (alvS f.lines).length (aliM f) na1 rp1 rq1) (⟨0, rfl, Nat.zero_le _, ?_⟩) ?_
  · try simp only [ev_hit, ev_miss, Nat.reduceBEq, lpv, hl, h0, Nat.reduceLT, true_and]
    repeat ((with_reducible refine And.intro ?_ ?_); · first | trivial | assumption | omega | rfl | (push_cast; rfl) | exact ⟨by omega, by omega⟩)
    exact ⟨_, E.hext _ _ _ _ hs0 hk hnx, fun x h1 h2 => .inr ⟨h1, h2⟩, hR⟩
  rintro mm e sa ⟨k, rfl, hle_k, hl, k0, k3, k4, k13, k14, h_k, hst, ⟨X, hiv, hXs, hRs⟩⟩
  refine vsk fun K3 hK3 => ?_
  refine vw_sc 0 [] ?_
  simp only [thenV, opII, k14, h_k, wocs, ↓goc, ↓woc]
  repeat ((with_reducible refine And.intro ?_ ?_); · first | (with_reducible assumption) | omega | exact ⟨by omega, by omega⟩ | with_reducible rfl | (repeat' first | exact Keep.refl _ | refine Keep.add ?_ ?_ _ | refine Keep.set ?_ ?_ _ | exact Nat.le_refl _ | (simp only [Sg.add, Sg.set, Sg.del]; omega)))
  refine hK3 _ _ ?_
  refine vsk fun K4 hK4 => ?_
  refine vck fun A B hA hB => ?_
  simp only [condV, ev_hit, Nat.reduceLT, decide_eq_true_eq, decide_eq_false_iff_not, hl]
  refine ⟨fun hc16 => hA ?_, fun hc16 => hB ?_⟩
  · clear hA hB A B
    refine vw_skip ?_
    refine hK4 _ _ ?_
    refine vsk fun K5 hK5 => ?_
    refine vw_block ?_
    refine vsk fun K6 hK6 => ?_
    have hkl : k < (srtS (alvS f.lines).length (aliM f)).length := by omega
    obtain ⟨z, hz⟩ : ∃ z, (srtS (alvS f.lines).length (aliM f))[k]? = some z := ⟨_, List.getElem?_eq_getElem hkl⟩
    obtain ⟨hz0, hz1⟩ := srtS_lt _ _ z (List.mem_of_getElem? hz)
    obtain ⟨a, rfl⟩ : ∃ a : Nat, z = (a : Int) := ⟨z.toNat, by omega⟩
    have hal : a < (alvS f.lines).length := by omega
    obtain ⟨b, hb, hb1, hb2⟩ := alvS_at hal
    have hsee : (seeS f)[k]? = some ((b : Int), mkS (alvS f.lines).length (aliM f) a) := by unfold seeS; rw [List.getElem?_map, hz]; simp only [Option.map_some, Int.toNat_natCast, List.getD_eq_getElem?_getD, hb, Option.getD_some]
    have hRk := hRs
    refine vw_sc 0 [] ?_
    simp only [bs, ↓vopx, ↓vop, Nat.reduceBEq, thenV, Nat.reduceLT, dLoad, vpart, hl, k13, h_k, wocs, ↓goc, ↓woc, ↓vopm0, Tryd.ag3, Tryd.sz3, Tryd.un85, hz, hkl]
    repeat ((with_reducible refine And.intro ?_ ?_); · first | (with_reducible assumption) | omega | exact ⟨by omega, by omega⟩ | with_reducible rfl | (repeat' first | exact Keep.refl _ | refine Keep.add ?_ ?_ _ | refine Keep.set ?_ ?_ _ | exact Nat.le_refl _ | (simp only [Sg.add, Sg.set, Sg.del]; omega)))
    refine hK6 _ _ ?_
    refine vsk fun K7 hK7 => ?_
    refine vw_chain Tryd.mixed 8 [0, 0, 0, 1, 1, 0, 0, 1] [.det (.t (.v (.int .u8 (mkS (alvS f.lines).length (aliM f) a)))) sa] [.stop] 0 (by decide +kernel) (by simp [lpv, hl]) rfl ?_
    simp only [bs, ↓vopx, ↓vop, Nat.reduceBEq, thenV, Nat.reduceLT, dLoad, vpart, hl, k0, k3, k4, wocs, ↓goc, ↓woc, ↓vopm0, ↓vopm1, ↓callC, calleeV, ↓yieldC, chn, ↓goq, ↓woq, List.zip_cons_cons, List.zip_nil_right, Tryd.ag3, Tryd.sz3, Tryd.un85, hb, hal, Int.toNat_natCast]
    refine ⟨⟨Tryd.is43, vMark_ sa c _ _ na1 rp1 rq1 hRk a hal⟩, YCall.mono (E.hY X k sa _ hsee hiv) fun v s3 hv => ?_⟩
    obtain ⟨yb, rfl, hb1_, hb2_, hfr, hn3⟩ := hv
    have hR3 := hRk.fr (Y := X) (hXs _ hF.hp hR.lp) (hXs _ hF.ha hR.la) (fun i hi => hXs _ (hF.hr i hi) (hR.lr i hi)) (fun i hi => hXs _ (hF.hq i hi) (hR.lq i hi)) hfr hn3
    try simp only [bs, Nat.reduceBEq, Nat.reduceLT, hl, k0, k3, k4, Hold]
    refine hK7 _ _ ?_
    refine vck fun A B hA hB => ?_
    simp only [condV, ev_hit, lpv, Nat.reduceLT, Bool.not_eq_true', Bool.not_eq_false', hl]
    refine ⟨fun hc28 => hA ?_, fun hc28 => hB ?_⟩
    · clear hA hB A B
      refine vw_ret ?_
      first
      | exact hQ _ _ _ (.inr rfl) ⟨[], rfl, rfl, .inr (hb2_ (by simpa using hc28))⟩
      | exact hQ _ _ _ (.inl rfl) ⟨[], rfl, rfl, .inl ⟨X, by rw [show (seeS f).length = k from by rw [han]; simp [seeS]]; exact hiv⟩⟩
    · clear hA hB A B
      refine vw_skip ?_
      refine hK5 _ _ ?_
      refine vw_sc 0 [] ?_
      simp only [bs, ↓vopx, ↓vop, Nat.reduceBEq, thenV, flat, Nat.reduceLT, opII, hl, k0, k3, k4, k13, k14, h_k, wocs, ↓goc, ↓woc, ↓vopm0]
      repeat ((with_reducible refine And.intro ?_ ?_); · first | (with_reducible assumption) | omega | exact ⟨by omega, by omega⟩ | with_reducible rfl | (repeat' first | exact Keep.refl _ | refine Keep.add ?_ ?_ _ | refine Keep.set ?_ ?_ _ | exact Nat.le_refl _ | (simp only [Sg.add, Sg.set, Sg.del]; omega)))
      refine ⟨(srtS (alvS f.lines).length (aliM f)).length - (k + 1), by omega, k + 1, rfl, by omega, ?_⟩
      try simp only [ev_hit, ev_miss, Nat.reduceBEq, lpv, hl, k0, k3, k4, k13, k14, h_k, if_true, if_false, Nat.reduceEqDiff, Nat.reduceLT, true_and, and_true]
      repeat ((with_reducible refine And.intro ?_ ?_); · first | trivial | assumption | omega | rfl | (push_cast; rfl) | exact ⟨by omega, by omega⟩)
      exact ⟨X, hb1_ (by simpa using hc28), hXs, hR3⟩
  · clear hA hB A B
    have han : k = (srtS (alvS f.lines).length (aliM f)).length := by omega
    refine vw_exit ?_
    simp only [thenV, blockV, if_true]
    first
    | exact hQ _ _ _ (.inr rfl) ⟨[], rfl, rfl, .inr (hb2_ (by simpa using hc28))⟩
    | exact hQ _ _ _ (.inl rfl) ⟨[], rfl, rfl, .inl ⟨X, by rw [show (seeS f).length = k from by rw [han]; simp [seeS]]; exact hiv⟩⟩
end Go.Proofs
