/- Lemmas on the way to the statement of this claim; no conditions. -/
import Derived.Test.YtjidblndipcofaaDoorA07
import Derived.Test.YtjidblndipcofaaDoorA49
open Go Go.V Go.RowKit
namespace Go.Proofs
def srtK (L : List Txt) : List ByteArray := ((L.map (·.1.data.toList)).mergeSort leB).map fun l => ⟨l.toArray⟩
def noR : Value → Option (DataW Unit × List MemPlace) := fun _ => some (.nil, [])
theorem rd_str {k : ByteArray} {x : MapEntry} (hx : x.key = .string k) (hk : k.size ≤ maxLen) : WideElems.rg Tryd.prog 9 noR x = (.string k.data.toList, .nil) ∧ WideElems.rd Tryd.prog 9 noR x = some (.string k.data.toList, .nil) := by
  have h1 : keyOf Tryd.prog 9 x.key = some (.string k.data.toList) := by
    rw [hx]
    simp only [keyOf, Tryd.underlying9, mapKey]
    simp [hk]
  have h2 : WideElems.rd Tryd.prog 9 noR x = some (.string k.data.toList, .nil) := by simp [WideElems.rd, h1, noR]
  exact ⟨by rw [WideElems.rg, h2]; rfl, h2⟩
theorem own_mp {s : Sg} {ρ : Rho} {w : World} {L : List Txt} (hL : L.length ≤ 1000000000000) (hk : ∀ p ∈ L, p.1.size ≤ 1000000) (hnd : (L.map (·.1)).Nodup) {b : Nat} {arr : Array MapEntry} {clk : Nat} (hb : w.heap[b]? = some (.map arr clk)) (hR : All2 (EntR Tryd.prog w s ρ) (mpE L) arr.toList)
    (hP : (arr.toList.map (·.born)).Pairwise (· < ·)) (hc : ∀ x ∈ arr.toList, x.born < clk) : ∃ D0 : DataW Unit, w.ownsMap Tryd.prog 9 noR b L.length D0 ∧ (strKeys D0).Perm (L.map (·.1.data.toList)) ∧ Maps.size D0 = L.length := by
  have hlen : arr.size = L.length := by have := hR.length; simp [mpE] at this; omega
  have hread : ∀ (l : List Txt) (es : List MapEntry), All2 (EntR Tryd.prog w s ρ) (mpE l) es → (∀ p ∈ l, p.1.size ≤ 1000000) → es.map (WideElems.rg Tryd.prog 9 noR) = l.map (fun p => ((.string p.1.data.toList, .nil) : Lit × DataW Unit)) ∧ ∀ x ∈ es, ∃ y, WideElems.rd Tryd.prog 9 noR x = some y := by
    intro l
    induction l with
    | nil => intro es h _; cases es with
      | nil => exact ⟨rfl, by simp⟩
      | cons a es => exact h.elim
    | cons p l ih => intro es h hkk; cases es with
      | nil => exact h.elim
      | cons a es =>
        obtain ⟨h1, h2⟩ := h
        obtain ⟨i1, i2⟩ := ih es h2 fun q hq => hkk q (List.mem_cons_of_mem _ hq)
        have hs := hkk p (List.mem_cons_self ..)
        obtain ⟨r1, r2⟩ := rd_str (x := a) (k := p.1) h1.1 (by unfold maxLen; omega)
        refine ⟨by rw [List.map_cons, List.map_cons, r1, i1], fun x hx => ?_⟩
        rcases List.mem_cons.1 hx with rfl | hx
        · exact ⟨_, r2⟩
        · exact i2 x hx
  obtain ⟨r1, r2⟩ := hread L arr.toList hR hk
  have hpm := WideShapes.sorted_perm (arr.toList.map (WideElems.rg Tryd.prog 9 noR))
  refine ⟨_, ⟨arr, clk, hb, ⟨by unfold maxLen; omega, ?_, r2⟩, by omega, rfl⟩, ?_, ?_⟩
  · refine ⟨hc, hP.imp (fun h => Nat.ne_of_lt h), ?_⟩
    have hkeys : ∀ (l : List Txt) (es : List MapEntry), All2 (EntR Tryd.prog w s ρ) (mpE l) es → es.map (·.key) = l.map fun p => Value.string p.1 := by
      intro l
      induction l with
      | nil => intro es h; cases es with
        | nil => rfl
        | cons a es => exact h.elim
      | cons p l ih => intro es h; cases es with
        | nil => exact h.elim
        | cons a es => rw [List.map_cons, List.map_cons, ih es h.2, h.1.1]
    rw [hkeys L _ hR]
    have : (L.map fun p => Value.string p.1) = (L.map (·.1)).map Value.string := by rw [List.map_map]; rfl
    rw [this]
    exact List.pairwise_map.2 (hnd.imp fun h e => h (by injection e))
  · have := hpm.map (fun p => strOf p.1)
    rw [r1, List.map_map] at this
    show ((List.foldr DataW.insert [] (List.map (WideElems.rg Tryd.prog 9 noR) arr.toList)).map fun p => strOf p.1).Perm _
    rw [r1]
    exact this
  · rw [Maps.size, hpm.length_eq]; simp; omega
theorem below_sr {P : Program} {B : Nat} {s : Sg} {ρ : Rho} {w : World} (hs : SR P B s ρ w) {w' : World} (hb : Below w.heap.size w w') : SR P B s ρ w' ∧ Stp s ρ w s ρ w' :=
  keep_sr hs ⟨hb.os, hb.tape, hb.output, hb.size, fun k hk _ => hb.block k hk⟩
theorem sorted_ (s : Sg) (c m : Nat) (L : List Txt) (hc : s.m c = some (.box 49 [.mp m])) (hm : s.m m = some (.mp (mpE L))) (hL : L.length ≤ 1000000000000) (hk : ∀ p ∈ L, p.1.size ≤ 1000000) (hnd : (L.map (·.1)).Nodup) :
    DCall Tryd.prog 24 [.clo 36 [.ptr c 0]] s (.t (.sl 1 ((srtK L).map TS))) s := by
  intro B ρ w vs hs hB ha
  match vs, ha with
  | [y], ⟨⟨l, hy, hl⟩, _⟩ =>
  subst hy
  match l, hl with
  | [y0], ⟨⟨_, _, hy0⟩, _⟩ =>
  obtain ⟨bl, hb, rfl⟩ := hy0 _ hc
  rcases hs.rep c _ hc with hq | ⟨bl', arr, hb', hh, hl1, hcl, _, _⟩
  · rw [hq.1] at hb; cases hb
  rw [hb] at hb'; cases hb'
  obtain ⟨v0, h0, hr0⟩ := hcl 0 _ rfl
  rw [Nat.zero_add] at h0
  obtain ⟨_, _, hr0⟩ := hr0
  obtain ⟨lm, hlm, rfl⟩ := hr0 _ hm
  obtain ⟨lm', arr2, clk, hlm', hhm, hR, hP, hcc⟩ := hs.rep m _ hm
  rw [hlm] at hlm'; cases hlm'
  obtain ⟨D0, hown, hperm, hsz⟩ := own_mp hL hk hnd hhm hR hP hcc
  have hcell : w.cell? ⟨bl, 0, none⟩ = some (.map (some lm)) := by simp [World.cell?, hh, h0]
  have hseq := AnyZ.keys_gives (ρ := Tryd.keys44_ren) { Tryd.keys44 with } Fence.wide 2 trivial rfl (by omega) bl lm L.length D0 w (heap_lt hh) hcell hown
  refine callsIn_wide.2 (callsIn_wide.1 ((AnyZ.sorted_in Tryd.sorted43 Fence.wide 5 trivial trivial trivial trivial rfl (by omega) (Tryd.sorts43 _) (enters_of Tryd.func35 (by kernel_rfl) rfl) 36 _ trivial (enters_of Tryd.func36 (by kernel_rfl) rfl) _ (Maps.size D0) (by rw [hsz]; unfold maxLen; omega) (by rw [hsz]; omega) w hseq).mono fun e w' he => ?_))
  obtain ⟨v, ss, rfl, hS, hrow, hnil, hbw⟩ := he
  obtain ⟨p1, p2⟩ := below_sr hs hbw
  have hsrt : (ss.mergeSort fun x y => decide (x ≤ y)) = (L.map (·.1.data.toList)).mergeSort leB := mergeSort_of_perm (hS.trans hperm)
  refine ⟨v, _, s, ρ, rfl, ⟨rfl, rfl⟩, p1, ?_, p2⟩
  rw [hsrt] at hrow
  have hcs : ((srtK L).map TS).length = ss.length := by
    have := (List.mergeSort_perm (L.map (·.1.data.toList)) leB).length_eq
    have h2 := (hS.trans hperm).length_eq
    simp only [srtK, List.length_map] at this h2 ⊢
    omega
  show RepT w' (Fr s ρ) (.sl 1 ((srtK L).map TS)) v
  rw [RepT]
  rcases hrow.2 with ⟨rfl, hz⟩ | ⟨g, cap, cur, rfl, hg0, hg, hnc, hcm, hcs2, htk⟩
  · have hnl : (srtK L).map TS = [] := List.eq_nil_of_length_eq_zero (by omega)
    exact ⟨none, 0, 0, rfl, by omega, by rw [hnl]; rfl, Nat.le_refl _, fun _ => rfl, .inl hnl⟩
  · refine ⟨_, _, _, rfl, by omega, by omega, hnc, (fun h => by cases h), .inr ⟨g, 0, cur, _, _, rfl, fun n k hn hbn => ?_, hg, ?_⟩⟩
    · have := hs.blk_lt hn hbn; omega
    · rw [repTs_iff]
      intro i c hi
      have hil : i < ss.length := by rw [← hcs]; exact (List.getElem?_eq_some_iff.1 hi).1
      rw [Nat.mul_one] at htk
      have h3 : (cur.toList.take ss.length)[i]? = cur[i]? := by rw [List.getElem?_take, if_pos hil, Array.getElem?_toList]
      rw [htk] at h3
      rw [Nat.zero_add, ← h3]
      unfold srtK at hi
      rw [List.getElem?_map, List.getElem?_map] at hi
      rw [List.getElem?_map]
      cases hq : (List.mergeSort (L.map (·.1.data.toList)) leB)[i]? with
      | none => rw [hq] at hi; cases hi
      | some z =>
        rw [hq] at hi
        cases hi
        exact ⟨_, rfl, by rw [RepT]; exact ⟨rfl, rfl⟩⟩
end Go.Proofs

open Go Go.V
namespace Go.Proofs
abbrev wcs (x : Txt) : List T := [TS x.1, TS x.2]
abbrev tWork (l : List Txt) : T := .sl 2 (l.flatMap wcs)
theorem flatW (l : List Txt) : (l.flatMap wcs).length = l.length * 2 := by
  induction l with
  | nil => rfl
  | cons a l ih => simp only [List.flatMap_cons, List.length_append, ih, List.length_cons, List.length_nil]; omega
def wkS (L : List Txt) : List Txt := (srtK L).map fun k => (k, (tget k L).getD ⟨#[]⟩)
theorem srtK_len (L : List Txt) : (srtK L).length = L.length := by
  have := (List.mergeSort_perm (L.map (·.1.data.toList)) leB).length_eq
  simp only [srtK, List.length_map] at this ⊢
  exact this
theorem wkS_len (L : List Txt) : (wkS L).length = L.length := by rw [wkS, List.length_map, srtK_len]
theorem len_tStr1 (l : List ByteArray) : vlen (.t (.sl 1 (l.map TS))) = some l.length := by simp [vlen]
theorem TreeP.keep {s s' : Sg} {p m : Nat} {L : List Txt} (h : TreeP s p m L) (hp : p < s.next) (hm : m < s.next) (hk : Keep s s') : TreeP s' p m L := ⟨hk _ _ hp h.hp, hk _ _ hm h.hm⟩
structure TrI (n0 cb p m : Nat) (L : List Txt) (Iv : Nat → Sg → Prop) : Prop where
  hI : ∀ k s, Iv k s → s.m cb = some (.box 23 [.ptr p 0]) ∧ TreeP s p m L
  hext : ∀ k s s', Iv k s → Keep s s' → s.next ≤ s'.next → Iv k s'
  hY : ∀ k s x, (wkS L)[k]? = some x → Iv k s → YCall Tryd.prog n0 [.agg [Str x.1, Str x.2]] s fun v s' => v = Bo true ∧ Iv (k + 1) s'
structure WkB (s : Sg) (c ml : Nat) (l : List Txt) : Prop where
  ex : ∃ x, s.m c = some (.box 29 [x]) ∧ ((l = [] ∧ x = .t (.v (.slice none 0 0))) ∨ ∃ m2, x = .loc m2 0 l.length ∧ s.m m2 = some (.arr 2 32 (l.flatMap wcs)) ∧ ml ≤ m2 ∧ m2 < s.next)
set_option maxRecDepth 20000 in
theorem tKeys_ (s : Sg) (m : Nat) : VCall Tryd.prog 25 [.mp m] s (fun v s' => v = .clo 36 [.ptr s.next 0] ∧ s' = s.add (.box 49 [.mp m])) := by
  refine kcall_of_body Tryd.func25 rfl fun Q hQ => ?_
  obtain ⟨e, he, hl, h0⟩ : ∃ e : Env, ([.mp m] ++ List.replicate (Tryd.f25.ntmps - ([.mp m] : List V).length) .junk) = e ∧ e.length = 4 ∧ ev e (.tmp 0) = .mp m := ⟨_, rfl, rfl, rfl⟩
  rw [he]
  clear he
  refine vsk fun K1 hK1 => ?_
  refine vw_sc 0 [] ?_
  simp only [bs, ↓vopx, ↓vop, thenV, flat, V.cells, h0, wocs, ↓goc, ↓woc, ↓vopm0]
  repeat ((with_reducible refine And.intro ?_ ?_); · first | (with_reducible assumption) | omega | exact ⟨by omega, by omega⟩ | with_reducible rfl | (repeat' first | exact Keep.refl _ | refine Keep.add ?_ ?_ _ | refine Keep.set ?_ ?_ _ | exact Nat.le_refl _ | (simp only [Sg.add, Sg.set, Sg.del]; omega)))
  refine hK1 _ _ ?_
  refine vsk fun K2 hK2 => ?_
  refine vw_sc 0 [] ?_
  simp only [bs, ↓vopx, ↓vop, Nat.reduceBEq, thenV, Nat.reduceLT, hl, wocs, ↓goc, ↓woc, ↓vopm0, capOk, List.all_cons, List.all_nil, Bool.and_self]
  repeat ((with_reducible refine And.intro ?_ ?_); · first | (with_reducible assumption) | omega | exact ⟨by omega, by omega⟩ | with_reducible rfl | (repeat' first | exact Keep.refl _ | refine Keep.add ?_ ?_ _ | refine Keep.set ?_ ?_ _ | exact Nat.le_refl _ | (simp only [Sg.add, Sg.set, Sg.del]; omega)))
  refine hK2 _ _ ?_
  refine vw_ret ?_
  refine hQ _ _ _ (.inr rfl) (donek_tmp (v := .clo 36 [.ptr s.next 0]) ?_ rfl ⟨rfl, rfl⟩)
  try simp only [ev_hit, lpv, hl, Nat.reduceLT]
set_option maxRecDepth 20000 in
theorem tEach_ (s : Sg) (p : Nat) : VCall Tryd.prog 16 [.ptr p 0] s (fun v s' => v = .clo 23 [.ptr s.next 0] ∧ s' = s.add (.box 23 [.ptr p 0])) := by
  refine kcall_of_body Tryd.func16 rfl fun Q hQ => ?_
  obtain ⟨e, he, hl, h0⟩ : ∃ e : Env, ([.ptr p 0] ++ List.replicate (Tryd.f16.ntmps - ([.ptr p 0] : List V).length) .junk) = e ∧ e.length = 4 ∧ ev e (.tmp 0) = .ptr p 0 := ⟨_, rfl, rfl, rfl⟩
  rw [he]
  clear he
  refine vsk fun K1 hK1 => ?_
  refine vw_sc 0 [] ?_
  simp only [bs, ↓vopx, ↓vop, thenV, flat, V.cells, h0, wocs, ↓goc, ↓woc, ↓vopm0]
  repeat ((with_reducible refine And.intro ?_ ?_); · first | (with_reducible assumption) | omega | exact ⟨by omega, by omega⟩ | with_reducible rfl | (repeat' first | exact Keep.refl _ | refine Keep.add ?_ ?_ _ | refine Keep.set ?_ ?_ _ | exact Nat.le_refl _ | (simp only [Sg.add, Sg.set, Sg.del]; omega)))
  refine hK1 _ _ ?_
  refine vsk fun K2 hK2 => ?_
  refine vw_sc 0 [] ?_
  simp only [bs, ↓vopx, ↓vop, Nat.reduceBEq, thenV, Nat.reduceLT, hl, wocs, ↓goc, ↓woc, ↓vopm0, capOk, List.all_cons, List.all_nil, Bool.and_self]
  repeat ((with_reducible refine And.intro ?_ ?_); · first | (with_reducible assumption) | omega | exact ⟨by omega, by omega⟩ | with_reducible rfl | (repeat' first | exact Keep.refl _ | refine Keep.add ?_ ?_ _ | refine Keep.set ?_ ?_ _ | exact Nat.le_refl _ | (simp only [Sg.add, Sg.set, Sg.del]; omega)))
  refine hK2 _ _ ?_
  refine vw_ret ?_
  refine hQ _ _ _ (.inr rfl) (donek_tmp (v := .clo 23 [.ptr s.next 0]) ?_ rfl ⟨rfl, rfl⟩)
  try simp only [ev_hit, lpv, hl, Nat.reduceLT]
set_option maxRecDepth 20000 in
set_option maxHeartbeats 1000000 in
theorem tEach1_ (n0 cb p m : Nat) (L : List Txt) (hL : L.length ≤ 1000) (hk0 : ∀ q ∈ L, q.1.size ≤ 1000000) (hnd : (L.map (·.1)).Nodup) (Iv : Nat → Sg → Prop) (E : TrI n0 cb p m L Iv) (s : Sg) (hm0 : m < s.next) (hs0 : Iv 0 s) : VCall Tryd.prog 23 [.yl n0, .ptr cb 0] s (fun _ s' => Iv (srtK L).length s') := by
  refine kcall_of_body Tryd.func23 rfl fun Q hQ => ?_
  obtain ⟨e, he, hl, h0, h1⟩ : ∃ e : Env, ([.yl n0, .ptr cb 0] ++ List.replicate (Tryd.f23.ntmps - ([.yl n0, .ptr cb 0] : List V).length) .junk) = e ∧ e.length = 28 ∧ ev e (.tmp 0) = .yl n0 ∧ ev e (.tmp 1) = .ptr cb 0 := ⟨_, rfl, rfl, rfl, rfl⟩
  rw [he]
  clear he
  obtain ⟨hcb, hTr⟩ := E.hI _ s hs0
  have hTp := hTr.hp
  have hTm := hTr.hm
  have hsl := srtK_len L
  refine vsk fun K1 hK1 => ?_
  refine vw_sc 0 [.stop, .stop] ?_
  simp only [dstIs, bs, Nat.reduceAdd, dSure, ↓vopx, ↓vop, thenV, Nat.reduceLT, dLoad, vpart, hl, h1, wocs, ↓goc, ↓woc, ↓vopm0, ↓callC, calleeV, ↓yieldC, Tryd.ag23, Tryd.fd51_0, Tryd.sz23, Tryd.sz49, Tryd.ag49, farOp, hcb, hTp]
  refine ⟨Tryd.is25, (tKeys_ s m).mono fun v s2_ hv => ?_⟩
  obtain ⟨rfl, rfl⟩ := hv
  try simp only [bs, flat, Nat.reduceLT, hl, Hold]
  refine ⟨Tryd.is24, (sorted_ _ s.next m L (by simp [Sg.add]) (by simp only [Sg.add]; rw [if_neg (by omega)]; exact hTm) (by omega) hk0 hnd).mono fun v s2_ hv => ?_⟩
  obtain ⟨rfl, rfl⟩ := hv
  try simp only [len_tStr1]
  refine hK1 _ _ ?_
  refine vw_block ?_
  refine vw_loop (fun mm e' s' => ∃ k : Nat, mm = (srtK L).length - k ∧ k ≤ (srtK L).length ∧ e'.length = 28 ∧ ev e' (.tmp 0) = .yl n0 ∧ ev e' (.tmp 1) = .ptr cb 0 ∧ ev e' (.tmp 10) = .t (.sl 1 ((srtK L).map TS)) ∧ ev e' (.tmp 11) = I (srtK L).length ∧ ev e' (.tmp 12) = I k ∧ True ∧ Iv k s') (⟨0, rfl, Nat.zero_le _, ?_⟩) ?_
  · try simp only [ev_hit, ev_miss, Nat.reduceBEq, lpv, hl, h0, h1, Nat.reduceLT, true_and]
    repeat ((with_reducible refine And.intro ?_ ?_); · first | trivial | assumption | omega | rfl | (push_cast; rfl) | exact ⟨by omega, by omega⟩)
    exact E.hext _ _ _ hs0 ((Keep.refl s).add (Nat.le_refl _) _) (by simp [Sg.add])
  rintro mm e s1 ⟨k, rfl, hle_k, hl, k0, k1, k10, k11, h_k, hst, hiv⟩
  refine vsk fun K2 hK2 => ?_
  refine vw_sc 0 [] ?_
  simp only [thenV, opII, k11, h_k, wocs, ↓goc, ↓woc]
  repeat ((with_reducible refine And.intro ?_ ?_); · first | (with_reducible assumption) | omega | exact ⟨by omega, by omega⟩ | with_reducible rfl | (repeat' first | exact Keep.refl _ | refine Keep.add ?_ ?_ _ | refine Keep.set ?_ ?_ _ | exact Nat.le_refl _ | (simp only [Sg.add, Sg.set, Sg.del]; omega)))
  refine hK2 _ _ ?_
  refine vsk fun K3 hK3 => ?_
  refine vck fun A B hA hB => ?_
  simp only [condV, ev_hit, Nat.reduceLT, decide_eq_true_eq, decide_eq_false_iff_not, hl]
  refine ⟨fun hc13 => hA ?_, fun hc13 => hB ?_⟩
  · clear hA hB A B
    refine vw_skip ?_
    refine hK3 _ _ ?_
    refine vsk fun K4 hK4 => ?_
    refine vw_block ?_
    refine vsk fun K5 hK5 => ?_
    have hkl : k < (srtK L).length := by omega
    obtain ⟨kb, hkb⟩ : ∃ z, (srtK L)[k]? = some z := ⟨_, List.getElem?_eq_getElem hkl⟩
    obtain ⟨hcb1, hTr1⟩ := E.hI _ s1 hiv
    have hTp1 := hTr1.hp
    have hwk : (wkS L)[k]? = some (kb, (tget kb L).getD ⟨#[]⟩) := by unfold wkS; rw [List.getElem?_map, hkb]; rfl
    refine vw_sc 0 [] ?_
    simp only [bs, ↓vopx, ↓vop, Nat.reduceBEq, thenV, Nat.reduceLT, dLoad, vpart, hl, k10, h_k, wocs, ↓goc, ↓woc, ↓vopm0, Tryd.ag9, Tryd.sz9, Tryd.un66, hkb, hkl]
    repeat ((with_reducible refine And.intro ?_ ?_); · first | (with_reducible assumption) | omega | exact ⟨by omega, by omega⟩ | with_reducible rfl | (repeat' first | exact Keep.refl _ | refine Keep.add ?_ ?_ _ | refine Keep.set ?_ ?_ _ | exact Nat.le_refl _ | (simp only [Sg.add, Sg.set, Sg.del]; omega)))
    refine hK5 _ _ ?_
    refine vsk fun K6 hK6 => ?_
    refine vw_sc 0 [.op (Str ((tget kb L).getD ⟨#[]⟩)) s1, .stop] ?_
    simp only [dstIs, bs, Nat.reduceLeDiff, Nat.reduceAdd, vparts, gfill, dSure, ↓vopx, ↓vop, Nat.reduceBEq, thenV, Nat.reduceLT, V.cells, dLoad, vpart, hl, k0, k1, wocs, ↓goc, ↓woc, ↓vopm0, calleeV, ↓yieldC, Tryd.ag23, Tryd.fd51_0, Tryd.st32, Tryd.sz23, Tryd.sz49, Tryd.ag49, farOp, hcb1, hTp1]
    refine ⟨t_lookF rfl (by simp only [ev_hit, ev_miss, Nat.reduceBEq, lpv, hl, Nat.reduceLT]) hTr1.hm (by simp only [ev_hit, lpv, hl, Nat.reduceLT]), YCall.mono (E.hY k s1 (kb, _) hwk hiv) fun v s3 hv => ?_⟩
    obtain ⟨rfl, hiv3⟩ := hv
    try simp only [bs, Nat.reduceBEq, Nat.reduceLT, hl, k0, Hold]
    refine hK6 _ _ ?_
    refine vck fun A B hA hB => ?_
    simp only [condV, ev_hit, lpv, Nat.reduceLT, true_implies, reduceCtorEq, false_implies, true_and, hl]
    refine hB ?_
    clear hA hB A B
    refine vw_skip ?_
    refine hK4 _ _ ?_
    refine vw_sc 0 [] ?_
    simp only [bs, ↓vopx, ↓vop, Nat.reduceBEq, thenV, flat, Nat.reduceLT, opII, hl, k0, k1, k10, k11, h_k, wocs, ↓goc, ↓woc, ↓vopm0]
    repeat ((with_reducible refine And.intro ?_ ?_); · first | (with_reducible assumption) | omega | exact ⟨by omega, by omega⟩ | with_reducible rfl | (repeat' first | exact Keep.refl _ | refine Keep.add ?_ ?_ _ | refine Keep.set ?_ ?_ _ | exact Nat.le_refl _ | (simp only [Sg.add, Sg.set, Sg.del]; omega)))
    refine ⟨(srtK L).length - (k + 1), by omega, k + 1, rfl, by omega, ?_⟩
    try simp only [ev_hit, ev_miss, Nat.reduceBEq, lpv, hl, k0, k1, k10, k11, h_k, if_true, if_false, Nat.reduceEqDiff, Nat.reduceLT, true_and, and_true]
    repeat ((with_reducible refine And.intro ?_ ?_); · first | trivial | assumption | omega | rfl | (push_cast; rfl) | exact ⟨by omega, by omega⟩)
    exact hiv3
  · clear hA hB A B
    have hkn : k = (srtK L).length := by omega
    refine vw_exit ?_
    simp only [thenV, blockV, if_true]
    first | exact hQ _ _ _ (.inr rfl) ⟨[], rfl, rfl, hkn ▸ hiv⟩ | exact hQ _ _ _ (.inl rfl) ⟨[], rfl, rfl, hkn ▸ hiv⟩
set_option maxRecDepth 20000 in
set_option maxHeartbeats 1000000 in
theorem tApp_ (s : Sg) (cb p m : Nat) (L : List Txt) (hL : L.length ≤ 1000) (hk0 : ∀ q ∈ L, q.1.size ≤ 1000000) (hnd : (L.map (·.1)).Nodup) (hcb : s.m cb = some (.box 23 [.ptr p 0])) (hT : TreeP s p m L) (hc0 : cb < s.next) (hp0 : p < s.next) (hm0 : m < s.next) : DCall Tryd.prog 22 [.t (.v (.slice none 0 0)), .clo 23 [.ptr cb 0]] s (.t (tWork (wkS L))) (s) := by
  refine dcall_of_body Tryd.func22 rfl fun Q hQ => ?_
  obtain ⟨e, he, hl, h0, h1⟩ : ∃ e : Env, ([.t (.v (.slice none 0 0)), .clo 23 [.ptr cb 0]] ++ List.replicate (Tryd.f22.ntmps - ([.t (.v (.slice none 0 0)), .clo 23 [.ptr cb 0]] : List V).length) .junk) = e ∧ e.length = 13 ∧ ev e (.tmp 0) = .t (.v (.slice none 0 0)) ∧ ev e (.tmp 1) = .clo 23 [.ptr cb 0] := ⟨_, rfl, rfl, rfl, rfl⟩
  rw [he]
  clear he
  refine vsk fun K1 hK1 => ?_
  refine vw_sc 0 [] ?_
  simp only [bs, ↓vopx, ↓vop, thenV, flat, V.cells, h0, wocs, ↓goc, ↓woc, ↓vopm0]
  repeat ((with_reducible refine And.intro ?_ ?_); · first | (with_reducible assumption) | omega | exact ⟨by omega, by omega⟩ | with_reducible rfl | (repeat' first | exact Keep.refl _ | refine Keep.add ?_ ?_ _ | refine Keep.set ?_ ?_ _ | exact Nat.le_refl _ | (simp only [Sg.add, Sg.set, Sg.del]; omega)))
  refine hK1 _ _ ?_
  refine vsk fun K2 hK2 => ?_
  refine vsk fun K3 hK3 => ?_
  refine vw_sc 0 [] ?_
  simp only [bs, ↓vopx, ↓vop, Nat.reduceBEq, thenV, h1, wocs, ↓goc, ↓woc, ↓vopm0]
  repeat ((with_reducible refine And.intro ?_ ?_); · first | (with_reducible assumption) | omega | exact ⟨by omega, by omega⟩ | with_reducible rfl | (repeat' first | exact Keep.refl _ | refine Keep.add ?_ ?_ _ | refine Keep.set ?_ ?_ _ | exact Nat.le_refl _ | (simp only [Sg.add, Sg.set, Sg.del]; omega)))
  refine hK3 _ _ ?_
  refine vw_block ?_
  refine vw_env2 fun e1 s3 hE hS => ?_
  have hlE : e1.length = 13 := by rw [hE]; simp only [lpv, hl]
  have h2E : ev e1 (.tmp 2) = .ptr s.next 0 := by rw [hE]; simp only [ev_hit, ev_miss, Nat.reduceBEq, hl, Nat.reduceLT]
  have h6E : ev e1 (.tmp 6) = .clo 23 [.ptr cb 0] := by rw [hE]; simp only [ev_hit, lpv, hl, Nat.reduceLT]
  clear hE
  have n3 : s3.next = s.next + 1 := by rw [hS]; rfl
  have b0 : s3.m s.next = some (.box 29 [.t (.v (.slice none 0 0))]) := by rw [hS]; simp [Sg.add]
  have hk3 : Keep s s3 := by rw [hS]; exact (Keep.refl s).add (Nat.le_refl _) _
  clear hS
  refine vw_range (g := 23) (caps := [.ptr cb 0]) h6E Tryd.func23 rfl (by decide) fun s4 h4e h4n h4m h4l => ?_
  obtain ⟨lp0, hlp0⟩ : ∃ lp0, s4.m s3.next = some lp0 := ⟨_, h4l⟩
  have hk4 : Keep s s4 := fun n b hn h => by rw [h4m _ (by omega)]; exact hk3 n b hn h
  have hst : (fun k s' => WkB s' s.next (s3.next + 1) ((wkS L).take k) ∧ s'.m s3.next = some lp0 ∧ s3.next < s'.next ∧ Keep s s') 0 s4 := ⟨⟨_, by rw [h4m _ (by omega)]; exact b0, .inl ⟨by simp, rfl⟩⟩, hlp0, by omega, hk4⟩
  refine (tEach1_ s3.next cb p m L hL hk0 hnd (fun k s' => WkB s' s.next (s3.next + 1) ((wkS L).take k) ∧ s'.m s3.next = some lp0 ∧ s3.next < s'.next ∧ Keep s s') ⟨fun k s5 h => ⟨h.2.2.2 _ _ hc0 hcb, hT.keep hp0 hm0 h.2.2.2⟩, fun k s5 s6 h hk hn => ⟨?_, hk _ _ h.2.2.1 h.2.1, by omega, h.2.2.2.trans (by omega) hk⟩, fun k s5 x hx hk => ?_⟩ s4 (by omega) hst).mono fun v s6 h6 => ?_
  · obtain ⟨⟨x, hx, hh⟩, hl, hn2, hks⟩ := h
    refine ⟨x, hk _ _ (by omega) hx, ?_⟩
    rcases hh with hh | ⟨m2, h1, h2, h3, h4⟩
    · exact .inl hh
    · exact .inr ⟨m2, h1, hk _ _ h4 h2, h3, by omega⟩
  rotate_left
  · obtain ⟨⟨x6, hx6, hh6⟩, h6l, h6n, h6k⟩ := h6
    refine ⟨none, .ready, h6l.trans (hlp0.symm.trans h4l), by simp, ?_⟩
    have m7 : ¬ s.next = s3.next := by omega
    simp only []
    refine hK2 _ _ ?_
    refine vsk fun K4 hK4 => ?_
    refine vw_sc 0 [] ?_
    simp only [bs, ↓vopx, ↓vop, thenV, Nat.reduceLT, dLoad, vpart, hlE, h2E, wocs, ↓goc, ↓woc, ↓vopm0, Tryd.ag29, Tryd.sz29, m7, hx6]
    repeat ((with_reducible refine And.intro ?_ ?_); · first | (with_reducible assumption) | omega | exact ⟨by omega, by omega⟩ | with_reducible rfl | (repeat' first | exact Keep.refl _ | refine Keep.add ?_ ?_ _ | refine Keep.set ?_ ?_ _ | exact Nat.le_refl _ | (simp only [Sg.add, Sg.set, Sg.del]; omega)))
    refine hK4 _ _ ?_
    refine vw_ret ?_
    have htk : (wkS L).take (srtK L).length = wkS L := List.take_of_length_le (by rw [wkS_len, srtK_len]; exact Nat.le_refl _)
    rw [htk] at hh6
    have hkp : ∀ n b, n < s.next → s.m n = some b → (s6.del s3.next).m n = some b := fun n b hn hb => by simp only [Sg.del]; rw [if_neg (by omega)]; exact h6k n b hn hb
    rcases hh6 with ⟨hz6, rfl⟩ | ⟨m2, rfl, hm2, hml, hmn⟩
    · rw [hz6] at hQ
      refine hQ _ _ _ (.inr rfl) (Done.toS (done_nil (k := 2) (by omega) ?_ hkp))
      try simp only [ev_hit, lpv, hlE, Nat.reduceLT]
    · refine hQ _ _ _ (.inr rfl) (Done.toS (done_loc (n := m2) (k := 2) (el := 32) (len := (wkS L).length) ?_ ?_ (flatW _) (by omega) hkp))
      · try simp only [ev_hit, lpv, hlE, Nat.reduceLT]
      · simp only [Sg.del]; rw [if_neg (by omega)]; exact hm2
  obtain ⟨⟨x5, hx5, hh5⟩, h5l, h5n, h5k⟩ := hk
  refine ycall_of (h5l.trans (hlp0.symm.trans h4l)) rfl fun KA hKA => ?_
  rw [show (#[7] : Array Tmp).toList = [7] from rfl, setps_one]
  refine vw_sc 0 [] ?_
  simp only [bs, Nat.reduceAdd, ↓vopx, ↓vop, Nat.reduceBEq, thenV, Nat.reduceLT, V.cells, hlE, wocs, ↓goc, ↓woc, ↓vopm0, Tryd.sz32, Tryd.zv32]
  repeat ((with_reducible refine And.intro ?_ ?_); · first | (with_reducible assumption) | omega | exact ⟨by omega, by omega⟩ | with_reducible rfl | (repeat' first | exact Keep.refl _ | refine Keep.add ?_ ?_ _ | refine Keep.set ?_ ?_ _ | exact Nat.le_refl _ | (simp only [Sg.add, Sg.set, Sg.del]; omega)))
  refine hKA _ _ (by simp only [Sg.set, Sg.add]; rw [if_neg (by omega), if_neg (by omega)]; exact h5l.trans (hlp0.symm.trans h4l)) ?_
  refine vw_env2 fun e2 sd hE2 hSd => ?_
  subst hE2
  have hsdn : sd.next = s5.next + 1 := by rw [hSd]; rfl
  have fd : ∀ x, x ≠ s3.next → x ≠ s5.next → sd.m x = s5.m x := fun x h1 h2 => by rw [hSd]; simp only [Sg.set, Sg.add, h1, h2, if_false]
  have hbx : sd.m s5.next = some (.box 32 [Str x.1, Str x.2]) := by rw [hSd]; simp only [Sg.set, Sg.add]; rw [if_neg (by omega)]; simp
  have hb2 : sd.m s.next = some (.box 29 [x5]) := by rw [fd _ (by omega) (by omega)]; exact hx5
  have nA : ¬ s.next = sd.next := by omega
  have nB : ¬ s.next = sd.next + 1 := by omega
  have nC : ¬ s5.next = sd.next := by omega
  have nD : ¬ sd.next = sd.next + 1 := by omega
  have hkl : k < (wkS L).length := (List.getElem?_eq_some_iff.1 hx).1
  have hwl := wkS_len L
  have len_take : ((wkS L).take k).length = k := by rw [List.length_take]; omega
  refine vw_block ?_
  rcases hh5 with ⟨hz5, rfl⟩ | ⟨m2, rfl, hm2, hml, hmn⟩
  · refine vw_sc 0 [] ?_
    simp only [bs, dstT, srcT, Nat.reduceLeDiff, Nat.reduceAdd, vparts, gfill, repl, Sg.frzP, ↓vopx, ↓vop, Nat.reduceBEq, blockV, Nat.reduceLT, V.cells, dLoad, vpart, Sg.frzL, Sg.frz1, hlE, h2E, wocs, ↓goc, ↓woc, ↓vopm0, Tryd.ag29, Tryd.ag32, Tryd.sl29, Tryd.sz29, Tryd.sz32, hbx, hb2, nA, nB, Nat.one_mul, Nat.div_self]
    repeat ((with_reducible refine And.intro ?_ ?_); · first | (with_reducible assumption) | omega | exact ⟨by omega, by omega⟩ | with_reducible rfl | (repeat' first | exact Keep.refl _ | refine Keep.add ?_ ?_ _ | refine Keep.set ?_ ?_ _ | exact Nat.le_refl _ | (simp only [Sg.add, Sg.set, Sg.del]; omega)))
    show _ ∧ _
    have hl1 : ((wkS L).take (k + 1)).length = k + 1 := by rw [List.length_take]; omega
    have hfl : ((wkS L).take (k + 1)).flatMap wcs = ((wkS L).take k).flatMap wcs ++ wcs x := by rw [List.take_add_one, hx]; simp
    have q1 : ¬ s3.next = s.next := by omega
    have q2 : ¬ s3.next = sd.next + 1 := by omega
    have q3 : ¬ s3.next = sd.next := by omega
    have q4 : ¬ sd.next + 1 = s3.next := by omega
    have q5 : ¬ sd.next + 1 = s.next := by omega
    have q6 : ¬ s.next = s3.next := by omega
    have q8 : ∀ n b, n < s.next → s.m n = some b → sd.m n = some b := fun n b hn hb => by rw [fd n (by omega) (by omega)]; exact h5k n b hn hb
    first
    | (have hk0_ : k = 0 := (by rw [← len_take, hz5]; rfl); (exact And.intro (by simp only [Sg.set, Sg.add, q1, q2, q3, if_false]; rw [hSd]; exact if_pos rfl) ⟨rfl, ⟨_, (by simp only [Sg.set, Sg.add, q6, if_false, if_true]; rfl), .inr ⟨sd.next + 1, (by rw [hl1, hk0_]), (by simp only [Sg.set, Sg.add, q4, q5, if_false, if_true]; rw [hfl, hz5]; try rfl), by omega, (by simp only [Sg.set, Sg.add]; omega)⟩⟩, (by rw [Option.some.inj (hlp0.symm.trans h4l)]; simp only [Sg.set, if_true]), (by simp only [Sg.set, Sg.add]; omega), (by intro n b hn hb; have e1 : ¬ n = sd.next := (by omega); have e2 : ¬ n = sd.next + 1 := (by omega); have e3 : ¬ n = s.next := (by omega); have e4 : ¬ n = s3.next := (by omega); simp only [Sg.set, Sg.add, e1, e2, e3, e4, if_false]; exact q8 n b hn hb)⟩))
    | (exact And.intro (by simp only [Sg.set, Sg.add, Sg.del, q1, q2, q3, if_false]; rw [if_neg (by omega), hSd]; exact if_pos rfl) ⟨rfl, ⟨_, (by simp only [Sg.set, Sg.add, Sg.del, q6, if_false, if_true]; rfl), .inr ⟨sd.next + 1, (by rw [hl1, show (k * 2 + 2) / 2 = k + 1 by omega]), (by simp only [Sg.set, Sg.add, Sg.del, q4, q5, if_false, if_true]; rw [hfl]), by omega, (by simp only [Sg.set, Sg.add, Sg.del]; omega)⟩⟩, (by rw [Option.some.inj (hlp0.symm.trans h4l)]; simp only [Sg.set, if_true]), (by simp only [Sg.set, Sg.add, Sg.del]; omega), (by intro n b hn hb; have e1 : ¬ n = sd.next := (by omega); have e2 : ¬ n = sd.next + 1 := (by omega); have e3 : ¬ n = s.next := (by omega); have e4 : ¬ n = s3.next := (by omega); have e5 : ¬ n = m2 := (by omega); simp only [Sg.set, Sg.add, Sg.del, e1, e2, e3, e4, e5, if_false]; exact q8 n b hn hb)⟩)
  · have hm2d : sd.m m2 = some (.arr 2 32 (((wkS L).take k).flatMap wcs)) := by rw [fd m2 (by omega) (by omega)]; exact hm2
    have mA : ¬ m2 = sd.next := by omega
    have mB : ¬ m2 = sd.next + 1 := by omega
    have mC : ¬ s.next = m2 := by omega
    have mD : ¬ sd.next = m2 := by omega
    have mE : ¬ s.next = sd.next + 1 + 1 := by omega
    refine vw_sc 0 [] ?_
    simp only [bs, dstT, srcT, Nat.reduceLeDiff, Nat.reduceAdd, vparts, gfill, repl, Sg.frzP, ↓vopx, ↓vop, Nat.reduceBEq, blockV, Nat.reduceLT, V.cells, dLoad, vpart, Sg.frzL, Sg.frz1, hlE, h2E, wocs, ↓goc, ↓woc, ↓vopm0, Tryd.ag29, Tryd.ag32, Tryd.sl29, Tryd.sz29, Tryd.sz32, hbx, hb2, nA, nB, hm2d, mA, mC, len_take, flatW, Nat.one_mul]
    repeat ((with_reducible refine And.intro ?_ ?_); · first | (with_reducible assumption) | omega | exact ⟨by omega, by omega⟩ | with_reducible rfl | (repeat' first | exact Keep.refl _ | refine Keep.add ?_ ?_ _ | refine Keep.set ?_ ?_ _ | exact Nat.le_refl _ | (simp only [Sg.add, Sg.set, Sg.del]; omega)))
    show _ ∧ _
    have hl1 : ((wkS L).take (k + 1)).length = k + 1 := by rw [List.length_take]; omega
    have hfl : ((wkS L).take (k + 1)).flatMap wcs = ((wkS L).take k).flatMap wcs ++ wcs x := by rw [List.take_add_one, hx]; simp
    have q1 : ¬ s3.next = s.next := by omega
    have q2 : ¬ s3.next = sd.next + 1 := by omega
    have q3 : ¬ s3.next = sd.next := by omega
    have q4 : ¬ sd.next + 1 = s3.next := by omega
    have q5 : ¬ sd.next + 1 = s.next := by omega
    have q6 : ¬ s.next = s3.next := by omega
    have q8 : ∀ n b, n < s.next → s.m n = some b → sd.m n = some b := fun n b hn hb => by rw [fd n (by omega) (by omega)]; exact h5k n b hn hb
    first
    | (have hk0_ : k = 0 := (by rw [← len_take, hz5]; rfl); (exact And.intro (by simp only [Sg.set, Sg.add, Sg.del, q1, q2, q3, if_false]; rw [hSd]; exact if_pos rfl) ⟨rfl, ⟨_, (by simp only [Sg.set, Sg.add, Sg.del, q6, if_false, if_true]; rfl), .inr ⟨sd.next + 1, (by rw [hl1, hk0_]), (by simp only [Sg.set, Sg.add, Sg.del, q4, q5, if_false, if_true]; rw [hfl, hz5]; try rfl), by omega, (by simp only [Sg.set, Sg.add, Sg.del]; omega)⟩⟩, (by rw [Option.some.inj (hlp0.symm.trans h4l)]; simp only [Sg.set, if_true]), (by simp only [Sg.set, Sg.add, Sg.del]; omega), (by intro n b hn hb; have e1 : ¬ n = sd.next := (by omega); have e2 : ¬ n = sd.next + 1 := (by omega); have e3 : ¬ n = s.next := (by omega); have e4 : ¬ n = s3.next := (by omega); simp only [Sg.set, Sg.add, Sg.del, e1, e2, e3, e4, if_false]; exact q8 n b hn hb)⟩))
    | (exact And.intro (by simp only [Sg.set, Sg.add, Sg.del, q1, q2, q3, if_false]; rw [if_neg (by omega), hSd]; exact if_pos rfl) ⟨rfl, ⟨_, (by simp only [Sg.set, Sg.add, Sg.del, q6, if_false, if_true]; rfl), .inr ⟨sd.next + 1, (by rw [hl1, show (k * 2 + 2) / 2 = k + 1 by omega]), (by simp only [Sg.set, Sg.add, Sg.del, q4, q5, if_false, if_true]; rw [hfl]), by omega, (by simp only [Sg.set, Sg.add, Sg.del]; omega)⟩⟩, (by rw [Option.some.inj (hlp0.symm.trans h4l)]; simp only [Sg.set, if_true]), (by simp only [Sg.set, Sg.add, Sg.del]; omega), (by intro n b hn hb; have e1 : ¬ n = sd.next := (by omega); have e2 : ¬ n = sd.next + 1 := (by omega); have e3 : ¬ n = s.next := (by omega); have e4 : ¬ n = s3.next := (by omega); have e5 : ¬ n = m2 := (by omega); simp only [Sg.set, Sg.add, Sg.del, e1, e2, e3, e4, e5, if_false]; exact q8 n b hn hb)⟩)
end Go.Proofs

open Go Go.V
namespace Go.Proofs
theorem anyt_take {α : Type} {P : α → Bool} {l : List α} {i : Nat} {x : α} (h : l[i]? = some x) (hno : (l.take i).any P = false) (hx : ¬ P x = true) : (l.take (i + 1)).any P = false := by
  rw [List.take_add_one, h, List.any_append, hno]; simp [hx]
theorem anyt_at {α : Type} {P : α → Bool} {l : List α} {i : Nat} {x : α} (h : l[i]? = some x) (hx : P x = true) : l.any P = true := List.any_eq_true.2 ⟨x, List.mem_of_getElem? h, hx⟩
structure FlOK (f : Fl) : Prop where
  hl : f.lines.length ≤ 200
  hp : f.pairs.length < 1000000000
  hb : ∀ x ∈ f.lines, x.tx.size ≤ 1000000
abbrev fcells (f : Fl) : List T := [TS f.path, tLines f.lines, tPairs f.pairs]
abbrev tFiles (l : List Fl) : T := .sl 3 (l.flatMap fcells)
theorem flatF (l : List Fl) : (l.flatMap fcells).length = l.length * 3 := by
  induction l with
  | nil => rfl
  | cons a l ih => simp only [List.flatMap_cons, List.length_append, ih, List.length_cons, List.length_nil]; omega
theorem len_tFiles (l : List Fl) : vlen (.t (tFiles l)) = some l.length := by
  simp only [vlen, flatF]; congr 1; omega
theorem dropF {l : List Fl} {i : Nat} {p : Fl} (h : l[i]? = some p) : (((l.flatMap fcells).map V.t).drop (i * 3)).take 3 = (fcells p).map V.t := by
  induction l generalizing i with
  | nil => simp at h
  | cons a l ih =>
    cases i with
    | zero => simp at h; subst h; simp
    | succ i =>
      have := ih (i := i) (by simpa using h)
      rw [show (i + 1) * 3 = i * 3 + 3 by omega]
      simpa using this
def gt (k : ByteArray) (L : List Txt) : ByteArray := (tget k L).getD ⟨#[]⟩
def ofS (l : List Fl) : List Txt := (l.take 6).foldl (fun L f => tput f.path (txtS f) L) []
def chgS (L : List Txt) (f : Fl) : Bool := !linS f || !((gt f.path L).toList == (txtS f).toList)
def difS (L : List Txt) (l : List Fl) (f : Fl) : Bool := !((gt f.path L).toList == (gt f.path (ofS l)).toList)
def cleanS (L : List Txt) (l : List Fl) : Bool := !l.any (difS L l)
theorem ofS_step {l : List Fl} {k : Nat} {f : Fl} (h : l[k]? = some f) : (l.take (k + 1)).foldl (fun L f => tput f.path (txtS f) L) [] = tput f.path (txtS f) ((l.take k).foldl (fun L f => tput f.path (txtS f) L) []) := by
  rw [List.take_add_one, h, List.foldl_append]; rfl
set_option maxRecDepth 20000 in
theorem tColl_ (s : Sg) (cb p m : Nat) (L : List Txt) (hL : L.length ≤ 1000) (hk0 : ∀ q ∈ L, q.1.size ≤ 1000000) (hnd : (L.map (·.1)).Nodup) (hcb : s.m cb = some (.box 23 [.ptr p 0])) (hT : TreeP s p m L) (hc0 : cb < s.next) (hp0 : p < s.next) (hm0 : m < s.next) : DCall Tryd.prog 15 [.clo 23 [.ptr cb 0]] s (.t (tWork (wkS L))) (s) := by
  refine dcall_of_body Tryd.func15 rfl fun Q hQ => ?_
  obtain ⟨e, he, hl, h0⟩ : ∃ e : Env, ([.clo 23 [.ptr cb 0]] ++ List.replicate (Tryd.f15.ntmps - ([.clo 23 [.ptr cb 0]] : List V).length) .junk) = e ∧ e.length = 5 ∧ ev e (.tmp 0) = .clo 23 [.ptr cb 0] := ⟨_, rfl, rfl, rfl⟩
  rw [he]
  clear he
  refine vsk fun K1 hK1 => ?_
  refine vw_sc 0 [] ?_
  simp only [bs, ↓vopx, ↓vop, thenV, flat, wocs, ↓goc, ↓woc, ↓vopm0]
  repeat ((with_reducible refine And.intro ?_ ?_); · first | (with_reducible assumption) | omega | exact ⟨by omega, by omega⟩ | with_reducible rfl | (repeat' first | exact Keep.refl _ | refine Keep.add ?_ ?_ _ | refine Keep.set ?_ ?_ _ | exact Nat.le_refl _ | (simp only [Sg.add, Sg.set, Sg.del]; omega)))
  refine hK1 _ _ ?_
  refine vsk fun K2 hK2 => ?_
  refine vw_sc 0 [.det (.t (tWork (wkS L))) s] ?_
  simp only [bs, ↓vopx, ↓vop, Nat.reduceBEq, thenV, flat, Nat.reduceLT, hl, h0, wocs, ↓goc, ↓woc, ↓vopm0, ↓callC, calleeV]
  repeat ((with_reducible refine And.intro ?_ ?_); · first | (with_reducible assumption) | omega | exact ⟨by omega, by omega⟩ | exact ⟨Tryd.is22, tApp_ s cb p m L hL hk0 hnd hcb hT hc0 hp0 hm0⟩ | with_reducible rfl | (repeat' first | exact Keep.refl _ | refine Keep.add ?_ ?_ _ | refine Keep.set ?_ ?_ _ | exact Nat.le_refl _ | (simp only [Sg.add, Sg.set, Sg.del]; omega)))
  refine hK2 _ _ ?_
  refine vw_ret ?_
  refine hQ _ _ _ (.inr rfl) (Done.toS (done_tmp ?_ fun n b hn h => h))
  try simp only [ev_hit, lpv, hl, Nat.reduceLT]
set_option maxRecDepth 20000 in
theorem tAll_ (s : Sg) (p m : Nat) (L : List Txt) (hL : L.length ≤ 1000) (hk0 : ∀ q ∈ L, q.1.size ≤ 1000000) (hnd : (L.map (·.1)).Nodup) (hT : TreeP s p m L) (hp0 : p < s.next) (hm0 : m < s.next) : DCall Tryd.prog 8 [.ptr p 0] s (.t (tWork (wkS L))) (s) := by
  refine dcall_of_body Tryd.func8 rfl fun Q hQ => ?_
  obtain ⟨e, he, hl, h0⟩ : ∃ e : Env, ([.ptr p 0] ++ List.replicate (Tryd.f8.ntmps - ([.ptr p 0] : List V).length) .junk) = e ∧ e.length = 6 ∧ ev e (.tmp 0) = .ptr p 0 := ⟨_, rfl, rfl, rfl⟩
  rw [he]
  clear he
  refine vsk fun K1 hK1 => ?_
  refine vw_sc 0 [] ?_
  simp only [bs, ↓vopx, ↓vop, thenV, flat, wocs, ↓goc, ↓woc, ↓vopm0]
  repeat ((with_reducible refine And.intro ?_ ?_); · first | (with_reducible assumption) | omega | exact ⟨by omega, by omega⟩ | with_reducible rfl | (repeat' first | exact Keep.refl _ | refine Keep.add ?_ ?_ _ | refine Keep.set ?_ ?_ _ | exact Nat.le_refl _ | (simp only [Sg.add, Sg.set, Sg.del]; omega)))
  refine hK1 _ _ ?_
  refine vsk fun K2 hK2 => ?_
  refine vw_sc 0 [.stop, .det (.t (tWork (wkS L))) (s.add (.box 23 [.ptr p 0]))] ?_
  simp only [dstIs, bs, ↓vopx, ↓vop, Nat.reduceBEq, thenV, Nat.reduceLT, hl, h0, wocs, ↓goc, ↓woc, ↓vopm0, ↓callC, calleeV, ↓yieldC]
  refine ⟨Tryd.is16, (tEach_ s p).mono fun v s2_ hv => ?_⟩
  obtain ⟨rfl, rfl⟩ := hv
  try simp only [bs, Nat.reduceBEq, Nat.reduceLT, hl, h0, Hold]
  refine ⟨⟨Tryd.is15, tColl_ _ s.next p m L hL hk0 hnd (by simp [Sg.add]) (hT.keep hp0 hm0 ((Keep.refl s).add (Nat.le_refl _) _)) (by simp [Sg.add]) (by simp [Sg.add]; omega) (by simp [Sg.add]; omega)⟩, ?_⟩
  try simp only [dstIs, or_false, bs, dstT, srcT, Nat.reduceLeDiff, Nat.reduceAdd, vparts, gfill, repl, Sg.frzP, dSure, wops, ↓gow, ↓wop, vops, ↓gop, ↓vopx, ↓vop, Nat.reduceBEq, thenV, blockV, flat, Nat.reduceEqDiff, Nat.reduceLT, V.cells, dLoad, vpart, opII, opSS, gtmp, Sg.frzL, Sg.frz1, reduceCtorEq, hl, h0, wocs, ↓goc, ↓woc, ↓vopm0, ↓vopm1, ↓vopm2, ↓callC, ↓pick_tt, ↓pick_ff, ↓pick_tf, ↓pick_ft, calleeV, ↓yieldC, ↓farC, List.append_nil, Hold]
  refine hK2 _ _ ?_
  refine vw_ret ?_
  refine hQ _ _ _ (.inr rfl) (Done.toS (done_tmp ?_ ((Keep.refl s).add (Nat.le_refl _) _)))
  try simp only [ev_hit, lpv, hl, Nat.reduceLT]
set_option maxRecDepth 20000 in
theorem shown_ (f : Fl) (hf : FlOK f) (hlin : linS f = true) : PCall Tryd.prog 17 [vFile f] (Str (txtS f)) := by
  refine pcall_of_body Tryd.func17 rfl fun s Q hQ => ?_
  obtain ⟨e, he, hl, h0⟩ : ∃ e : Env, ([vFile f] ++ List.replicate (Tryd.f17.ntmps - ([vFile f] : List V).length) .junk) = e ∧ e.length = 14 ∧ ev e (.tmp 0) = vFile f := ⟨_, rfl, rfl, rfl⟩
  rw [he]
  clear he
  refine vsk fun K1 hK1 => ?_
  refine vw_sc 0 [] ?_
  simp only [bs, ↓vopx, ↓vop, thenV, flat, V.cells, h0, wocs, ↓goc, ↓woc, ↓vopm0]
  repeat ((with_reducible refine And.intro ?_ ?_); · first | (with_reducible assumption) | omega | exact ⟨by omega, by omega⟩ | with_reducible rfl | (repeat' first | exact Keep.refl _ | refine Keep.add ?_ ?_ _ | refine Keep.set ?_ ?_ _ | exact Nat.le_refl _ | (simp only [Sg.add, Sg.set, Sg.del]; omega)))
  refine hK1 _ _ ?_
  refine vsk fun K2 hK2 => ?_
  refine vsk fun K3 hK3 => ?_
  refine vw_sc 0 [.pur (.tup [Str (txtS f), Bo true])] ?_
  simp only [bs, Nat.reduceAdd, ↓vopx, ↓vop, Nat.reduceBEq, thenV, Nat.reduceLT, dLoad, vpart, hl, wocs, ↓goc, ↓woc, ↓vopm0, ↓callC, calleeV, Tryd.ag44, Tryd.sz44]
  repeat ((with_reducible refine And.intro ?_ ?_); · first | (with_reducible assumption) | omega | exact ⟨by omega, by omega⟩ | exact ⟨Tryd.is20, by simpa only [hlin] using vText_ f hf.hl hf.hp hf.hb⟩ | with_reducible rfl | (repeat' first | exact Keep.refl _ | refine Keep.add ?_ ?_ _ | refine Keep.set ?_ ?_ _ | exact Nat.le_refl _ | (simp only [Sg.add, Sg.set, Sg.del]; omega)))
  refine hK3 _ _ ?_
  refine vsk fun K4 hK4 => ?_
  refine vw_sc 0 [] ?_
  simp only [bs, ↓vopx, ↓vop, thenV, Nat.reduceLT, hl, wocs, ↓goc, ↓woc, ↓vopm0]
  repeat ((with_reducible refine And.intro ?_ ?_); · first | (with_reducible assumption) | omega | exact ⟨by omega, by omega⟩ | with_reducible rfl | (repeat' first | exact Keep.refl _ | refine Keep.add ?_ ?_ _ | refine Keep.set ?_ ?_ _ | exact Nat.le_refl _ | (simp only [Sg.add, Sg.set, Sg.del]; omega)))
  refine hK4 _ _ ?_
  refine vck fun A B hA hB => ?_
  simp only [condV, ev_hit, lpv, Nat.reduceLT, true_implies, reduceCtorEq, false_implies, and_true, hl]
  refine hA ?_
  clear hA hB A B
  refine vsk fun K5 hK5 => ?_
  refine vw_sc 0 [] ?_
  simp only [bs, ↓vopx, ↓vop, Nat.reduceBEq, thenV, Nat.reduceLT, hl, wocs, ↓goc, ↓woc, ↓vopm0]
  repeat ((with_reducible refine And.intro ?_ ?_); · first | (with_reducible assumption) | omega | exact ⟨by omega, by omega⟩ | with_reducible rfl | (repeat' first | exact Keep.refl _ | refine Keep.add ?_ ?_ _ | refine Keep.set ?_ ?_ _ | exact Nat.le_refl _ | (simp only [Sg.add, Sg.set, Sg.del]; omega)))
  refine hK5 _ _ ?_
  refine vw_ret ?_
  refine hQ _ _ _ (.inr rfl) (done_tmp ?_ ((Keep.refl s).add (Nat.le_refl _) _))
  try simp only [ev_hit, lpv, hl, Nat.reduceLT]
set_option maxRecDepth 20000 in
theorem changed_ (s : Sg) (p m : Nat) (L : List Txt) (hT : TreeP s p m L) (hp0 : p < s.next) (hm0 : m < s.next) (f : Fl) (hf : FlOK f) : DCall Tryd.prog 12 [.ptr p 0, vFile f] s (Bo (chgS L f)) (s) := by
  refine dcall_of_body Tryd.func12 rfl fun Q hQ => ?_
  obtain ⟨e, he, hl, h0, h1⟩ : ∃ e : Env, ([.ptr p 0, vFile f] ++ List.replicate (Tryd.f12.ntmps - ([.ptr p 0, vFile f] : List V).length) .junk) = e ∧ e.length = 25 ∧ ev e (.tmp 0) = .ptr p 0 ∧ ev e (.tmp 1) = vFile f := ⟨_, rfl, rfl, rfl, rfl⟩
  rw [he]
  clear he
  obtain ⟨b, hb⟩ : ∃ b, linS f = b := ⟨_, rfl⟩
  refine vsk fun K1 hK1 => ?_
  refine vw_sc 0 [] ?_
  simp only [bs, ↓vopx, ↓vop, thenV, flat, V.cells, h1, wocs, ↓goc, ↓woc, ↓vopm0]
  repeat ((with_reducible refine And.intro ?_ ?_); · first | (with_reducible assumption) | omega | exact ⟨by omega, by omega⟩ | with_reducible rfl | (repeat' first | exact Keep.refl _ | refine Keep.add ?_ ?_ _ | refine Keep.set ?_ ?_ _ | exact Nat.le_refl _ | (simp only [Sg.add, Sg.set, Sg.del]; omega)))
  refine hK1 _ _ ?_
  refine vsk fun K2 hK2 => ?_
  refine vw_st2 fun s0 hS0 => ?_
  have b0 : s0.m s.next = some (bxF f) := by rw [hS0, m_add, if_pos rfl]
  have n0 : s0.next = s.next + 1 := by rw [hS0]; rfl
  have k0 : Keep s s0 := by rw [hS0]; exact (Keep.refl s).add (Nat.le_refl _) _
  clear hS0
  refine vw_sc 0 [.pur (.tup [Str (txtS f), Bo b])] ?_
  simp only [bs, Nat.reduceAdd, ↓vopx, ↓vop, Nat.reduceBEq, thenV, Nat.reduceLT, dLoad, vpart, hl, wocs, ↓goc, ↓woc, ↓vopm0, ↓callC, calleeV, Tryd.ag44, Tryd.sz44, b0]
  repeat ((with_reducible refine And.intro ?_ ?_); · first | (with_reducible assumption) | omega | exact ⟨by omega, by omega⟩ | exact ⟨Tryd.is20, by simpa only [hb] using vText_ f hf.hl hf.hp hf.hb⟩ | with_reducible rfl | (repeat' first | exact Keep.refl _ | refine Keep.add ?_ ?_ _ | refine Keep.set ?_ ?_ _ | exact Nat.le_refl _ | (simp only [Sg.add, Sg.set, Sg.del]; omega)))
  refine hK2 _ _ ?_
  refine vsk fun K3 hK3 => ?_
  have hT0 := hT.keep hp0 hm0 k0
  have hTp := hT0.hp
  cases b
  · refine vw_chain Tryd.mixed 11 [0, 0, 0, 0, 0, 0, 1, 0, 1, 1, 0] [] [] 0 (by decide +kernel) (by simp [lpv, hl]) rfl ?_
    simp only [dstIs, bs, ↓vopx, ↓vop, Nat.reduceBEq, thenV, flat, Nat.reduceLT, opII, opSS, gtmp, hl, wocs, ↓goc, ↓woc, ↓vopm0, ↓pick_tf, ↓farC, chn, ↓goq, ↓woq, List.zip_cons_cons, List.zip_nil_right, farOp]
    repeat ((with_reducible refine And.intro ?_ ?_); · first | (with_reducible assumption) | omega | exact ⟨by omega, by omega⟩ | with_reducible rfl | (repeat' first | exact Keep.refl _ | refine Keep.add ?_ ?_ _ | refine Keep.set ?_ ?_ _ | exact Nat.le_refl _ | (simp only [Sg.add, Sg.set, Sg.del]; omega)))
    refine hK3 _ _ ?_
    refine vw_ret ?_
    simp only [chgS, hb, Bool.not_false, Bool.true_or] at hQ
    refine hQ _ _ _ (.inr rfl) (Done.toS (done_tmp ?_ k0))
    try simp only [ev_hit, lpv, hl, Nat.reduceLT]
  · refine vw_chain Tryd.mixed 11 [0, 0, 0, 0, 0, 0, 1, 0, 1, 1, 0] [.op (Str (gt f.path L)) s0] [] 0 (by decide +kernel) (by simp [lpv, hl]) rfl ?_
    simp only [dstIs, bs, dSure, ↓vopx, ↓vop, Nat.reduceBEq, thenV, flat, Nat.reduceLT, dLoad, vpart, opII, opSS, gtmp, hl, h0, wocs, ↓goc, ↓woc, ↓vopm0, ↓vopm1, ↓pick_ff, ↓farC, chn, ↓goq, ↓woq, List.zip_cons_cons, List.zip_nil_right, Tryd.ag9, Tryd.fd44_0, Tryd.fd51_0, Tryd.sz9, Tryd.sz49, Tryd.ag49, farOp, b0, hTp]
    repeat ((with_reducible refine And.intro ?_ ?_); · first | (with_reducible assumption) | omega | exact ⟨by omega, by omega⟩ | exact t_lookF rfl (by simp only [ev_hit, ev_miss, Nat.reduceBEq, lpv, hl, Nat.reduceLT]) hT0.hm (by simp only [ev_hit, lpv, hl, Nat.reduceLT]) | with_reducible rfl | (repeat' first | exact Keep.refl _ | refine Keep.add ?_ ?_ _ | refine Keep.set ?_ ?_ _ | exact Nat.le_refl _ | (simp only [Sg.add, Sg.set, Sg.del]; omega)))
    refine hK3 _ _ ?_
    refine vw_ret ?_
    simp only [chgS, hb, Bool.not_true, Bool.false_or] at hQ
    refine hQ _ _ _ (.inr rfl) (Done.toS (done_tmp ?_ k0))
    try simp only [ev_hit, lpv, hl, Nat.reduceLT]
set_option maxRecDepth 20000 in
theorem idxFiles_ (s : Sg) (l : List Fl) (hl0 : l.length < 1000000) (g : Nat) (caps : List V) (hg : isFn Tryd.prog g) (P : Fl → Bool) (hP : ∀ p, p ∈ l → DCall Tryd.prog g ([vFile p] ++ caps) s (Bo (P p)) s) : VCall Tryd.prog 27 [.t (tFiles l), .clo g caps] s (fun v s' => s' = s ∧ ∃ z : Int, v = I z ∧ decide (z ≥ 0) = l.any P) := by
  refine kcall_of_body Tryd.func27 rfl fun Q hQ => ?_
  obtain ⟨e, he, hl, h0, h1⟩ : ∃ e : Env, ([.t (tFiles l), .clo g caps] ++ List.replicate (Tryd.f27.ntmps - ([.t (tFiles l), .clo g caps] : List V).length) .junk) = e ∧ e.length = 19 ∧ ev e (.tmp 0) = .t (tFiles l) ∧ ev e (.tmp 1) = .clo g caps := ⟨_, rfl, rfl, rfl, rfl⟩
  rw [he]
  clear he
  refine vsk fun K1 hK1 => ?_
  refine vw_sc 0 [] ?_
  simp only [bs, ↓vopx, ↓vop, thenV, flat, wocs, ↓goc, ↓woc, ↓vopm0]
  repeat ((with_reducible refine And.intro ?_ ?_); · first | (with_reducible assumption) | omega | exact ⟨by omega, by omega⟩ | with_reducible rfl | (repeat' first | exact Keep.refl _ | refine Keep.add ?_ ?_ _ | refine Keep.set ?_ ?_ _ | exact Nat.le_refl _ | (simp only [Sg.add, Sg.set, Sg.del]; omega)))
  refine hK1 _ _ ?_
  refine vsk fun K2 hK2 => ?_
  refine vsk fun K3 hK3 => ?_
  refine vw_sc 0 [] ?_
  simp only [bs, ↓vopx, ↓vop, Nat.reduceBEq, thenV, flat, Nat.reduceLT, hl, h0, wocs, ↓goc, ↓woc, ↓vopm0, len_tFiles]
  repeat ((with_reducible refine And.intro ?_ ?_); · first | (with_reducible assumption) | omega | exact ⟨by omega, by omega⟩ | with_reducible rfl | (repeat' first | exact Keep.refl _ | refine Keep.add ?_ ?_ _ | refine Keep.set ?_ ?_ _ | exact Nat.le_refl _ | (simp only [Sg.add, Sg.set, Sg.del]; omega)))
  refine hK3 _ _ ?_
  refine vw_block ?_
  refine vw_loop (fun mm e' s' => ∃ i : Nat, mm = l.length - i ∧ i ≤ l.length ∧ e'.length = 19 ∧ ev e' (.tmp 0) = .t (tFiles l) ∧ ev e' (.tmp 1) = .clo g caps ∧ ev e' (.tmp 7) = I l.length ∧ ev e' (.tmp 8) = I i ∧ s = s' ∧ (l.take i).any P = false) (⟨0, rfl, Nat.zero_le _, ?_⟩) ?_
  · try simp only [ev_hit, ev_miss, Nat.reduceBEq, lpv, hl, h0, h1, Nat.reduceLT, true_and]
    repeat ((with_reducible refine And.intro ?_ ?_); · first | trivial | assumption | omega | rfl | (push_cast; rfl) | exact ⟨by omega, by omega⟩)
    first | trivial | simp
  rintro mm e _ ⟨i, rfl, hle_i, hl, h0, h1, h7, h_i, rfl, hno⟩
  refine vsk fun K4 hK4 => ?_
  refine vw_sc 0 [] ?_
  simp only [thenV, opII, h7, h_i, wocs, ↓goc, ↓woc]
  repeat ((with_reducible refine And.intro ?_ ?_); · first | (with_reducible assumption) | omega | exact ⟨by omega, by omega⟩ | with_reducible rfl | (repeat' first | exact Keep.refl _ | refine Keep.add ?_ ?_ _ | refine Keep.set ?_ ?_ _ | exact Nat.le_refl _ | (simp only [Sg.add, Sg.set, Sg.del]; omega)))
  refine hK4 _ _ ?_
  refine vsk fun K5 hK5 => ?_
  refine vck fun A B hA hB => ?_
  simp only [condV, ev_hit, Nat.reduceLT, decide_eq_true_eq, decide_eq_false_iff_not, hl]
  refine ⟨fun hc9 => hA ?_, fun hc9 => hB ?_⟩
  · clear hA hB A B
    refine vw_skip ?_
    refine hK5 _ _ ?_
    refine vsk fun K6 hK6 => ?_
    refine vw_block ?_
    refine vsk fun K7 hK7 => ?_
    refine vw_sc 0 [] ?_
    simp only [bs, ↓vopx, ↓vop, Nat.reduceBEq, thenV, Nat.reduceLT, hl, h_i, wocs, ↓goc, ↓woc, ↓vopm0]
    repeat ((with_reducible refine And.intro ?_ ?_); · first | (with_reducible assumption) | omega | exact ⟨by omega, by omega⟩ | with_reducible rfl | (repeat' first | exact Keep.refl _ | refine Keep.add ?_ ?_ _ | refine Keep.set ?_ ?_ _ | exact Nat.le_refl _ | (simp only [Sg.add, Sg.set, Sg.del]; omega)))
    refine hK7 _ _ ?_
    refine vsk fun K8 hK8 => ?_
    have hlt : i < l.length := by omega
    obtain ⟨p, hp⟩ : ∃ p, l[i]? = some p := ⟨_, List.getElem?_eq_getElem hlt⟩
    have g0 := dropF hp
    have hfl := flatF l
    have hi2 : i * 3 < l.length * 3 := by omega
    refine vw_sc 0 [.det (Bo (P p)) s] ?_
    simp only [bs, Nat.reduceAdd, ↓vopx, ↓vop, Nat.reduceBEq, thenV, Nat.reduceLT, dLoad, vpart, hl, h0, h1, wocs, ↓goc, ↓woc, ↓vopm0, ↓callC, calleeV, Tryd.ag44, Tryd.sz44, Tryd.un46, g0, hfl, hi2]
    repeat ((with_reducible refine And.intro ?_ ?_); · first | (with_reducible assumption) | omega | exact ⟨by omega, by omega⟩ | exact ⟨hg, hP p (List.mem_of_getElem? hp)⟩ | with_reducible rfl | (repeat' first | exact Keep.refl _ | refine Keep.add ?_ ?_ _ | refine Keep.set ?_ ?_ _ | exact Nat.le_refl _ | (simp only [Sg.add, Sg.set, Sg.del]; omega)))
    refine hK8 _ _ ?_
    refine vck fun A B hA hB => ?_
    simp only [condV, ev_hit, lpv, Nat.reduceLT, hl]
    refine ⟨fun hc16 => hA ?_, fun hc16 => hB ?_⟩
    · clear hA hB A B
      refine vsk fun K9 hK9 => ?_
      refine vw_sc 0 [] ?_
      simp only [bs, ↓vopx, ↓vop, Nat.reduceBEq, thenV, Nat.reduceLT, hl, wocs, ↓goc, ↓woc, ↓vopm0]
      repeat ((with_reducible refine And.intro ?_ ?_); · first | (with_reducible assumption) | omega | exact ⟨by omega, by omega⟩ | with_reducible rfl | (repeat' first | exact Keep.refl _ | refine Keep.add ?_ ?_ _ | refine Keep.set ?_ ?_ _ | exact Nat.le_refl _ | (simp only [Sg.add, Sg.set, Sg.del]; omega)))
      refine hK9 _ _ ?_
      refine vw_ret ?_
      refine hQ _ _ _ (.inr rfl) (donek_tmp (v := I i) ?_ rfl ⟨rfl, i, rfl, ?_⟩)
      try simp only [ev_hit, lpv, hl, Nat.reduceLT]
      rw [anyt_at hp hc16]; simp
    · clear hA hB A B
      refine vw_skip ?_
      refine hK6 _ _ ?_
      refine vw_sc 0 [] ?_
      simp only [bs, ↓vopx, ↓vop, Nat.reduceBEq, thenV, flat, Nat.reduceLT, opII, hl, h0, h1, h7, h_i, wocs, ↓goc, ↓woc, ↓vopm0]
      repeat ((with_reducible refine And.intro ?_ ?_); · first | (with_reducible assumption) | omega | exact ⟨by omega, by omega⟩ | with_reducible rfl | (repeat' first | exact Keep.refl _ | refine Keep.add ?_ ?_ _ | refine Keep.set ?_ ?_ _ | exact Nat.le_refl _ | (simp only [Sg.add, Sg.set, Sg.del]; omega)))
      refine ⟨l.length - (i + 1), by omega, i + 1, rfl, by omega, ?_⟩
      try simp only [ev_hit, ev_miss, Nat.reduceBEq, lpv, hl, h0, h1, h7, h_i, if_true, if_false, Nat.reduceEqDiff, Nat.reduceLT, true_and, and_true]
      repeat ((with_reducible refine And.intro ?_ ?_); · first | trivial | assumption | omega | rfl | (push_cast; rfl) | exact ⟨by omega, by omega⟩)
      exact anyt_take hp hno (by simp [hc16])
  · clear hA hB A B
    have han : i = l.length := by omega
    subst han
    refine vw_exit ?_
    simp only [thenV, blockV, if_true]
    refine hK2 _ _ ?_
    refine vsk fun K10 hK10 => ?_
    refine vw_sc 0 [] ?_
    simp only [bs, ↓vopx, ↓vop, thenV, flat, wocs, ↓goc, ↓woc, ↓vopm0]
    repeat ((with_reducible refine And.intro ?_ ?_); · first | (with_reducible assumption) | omega | exact ⟨by omega, by omega⟩ | with_reducible rfl | (repeat' first | exact Keep.refl _ | refine Keep.add ?_ ?_ _ | refine Keep.set ?_ ?_ _ | exact Nat.le_refl _ | (simp only [Sg.add, Sg.set, Sg.del]; omega)))
    refine hK10 _ _ ?_
    refine vw_ret ?_
    rw [List.take_length] at hno
    refine hQ _ _ _ (.inr rfl) (donek_tmp (v := I (-1)) ?_ rfl ⟨rfl, -1, rfl, ?_⟩)
    try simp only [ev_hit, lpv, hl, Nat.reduceLT]
    rw [hno]; rfl
set_option maxRecDepth 20000 in
theorem containsFiles_ (s : Sg) (l : List Fl) (hl0 : l.length < 1000000) (g : Nat) (caps : List V) (hg : isFn Tryd.prog g) (P : Fl → Bool) (hP : ∀ p, p ∈ l → DCall Tryd.prog g ([vFile p] ++ caps) s (Bo (P p)) s) : DCall Tryd.prog 18 [.t (tFiles l), .clo g caps] s (Bo (l.any P)) (s) := by
  refine dcall_of_body Tryd.func18 rfl fun Q hQ => ?_
  obtain ⟨e, he, hl, h0, h1⟩ : ∃ e : Env, ([.t (tFiles l), .clo g caps] ++ List.replicate (Tryd.f18.ntmps - ([.t (tFiles l), .clo g caps] : List V).length) .junk) = e ∧ e.length = 9 ∧ ev e (.tmp 0) = .t (tFiles l) ∧ ev e (.tmp 1) = .clo g caps := ⟨_, rfl, rfl, rfl, rfl⟩
  rw [he]
  clear he
  refine vsk fun K1 hK1 => ?_
  refine vw_sc 0 [] ?_
  simp only [bs, ↓vopx, ↓vop, thenV, flat, wocs, ↓goc, ↓woc, ↓vopm0]
  repeat ((with_reducible refine And.intro ?_ ?_); · first | (with_reducible assumption) | omega | exact ⟨by omega, by omega⟩ | with_reducible rfl | (repeat' first | exact Keep.refl _ | refine Keep.add ?_ ?_ _ | refine Keep.set ?_ ?_ _ | exact Nat.le_refl _ | (simp only [Sg.add, Sg.set, Sg.del]; omega)))
  refine hK1 _ _ ?_
  refine vsk fun K2 hK2 => ?_
  refine vw_sc 0 [.stop] ?_
  simp only [dstIs, bs, ↓vopx, ↓vop, Nat.reduceBEq, thenV, Nat.reduceLT, opII, opSS, hl, h0, h1, wocs, ↓goc, ↓woc, ↓vopm0, ↓callC, calleeV, ↓farC]
  refine ⟨Tryd.is27, (idxFiles_ s l hl0 g caps hg P hP).mono fun v s2 hv => ?_⟩
  obtain ⟨rfl, z, rfl, hz⟩ := hv
  try simp only [bs, Nat.reduceBEq, flat, Nat.reduceLT, hl, h0, h1, Hold]
  refine hK2 _ _ ?_
  refine vw_ret ?_
  refine hQ _ _ _ (.inr rfl) (Done.toS (done_tmp ?_ fun n b hn h => h))
  try simp only [ev_hit, lpv, hl, hz, Nat.reduceLT]
set_option maxRecDepth 20000 in
theorem clean1_ (s : Sg) (c1 c2 p m q n : Nat) (L M : List Txt) (hc1 : s.m c1 = some (.box 23 [.ptr p 0])) (hc2 : s.m c2 = some (.box 23 [.ptr q 0])) (hT : TreeP s p m L) (hU : TreeP s q n M) (hlt : c1 < s.next ∧ c2 < s.next ∧ p < s.next ∧ m < s.next ∧ q < s.next ∧ n < s.next) (f : Fl) : DCall Tryd.prog 19 [vFile f, .ptr c1 0, .ptr c2 0] s (Bo (!((gt f.path L).toList == (gt f.path M).toList))) (s) := by
  refine dcall_of_body Tryd.func19 rfl fun Q hQ => ?_
  obtain ⟨e, he, hl, h0, h1, h2⟩ : ∃ e : Env, ([vFile f, .ptr c1 0, .ptr c2 0] ++ List.replicate (Tryd.f19.ntmps - ([vFile f, .ptr c1 0, .ptr c2 0] : List V).length) .junk) = e ∧ e.length = 20 ∧ ev e (.tmp 0) = vFile f ∧ ev e (.tmp 1) = .ptr c1 0 ∧ ev e (.tmp 2) = .ptr c2 0 := ⟨_, rfl, rfl, rfl, rfl, rfl⟩
  rw [he]
  clear he
  refine vsk fun K1 hK1 => ?_
  refine vw_sc 0 [] ?_
  simp only [bs, ↓vopx, ↓vop, thenV, flat, V.cells, h0, wocs, ↓goc, ↓woc, ↓vopm0]
  repeat ((with_reducible refine And.intro ?_ ?_); · first | (with_reducible assumption) | omega | exact ⟨by omega, by omega⟩ | with_reducible rfl | (repeat' first | exact Keep.refl _ | refine Keep.add ?_ ?_ _ | refine Keep.set ?_ ?_ _ | exact Nat.le_refl _ | (simp only [Sg.add, Sg.set, Sg.del]; omega)))
  refine hK1 _ _ ?_
  refine vsk fun K2 hK2 => ?_
  refine vw_st2 fun s0 hS0 => ?_
  have b0 : s0.m s.next = some (bxF f) := by rw [hS0, m_add, if_pos rfl]
  have n0 : s0.next = s.next + 1 := by rw [hS0]; rfl
  have k0 : Keep s s0 := by rw [hS0]; exact (Keep.refl s).add (Nat.le_refl _) _
  clear hS0
  have hT0 := hT.keep (by omega) (by omega) k0
  have hU0 := hU.keep (by omega) (by omega) k0
  have hTp := hT0.hp
  have hUp := hU0.hp
  have hd1 := k0 _ _ hlt.1 hc1
  have hd2 := k0 _ _ hlt.2.1 hc2
  refine vw_chain Tryd.mixed 14 [1, 0, 0, 1, 0, 1, 1, 1, 0, 0, 1, 0, 1, 1] [.op (Str (gt f.path L)) s0, .op (Str (gt f.path M)) s0] [] 0 (by decide +kernel) (by simp [lpv, hl]) rfl ?_
  simp only [dstIs, bs, dSure, ↓vopx, ↓vop, Nat.reduceBEq, thenV, Nat.reduceLT, dLoad, vpart, opII, opSS, hl, h1, h2, wocs, ↓goc, ↓woc, ↓vopm0, ↓vopm1, ↓farC, chn, ↓goq, ↓woq, List.zip_cons_cons, List.zip_nil_right, Tryd.ag23, Tryd.ag9, Tryd.fd44_0, Tryd.fd51_0, Tryd.sz23, Tryd.sz9, Tryd.sz49, Tryd.ag49, farOp, b0, hTp, hUp, hd1, hd2]
  repeat ((with_reducible refine And.intro ?_ ?_); · first | (with_reducible assumption) | omega | exact ⟨by omega, by omega⟩ | exact t_lookF rfl (by simp only [ev_hit, ev_miss, Nat.reduceBEq, lpv, hl, Nat.reduceLT]) hT0.hm (by simp only [ev_hit, lpv, hl, Nat.reduceLT]) | exact t_lookF rfl (by simp only [ev_hit, ev_miss, Nat.reduceBEq, lpv, hl, Nat.reduceLT]) hU0.hm (by simp only [ev_hit, lpv, hl, Nat.reduceLT]) | with_reducible rfl | (repeat' first | exact Keep.refl _ | refine Keep.add ?_ ?_ _ | refine Keep.set ?_ ?_ _ | exact Nat.le_refl _ | (simp only [Sg.add, Sg.set, Sg.del]; omega)))
  refine hK2 _ _ ?_
  refine vw_ret ?_
  refine hQ _ _ _ (.inr rfl) (Done.toS (done_tmp ?_ k0))
  try simp only [ev_hit, lpv, hl, Nat.reduceLT]
set_option maxRecDepth 20000 in
set_option maxHeartbeats 1000000 in
theorem tOf_ (s : Sg) (l : List Fl) (hl0 : l.length < 1000000) (hok : ∀ f ∈ l, FlOK f) (hlin : ∀ f ∈ l, linS f = true) : VCall Tryd.prog 10 [.t (tFiles l)] s (fun v s' => ∃ q n, v = .ptr q 0 ∧ TreeP s' q n (ofS l) ∧ Keep s s' ∧ s.next ≤ q ∧ s.next ≤ n ∧ q < s'.next ∧ n < s'.next) := by
  refine kcall_of_body Tryd.func10 rfl fun Q hQ => ?_
  obtain ⟨e, he, hl, h0⟩ : ∃ e : Env, ([.t (tFiles l)] ++ List.replicate (Tryd.f10.ntmps - ([.t (tFiles l)] : List V).length) .junk) = e ∧ e.length = 27 ∧ ev e (.tmp 0) = .t (tFiles l) := ⟨_, rfl, rfl, rfl⟩
  rw [he]
  clear he
  obtain ⟨a, ha⟩ : ∃ a : Nat, min l.length 6 = a := ⟨_, rfl⟩
  have hmin : min (l.length : Int) 6 = (a : Int) := by omega
  have hal : a ≤ l.length := by omega
  have hts : (l.flatMap fcells).take (a * 3) = (l.take a).flatMap fcells := by
    have h1 : l.flatMap fcells = (l.take a).flatMap fcells ++ (l.drop a).flatMap fcells := by rw [← List.flatMap_append, List.take_append_drop]
    have h2 : a * 3 = ((l.take a).flatMap fcells).length := by rw [flatF, List.length_take]; omega
    rw [h1, h2, List.take_left]
  have hdv : l.length * 3 / 3 = l.length := by omega
  have hta : (l.take a).length = a := by rw [List.length_take]; omega
  have hof : l.take 6 = l.take a := by
    rcases Nat.le_total l.length 6 with h | h
    · rw [show a = l.length by omega, List.take_of_length_le h, List.take_of_length_le (Nat.le_refl _)]
    · rw [show a = 6 by omega]
  refine vsk fun K1 hK1 => ?_
  refine vw_sc 0 [] ?_
  simp only [bs, ↓vopx, ↓vop, thenV, flat, wocs, ↓goc, ↓woc, ↓vopm0]
  repeat ((with_reducible refine And.intro ?_ ?_); · first | (with_reducible assumption) | omega | exact ⟨by omega, by omega⟩ | with_reducible rfl | (repeat' first | exact Keep.refl _ | refine Keep.add ?_ ?_ _ | refine Keep.set ?_ ?_ _ | exact Nat.le_refl _ | (simp only [Sg.add, Sg.set, Sg.del]; omega)))
  refine hK1 _ _ ?_
  refine vsk fun K2 hK2 => ?_
  refine vw_sc 0 [.stop] ?_
  simp only [dstIs, bs, ↓vopx, ↓vop, thenV, wocs, ↓goc, ↓woc, ↓vopm0, ↓callC, calleeV, farOp]
  refine ⟨Tryd.is5, (tNew_ s).mono fun v s2_ hv => ?_⟩
  obtain ⟨rfl, rfl⟩ := hv
  try simp only [bs, Nat.reduceLT, hl, Hold]
  refine hK2 _ _ ?_
  refine vsk fun K3 hK3 => ?_
  refine vsk fun K4 hK4 => ?_
  refine vw_sc 0 [] ?_
  simp only [bs, ↓vopx, ↓vop, Nat.reduceBEq, thenV, flat, Nat.reduceLT, hl, h0, wocs, ↓goc, ↓woc, ↓vopm0, Tryd.sl46, Tryd.un46, len_tFiles, bnd, vflat, hmin, hts, flatF, hdv, Nat.sub_zero, hta]
  repeat ((with_reducible refine And.intro ?_ ?_); · first | (with_reducible assumption) | omega | exact ⟨by omega, by omega⟩ | with_reducible rfl | (repeat' first | exact Keep.refl _ | refine Keep.add ?_ ?_ _ | refine Keep.set ?_ ?_ _ | exact Nat.le_refl _ | (simp only [Sg.add, Sg.set, Sg.del]; omega)))
  refine hK4 _ _ ?_
  refine vw_block ?_
  refine vw_loop (fun mm e' s' => ∃ k : Nat, mm = a - k ∧ k ≤ a ∧ e'.length = 27 ∧ ev e' (.tmp 0) = .t (tFiles l) ∧ ev e' (.tmp 3) = .ptr (s.next + 1) 0 ∧ ev e' (.tmp 11) = .t (tFiles (l.take a)) ∧ ev e' (.tmp 12) = I a ∧ ev e' (.tmp 13) = I k ∧ True ∧ TreeP s' (s.next + 1) s.next (((l.take a).take k).foldl (fun L f => tput f.path (txtS f) L) []) ∧ Keep s s' ∧ s.next + 2 ≤ s'.next) (⟨0, rfl, Nat.zero_le _, ?_⟩) ?_
  · try simp only [ev_hit, ev_miss, Nat.reduceBEq, lpv, hl, h0, Nat.reduceLT, true_and]
    repeat ((with_reducible refine And.intro ?_ ?_); · first | trivial | assumption | omega | rfl | (push_cast; rfl) | exact ⟨by omega, by omega⟩)
    exact ⟨⟨by simp [Sg.add], by simp [Sg.add]; rfl⟩, ((Keep.refl s).add (Nat.le_refl _) _).add (by simp [Sg.add]) _, by simp [Sg.add]⟩
  rintro mm e s1 ⟨k, rfl, hle_k, hl, h0, k3, k11, k12, h_k, hst, ⟨hTr, hkp, hnx⟩⟩
  refine vsk fun K5 hK5 => ?_
  refine vw_sc 0 [] ?_
  simp only [thenV, opII, k12, h_k, wocs, ↓goc, ↓woc]
  repeat ((with_reducible refine And.intro ?_ ?_); · first | (with_reducible assumption) | omega | exact ⟨by omega, by omega⟩ | with_reducible rfl | (repeat' first | exact Keep.refl _ | refine Keep.add ?_ ?_ _ | refine Keep.set ?_ ?_ _ | exact Nat.le_refl _ | (simp only [Sg.add, Sg.set, Sg.del]; omega)))
  refine hK5 _ _ ?_
  refine vsk fun K6 hK6 => ?_
  refine vck fun A B hA hB => ?_
  simp only [condV, ev_hit, Nat.reduceLT, decide_eq_true_eq, decide_eq_false_iff_not, hl]
  refine ⟨fun hc14 => hA ?_, fun hc14 => hB ?_⟩
  · clear hA hB A B
    refine vw_skip ?_
    refine hK6 _ _ ?_
    refine vsk fun K7 hK7 => ?_
    refine vw_block ?_
    refine vsk fun K8 hK8 => ?_
    have hka : k < a := by omega
    obtain ⟨f, hf⟩ : ∃ f, (l.take a)[k]? = some f := ⟨_, List.getElem?_eq_getElem (by omega)⟩
    have hfl : f ∈ l := List.mem_of_mem_take (List.mem_of_getElem? hf)
    have g0 := dropF hf
    have gfl := flatF (l.take a)
    have hi2 : k * 3 < a * 3 := by omega
    refine vw_sc 0 [] ?_
    simp only [bs, Nat.reduceAdd, ↓vopx, ↓vop, Nat.reduceBEq, thenV, Nat.reduceLT, V.cells, dLoad, vpart, hl, k11, h_k, wocs, ↓goc, ↓woc, ↓vopm0, Tryd.ag44, Tryd.sz44, Tryd.un46, Tryd.zv44, g0, gfl, hta, hi2]
    repeat ((with_reducible refine And.intro ?_ ?_); · first | (with_reducible assumption) | omega | exact ⟨by omega, by omega⟩ | with_reducible rfl | (repeat' first | exact Keep.refl _ | refine Keep.add ?_ ?_ _ | refine Keep.set ?_ ?_ _ | exact Nat.le_refl _ | (simp only [Sg.add, Sg.set, Sg.del]; omega)))
    refine hK8 _ _ ?_
    refine vw_st2 fun sa hSa => ?_
    have bx : sa.m s1.next = some (bxF f) := by rw [hSa]; simp [Sg.set]; rfl
    have na : sa.next = s1.next + 1 := by rw [hSa]; rfl
    have ka : Keep s1 sa := by rw [hSa]; exact ((Keep.refl s1).add (Nat.le_refl _) _).set (Nat.le_refl _) _
    clear hSa
    have hTa := hTr.keep (by omega) (by omega) ka
    have hTp := hTa.hp
    refine vw_chain Tryd.mixed 8 [0, 0, 0, 1, 0, 1, 1, 1] [.pur (Str (txtS f)), .op .junk (sa.set s.next (.mp (mpE (tput f.path (txtS f) (((l.take a).take k).foldl (fun L f => tput f.path (txtS f) L) [])))))] [] 0 (by decide +kernel) (by simp [lpv, hl]) rfl ?_
    simp only [dstIs, or_false, bs, Nat.reduceAdd, dSure, ↓vopx, ↓vop, Nat.reduceBEq, thenV, blockV, Nat.reduceLT, dLoad, vpart, hl, k3, wocs, ↓goc, ↓woc, ↓vopm0, ↓vopm1, ↓callC, calleeV, chn, ↓goq, ↓woq, List.zip_cons_cons, List.zip_nil_right, Tryd.ag44, Tryd.ag9, Tryd.fd44_0, Tryd.fd51_0, Tryd.sz44, Tryd.sz9, Tryd.sz49, Tryd.ag49, farOp, bx, hTp]
    repeat ((with_reducible refine And.intro ?_ ?_); · first | (with_reducible assumption) | omega | exact ⟨by omega, by omega⟩ | exact ⟨Tryd.is17, shown_ f (hok f hfl) (hlin f hfl)⟩ | exact t_put rfl (by simp only [ev_hit, ev_miss, Nat.reduceBEq, lpv, hl, Nat.reduceLT]) hTa.hm (by simp only [ev_hit, ev_miss, Nat.reduceBEq, lpv, hl, Nat.reduceLT]) (by simp only [ev_hit, lpv, hl, Nat.reduceLT]) | with_reducible rfl | (repeat' first | exact Keep.refl _ | refine Keep.add ?_ ?_ _ | refine Keep.set ?_ ?_ _ | exact Nat.le_refl _ | (simp only [Sg.add, Sg.set, Sg.del]; omega)))
    refine hK7 _ _ ?_
    refine vw_sc 0 [] ?_
    simp only [bs, ↓vopx, ↓vop, Nat.reduceBEq, thenV, flat, Nat.reduceLT, opII, hl, h0, k3, k11, k12, h_k, wocs, ↓goc, ↓woc, ↓vopm0]
    repeat ((with_reducible refine And.intro ?_ ?_); · first | (with_reducible assumption) | omega | exact ⟨by omega, by omega⟩ | with_reducible rfl | (repeat' first | exact Keep.refl _ | refine Keep.add ?_ ?_ _ | refine Keep.set ?_ ?_ _ | exact Nat.le_refl _ | (simp only [Sg.add, Sg.set, Sg.del]; omega)))
    refine ⟨a - (k + 1), by omega, k + 1, rfl, by omega, ?_⟩
    try simp only [ev_hit, ev_miss, Nat.reduceBEq, lpv, hl, h0, k3, k11, k12, h_k, if_true, if_false, Nat.reduceEqDiff, Nat.reduceLT, true_and, and_true]
    repeat ((with_reducible refine And.intro ?_ ?_); · first | trivial | assumption | omega | rfl | (push_cast; rfl) | exact ⟨by omega, by omega⟩)
    rw [ofS_step hf]
    exact ⟨⟨by simp only [Sg.set]; rw [if_neg (by omega)]; exact hTp, by simp [Sg.set]⟩, (hkp.trans (by omega) ka).set (Nat.le_refl _) _, by show s.next + 2 ≤ sa.next; omega⟩
  · clear hA hB A B
    have han : k = a := by omega
    subst han
    rw [List.take_of_length_le (Nat.le_of_eq hta)] at hTr
    have hTo : TreeP s1 (s.next + 1) s.next (ofS l) := by unfold ofS; rw [hof]; exact hTr
    refine vw_exit ?_
    simp only [thenV, blockV, if_true]
    refine hK3 _ _ ?_
    refine vsk fun K9 hK9 => ?_
    refine vw_sc 0 [] ?_
    simp only [bs, ↓vopx, ↓vop, Nat.reduceBEq, thenV, Nat.reduceLT, hl, k3, wocs, ↓goc, ↓woc, ↓vopm0]
    repeat ((with_reducible refine And.intro ?_ ?_); · first | (with_reducible assumption) | omega | exact ⟨by omega, by omega⟩ | with_reducible rfl | (repeat' first | exact Keep.refl _ | refine Keep.add ?_ ?_ _ | refine Keep.set ?_ ?_ _ | exact Nat.le_refl _ | (simp only [Sg.add, Sg.set, Sg.del]; omega)))
    refine hK9 _ _ ?_
    refine vw_ret ?_
    refine hQ _ _ _ (.inr rfl) (donek_tmp (v := .ptr (s.next + 1) 0) ?_ rfl ⟨s.next + 1, s.next, rfl, hTo, hkp, by omega, by omega, by omega, by omega⟩)
    try simp only [ev_hit, lpv, hl, Nat.reduceLT]
set_option maxRecDepth 20000 in
set_option maxHeartbeats 1000000 in
theorem clean_ (s : Sg) (p m : Nat) (L : List Txt) (hT : TreeP s p m L) (hp0 : p < s.next) (hm0 : m < s.next) (l : List Fl) (hl0 : l.length < 1000000) (hok : ∀ f ∈ l, FlOK f) (hlin : ∀ f ∈ l, linS f = true) : DCall Tryd.prog 11 [.ptr p 0, .t (tFiles l)] s (Bo (cleanS L l)) (s) := by
  refine dcall_of_body Tryd.func11 rfl fun Q hQ => ?_
  obtain ⟨e, he, hl, h0, h1⟩ : ∃ e : Env, ([.ptr p 0, .t (tFiles l)] ++ List.replicate (Tryd.f11.ntmps - ([.ptr p 0, .t (tFiles l)] : List V).length) .junk) = e ∧ e.length = 12 ∧ ev e (.tmp 0) = .ptr p 0 ∧ ev e (.tmp 1) = .t (tFiles l) := ⟨_, rfl, rfl, rfl, rfl⟩
  rw [he]
  clear he
  refine vsk fun K1 hK1 => ?_
  refine vw_sc 0 [] ?_
  simp only [bs, ↓vopx, ↓vop, thenV, flat, V.cells, h0, wocs, ↓goc, ↓woc, ↓vopm0]
  repeat ((with_reducible refine And.intro ?_ ?_); · first | (with_reducible assumption) | omega | exact ⟨by omega, by omega⟩ | with_reducible rfl | (repeat' first | exact Keep.refl _ | refine Keep.add ?_ ?_ _ | refine Keep.set ?_ ?_ _ | exact Nat.le_refl _ | (simp only [Sg.add, Sg.set, Sg.del]; omega)))
  refine hK1 _ _ ?_
  refine vsk fun K2 hK2 => ?_
  refine vw_st2 fun s0 hS0 => ?_
  have b0 : s0.m s.next = some (.box 23 [.ptr p 0]) := by rw [hS0, m_add, if_pos rfl]
  have n0 : s0.next = s.next + 1 := by rw [hS0]; rfl
  have k0 : Keep s s0 := by rw [hS0]; exact (Keep.refl s).add (Nat.le_refl _) _
  clear hS0
  refine vw_sc 0 [.stop] ?_
  simp only [dstIs, bs, ↓vopx, ↓vop, Nat.reduceBEq, thenV, Nat.reduceLT, V.cells, hl, h1, wocs, ↓goc, ↓woc, ↓vopm0, ↓callC, calleeV]
  refine ⟨Tryd.is10, (tOf_ s0 l hl0 hok hlin).mono fun v s2 hv => ?_⟩
  obtain ⟨q, n, rfl, hU, hk2, hq, hn, hq2, hn2⟩ := hv
  try simp only [bs, Nat.reduceBEq, Nat.reduceLT, hl, h1, Tryd.sz23, Tryd.zv23, Hold]
  refine hK2 _ _ ?_
  refine vsk fun K3 hK3 => ?_
  refine vw_st2 fun s3 hS3 => ?_
  have b3 : s3.m s2.next = some (.box 23 [.ptr q 0]) := by rw [hS3]; simp [Sg.set]
  have n3 : s3.next = s2.next + 1 := by rw [hS3]; rfl
  have k3 : Keep s2 s3 := by rw [hS3]; exact ((Keep.refl s2).add (Nat.le_refl _) _).set (Nat.le_refl _) _
  clear hS3
  have k03 := (k0.trans (by omega) hk2).trans (by omega) k3
  have n2 : s0.next ≤ s2.next := by omega
  refine vw_sc 0 [.det (Bo (l.any (difS L l))) s3] ?_
  simp only [bs, ↓vopx, ↓vop, Nat.reduceBEq, thenV, Nat.reduceLT, hl, h1, wocs, ↓goc, ↓woc, ↓vopm0, ↓callC, calleeV, capOk, List.all_cons, List.all_nil, Bool.and_self]
  repeat ((with_reducible refine And.intro ?_ ?_); · first | (with_reducible assumption) | omega | exact ⟨by omega, by omega⟩ | exact ⟨Tryd.is18, containsFiles_ s3 l hl0 19 [.ptr s.next 0, .ptr s2.next 0] Tryd.is19 (difS L l) (fun f _ => clean1_ s3 s.next s2.next p m q n L (ofS l) (k3 _ _ (by omega) (hk2 _ _ (by omega) b0)) b3 (hT.keep hp0 hm0 k03) (hU.keep hq2 hn2 k3) (by omega) f)⟩ | with_reducible rfl | (repeat' first | exact Keep.refl _ | refine Keep.add ?_ ?_ _ | refine Keep.set ?_ ?_ _ | exact Nat.le_refl _ | (simp only [Sg.add, Sg.set, Sg.del]; omega)))
  refine hK3 _ _ ?_
  refine vw_ret ?_
  refine hQ _ _ _ (.inr rfl) (Done.toS (done_tmp ?_ k03))
  try simp only [ev_hit, lpv, hl, Nat.reduceLT]
  rfl
end Go.Proofs
