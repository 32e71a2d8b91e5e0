/- Lemmas on the way to the statement of this claim; no conditions. -/
import Derived.Test.YthoolojombciiaaDoorB28
namespace Go.V
open Go Go.RowKit
section
variable {P : Program} {ops : Array Oper} {e : Env} {s : Sg} {Q : Exit → Env → Sg → Prop}
theorem vw_chain_of {id : Nat} (s0 : Sg) (hb0 : ∀ n b, s0.m n = some b → s.m n = some b) (hn0 : s0.next = s.next) (hm : P.follows .mixedOrders = true) (h : Nat) (cls : List Nat) (sc sc2 : List CallS) (md2 : Nat) (hok : okChain ops h cls = true) (hd : ∀ o ∈ ops.toList.take h, ∀ d, o.dst = some d → d < e.length) (hns : noStop sc = true)
    (H : chn P ops s0 ((ops.toList.take h).zip cls) sc (fun sc' e s => wocs md2 P ops (ops.toList.drop h) (sc' ++ sc2) (fun e s => Q .normal e s) e s) e s) : VW P (.region id ops true) Q e s := by
  simp only [okChain, Bool.and_eq_true, List.all_eq_true, decide_eq_true_eq] at hok
  obtain ⟨⟨⟨hok1, hok2⟩, hlen0⟩, hok3⟩ := hok
  have T := tab_of hok1 hok2
  have hlen : (ops.toList.take h).length = h := by have := T.le; simp; omega
  obtain ⟨vs, S, sc', hvl, hS0, _, htail, hkeep, hrun⟩ := chn_head _ sc e s (fun x hx => hok3 x hx) hns H
  have hzl : ((ops.toList.take h).zip cls).length = h := by rw [List.length_zip, hlen, hlen0, Nat.min_self]
  rw [hzl] at hvl
  have hmap : ((ops.toList.take h).zip cls).map (·.1) = ops.toList.take h := by
    rw [List.map_fst_zip]; omega
  have hcnt : ∀ i, i ≤ h → (((ops.toList.take h).zip cls).take i).countP (fun x => isLoudC x.2) = rank (effOf cls) i := by
    intro i hi
    rw [List.zip, List.take_zipWith]
    have := countP_zip ((ops.toList.take h).take i) (cls.take i) (by simp [hlen0]; have := T.le; omega)
    rw [List.zip] at this
    rw [this, rank_cls cls i (by omega)]
  have hget : ∀ i o, i < h → (ops[i]? = some o ↔ (ops.toList.take h)[i]? = some o) := fun i o hi => by rw [List.getElem?_take, if_pos hi]; simp
  rw [hmap] at htail
  have hcN := hcnt h (Nat.le_refl _)
  rw [List.take_of_length_le (by omega)] at hcN
  rw [hcN] at htail
  rw [List.map_snd_zip (by omega)] at hkeep
  intro r B M ρ a w QQ hs hk
  refine vw_region_any (Q := Q) (s := s) hm h (effOf cls) (ivOf h cls) (cloT ops) (puts e (ops.toList.take h) vs) S rfl hok1 hok2 (puts_length _ _ _).symm (fun t ht => ?_) hS0 ?_ ?_ r B M ρ a w QQ hs hk
  · refine (puts_ne _ _ _ fun o ho => ?_).symm
    obtain ⟨i, hi⟩ := List.mem_iff_getElem?.1 ho
    have hih : i < h := by have := (List.getElem?_eq_some_iff.1 hi).1; omega
    have := ht i hih
    rwa [dstAt, (hget i o hih).2 hi] at this
  · intro i o hi ho m hm1 hm2 hm3 e' hle hlk
    have hoi := (hget i o hi).1 ho
    have hvi : i < vs.length := by omega
    have hci : i < cls.length := by omega
    have hpair : ((ops.toList.take h).zip cls)[i]? = some (o, cls[i]) := by
      rw [List.getElem?_zip_eq_some]; exact ⟨hoi, List.getElem?_eq_getElem hci⟩
    have hF := hrun i o cls[i] vs[i] hpair (List.getElem?_eq_getElem hvi)
    rw [hcnt i (by omega), hmap] at hF
    have hag : ∀ t ∈ o.looksAt ops, ev e' (.tmp t) = ev (puts e ((ops.toList.take h).take i) (vs.take i)) (.tmp t) := by
      intro t ht
      rw [hlk t ht, puts_split e _ vs i]
      refine puts_ne _ _ _ fun o' ho' => ?_
      obtain ⟨j, hj⟩ := List.mem_iff_getElem?.1 ho'
      rw [List.getElem?_drop] at hj
      have hjh : i + j < h := by have := (List.getElem?_eq_some_iff.1 hj).1; omega
      intro hcon
      have h1 := T.looks i (i + j) t hi hjh (by rw [dstAt, (hget _ o' hjh).2 hj]; exact hcon) (by rw [looksAtI, ho]; exact ht)
      have := anc_low T i (by have := T.le; omega) (i + j) h1
      omega
    have hdst : ∀ d, o.dst = some d → d < (puts e (ops.toList.take h) vs).length ∧ vs[i] = ev (puts e (ops.toList.take h) vs) (.tmp d) := by
      intro d hdd
      refine ⟨by rw [puts_length]; exact hd o (List.mem_of_getElem? hoi) d hdd, ?_⟩
      rw [puts_split e _ vs (i + 1)]
      rw [puts_ne]
      · have htk := puts_take (ops.toList.take h) vs i e hoi (List.getElem?_eq_getElem hvi)
        rw [htk, hdd, ev_putv_same (by rw [puts_length]; exact hd o (List.mem_of_getElem? hoi) d hdd)]
      · intro o' ho' hcon
        obtain ⟨j, hj⟩ := List.mem_iff_getElem?.1 ho'
        rw [List.getElem?_drop] at hj
        have hjh : i + 1 + j < h := by have := (List.getElem?_eq_some_iff.1 hj).1; omega
        have := T.dst i (i + 1 + j) d hi hjh (by rw [dstAt, ho]; exact hdd) (by rw [dstAt, (hget _ o' hjh).2 hj]; exact hcon)
        omega
    have hiv : (ivOf h cls).getD i (0, 0) = if cls[i] = 0 then (0, rank (effOf cls) h) else if cls[i] = 2 then (0, kpOf cls) else (rank (effOf cls) i, rank (effOf cls) i) := by
      have h1 : cls.getD i 0 = cls[i] := by simp [List.getD_eq_getElem?_getD, hci]
      unfold ivOf
      rw [List.getD_eq_getElem?_getD, List.getElem?_map, List.getElem?_range hi]
      simp only [Option.map_some, Option.getD_some, h1]
    have heff : (effOf cls).getD i false = isLoudC cls[i] := by simp [effOf, List.getD_eq_getElem?_getD, hci]
    rw [hiv] at hm1 hm2
    rw [heff] at hm3 ⊢
    have hmem : cls[i] ∈ cls := List.getElem_mem hci
    generalize hcc : cls[i] = c at hm1 hm2 hm3 hF hmem ⊢
    match c, hF, hm1, hm2, hm3, hmem with
    | 0, hF, hm1, hm2, hm3, hmem => exact (hF (S m) e' hag).mono fun v s' hv => ⟨by simpa [isLoudC] using hv.2, fun d hdd => ⟨(hdst d hdd).1, hv.1.trans (hdst d hdd).2⟩⟩
    | 1, hF, hm1, hm2, hm3, hmem =>
      have : m = rank (effOf cls) i := by simp at hm1 hm2; omega
      subst this
      exact (hF e' hag).mono fun v s' hv => ⟨by simpa [isLoudC] using hv.2, fun d hdd => ⟨(hdst d hdd).1, hv.1.trans (hdst d hdd).2⟩⟩
    | 2, hF, hm1, hm2, hm3, hmem =>
      have hx : Ext0 s0 (S m) := by
        rcases Nat.eq_zero_or_pos m with rfl | hpos
        · rw [hS0]; exact hb0
        · exact fun n b hb => hkeep m hpos (by simpa using hm2) n b (by rw [hn0]; exact hs.sr.lt n b (hb0 n b hb)) hb
      exact OpI.mono (hF (S m) hx e' hag) fun v s' hv => ⟨by simpa [isLoudC] using hv.2, fun d hdd => ⟨(hdst d hdd).1, hv.1.trans (hdst d hdd).2⟩⟩
    | 3, hF, hm1, hm2, hm3, hmem =>
      have := hm3 rfl
      subst this
      exact OpI.mono (hF e' hag) fun v s' hv => ⟨by simpa [isLoudC] using hv.2, fun d hdd => ⟨(hdst d hdd).1, hv.1.trans (hdst d hdd).2⟩⟩
    | c + 4, hF, hm1, hm2, hm3, hmem =>
      have := hm3 (by simp [isLoudC])
      subst this
      exact OpI.mono (hF e' hag) fun v s' hv => ⟨by simpa [isLoudC] using hv.2, fun d hdd => ⟨(hdst d hdd).1, hv.1.trans (hdst d hdd).2⟩⟩
  · have hl2 : (ops.toList.drop h).length = ops.size - h := by simp
    rw [← hl2]
    exact vl_of_wocs _ _ h (fun j o hj => by rw [List.getElem?_drop] at hj; simpa using hj) htail
theorem vw_chain_del {id : Nat} (r : Nat) (hm : P.follows .mixedOrders = true) (h : Nat) (cls : List Nat) (sc sc2 : List CallS) (md2 : Nat) (hok : okChain ops h cls = true) (hd : ∀ o ∈ ops.toList.take h, ∀ d, o.dst = some d → d < e.length) (hns : noStop sc = true)
    (H : chn P ops (s.del r) ((ops.toList.take h).zip cls) sc (fun sc' e s => wocs md2 P ops (ops.toList.drop h) (sc' ++ sc2) (fun e s => Q .normal e s) e s) e s) : VW P (.region id ops true) Q e s :=
  vw_chain_of (s.del r) (fun n b hb => by simp only [Sg.del] at hb; split at hb; cases hb; exact hb) rfl hm h cls sc sc2 md2 hok hd hns H
end
end Go.V
