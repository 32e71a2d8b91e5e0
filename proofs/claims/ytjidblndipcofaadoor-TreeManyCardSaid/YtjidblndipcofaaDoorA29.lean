/- Lemmas on the way to the statement of this claim; no conditions. -/
import Derived.Test.YtjidblndipcofaaDoorA28
namespace Go.V
open Go Go.RowKit
theorem m_add (s : Sg) (b : Blk) (n : Nat) : (s.add b).m n = if n = s.next then some b else s.m n := rfl
theorem m_set (s : Sg) (k : Nat) (b : Blk) (n : Nat) : (s.set k b).m n = if n = k then some b else s.m n := rfl
theorem m_del (s : Sg) (k : Nat) (n : Nat) : (s.del k).m n = if n = k then none else s.m n := rfl
theorem n_add (s : Sg) (b : Blk) : (s.add b).next = s.next + 1 := rfl
theorem n_set (s : Sg) (k : Nat) (b : Blk) : (s.set k b).next = s.next := rfl
theorem n_del (s : Sg) (k : Nat) : (s.del k).next = s.next := rfl
theorem setAll1_0 {α : Type} (a x : α) : setAll [a] 0 [x] = [x] := rfl
theorem setAll2_0 {α : Type} (a b x : α) : setAll [a, b] 0 [x] = [x, b] := rfl
theorem setAll2_1 {α : Type} (a b x : α) : setAll [a, b] 1 [x] = [a, x] := rfl
theorem setAll2_02 {α : Type} (a b x y : α) : setAll [a, b] 0 [x, y] = [x, y] := rfl
theorem setAll3_0 {α : Type} (a b c x : α) : setAll [a, b, c] 0 [x] = [x, b, c] := rfl
theorem setAll3_1 {α : Type} (a b c x : α) : setAll [a, b, c] 1 [x] = [a, x, c] := rfl
theorem setAll3_2 {α : Type} (a b c x : α) : setAll [a, b, c] 2 [x] = [a, b, x] := rfl
theorem ev_miss {e : Env} {d t : Nat} {v : V} (h : (d == t) = false) : ev (putv e (some d) v) (.tmp t) = ev e (.tmp t) := ev_putv_ne (by simp at h; simpa using h)
theorem ev_hit {e : Env} {d : Nat} {v : V} (h : d < e.length) : ev (putv e (some d) v) (.tmp d) = v := ev_putv_same h
theorem len_loc (n o k : Nat) : vlen (.loc n o k) = some k := rfl
def effOf (cls : List Nat) : List Bool := cls.map isLoudC
def ivOf (h : Nat) (cls : List Nat) : List (Nat × Nat) := (List.range h).map fun i => if cls.getD i 0 = 0 then (0, rank (effOf cls) h) else if cls.getD i 0 = 2 then (0, kpOf cls) else (rank (effOf cls) i, rank (effOf cls) i)
def okChain (ops : Array Oper) (h : Nat) (cls : List Nat) : Bool :=
  okHead ops h (effOf cls) (cloT ops) (ivOf h cls) && okLow ops && decide (cls.length = h) && (((ops.toList.take h).zip cls).all fun x => clsOk x.2 x.1.op)
section
variable {P : Program} {ops : Array Oper} {e : Env} {s : Sg} {Q : Exit → Env → Sg → Prop}
theorem OpI.mono {o : Oper} {K K' : V → Sg → Prop} (h : OpI P ops o e s K) (hk : ∀ v s', K v s' → K' v s') : OpI P ops o e s K' := by
  unfold OpI at h ⊢
  split
  · rename_i hg; rw [hg] at h; exact OpG.mono h hk
  · rename_i j want hg
    rw [hg] at h
    obtain ⟨oj, t, h1, h2, h⟩ := h
    have hsk : SkipK s K → SkipK s K' := fun h => h.imp (hk _ _) (hk _ _)
    refine ⟨oj, t, h1, h2, ?_⟩
    rcases h with ⟨b, h3, h4, h5⟩ | ⟨h3, h4⟩
    · exact .inl ⟨b, h3, fun hb => OpG.mono (h4 hb) hk, fun hb => hsk (h5 hb)⟩
    · exact .inr ⟨h3, hsk h4⟩
theorem rank_cls (cls : List Nat) : ∀ i, i ≤ cls.length → rank (effOf cls) i = (cls.take i).countP isLoudC := by
  intro i
  induction i with
  | zero => intro _; simp [rank]
  | succ i ih =>
    intro hi
    have hlt : i < cls.length := by omega
    unfold rank at ih ⊢
    rw [List.range_succ, List.countP_append, ih (by omega), List.take_add_one, List.countP_append]
    congr 1
    have h1 : (effOf cls).getD i false = isLoudC cls[i] := by simp [effOf, List.getD_eq_getElem?_getD, hlt]
    rw [List.getElem?_eq_getElem hlt]
    simp only [List.countP_cons, List.countP_nil, h1, Option.toList_some]
theorem countP_zip {α : Type} : ∀ (l : List α) (cls : List Nat), l.length = cls.length → ((l.zip cls).countP fun x => isLoudC x.2) = cls.countP isLoudC
  | [], [], _ => rfl
  | a :: l, c :: cls, h => by
    rw [List.zip_cons_cons, List.countP_cons, List.countP_cons, countP_zip l cls (by simpa using h)]
  | [], _ :: _, h => by simp at h
  | _ :: _, [], h => by simp at h
theorem vw_chain {id : Nat} (hm : P.follows .mixedOrders = true) (h : Nat) (cls : List Nat) (sc sc2 : List CallS) (md2 : Nat) (hok : okChain ops h cls = true) (hd : ∀ o ∈ ops.toList.take h, ∀ d, o.dst = some d → d < e.length) (hns : noStop sc = true)
    (H : chn P ops s ((ops.toList.take h).zip cls) sc (fun sc' e s => wocs md2 P ops (ops.toList.drop h) (sc' ++ sc2) (fun e s => Q .normal e s) e s) e s) : VW P (.region id ops true) Q e s := by
  simp only [okChain, Bool.and_eq_true, List.all_eq_true, decide_eq_true_eq] at hok
  obtain ⟨⟨⟨hok1, hok2⟩, hlen0⟩, hok3⟩ := hok
  have T := tab_of hok1 hok2
  have hlen : (ops.toList.take h).length = h := by have := T.le; simp; omega
  obtain ⟨vs, S, sc', hvl, hS0, _, htail, hkeep, hrun⟩ := chn_head _ sc e s (fun x hx => hok3 x hx) hns H
  have hzl : ((ops.toList.take h).zip cls).length = h := by rw [List.length_zip, hlen, hlen0, Nat.min_self]
  rw [hzl] at hvl
  have hmap : ((ops.toList.take h).zip cls).map (·.1) = ops.toList.take h := by
    rw [List.map_fst_zip]; omega
  have hcnt : ∀ i, i ≤ h → (((ops.toList.take h).zip cls).take i).countP (fun x => isLoudC x.2) = rank (effOf cls) i := by
    intro i hi
    rw [List.zip, List.take_zipWith]
    have := countP_zip ((ops.toList.take h).take i) (cls.take i) (by simp [hlen0]; have := T.le; omega)
    rw [List.zip] at this
    rw [this, rank_cls cls i (by omega)]
  have hget : ∀ i o, i < h → (ops[i]? = some o ↔ (ops.toList.take h)[i]? = some o) := fun i o hi => by rw [List.getElem?_take, if_pos hi]; simp
  rw [hmap] at htail
  have hcN := hcnt h (Nat.le_refl _)
  rw [List.take_of_length_le (by omega)] at hcN
  rw [hcN] at htail
  rw [List.map_snd_zip (by omega)] at hkeep
  intro r B M ρ a w QQ hs hk
  refine vw_region_any (Q := Q) (s := s) hm h (effOf cls) (ivOf h cls) (cloT ops) (puts e (ops.toList.take h) vs) S rfl hok1 hok2 (puts_length _ _ _).symm (fun t ht => ?_) hS0 ?_ ?_ r B M ρ a w QQ hs hk
  · refine (puts_ne _ _ _ fun o ho => ?_).symm
    obtain ⟨i, hi⟩ := List.mem_iff_getElem?.1 ho
    have hih : i < h := by have := (List.getElem?_eq_some_iff.1 hi).1; omega
    have := ht i hih
    rwa [dstAt, (hget i o hih).2 hi] at this
  · intro i o hi ho m hm1 hm2 hm3 e' hle hlk
    have hoi := (hget i o hi).1 ho
    have hvi : i < vs.length := by omega
    have hci : i < cls.length := by omega
    have hpair : ((ops.toList.take h).zip cls)[i]? = some (o, cls[i]) := by
      rw [List.getElem?_zip_eq_some]; exact ⟨hoi, List.getElem?_eq_getElem hci⟩
    have hF := hrun i o cls[i] vs[i] hpair (List.getElem?_eq_getElem hvi)
    rw [hcnt i (by omega), hmap] at hF
    have hag : ∀ t ∈ o.looksAt ops, ev e' (.tmp t) = ev (puts e ((ops.toList.take h).take i) (vs.take i)) (.tmp t) := by
      intro t ht
      rw [hlk t ht, puts_split e _ vs i]
      refine puts_ne _ _ _ fun o' ho' => ?_
      obtain ⟨j, hj⟩ := List.mem_iff_getElem?.1 ho'
      rw [List.getElem?_drop] at hj
      have hjh : i + j < h := by have := (List.getElem?_eq_some_iff.1 hj).1; omega
      intro hcon
      have h1 := T.looks i (i + j) t hi hjh (by rw [dstAt, (hget _ o' hjh).2 hj]; exact hcon) (by rw [looksAtI, ho]; exact ht)
      have := anc_low T i (by have := T.le; omega) (i + j) h1
      omega
    have hdst : ∀ d, o.dst = some d → d < (puts e (ops.toList.take h) vs).length ∧ vs[i] = ev (puts e (ops.toList.take h) vs) (.tmp d) := by
      intro d hdd
      refine ⟨by rw [puts_length]; exact hd o (List.mem_of_getElem? hoi) d hdd, ?_⟩
      rw [puts_split e _ vs (i + 1)]
      rw [puts_ne]
      · have htk := puts_take (ops.toList.take h) vs i e hoi (List.getElem?_eq_getElem hvi)
        rw [htk, hdd, ev_putv_same (by rw [puts_length]; exact hd o (List.mem_of_getElem? hoi) d hdd)]
      · intro o' ho' hcon
        obtain ⟨j, hj⟩ := List.mem_iff_getElem?.1 ho'
        rw [List.getElem?_drop] at hj
        have hjh : i + 1 + j < h := by have := (List.getElem?_eq_some_iff.1 hj).1; omega
        have := T.dst i (i + 1 + j) d hi hjh (by rw [dstAt, ho]; exact hdd) (by rw [dstAt, (hget _ o' hjh).2 hj]; exact hcon)
        omega
    have hiv : (ivOf h cls).getD i (0, 0) = if cls[i] = 0 then (0, rank (effOf cls) h) else if cls[i] = 2 then (0, kpOf cls) else (rank (effOf cls) i, rank (effOf cls) i) := by
      have h1 : cls.getD i 0 = cls[i] := by simp [List.getD_eq_getElem?_getD, hci]
      unfold ivOf
      rw [List.getD_eq_getElem?_getD, List.getElem?_map, List.getElem?_range hi]
      simp only [Option.map_some, Option.getD_some, h1]
    have heff : (effOf cls).getD i false = isLoudC cls[i] := by simp [effOf, List.getD_eq_getElem?_getD, hci]
    rw [hiv] at hm1 hm2
    rw [heff] at hm3 ⊢
    have hmem : cls[i] ∈ cls := List.getElem_mem hci
    generalize hcc : cls[i] = c at hm1 hm2 hm3 hF hmem ⊢
    match c, hF, hm1, hm2, hm3, hmem with
    | 0, hF, hm1, hm2, hm3, hmem => exact (hF (S m) e' hag).mono fun v s' hv => ⟨by simpa [isLoudC] using hv.2, fun d hdd => ⟨(hdst d hdd).1, hv.1.trans (hdst d hdd).2⟩⟩
    | 1, hF, hm1, hm2, hm3, hmem =>
      have : m = rank (effOf cls) i := by simp at hm1 hm2; omega
      subst this
      exact (hF e' hag).mono fun v s' hv => ⟨by simpa [isLoudC] using hv.2, fun d hdd => ⟨(hdst d hdd).1, hv.1.trans (hdst d hdd).2⟩⟩
    | 2, hF, hm1, hm2, hm3, hmem =>
      have hx : Ext0 s (S m) := by
        rcases Nat.eq_zero_or_pos m with rfl | hpos
        · rw [hS0]; exact fun _ _ h => h
        · exact fun n b hb => hkeep m hpos (by simpa using hm2) n b (hs.sr.lt n b hb) hb
      exact OpI.mono (hF (S m) hx e' hag) fun v s' hv => ⟨by simpa [isLoudC] using hv.2, fun d hdd => ⟨(hdst d hdd).1, hv.1.trans (hdst d hdd).2⟩⟩
    | 3, hF, hm1, hm2, hm3, hmem =>
      have := hm3 rfl
      subst this
      exact OpI.mono (hF e' hag) fun v s' hv => ⟨by simpa [isLoudC] using hv.2, fun d hdd => ⟨(hdst d hdd).1, hv.1.trans (hdst d hdd).2⟩⟩
    | c + 4, hF, hm1, hm2, hm3, hmem =>
      have := hm3 (by simp [isLoudC])
      subst this
      exact OpI.mono (hF e' hag) fun v s' hv => ⟨by simpa [isLoudC] using hv.2, fun d hdd => ⟨(hdst d hdd).1, hv.1.trans (hdst d hdd).2⟩⟩
  · have hl2 : (ops.toList.drop h).length = ops.size - h := by simp
    rw [← hl2]
    exact vl_of_wocs _ _ h (fun j o hj => by rw [List.getElem?_drop] at hj; simpa using hj) htail
end
end Go.V
namespace Go.V
theorem bs : (∀ {a b : Nat}, a + b = a ↔ b = (0 : Nat)) ∧ (∀ {a b : Nat}, a = a + b ↔ b = (0 : Nat)) ∧ (∀ (n o k : Nat), vlen (V.loc n o k) = some k) ∧ (∀ (n : Nat), (0 : Nat) * n = (0 : Nat)) ∧ (∀ {n : Nat}, List.length (List.range n) = n) ∧ (∀ (s : Sg) (b : Blk) (n : Nat), Sg.m (Sg.add s b) n = if n = Sg.next s then some b else Sg.m s n) ∧ (∀ (s : Sg) (k : Nat) (b : Blk) (n : Nat), Sg.m (Sg.set s k b) n = if n = k then some b else Sg.m s n) ∧ (∀ (s : Sg) (k n : Nat), Sg.m (Sg.del s k) n = if n = k then none else Sg.m s n) ∧ (∀ (s : Sg) (b : Blk), Sg.next (Sg.add s b) = Sg.next s + (1 : Nat)) ∧ (∀ (s : Sg) (k : Nat) (b : Blk), Sg.next (Sg.set s k b) = Sg.next s) ∧ (∀ (s : Sg) (k : Nat), Sg.next (Sg.del s k) = Sg.next s) ∧ (∀ (n : Nat), n ≤ n) ∧ (∀ {α : Type} (a x : α), setAll [a] (0 : Nat) [x] = [x]) ∧ (∀ {α : Type} (a b x : α), setAll [a, b] (0 : Nat) [x] = [x, b]) ∧ (∀ {α : Type} (a b x : α), setAll [a, b] (1 : Nat) [x] = [a, x]) ∧ (∀ {α : Type} (a b x y : α), setAll [a, b] (0 : Nat) [x, y] = [x, y]) ∧ (∀ {α : Type} (a b c x : α), setAll [a, b, c] (0 : Nat) [x] = [x, b, c]) ∧ (∀ {α : Type} (a b c x : α), setAll [a, b, c] (1 : Nat) [x] = [a, x, c]) ∧ (∀ {α : Type} (a b c x : α), setAll [a, b, c] (2 : Nat) [x] = [a, b, x]) ∧ (∀ {α : Type} {a : α} {asg : List α} {i : Nat}, List.take (i + (1 : Nat)) (a :: asg) = a :: List.take i asg) ∧ (∀ {α : Type} {l : List α}, List.take (0 : Nat) l = []) ∧ (∀ {α : Type} {a : α} {l : List α} {i : Nat}, List.drop (i + (1 : Nat)) (a :: l) = List.drop i l) ∧ (∀ {α : Type} {l : List α}, List.drop (0 : Nat) l = l) ∧ (∀ {α : Type} {i : Nat}, List.drop i ([] : List α) = []) ∧ (∀ {α : Type} (asg : List α), asg ++ [] = asg) ∧ (∀ {α : Type} (val val_1 : α), (some val = some val_1) = (val = val_1)) ∧ (∀ {α : Type} {a' : α}, ∃ a, a' = a) ∧ (∀ (e : Env) (v : V), putv e none v = e) ∧ (∀ {e : Env} {d : Nat} {v : V}, d < List.length e → ev (putv e (some d) v) (Operand.tmp d) = v) ∧ (∀ {e : Env} {d t : Nat} {v : V}, (d == t) = false → ev (putv e (some d) v) (Operand.tmp t) = ev e (Operand.tmp t)) ∧ (∀ (e : Env) (v : Value), ev e (Operand.const v) = if flat v = true then V.t (T.v v) else V.junk) ∧ (∀ (e : Env) (f : Nat), ev e (Operand.func f) = V.t (T.v (Value.func (Fn.func f) #[] #[]))) ∧ (∀ (e : Env) (dst : Option Tmp) (v : V), List.length (putv e dst v) = List.length e) ∧ (∀ {α : Type} {x : Decidable True} (t e : α), (if True then t else e) = t) ∧ (∀ {α : Type} {x : Decidable False} (t e : α), (if False then t else e) = e) ∧ (∀ {α : Type} {xs : List α} {i : Nat}, (List.toArray xs)[i]? = xs[i]?) ∧ (∀ {α : Type} {a : α} {l : List α}, (a :: l)[(0 : Nat)]? = some a) ∧ (∀ {α : Type} {a : α} {i : Nat} {l : List α}, (a :: l)[i + (1 : Nat)]? = l[i]?) ∧ (∀ {α : Type} {a : α} {asg : List α}, List.length (a :: asg) = List.length asg + (1 : Nat)) ∧ (∀ {α : Type}, List.length ([] : List α) = (0 : Nat)) ∧ (∀ {α : Type} {β : Type} {f : α → β} {a : α} {l : List α}, List.map f (a :: l) = f a :: List.map f l) ∧ (∀ {α : Type} {β : Type} {f : α → β}, List.map f ([] : List α) = []) ∧ (∀ {α : Type} {a : α} {asg bs : List α}, a :: asg ++ bs = a :: (asg ++ bs)) ∧ (∀ {α : Type} (asg : List α), [] ++ asg = asg) ∧ (∀ (n : Nat), n + (0 : Nat) = n) ∧ (∀ (n : Nat), (0 : Nat) + n = n) ∧ (∀ (n : Nat), n * (1 : Nat) = n) ∧ (∀ {α : Type} (a b : α), (a ≠ b) = ¬a = b) ∧ (¬False) = True ∧ (∀ (p : Prop), (True ∧ p) = p) ∧ (∀ (p : Prop), (p ∧ True) = p) ∧ (∀ (n : Nat), Nat.succ n ≠ (0 : Nat)) ∧ (∀ (n : Nat), Int.toNat ↑n = n) ∧ (∀ {α : Type} {β : Type} {f : α → β} {l : List α} {i : Nat}, (List.map f l)[i]? = Option.map f l[i]?) ∧ (∀ {α : Type} {β : Type} (a : α) (f : α → β), Option.map f (some a) = some (f a)) ∧ (∀ {α : Type} {β : Type} {asg : List α} (f : α → β), List.length (List.map f asg) = List.length asg) ∧ (∀ (n : Nat), (0 : Int) ≤ ↑n) ∧ (∀ (h : Decidable True), decide True = true) ∧ (∀ (h : Decidable False), decide False = false) ∧ (∀ (p : Prop), (True → p) = p) ∧ (∀ (p : Prop), (False → p) = True) ∧ (¬True) = False ∧ (∀ (α : Type), (∀ (a : α), True) = True) ∧ (false = true) = False ∧ (!true) = false ∧ (!false) = true := And.intro @Nat.add_eq_left <| And.intro @Nat.left_eq_add <| And.intro @len_loc <| And.intro @Nat.zero_mul <| And.intro @List.length_range <| And.intro @m_add <| And.intro @m_set <| And.intro @m_del <| And.intro @n_add <| And.intro @n_set <| And.intro @n_del <| And.intro @Nat.le_refl <| And.intro @setAll1_0 <| And.intro @setAll2_0 <| And.intro @setAll2_1 <| And.intro @setAll2_02 <| And.intro @setAll3_0 <| And.intro @setAll3_1 <| And.intro @setAll3_2 <| And.intro @List.take_succ_cons <| And.intro @List.take_zero <| And.intro @List.drop_succ_cons <| And.intro @List.drop_zero <| And.intro @List.drop_nil <| And.intro @List.append_nil <| And.intro @Option.some.injEq <| And.intro @exists_eq' <| And.intro @putv_none <| And.intro @ev_hit <| And.intro @ev_miss <| And.intro @ev_const <| And.intro @ev_func <| And.intro @lpv <| And.intro @if_true <| And.intro @if_false <| And.intro @List.getElem?_toArray <| And.intro @List.getElem?_cons_zero <| And.intro @List.getElem?_cons_succ <| And.intro @List.length_cons <| And.intro @List.length_nil <| And.intro @List.map_cons <| And.intro @List.map_nil <| And.intro @List.cons_append <| And.intro @List.nil_append <| And.intro @Nat.add_zero <| And.intro @Nat.zero_add <| And.intro @Nat.mul_one <| And.intro @ne_eq <| And.intro @not_false_eq_true <| And.intro @true_and <| And.intro @and_true <| And.intro @Nat.succ_ne_zero <| And.intro @Int.toNat_natCast <| And.intro @List.getElem?_map <| And.intro @Option.map_some <| And.intro @List.length_map <| And.intro @Int.natCast_nonneg <| And.intro @decide_true <| And.intro @decide_false <| And.intro @true_implies <| And.intro @false_implies <| And.intro @not_true_eq_false <| And.intro @implies_true <| And.intro @Bool.false_eq_true <| And.intro @Bool.not_true <| @Bool.not_false
end Go.V
