/- Lemmas on the way to the statement of this claim; no conditions. -/
import Derived.Test.YtkdkajlgbhggdaaGreatDoorA25
namespace Go.V
open Go Go.RowKit
theorem b7q (s : Sg) (b : Blk) (n : Nat) : (s.add b).m n = if n = s.next then some b else s.m n := rfl
theorem b9q (s : Sg) (k : Nat) (b : Blk) (n : Nat) : (s.set k b).m n = if n = k then some b else s.m n := rfl
theorem e4q (s : Sg) (k : Nat) (n : Nat) : (s.del k).m n = if n = k then none else s.m n := rfl
theorem c6q (s : Sg) (b : Blk) : (s.add b).next = s.next + 1 := rfl
theorem h9q (s : Sg) (k : Nat) (b : Blk) : (s.set k b).next = s.next := rfl
theorem e9q (s : Sg) (k : Nat) : (s.del k).next = s.next := rfl
theorem s4x {α : Type} (a x : α) : setAll [a] 0 [x] = [x] := rfl
theorem s5x {α : Type} (a b x : α) : setAll [a, b] 0 [x] = [x, b] := rfl
theorem s6x {α : Type} (a b x : α) : setAll [a, b] 1 [x] = [a, x] := rfl
theorem o7z {α : Type} (a b x y : α) : setAll [a, b] 0 [x, y] = [x, y] := rfl
theorem s7x {α : Type} (a b c x : α) : setAll [a, b, c] 0 [x] = [x, b, c] := rfl
theorem s8x {α : Type} (a b c x : α) : setAll [a, b, c] 1 [x] = [a, x, c] := rfl
theorem s9x {α : Type} (a b c x : α) : setAll [a, b, c] 2 [x] = [a, b, x] := rfl
theorem a4q {e : Env} {d t : Nat} {v : V} (h : (d == t) = false) : ev (putv e (some d) v) (.tmp t) = ev e (.tmp t) := i3q (by simp at h; simpa using h)
theorem a0q {e : Env} {d : Nat} {v : V} (h : d < e.length) : ev (putv e (some d) v) (.tmp d) = v := g5q h
theorem len_loc (n o k : Nat) : vlen (.loc n o k) = some k := rfl
def k1q (cls : List Nat) : List Bool := cls.map d8q
def ivOf (h : Nat) (cls : List Nat) : List (Nat × Nat) := (List.range h).map fun i => if cls.getD i 0 = 0 then (0, rank (k1q cls) h) else if cls.getD i 0 = 2 then (0, kpOf cls) else (rank (k1q cls) i, rank (k1q cls) i)
def j1z (ops : Array Oper) (h : Nat) (cls : List Nat) : Bool :=
 o1z ops h (k1q cls) (cloT ops) (ivOf h cls) && r5z ops && decide (cls.length = h) && (((ops.toList.take h).zip cls).all fun x => q5z x.2 x.1.op)
section
variable {P : Program} {ops : Array Oper} {e : Env} {s : Sg} {Q : Exit → Env → Sg → Prop}
theorem OpI.mono {o : Oper} {K K' : V → Sg → Prop} (h : OpI P ops o e s K) (hk : ∀ v s', K v s' → K' v s') : OpI P ops o e s K' := by
 unfold OpI at h ⊢
 split
 ·rename_i hg; rw [hg] at h; exact OpG.mono h hk
 ·rename_i j want hg
  rw [hg] at h
  obtain ⟨oj, t, h1, h2, h⟩ := h
  have hsk : g8z s K → g8z s K' := fun h => h.imp (hk _ _) (hk _ _)
  refine ⟨oj, t, h1, h2, ?_⟩
  rcases h with ⟨b, h3, h4, h5⟩ | ⟨h3, h4⟩
  ·exact .inl ⟨b, h3, fun hb => OpG.mono (h4 hb) hk, fun hb => hsk (h5 hb)⟩
  ·exact .inr ⟨h3, hsk h4⟩
theorem r9z (cls : List Nat) : ∀ i, i ≤ cls.length → rank (k1q cls) i = (cls.take i).countP d8q := by
 intro i
 induction i with
 | zero => intro _; simp [rank]
 | succ i ih =>
  intro hi
  have hlt : i < cls.length := by omega
  unfold rank at ih ⊢
  rw [List.range_succ, List.countP_append, ih (by omega), List.take_add_one, List.countP_append]
  congr 1
  have h1 : (k1q cls).getD i false = d8q cls[i] := by simp [k1q, List.getD_eq_getElem?_getD, hlt]
  rw [List.getElem?_eq_getElem hlt]
  simp only [List.countP_cons, List.countP_nil, h1, Option.toList_some]
theorem w2q {α : Type} : ∀ (l : List α) (cls : List Nat), l.length = cls.length → ((l.zip cls).countP fun x => d8q x.2) = cls.countP d8q
 | [], [], _ => rfl
 | a :: l, c :: cls, h => by
  rw [List.zip_cons_cons, List.countP_cons, List.countP_cons, w2q l cls (by simpa using h)]
 | [], _ :: _, h => by simp at h
 | _ :: _, [], h => by simp at h
theorem c5q {id : Nat} (hm : P.follows .mixedOrders = true) (h : Nat) (cls : List Nat) (sc sc2 : List CallS) (md2 : Nat) (hok : j1z ops h cls = true) (hd : ∀ o ∈ ops.toList.take h, ∀ d, o.dst = some d → d < e.length) (hns : i5q sc = true)
 (H : chn P ops s ((ops.toList.take h).zip cls) sc (fun sc' e s => wocs md2 P ops (ops.toList.drop h) (sc' ++ sc2) (fun e s => Q .normal e s) e s) e s) : VW P (.region id ops true) Q e s := by
 simp only [j1z, Bool.and_eq_true, List.all_eq_true, decide_eq_true_eq] at hok
 obtain ⟨⟨⟨hok1, hok2⟩, hlen0⟩, hok3⟩ := hok
 have T := x6z hok1 hok2
 have hlen : (ops.toList.take h).length = h := by have := T.le; simp; omega
 obtain ⟨vs, S, sc', hvl, hS0, _, htail, hkeep, hrun⟩ := y9q _ sc e s (fun x hx => hok3 x hx) hns H
 have hzl : ((ops.toList.take h).zip cls).length = h := by rw [List.length_zip, hlen, hlen0, Nat.min_self]
 rw [hzl] at hvl
 have hmap : ((ops.toList.take h).zip cls).map (·.1) = ops.toList.take h := by
  rw [List.map_fst_zip]; omega
 have hcnt : ∀ i, i ≤ h → (((ops.toList.take h).zip cls).take i).countP (fun x => d8q x.2) = rank (k1q cls) i := by
  intro i hi
  rw [List.zip, List.take_zipWith]
  have := w2q ((ops.toList.take h).take i) (cls.take i) (by simp [hlen0]; have := T.le; omega)
  rw [List.zip] at this
  rw [this, r9z cls i (by omega)]
 have hget : ∀ i o, i < h → (ops[i]? = some o ↔ (ops.toList.take h)[i]? = some o) := fun i o hi => by rw [List.getElem?_take, if_pos hi]; simp
 rw [hmap] at htail
 have hcN := hcnt h (Nat.le_refl _)
 rw [List.take_of_length_le (by omega)] at hcN
 rw [hcN] at htail
 rw [List.map_snd_zip (by omega)] at hkeep
 intro r B M ρ a w QQ hs hk
 refine t6q (Q := Q) (s := s) hm h (k1q cls) (ivOf h cls) (cloT ops) (puts e (ops.toList.take h) vs) S rfl hok1 hok2 (g9q _ _ _).symm (fun t ht => ?_) hS0 ?_ ?_ r B M ρ a w QQ hs hk
 ·refine (m6q _ _ _ fun o ho => ?_).symm
  obtain ⟨i, hi⟩ := List.mem_iff_getElem?.1 ho
  have hih : i < h := by have := (List.getElem?_eq_some_iff.1 hi).1; omega
  have := ht i hih
  rwa [j2q, (hget i o hih).2 hi] at this
 ·intro i o hi ho m hm1 hm2 hm3 e' hle hlk
  have hoi := (hget i o hi).1 ho
  have hvi : i < vs.length := by omega
  have hci : i < cls.length := by omega
  have hpair : ((ops.toList.take h).zip cls)[i]? = some (o, cls[i]) := by
   rw [List.getElem?_zip_eq_some]; exact ⟨hoi, List.getElem?_eq_getElem hci⟩
  have hF := hrun i o cls[i] vs[i] hpair (List.getElem?_eq_getElem hvi)
  rw [hcnt i (by omega), hmap] at hF
  have hag : ∀ t ∈ o.looksAt ops, ev e' (.tmp t) = ev (puts e ((ops.toList.take h).take i) (vs.take i)) (.tmp t) := by
   intro t ht
   rw [hlk t ht, l3q e _ vs i]
   refine m6q _ _ _ fun o' ho' => ?_
   obtain ⟨j, hj⟩ := List.mem_iff_getElem?.1 ho'
   rw [List.getElem?_drop] at hj
   have hjh : i + j < h := by have := (List.getElem?_eq_some_iff.1 hj).1; omega
   intro hcon
   have h1 := T.looks i (i + j) t hi hjh (by rw [j2q, (hget _ o' hjh).2 hj]; exact hcon) (by rw [k5q, ho]; exact ht)
   have := h4z T i (by have := T.le; omega) (i + j) h1
   omega
  have hdst : ∀ d, o.dst = some d → d < (puts e (ops.toList.take h) vs).length ∧ vs[i] = ev (puts e (ops.toList.take h) vs) (.tmp d) := by
   intro d hdd
   refine ⟨by rw [g9q]; exact hd o (List.mem_of_getElem? hoi) d hdd, ?_⟩
   rw [l3q e _ vs (i + 1)]
   rw [m6q]
   ·have htk := v3q (ops.toList.take h) vs i e hoi (List.getElem?_eq_getElem hvi)
    rw [htk, hdd, g5q (by rw [g9q]; exact hd o (List.mem_of_getElem? hoi) d hdd)]
   ·intro o' ho' hcon
    obtain ⟨j, hj⟩ := List.mem_iff_getElem?.1 ho'
    rw [List.getElem?_drop] at hj
    have hjh : i + 1 + j < h := by have := (List.getElem?_eq_some_iff.1 hj).1; omega
    have := T.dst i (i + 1 + j) d hi hjh (by rw [j2q, ho]; exact hdd) (by rw [j2q, (hget _ o' hjh).2 hj]; exact hcon)
    omega
  have hiv : (ivOf h cls).getD i (0, 0) = if cls[i] = 0 then (0, rank (k1q cls) h) else if cls[i] = 2 then (0, kpOf cls) else (rank (k1q cls) i, rank (k1q cls) i) := by
   have h1 : cls.getD i 0 = cls[i] := by simp [List.getD_eq_getElem?_getD, hci]
   unfold ivOf
   rw [List.getD_eq_getElem?_getD, List.getElem?_map, List.getElem?_range hi]
   simp only [Option.map_some, Option.getD_some, h1]
  have heff : (k1q cls).getD i false = d8q cls[i] := by simp [k1q, List.getD_eq_getElem?_getD, hci]
  rw [hiv] at hm1 hm2
  rw [heff] at hm3 ⊢
  have hmem : cls[i] ∈ cls := List.getElem_mem hci
  generalize hcc : cls[i] = c at hm1 hm2 hm3 hF hmem ⊢
  match c, hF, hm1, hm2, hm3, hmem with
  | 0, hF, hm1, hm2, hm3, hmem => exact (hF (S m) e' hag).mono fun v s' hv => ⟨by simpa [d8q] using hv.2, fun d hdd => ⟨(hdst d hdd).1, hv.1.trans (hdst d hdd).2⟩⟩
  | 1, hF, hm1, hm2, hm3, hmem =>
   have : m = rank (k1q cls) i := by simp at hm1 hm2; omega
   subst this
   exact (hF e' hag).mono fun v s' hv => ⟨by simpa [d8q] using hv.2, fun d hdd => ⟨(hdst d hdd).1, hv.1.trans (hdst d hdd).2⟩⟩
  | 2, hF, hm1, hm2, hm3, hmem =>
   have hx : Ext0 s (S m) := by
    rcases Nat.eq_zero_or_pos m with rfl | hpos
    ·rw [hS0]; exact fun _ _ h => h
    ·exact fun n b hb => hkeep m hpos (by simpa using hm2) n b (hs.sr.lt n b hb) hb
   exact OpI.mono (hF (S m) hx e' hag) fun v s' hv => ⟨by simpa [d8q] using hv.2, fun d hdd => ⟨(hdst d hdd).1, hv.1.trans (hdst d hdd).2⟩⟩
  | 3, hF, hm1, hm2, hm3, hmem =>
   have := hm3 rfl
   subst this
   exact OpI.mono (hF e' hag) fun v s' hv => ⟨by simpa [d8q] using hv.2, fun d hdd => ⟨(hdst d hdd).1, hv.1.trans (hdst d hdd).2⟩⟩
  | c + 4, hF, hm1, hm2, hm3, hmem =>
   have := hm3 (by simp [d8q])
   subst this
   exact OpI.mono (hF e' hag) fun v s' hv => ⟨by simpa [d8q] using hv.2, fun d hdd => ⟨(hdst d hdd).1, hv.1.trans (hdst d hdd).2⟩⟩
 ·have hl2 : (ops.toList.drop h).length = ops.size - h := by simp
  rw [← hl2]
  exact s0q _ _ h (fun j o hj => by rw [List.getElem?_drop] at hj; simpa using hj) htail
end
end Go.V
namespace Go.V
theorem bs : (∀ {a b : Nat}, a + b = a ↔ b = (0 : Nat)) ∧ (∀ {a b : Nat}, a = a + b ↔ b = (0 : Nat)) ∧ (∀ (n o k : Nat), vlen (V.loc n o k) = some k) ∧ (∀ (n : Nat), (0 : Nat) * n = (0 : Nat)) ∧ (∀ {n : Nat}, List.length (List.range n) = n) ∧ (∀ (s : Sg) (b : Blk) (n : Nat), Sg.m (Sg.add s b) n = if n = Sg.next s then some b else Sg.m s n) ∧ (∀ (s : Sg) (k : Nat) (b : Blk) (n : Nat), Sg.m (Sg.set s k b) n = if n = k then some b else Sg.m s n) ∧ (∀ (s : Sg) (k n : Nat), Sg.m (Sg.del s k) n = if n = k then none else Sg.m s n) ∧ (∀ (s : Sg) (b : Blk), Sg.next (Sg.add s b) = Sg.next s + (1 : Nat)) ∧ (∀ (s : Sg) (k : Nat) (b : Blk), Sg.next (Sg.set s k b) = Sg.next s) ∧ (∀ (s : Sg) (k : Nat), Sg.next (Sg.del s k) = Sg.next s) ∧ (∀ (n : Nat), n ≤ n) ∧ (∀ {α : Type} (a x : α), setAll [a] (0 : Nat) [x] = [x]) ∧ (∀ {α : Type} (a b x : α), setAll [a, b] (0 : Nat) [x] = [x, b]) ∧ (∀ {α : Type} (a b x : α), setAll [a, b] (1 : Nat) [x] = [a, x]) ∧ (∀ {α : Type} (a b x y : α), setAll [a, b] (0 : Nat) [x, y] = [x, y]) ∧ (∀ {α : Type} (a b c x : α), setAll [a, b, c] (0 : Nat) [x] = [x, b, c]) ∧ (∀ {α : Type} (a b c x : α), setAll [a, b, c] (1 : Nat) [x] = [a, x, c]) ∧ (∀ {α : Type} (a b c x : α), setAll [a, b, c] (2 : Nat) [x] = [a, b, x]) ∧ (∀ {α : Type} {a : α} {asg : List α} {i : Nat}, List.take (i + (1 : Nat)) (a :: asg) = a :: List.take i asg) ∧ (∀ {α : Type} {l : List α}, List.take (0 : Nat) l = []) ∧ (∀ {α : Type} {a : α} {l : List α} {i : Nat}, List.drop (i + (1 : Nat)) (a :: l) = List.drop i l) ∧ (∀ {α : Type} {l : List α}, List.drop (0 : Nat) l = l) ∧ (∀ {α : Type} {i : Nat}, List.drop i ([] : List α) = []) ∧ (∀ {α : Type} (asg : List α), asg ++ [] = asg) ∧ (∀ {α : Type} (val val_1 : α), (some val = some val_1) = (val = val_1)) ∧ (∀ {α : Type} {a' : α}, ∃ a, a' = a) ∧ (∀ (e : Env) (v : V), putv e none v = e) ∧ (∀ {e : Env} {d : Nat} {v : V}, d < List.length e → ev (putv e (some d) v) (Operand.tmp d) = v) ∧ (∀ {e : Env} {d t : Nat} {v : V}, (d == t) = false → ev (putv e (some d) v) (Operand.tmp t) = ev e (Operand.tmp t)) ∧ (∀ (e : Env) (v : Value), ev e (Operand.const v) = if flat v = true then V.t (T.v v) else V.junk) ∧ (∀ (e : Env) (f : Nat), ev e (Operand.func f) = V.t (T.v (Value.func (Fn.func f) #[] #[]))) ∧ (∀ (e : Env) (dst : Option Tmp) (v : V), List.length (putv e dst v) = List.length e) ∧ (∀ {α : Type} {x : Decidable True} (t e : α), (if True then t else e) = t) ∧ (∀ {α : Type} {x : Decidable False} (t e : α), (if False then t else e) = e) ∧ (∀ {α : Type} {xs : List α} {i : Nat}, (List.toArray xs)[i]? = xs[i]?) ∧ (∀ {α : Type} {a : α} {l : List α}, (a :: l)[(0 : Nat)]? = some a) ∧ (∀ {α : Type} {a : α} {i : Nat} {l : List α}, (a :: l)[i + (1 : Nat)]? = l[i]?) ∧ (∀ {α : Type} {a : α} {asg : List α}, List.length (a :: asg) = List.length asg + (1 : Nat)) ∧ (∀ {α : Type}, List.length ([] : List α) = (0 : Nat)) ∧ (∀ {α : Type} {β : Type} {f : α → β} {a : α} {l : List α}, List.map f (a :: l) = f a :: List.map f l) ∧ (∀ {α : Type} {β : Type} {f : α → β}, List.map f ([] : List α) = []) ∧ (∀ {α : Type} {a : α} {asg bs : List α}, a :: asg ++ bs = a :: (asg ++ bs)) ∧ (∀ {α : Type} (asg : List α), [] ++ asg = asg) ∧ (∀ (n : Nat), n + (0 : Nat) = n) ∧ (∀ (n : Nat), (0 : Nat) + n = n) ∧ (∀ (n : Nat), n * (1 : Nat) = n) ∧ (∀ {α : Type} (a b : α), (a ≠ b) = ¬a = b) ∧ (¬False) = True ∧ (∀ (p : Prop), (True ∧ p) = p) ∧ (∀ (p : Prop), (p ∧ True) = p) ∧ (∀ (n : Nat), Nat.succ n ≠ (0 : Nat)) ∧ (∀ (n : Nat), Int.toNat ↑n = n) ∧ (∀ {α : Type} {β : Type} {f : α → β} {l : List α} {i : Nat}, (List.map f l)[i]? = Option.map f l[i]?) ∧ (∀ {α : Type} {β : Type} (a : α) (f : α → β), Option.map f (some a) = some (f a)) ∧ (∀ {α : Type} {β : Type} {asg : List α} (f : α → β), List.length (List.map f asg) = List.length asg) ∧ (∀ (n : Nat), (0 : Int) ≤ ↑n) ∧ (∀ (h : Decidable True), decide True = true) ∧ (∀ (h : Decidable False), decide False = false) ∧ (∀ (p : Prop), (True → p) = p) ∧ (∀ (p : Prop), (False → p) = True) ∧ (¬True) = False ∧ (∀ (α : Type), (∀ (a : α), True) = True) ∧ (false = true) = False ∧ (!true) = false ∧ (!false) = true := And.intro @Nat.add_eq_left <| And.intro @Nat.left_eq_add <| And.intro @len_loc <| And.intro @Nat.zero_mul <| And.intro @List.length_range <| And.intro @b7q <| And.intro @b9q <| And.intro @e4q <| And.intro @c6q <| And.intro @h9q <| And.intro @e9q <| And.intro @Nat.le_refl <| And.intro @s4x <| And.intro @s5x <| And.intro @s6x <| And.intro @o7z <| And.intro @s7x <| And.intro @s8x <| And.intro @s9x <| And.intro @List.take_succ_cons <| And.intro @List.take_zero <| And.intro @List.drop_succ_cons <| And.intro @List.drop_zero <| And.intro @List.drop_nil <| And.intro @List.append_nil <| And.intro @Option.some.injEq <| And.intro @exists_eq' <| And.intro @x0z <| And.intro @a0q <| And.intro @a4q <| And.intro @e7q <| And.intro @ev_func <| And.intro @lpv <| And.intro @if_true <| And.intro @if_false <| And.intro @List.getElem?_toArray <| And.intro @List.getElem?_cons_zero <| And.intro @List.getElem?_cons_succ <| And.intro @List.length_cons <| And.intro @List.length_nil <| And.intro @List.map_cons <| And.intro @List.map_nil <| And.intro @List.cons_append <| And.intro @List.nil_append <| And.intro @Nat.add_zero <| And.intro @Nat.zero_add <| And.intro @Nat.mul_one <| And.intro @ne_eq <| And.intro @not_false_eq_true <| And.intro @true_and <| And.intro @and_true <| And.intro @Nat.succ_ne_zero <| And.intro @Int.toNat_natCast <| And.intro @List.getElem?_map <| And.intro @Option.map_some <| And.intro @List.length_map <| And.intro @Int.natCast_nonneg <| And.intro @decide_true <| And.intro @decide_false <| And.intro @true_implies <| And.intro @false_implies <| And.intro @not_true_eq_false <| And.intro @implies_true <| And.intro @Bool.false_eq_true <| And.intro @Bool.not_true <| @Bool.not_false
end Go.V
