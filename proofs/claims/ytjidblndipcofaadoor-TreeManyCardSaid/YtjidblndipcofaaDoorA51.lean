/- Lemmas on the way to the statement of this claim; no conditions. -/
import Derived.Test.YtjidblndipcofaaDoorA31
import Derived.Test.YtjidblndipcofaaDoorA39
import Derived.Test.YtjidblndipcofaaDoorA50
open Go Go.V
namespace Go.Proofs
abbrev bA : ByteArray := ⟨#[97]⟩
abbrev bU : ByteArray := ⟨#[65]⟩
abbrev bB : ByteArray := ⟨#[98]⟩
abbrev bX : ByteArray := ⟨#[120]⟩
abbrev bE : ByteArray := ⟨#[]⟩
abbrev F0 : Fl := ⟨bA, [⟨1, 0, bX, false⟩], []⟩
theorem oneX : OneL bX := ⟨by decide, by decide⟩
theorem oneE : OneL bE := ⟨by decide, by decide⟩
theorem okF0 : FlOK F0 := ⟨by decide, by decide, by intro x hx; simp at hx; subst hx; decide⟩
theorem linF0 : linS F0 = true := by decide +kernel
theorem ofF0 : ofS [F0] = [(bA, bX)] := by decide +kernel
theorem chg1 : chgS [(bA, bX)] F0 = false := by decide +kernel
theorem chg0 : chgS [] F0 = true := by decide +kernel
theorem cle1 : cleanS [(bA, bX)] [F0] = true := by decide +kernel
theorem put1 : putS bA bX true [] = (0, [(bA, bX)]) := by decide +kernel
theorem put2 : putS bU bE true [(bA, bX)] = (10, [(bA, bX)]) := by decide +kernel
theorem drp1 : dropS bB [(bA, bX)] = (13, [(bA, bX)]) := by decide +kernel
theorem get1 : tget bA [(bA, bX)] = some bX := by decide +kernel
theorem TreeP.put {s : Sg} {p m : Nat} {L : List Txt} (h : TreeP s p m L) (hpm : p ≠ m) (L' : List Txt) : TreeP (s.set m (.mp (mpE L'))) p m L' := ⟨by simp only [Sg.set, hpm, if_false]; exact h.hp, by simp [Sg.set]⟩
theorem len_tWork (l : List Txt) : vlen (.t (tWork l)) = some l.length := by simp only [vlen, flatW]; congr 1; omega
section
variable {s : Sg} {p m : Nat} {L L' : List Txt}
theorem tPutD (hT : TreeP s p m L) (k v : ByteArray) (hv : OneL v) {c : Int} (hps : putS k v true L = (c, L')) : DCall Tryd.prog 6 [.ptr p 0, Str k, Str v] s (I c) (s.set m (.mp (mpE L'))) :=
  (tPut_ s p m L hT k v true (fits1_ v hv)).mono fun r s' h => by rw [hps] at h; exact h
theorem tPutE (hT : TreeP s p m L) (k v : ByteArray) (hv : OneL v) {c : Int} (hps : putS k v true L = (c, L)) : DCall Tryd.prog 6 [.ptr p 0, Str k, Str v] s (I c) s :=
  (tPut_ s p m L hT k v true (fits1_ v hv)).mono fun r s' h => by rw [hps] at h; rw [set_selfb hT.hm] at h; exact h
theorem tDropD (hT : TreeP s p m L) (k : ByteArray) {c : Int} (hps : dropS k L = (c, L')) : DCall Tryd.prog 7 [.ptr p 0, Str k] s (I c) (s.set m (.mp (mpE L'))) :=
  (tDrop_ s p m L hT k).mono fun r s' h => by rw [hps] at h; exact h
theorem tDropE (hT : TreeP s p m L) (k : ByteArray) {c : Int} (hps : dropS k L = (c, L)) : DCall Tryd.prog 7 [.ptr p 0, Str k] s (I c) s :=
  (tDrop_ s p m L hT k).mono fun r s' h => by rw [hps] at h; rw [set_selfb hT.hm] at h; exact h
end
theorem setAll4_02 {α : Type} (a b c d x y : α) : setAll [a, b, c, d] 0 [x, y] = [x, y, c, d] := rfl
theorem setAll4_21 {α : Type} (a b c d x : α) : setAll [a, b, c, d] 2 [x] = [a, b, x, d] := rfl
theorem setAll3_03 {α : Type} (a b c x y z : α) : setAll [a, b, c] 0 [x, y, z] = [x, y, z] := rfl
theorem n0 : ((0 : Int) != 0) = false := rfl
theorem n10 : ((10 : Int) != 10) = false := rfl
theorem n13 : ((13 : Int) != 13) = false := rfl
theorem n11 : ((11 : Int) != 11) = false := rfl
theorem far_ptr {P : Program} {t x y : Nat} {a b : Operand} {el : TypeId} (h : P.underlying t = some (.pointer el)) : opFar .eql (.ptr x y) (.t (.v (.pointer none))) P t a b (.bool false) := .inr (.inr ⟨⟨_, h⟩, .inl rfl, rfl, .inl ⟨⟨_, _, rfl⟩, rfl⟩⟩)
set_option maxRecDepth 20000 in
set_option maxHeartbeats 2000000 in
theorem known22_  : PCall Tryd.prog 4 [] (Bo true) := by
  refine pcall_of_body Tryd.func4 rfl fun s Q hQ => ?_
  obtain ⟨e, he, hl⟩ : ∃ e : Env, ([] ++ List.replicate (Tryd.f4.ntmps - ([] : List V).length) .junk) = e ∧ e.length = 70 := ⟨_, rfl, rfl⟩
  rw [he]
  clear he
  refine vsk fun K1 hK1 => ?_
  refine vw_sc 0 [] ?_
  simp only [bs, ↓vopx, ↓vop, thenV, flat, wocs, ↓goc, ↓woc, ↓vopm0]
  repeat ((with_reducible refine And.intro ?_ ?_); · first | (with_reducible assumption) | omega | exact ⟨by omega, by omega⟩ | with_reducible rfl | (repeat' first | exact Keep.refl _ | refine Keep.add ?_ ?_ _ | refine Keep.set ?_ ?_ _ | exact Nat.le_refl _ | (simp only [Sg.add, Sg.set, Sg.del]; omega)))
  refine hK1 _ _ ?_
  refine vsk fun K2 hK2 => ?_
  refine vw_sc 0 [.stop] ?_
  simp only [dstIs, bs, ↓vopx, ↓vop, thenV, wocs, ↓goc, ↓woc, ↓vopm0, ↓callC, calleeV]
  refine ⟨Tryd.is5, (tNew_ s).mono fun v s2_ hv => ?_⟩
  obtain ⟨rfl, rfl⟩ := hv
  try simp only [bs, Nat.reduceLT, hl, Hold]
  refine hK2 _ _ ?_
  refine vsk fun K3 hK3 => ?_
  refine vsk fun K4 hK4 => ?_
  refine vw_st2 fun s1 hS1 => ?_
  have hT1 : TreeP s1 (s.next + 1) s.next [] := ⟨by rw [hS1]; simp [Sg.add], by rw [hS1]; simp [Sg.add]; rfl⟩
  have hn1 : s1.next = s.next + 2 := by rw [hS1]; rfl
  have hk1 : Keep s s1 := by rw [hS1]; exact ((Keep.refl s).add (Nat.le_refl _) _).add (by simp [Sg.add]) _
  clear hS1
  have hpm : s.next + 1 ≠ s.next := by omega
  refine vw_sc 0 [.far (.bool false), .det (I 0) (s1.set s.next (.mp (mpE [(bA, bX)]))), .det (I 10) (s1.set s.next (.mp (mpE [(bA, bX)]))), .det (I 13) (s1.set s.next (.mp (mpE [(bA, bX)])))] ?_
  simp only [bs, ↓vopx, ↓vop, Nat.reduceBEq, thenV, flat, Nat.reduceLT, opII, gtmp, hl, wocs, ↓goc, ↓woc, ↓vopm0, ↓callC, ↓pick_ff, calleeV, ↓farC, n0, n10, n13]
  repeat ((with_reducible refine And.intro ?_ ?_); · first | (with_reducible assumption) | omega | exact ⟨by omega, by omega⟩ | exact far_ptr Tryd.underlying23 | exact ⟨Tryd.is6, tPutD hT1 bA bX oneX put1⟩ | exact ⟨Tryd.is6, tPutE (hT1.put hpm _) bU bE oneE put2⟩ | exact ⟨Tryd.is7, tDropE (hT1.put hpm _) bB drp1⟩ | with_reducible rfl | (repeat' first | exact Keep.refl _ | refine Keep.add ?_ ?_ _ | refine Keep.set ?_ ?_ _ | exact Nat.le_refl _ | (simp only [Sg.add, Sg.set, Sg.del]; omega)))
  refine hK4 _ _ ?_
  refine vck fun A B hA hB => ?_
  simp only [condV, ev_hit, lpv, Nat.reduceLT, true_implies, reduceCtorEq, false_implies, true_and, hl]
  refine hB ?_
  clear hA hB A B
  refine vw_skip ?_
  refine hK3 _ _ ?_
  refine vsk fun K5 hK5 => ?_
  refine vw_sc 0 [.det (.tup [Str bX, Bo true]) (s1.set s.next (.mp (mpE [(bA, bX)])))] ?_
  simp only [bs, ↓vopx, ↓vop, Nat.reduceBEq, thenV, flat, Nat.reduceLT, hl, wocs, ↓goc, ↓woc, ↓vopm0, ↓callC, calleeV]
  repeat ((with_reducible refine And.intro ?_ ?_); · first | (with_reducible assumption) | omega | exact ⟨by omega, by omega⟩ | exact ⟨Tryd.is9, by have := tGet_ (s1.set s.next (.mp (mpE [(bA, bX)]))) (s.next + 1) s.next _ (hT1.put hpm _) bA; rw [get1] at this; exact this⟩ | with_reducible rfl | (repeat' first | exact Keep.refl _ | refine Keep.add ?_ ?_ _ | refine Keep.set ?_ ?_ _ | exact Nat.le_refl _ | (simp only [Sg.add, Sg.set, Sg.del]; omega)))
  refine hK5 _ _ ?_
  refine vsk fun K6 hK6 => ?_
  refine vw_st2 fun s2 hS2 => ?_
  have hT2 : TreeP s2 (s.next + 1) s.next [(bA, bX)] := by rw [hS2]; exact (hT1.put hpm _)
  have hn2 : s2.next = s.next + 2 := by rw [hS2]; exact hn1
  have hk2 : Keep s s2 := by rw [hS2]; exact hk1.set (Nat.le_refl _) _
  clear hS2
  refine vw_sc 1 [] ?_
  simp only [bs, Nat.reduceLeDiff, Nat.reduceAdd, vparts, gfill, repl, Sg.frzP, ↓vopx, ↓vop, Nat.reduceBEq, thenV, flat, Nat.reduceLT, V.cells, Sg.frzL, Sg.frz1, hl, wocs, ↓goc, ↓woc, ↓vopm1, Tryd.sl41, Tryd.st38, Tryd.st40, Tryd.st44, Tryd.sz44, Tryd.zv44, setAll4_02, setAll4_21, setAll3_03]
  repeat ((with_reducible refine And.intro ?_ ?_); · first | (with_reducible assumption) | omega | exact ⟨by omega, by omega⟩ | with_reducible rfl | (repeat' first | exact Keep.refl _ | refine Keep.add ?_ ?_ _ | refine Keep.set ?_ ?_ _ | exact Nat.le_refl _ | (simp only [Sg.add, Sg.set, Sg.del]; omega)))
  refine hK6 _ _ ?_
  refine vsk fun K7 hK7 => ?_
  refine vw_en fun eqa hE => ?_
  have hlqa : eqa.length = 70 := by rw [hE]; simp only [lpv, hl]
  have a1 : ev eqa (.tmp 1) = .ptr (s.next + 1) 0 := by rw [hE]; simp only [ev_hit, ev_miss, Nat.reduceBEq, lpv, hl, Nat.reduceLT]
  have a2 : ev eqa (.tmp 2) = Str bX := by rw [hE]; simp only [ev_hit, ev_miss, Nat.reduceBEq, lpv, hl, Nat.reduceLT]
  have a3 : ev eqa (.tmp 3) = Bo true := by rw [hE]; simp only [ev_hit, ev_miss, Nat.reduceBEq, lpv, hl, Nat.reduceLT]
  have a4 : ev eqa (.tmp 4) = .ptr s2.next 0 := by rw [hE]; simp only [ev_hit, lpv, hl, Nat.reduceLT]
  clear hE
  refine vw_st2 fun s6 hS6 => ?_
  have hb6 : s6.m s2.next = some (.box 44 [.t (TS bA), .t (tLines F0.lines), .t (.v (.slice none 0 0))]) := by rw [hS6]; simp only [Sg.set, if_true]; rfl
  have n6 : s6.next = s2.next + 1 := by rw [hS6]; rfl
  have k6 : Keep s2 s6 := by rw [hS6]; exact ((Keep.refl s2).add (Nat.le_refl _) _).set (Nat.le_refl _) _
  clear hS6
  refine VW.nilBox s2.next 2 2 (by omega) hb6 rfl ?_
  refine vw_st2 fun s7 hS7 => ?_
  have hb7 : s7.m s2.next = some (bxF F0) := by rw [hS7]; simp only [Sg.set, if_true]; rfl
  have n7 : s7.next = s2.next + 1 := by rw [hS7]; exact n6
  have k7 : Keep s2 s7 := by rw [hS7]; exact k6.set (Nat.le_refl _) _
  clear hS7
  have hT7 := hT2.keep (by omega) (by omega) k7
  refine vw_sc 1 [.stop] ?_
  simp only [dstIs, bs, Nat.reduceAdd, vparts, gfill, repl, Sg.frzP, ↓vopx, ↓vop, thenV, Nat.reduceLT, V.cells, dLoad, vpart, Sg.frzL, Sg.frz1, hlqa, a4, hb7, wocs, ↓goc, ↓woc, ↓vopm1, ↓callC, calleeV, Tryd.ag44, Tryd.sl46, Tryd.sz44, setAll3_03]
  refine ⟨by omega, Tryd.is10, (tOf_ s7 [F0] (by simp) (by intro f hf; simp at hf; subst hf; exact okF0) (by intro f hf; simp at hf; subst hf; exact linF0)).mono fun v s8 hv => ?_⟩
  obtain ⟨q, n, rfl, hU, hk8, hq, hn, hq2, hn2⟩ := hv
  rw [ofF0] at hU
  try simp only [bs, Nat.reduceLT, hlqa, Hold]
  refine hK7 _ _ ?_
  refine vsk fun K8 hK8 => ?_
  refine vw_en fun eqb hE => ?_
  have hlqb : eqb.length = 70 := by rw [hE]; simp only [lpv, hlqa]
  have b1 : ev eqb (.tmp 1) = .ptr (s.next + 1) 0 := by rw [hE]; simp only [ev_miss, Nat.reduceBEq, a1]
  have b2 : ev eqb (.tmp 2) = Str bX := by rw [hE]; simp only [ev_miss, Nat.reduceBEq, a2]
  have b3 : ev eqb (.tmp 3) = Bo true := by rw [hE]; simp only [ev_miss, Nat.reduceBEq, a3]
  have b4 : ev eqb (.tmp 4) = .ptr s2.next 0 := by rw [hE]; simp only [ev_miss, Nat.reduceBEq, a4]
  have b5 : ev eqb (.tmp 5) = .ptr q 0 := by rw [hE]; simp only [ev_hit, lpv, hlqa, Nat.reduceLT]
  clear hE
  have n8 : s7.next ≤ s8.next := by omega
  have hb8 := hk8 _ _ (by omega) hb7
  have hT8 := hT7.keep (by omega) (by omega) hk8
  have k28 := k7.trans (by omega) hk8
  have ks8 := hk2.trans (by omega) k28
  have hk0 : ∀ q ∈ [((bA, bX) : Txt)], q.1.size ≤ 1000000 := by intro q hq; simp at hq; subst hq; decide
  have hnd : ([((bA, bX) : Txt)].map (·.1)).Nodup := by simp
  have hxx : (bX.toList == bX.toList) = true := by simp
  have hone : (((wkS [(bA, bX)]).length : Int) == 1) = true := by rw [wkS_len]; rfl
  have hc1 : ∀ f ∈ [F0], FlOK f := by intro f hf; simp at hf; subst hf; exact okF0
  have hc2 : ∀ f ∈ [F0], linS f = true := by intro f hf; simp at hf; subst hf; exact linF0
  have hT9 : TreeP ((s8.add (.mp [])).add (.box 51 [.mp s8.next])) (s8.next + 1) s8.next [] := ⟨by simp [Sg.add], by simp [Sg.add]; rfl⟩
  have k89 : Keep s8 ((s8.add (.mp [])).add (.box 51 [.mp s8.next])) := ((Keep.refl s8).add (Nat.le_refl _) _).add (by simp [Sg.add]) _
  refine vw_chain Tryd.mixed 32 [0, 0, 0, 0, 0, 0, 0, 1, 0, 0, 0, 0, 0, 1, 1, 1, 0, 0, 0, 1, 1, 0, 0, 0, 0, 1, 0, 0, 0, 0, 3, 2] [.det (.t (tWork (wkS [(bA, bX)]))) s8, .det (Bo true) s8, .det (Bo false) s8, .det (.t (tWork (wkS [(bA, bX)]))) s8, .det (.ptr (s8.next + 1) 0) ((s8.add (.mp [])).add (.box 51 [.mp s8.next])), .det (Bo true) ((s8.add (.mp [])).add (.box 51 [.mp s8.next]))] [] 0 (by decide +kernel) (by simp [hlqb]) rfl ?_
  simp only [dstIs, bs, Nat.reduceAdd, vparts, gfill, repl, Sg.frzP, ↓vopx, ↓vop, Nat.reduceBEq, thenV, flat, Nat.reduceLT, V.cells, dLoad, vpart, opII, opSS, gtmp, Sg.frzL, Sg.frz1, hlqb, b1, b2, b3, b4, b5, hb8, hxx, hone, wocs, ↓goc, ↓woc, ↓vopm0, ↓vopm1, ↓callC, ↓pick_tt, calleeV, chn, ↓goq, ↓woq, List.zip_cons_cons, List.zip_nil_right, Tryd.ag44, Tryd.sl46, Tryd.sz44, len_tWork, Tryd.underlying29, setAll3_03]
  repeat ((with_reducible refine And.intro ?_ ?_); · first | (with_reducible assumption) | omega | exact ⟨by omega, by omega⟩ | exact ⟨Tryd.is8, tAll_ s8 (s.next + 1) s.next _ (by simp) hk0 hnd hT8 (by omega) (by omega)⟩ | exact ⟨Tryd.is11, by have := clean_ s8 (s.next + 1) s.next _ hT8 (by omega) (by omega) [F0] (by simp) hc1 hc2; rw [cle1] at this; exact this⟩ | exact ⟨Tryd.is12, by have := changed_ s8 (s.next + 1) s.next _ hT8 (by omega) (by omega) F0 okF0; rw [chg1] at this; exact this⟩ | exact ⟨Tryd.is8, tAll_ s8 q n _ (by simp) hk0 hnd hU (by omega) (by omega)⟩ | exact ⟨Tryd.is5, tNew_ s8⟩ | exact ⟨Tryd.is12, by have := changed_ ((s8.add (.mp [])).add (.box 51 [.mp s8.next])) (s8.next + 1) s8.next _ hT9 (by simp [Sg.add]) (by simp [Sg.add]; omega) F0 okF0; rw [chg0] at this; exact this⟩ | with_reducible rfl | (repeat' first | exact Keep.refl _ | refine Keep.add ?_ ?_ _ | refine Keep.set ?_ ?_ _ | exact Nat.le_refl _ | (simp only [Sg.add, Sg.set, Sg.del]; omega)))
  refine hK8 _ _ ?_
  refine vw_ret ?_
  refine hQ _ _ _ (.inr rfl) (done_tmp ?_ (ks8.trans (by omega) k89))
  try simp only [ev_hit, lpv, hlqb, Nat.reduceLT]
end Go.Proofs

open Go Go.V
namespace Go.Proofs
abbrev bZ : ByteArray := ⟨#[122]⟩
abbrev bN : ByteArray := ⟨#[110, 101, 119]⟩
theorem oneN : OneL bN := ⟨by decide, by decide⟩
def LK (k : Nat) : List Txt := (List.range k).map fun (i : Nat) => (bStr (102 - (i : Int)), bX)
def LN (j : Nat) : List Txt := tput (bStr (102 - (j : Int))) bN (LK 6)
def LD (j : Nat) : List Txt := tdel (bStr (102 - (j : Int))) (LN j)
def LZ (j : Nat) : List Txt := tput bZ bE (LD j)
def WS (j : Nat) : List Txt := (List.range 6).map fun (i : Nat) => (bStr (97 + (i : Int)), if i + j = 5 then bN else bX)
theorem mput : ∀ k : Nat, k < 6 → putS (bStr (102 - (k : Int))) bX true (LK k) = (0, LK (k + 1)) := by decide +kernel
theorem mfull : putS bZ bE true (LK 6) = (11, LK 6) := by decide +kernel
theorem mnew : ∀ j : Nat, j < 6 → putS (bStr (102 - (j : Int))) bN true (LK 6) = (0, LN j) := by decide +kernel
theorem mdz : ∀ j : Nat, j < 6 → dropS bZ (LN j) = (13, LN j) := by decide +kernel
theorem mdp : ∀ j : Nat, j < 6 → dropS (bStr (102 - (j : Int))) (LN j) = (0, LD j) := by decide +kernel
theorem mpz : ∀ j : Nat, j < 6 → putS bZ bE true (LD j) = (0, LZ j) := by decide +kernel
theorem mpe : ∀ j : Nat, j < 6 → putS (bStr (102 - (j : Int))) bE true (LZ j) = (11, LZ j) := by decide +kernel
theorem mlen : ∀ j : Nat, j < 6 → (LN j).length ≤ 1000 := by decide +kernel
theorem msz : ∀ j : Nat, j < 6 → ∀ q ∈ LN j, q.1.size ≤ 1000000 := by decide +kernel
theorem mnd : ∀ j : Nat, j < 6 → ((LN j).map (·.1)).Nodup := by decide +kernel
def SS : List (List UInt8) := (List.range 6).map fun (i : Nat) => (bStr (97 + (i : Int))).data.toList
theorem mperm : ∀ j : Nat, j < 6 → ((LN j).map (·.1.data.toList)).Perm SS := by decide +kernel
theorem msort : SS.Pairwise (fun a b => leB a b = true) := by decide +kernel
theorem mws0 : ∀ j : Nat, j < 6 → (SS.map fun l => ((⟨l.toArray⟩ : ByteArray), (tget ⟨l.toArray⟩ (LN j)).getD ⟨#[]⟩)) = WS j := by decide +kernel
theorem mws (j : Nat) (h : j < 6) : wkS (LN j) = WS j := by
  rw [← mws0 j h]
  unfold wkS srtK
  rw [mergeSort_of_perm (mperm j h), List.mergeSort_of_pairwise msort, List.map_map]
  rfl
theorem meq : ∀ i : Nat, i < 6 → ∀ j : Nat, j < 6 → ((bStr (97 + (i : Int))).data.toList == (bStr (102 - (j : Int))).data.toList) = decide (i + j = 5) := by decide +kernel
theorem far_conv {P : Program} {o : Oper} {e : Env} {s : Sg} {t t' : TypeId} {x : Operand} (ho : o.op = .convert t t' x) {a' v : Value} (hx : vflat (ev e x) = some a') (hv : flatly (calm P (convert t t' a')) = some v) : FarO P o e s (.t (.v v)) s := fun e' K he hK =>
  (sound_conv ho (by rw [he x (by simp [ho, Op.operands])]; exact hx) hv hK).opg
theorem far_cstr {P : Program} {o : Oper} {e : Env} {s : Sg} {t t' el : TypeId} {x : Operand} (ho : o.op = .convert t t' x) (h1 : P.underlying t = some (.slice el)) (h2 : P.underlying el = some (.int .u8)) (h3 : P.underlying t' = some .string) {n : Int} (hx : ev e x = .t (.sl 1 [.v (.int .u8 n)])) : FarO P o e s (Str (bStr n)) s := fun e' K he hK =>
  (sound_cstr ho h1 h2 h3 (by rw [he x (by simp [ho, Op.operands])]; exact hx) hK).opg
theorem conv_iu {z : Int} (h0 : 0 ≤ z) (h1 : z < 256) : flatly (calm Tryd.prog (convert 3 5 (.int .i64 z))) = some (.int .u8 z) := by
  have h : flatly (calm Tryd.prog (convert 3 5 (.int .i64 z))) = some (.int .u8 (IntKind.u8.wrap z)) := by kernel_rfl
  rw [h, wraps_u8 _ h0 h1]
theorem sub_u8 {P : Program} (t : TypeId) (x y : Operand) (a b : Int) (h0 : 0 ≤ a - b) (h1 : a - b < 256) : vbin P .sub t x y (.int .u8 a) (.int .u8 b) = some (.int .u8 (a - b)) := by
  simp only [vbin, eqGuard, Go.binOp]
  show some (Value.int .u8 (IntKind.u8.wrap (a - b))) = _
  rw [wraps_u8 _ h0 h1]
theorem rem6 {P : Program} (t : TypeId) (x y : Operand) (a : Int) (h0 : 0 ≤ a) : vbin P .rem t x y (.int .u8 a) (.int .u8 6) = some (.int .u8 (a % 6)) := by
  have hb : (6 : Int) ≠ 0 := by omega
  have e1 : a.tmod 6 = a % 6 := Int.tmod_eq_emod_of_nonneg h0
  simp only [vbin, eqGuard, Go.binOp, Op.intDiv, hb, if_false, e1]
  rfl
theorem farV {P : Program} {op : BinOp} {t : TypeId} {x y : Operand} {a b v : Value} (h : vbin P op t x y a b = some v) (ha : vflat (.t (.v a)) = some a := by rfl) (hb : vflat (.t (.v b)) = some b := by rfl) : opFar op (.t (.v a)) (.t (.v b)) P t x y v := .inl ⟨a, b, ha, hb, h⟩
theorem atW0 {l : List Txt} {i : Nat} {p : Txt} (h : l[i]? = some p) : (l.flatMap wcs)[i * 2]? = some (TS p.1) ∧ (l.flatMap wcs)[i * 2 + 1]? = some (TS p.2) := by
  induction l generalizing i with
  | nil => simp at h
  | cons a l ih =>
    cases i with
    | zero => simp at h; subst h; simp
    | succ i =>
      have := ih (i := i) (by simpa using h)
      rw [show (i + 1) * 2 = i * 2 + 2 by omega, show i * 2 + 2 + 1 = i * 2 + 1 + 2 by omega]
      simpa using this
theorem WS_at {j i : Nat} (h : i < 6) : (WS j)[i]? = some (bStr (97 + (i : Int)), if i + j = 5 then bN else bX) := by
  unfold WS
  rw [List.getElem?_map, List.getElem?_range h]; rfl
theorem meq' {i j : Nat} (hi : i < 6) (hj : j < 6) : ((bStr (97 + (i : Int))).toList == (bStr (102 - (j : Int))).toList) = decide (i + j = 5) := by
  rw [ByteArray.toList_eq, ByteArray.toList_eq]; exact meq i hi j hj
theorem setset (s : Sg) (n : Nat) (a b : Blk) : (s.set n a).set n b = s.set n b := by
  simp only [Sg.set, Sg.mk.injEq, true_and]
  funext j
  split <;> rfl
set_option maxRecDepth 20000 in
set_option maxHeartbeats 4000000 in
theorem lawMany_ (z0 : Int) (b0 : 0 ≤ z0 ∧ z0 < 256) : PCall Tryd.prog 3 [.t (.v (.int .u8 z0))] (Bo true) := by
  refine pcall_of_body Tryd.func3 rfl fun s Q hQ => ?_
  obtain ⟨e, he, hl, h0⟩ : ∃ e : Env, ([.t (.v (.int .u8 z0))] ++ List.replicate (Tryd.f3.ntmps - ([.t (.v (.int .u8 z0))] : List V).length) .junk) = e ∧ e.length = 98 ∧ ev e (.tmp 0) = .t (.v (.int .u8 z0)) := ⟨_, rfl, rfl, rfl⟩
  rw [he]
  clear he
  obtain ⟨j, hj, hj6⟩ : ∃ j : Nat, z0 % 6 = (j : Int) ∧ j < 6 := ⟨(z0 % 6).toNat, by omega, by omega⟩
  have hpm : s.next + 1 ≠ s.next := by omega
  have hlW : (WS j).length = 6 := by simp [WS]
  refine vsk fun K1 hK1 => ?_
  refine vw_sc 0 [] ?_
  simp only [bs, ↓vopx, ↓vop, thenV, flat, wocs, ↓goc, ↓woc, ↓vopm0]
  repeat ((with_reducible refine And.intro ?_ ?_); · first | (with_reducible assumption) | omega | exact ⟨by omega, by omega⟩ | with_reducible rfl | (repeat' first | exact Keep.refl _ | refine Keep.add ?_ ?_ _ | refine Keep.set ?_ ?_ _ | exact Nat.le_refl _ | (simp only [Sg.add, Sg.set, Sg.del]; omega)))
  refine hK1 _ _ ?_
  refine vsk fun K2 hK2 => ?_
  refine vsk fun K3 hK3 => ?_
  refine vw_sc 0 [.pur (Bo true)] ?_
  simp only [bs, ↓vopx, ↓vop, thenV, Nat.reduceLT, hl, wocs, ↓goc, ↓woc, ↓vopm0, ↓callC, calleeV]
  repeat ((with_reducible refine And.intro ?_ ?_); · first | (with_reducible assumption) | omega | exact ⟨by omega, by omega⟩ | exact ⟨Tryd.is4, known22_⟩ | with_reducible rfl | (repeat' first | exact Keep.refl _ | refine Keep.add ?_ ?_ _ | refine Keep.set ?_ ?_ _ | exact Nat.le_refl _ | (simp only [Sg.add, Sg.set, Sg.del]; omega)))
  refine hK3 _ _ ?_
  refine vck fun A B hA hB => ?_
  simp only [condV, ev_hit, lpv, Nat.reduceLT, true_implies, reduceCtorEq, false_implies, true_and, hl]
  refine hB ?_
  clear hA hB A B
  refine vw_skip ?_
  refine hK2 _ _ ?_
  refine vsk fun K4 hK4 => ?_
  refine vw_sc 0 [.stop] ?_
  simp only [dstIs, bs, ↓vopx, ↓vop, thenV, wocs, ↓goc, ↓woc, ↓vopm0, ↓callC, calleeV, farOp]
  refine ⟨Tryd.is5, (tNew_ s).mono fun v s2_ hv => ?_⟩
  obtain ⟨rfl, rfl⟩ := hv
  try simp only [bs, Nat.reduceLT, hl, Hold]
  refine hK4 _ _ ?_
  refine vsk fun K5 hK5 => ?_
  refine vsk fun K6 hK6 => ?_
  refine vw_sc 0 [] ?_
  simp only [bs, ↓vopx, ↓vop, thenV, flat, wocs, ↓goc, ↓woc, ↓vopm0]
  repeat ((with_reducible refine And.intro ?_ ?_); · first | (with_reducible assumption) | omega | exact ⟨by omega, by omega⟩ | with_reducible rfl | (repeat' first | exact Keep.refl _ | refine Keep.add ?_ ?_ _ | refine Keep.set ?_ ?_ _ | exact Nat.le_refl _ | (simp only [Sg.add, Sg.set, Sg.del]; omega)))
  refine hK6 _ _ ?_
  refine vw_block ?_
  refine vw_loop (fun mm e' s' => ∃ k : Nat, mm = 6 - k ∧ k ≤ 6 ∧ e'.length = 98 ∧ ev e' (.tmp 0) = .t (.v (.int .u8 z0)) ∧ ev e' (.tmp 3) = .ptr (s.next + 1) 0 ∧ ev e' (.tmp 4) = I k ∧ True ∧ TreeP s' (s.next + 1) s.next (LK k) ∧ Keep s s' ∧ s.next + 2 ≤ s'.next) (⟨0, rfl, Nat.zero_le _, ?_⟩) ?_
  · try simp only [ev_hit, ev_miss, Nat.reduceBEq, lpv, hl, h0, Nat.reduceLT, true_and]
    repeat ((with_reducible refine And.intro ?_ ?_); · first | trivial | assumption | omega | rfl | (push_cast; rfl) | exact ⟨by omega, by omega⟩)
    exact ⟨⟨by simp [Sg.add], by simp [Sg.add]; rfl⟩, ((Keep.refl s).add (Nat.le_refl _) _).add (by simp [Sg.add]) _, by simp [Sg.add]⟩
  rintro mm e s1 ⟨k, rfl, hle_k, hl, h0, k3, h_k, hst, ⟨hTr, hkp, hnx⟩⟩
  refine vsk fun K7 hK7 => ?_
  refine vsk fun K8 hK8 => ?_
  refine vw_sc 0 [] ?_
  simp only [bs, ↓vopx, ↓vop, thenV, flat, Nat.reduceLT, opII, hl, h_k, wocs, ↓goc, ↓woc, ↓vopm0]
  repeat ((with_reducible refine And.intro ?_ ?_); · first | (with_reducible assumption) | omega | exact ⟨by omega, by omega⟩ | with_reducible rfl | (repeat' first | exact Keep.refl _ | refine Keep.add ?_ ?_ _ | refine Keep.set ?_ ?_ _ | exact Nat.le_refl _ | (simp only [Sg.add, Sg.set, Sg.del]; omega)))
  refine hK8 _ _ ?_
  refine vck fun A B hA hB => ?_
  simp only [condV, ev_hit, lpv, Nat.reduceLT, decide_eq_true_eq, decide_eq_false_iff_not, hl]
  refine ⟨fun hc13 => hA ?_, fun hc13 => hB ?_⟩
  · clear hA hB A B
    refine vw_skip ?_
    refine hK7 _ _ ?_
    refine vsk fun K9 hK9 => ?_
    refine vw_block ?_
    refine vsk fun K10 hK10 => ?_
    have hk6 : k < 6 := by omega
    refine vw_sc 1 [.op (U8 (k : Int)) s1, .far (.int .u8 (102 - (k : Int))), .op (Str (bStr (102 - (k : Int)))) s1, .det (I 0) (s1.set s.next (.mp (mpE (LK (k + 1)))))] ?_
    simp only [bs, Nat.reduceLeDiff, vparts, gfill, repl, Sg.frzP, ↓vopx, ↓vop, Nat.reduceBEq, thenV, flat, Nat.reduceLT, V.cells, opII, Sg.frzL, Sg.frz1, hl, k3, h_k, wocs, ↓goc, ↓woc, ↓vopm1, ↓callC, calleeV, ↓farC, Tryd.sl27, n0, farOp]
    repeat ((with_reducible refine And.intro ?_ ?_); · first | (with_reducible assumption) | omega | exact ⟨by omega, by omega⟩ | exact far_conv rfl (by simp only [ev_hit, lpv, hl, Nat.reduceLT]; rfl) (conv_iu (by omega) (by omega)) | exact farV (sub_u8 _ _ _ _ _ (by omega) (by omega)) | exact far_cstr rfl Tryd.underlying27 Tryd.underlying5 Tryd.underlying9 (by simp only [ev_hit, lpv, hl, Nat.reduceLT]) | exact ⟨Tryd.is6, tPutD hTr (bStr (102 - (k : Int))) bX oneX (mput k hk6)⟩ | with_reducible rfl | (repeat' first | exact Keep.refl _ | refine Keep.add ?_ ?_ _ | refine Keep.set ?_ ?_ _ | exact Nat.le_refl _ | (simp only [Sg.add, Sg.set, Sg.del]; omega)))
    refine hK10 _ _ ?_
    refine vck fun A B hA hB => ?_
    simp only [condV, ev_hit, lpv, Nat.reduceLT, true_implies, reduceCtorEq, false_implies, true_and, hl]
    refine hB ?_
    clear hA hB A B
    refine vw_skip ?_
    refine hK9 _ _ ?_
    refine vw_sc 0 [] ?_
    simp only [bs, ↓vopx, ↓vop, Nat.reduceBEq, thenV, flat, Nat.reduceLT, opII, hl, h0, k3, h_k, wocs, ↓goc, ↓woc, ↓vopm0]
    repeat ((with_reducible refine And.intro ?_ ?_); · first | (with_reducible assumption) | omega | exact ⟨by omega, by omega⟩ | with_reducible rfl | (repeat' first | exact Keep.refl _ | refine Keep.add ?_ ?_ _ | refine Keep.set ?_ ?_ _ | exact Nat.le_refl _ | (simp only [Sg.add, Sg.set, Sg.del]; omega)))
    refine ⟨6 - (k + 1), by omega, k + 1, rfl, by omega, ?_⟩
    try simp only [ev_hit, ev_miss, Nat.reduceBEq, lpv, hl, h0, k3, h_k, if_true, if_false, Nat.reduceEqDiff, Nat.reduceLT, true_and, and_true]
    repeat ((with_reducible refine And.intro ?_ ?_); · first | trivial | assumption | omega | rfl | (push_cast; rfl) | exact ⟨by omega, by omega⟩)
    exact ⟨hTr.put hpm _, hkp.set (Nat.le_refl _) _, hnx⟩
  · clear hA hB A B
    refine vw_exit ?_
    simp only [thenV, blockV, if_true]
    refine hK5 _ _ ?_
    refine vsk fun K11 hK11 => ?_
    have hT6 : TreeP s1 (s.next + 1) s.next (LK 6) := by rw [show k = 6 by omega] at hTr; exact hTr
    refine vw_sc 1 [.far (.int .u8 (j : Int)), .far (.int .u8 (102 - (j : Int))), .op (Str (bStr (102 - (j : Int)))) s1] ?_
    simp only [bs, Nat.reduceLeDiff, vparts, gfill, repl, Sg.frzP, ↓vopx, ↓vop, Nat.reduceBEq, thenV, flat, Nat.reduceLT, V.cells, Sg.frzL, Sg.frz1, hl, h0, wocs, ↓goc, ↓woc, ↓vopm1, ↓farC, Tryd.sl27, farOp]
    repeat ((with_reducible refine And.intro ?_ ?_); · first | (with_reducible assumption) | omega | exact ⟨by omega, by omega⟩ | exact farV (by rw [rem6 _ _ _ _ b0.1, hj]) | exact farV (sub_u8 _ _ _ _ _ (by omega) (by omega)) | exact far_cstr rfl Tryd.underlying27 Tryd.underlying5 Tryd.underlying9 (by simp only [ev_hit, lpv, hl, Nat.reduceLT]) | with_reducible rfl | (repeat' first | exact Keep.refl _ | refine Keep.add ?_ ?_ _ | refine Keep.set ?_ ?_ _ | exact Nat.le_refl _ | (simp only [Sg.add, Sg.set, Sg.del]; omega)))
    refine hK11 _ _ ?_
    refine vsk fun K12 hK12 => ?_
    refine vsk fun K13 hK13 => ?_
    refine vw_sc 0 [.det (I 11) s1, .det (I 0) (s1.set s.next (.mp (mpE (LN j)))), .det (I 13) (s1.set s.next (.mp (mpE (LN j))))] ?_
    simp only [bs, ↓vopx, ↓vop, Nat.reduceBEq, thenV, flat, Nat.reduceLT, opII, gtmp, hl, k3, wocs, ↓goc, ↓woc, ↓vopm0, ↓callC, ↓pick_ff, calleeV, n0, n13, n11]
    repeat ((with_reducible refine And.intro ?_ ?_); · first | (with_reducible assumption) | omega | exact ⟨by omega, by omega⟩ | exact ⟨Tryd.is6, tPutE hT6 bZ bE oneE mfull⟩ | exact ⟨Tryd.is6, tPutD hT6 (bStr (102 - (j : Int))) bN oneN (mnew j hj6)⟩ | exact ⟨Tryd.is7, tDropE (hT6.put hpm _) bZ (mdz j hj6)⟩ | with_reducible rfl | (repeat' first | exact Keep.refl _ | refine Keep.add ?_ ?_ _ | refine Keep.set ?_ ?_ _ | exact Nat.le_refl _ | (simp only [Sg.add, Sg.set, Sg.del]; omega)))
    refine hK13 _ _ ?_
    refine vck fun A B hA hB => ?_
    simp only [condV, ev_hit, lpv, Nat.reduceLT, true_implies, reduceCtorEq, false_implies, true_and, hl]
    refine hB ?_
    clear hA hB A B
    refine vw_skip ?_
    refine hK12 _ _ ?_
    refine vsk fun K14 hK14 => ?_
    refine vw_st2 fun s2 hS2 => ?_
    have hT2 : TreeP s2 (s.next + 1) s.next (LN j) := by rw [hS2]; exact hT6.put hpm _
    have hn2 : s.next + 2 ≤ s2.next := by rw [hS2]; exact hnx
    have hk2 : Keep s s2 := by rw [hS2]; exact hkp.set (Nat.le_refl _) _
    clear hS2
    refine vw_sc 0 [.det (.t (tWork (WS j))) s2] ?_
    simp only [bs, ↓vopx, ↓vop, Nat.reduceBEq, thenV, Nat.reduceLT, hl, k3, wocs, ↓goc, ↓woc, ↓vopm0, ↓callC, calleeV]
    repeat ((with_reducible refine And.intro ?_ ?_); · first | (with_reducible assumption) | omega | exact ⟨by omega, by omega⟩ | exact ⟨Tryd.is8, by have := tAll_ s2 (s.next + 1) s.next _ (mlen j hj6) (msz j hj6) (mnd j hj6) hT2 (by omega) (by omega); rw [mws j hj6] at this; exact this⟩ | with_reducible rfl | (repeat' first | exact Keep.refl _ | refine Keep.add ?_ ?_ _ | refine Keep.set ?_ ?_ _ | exact Nat.le_refl _ | (simp only [Sg.add, Sg.set, Sg.del]; omega)))
    refine hK14 _ _ ?_
    refine vsk fun K15 hK15 => ?_
    refine vsk fun K16 hK16 => ?_
    refine vw_sc 0 [] ?_
    simp only [bs, ↓vopx, ↓vop, thenV, flat, wocs, ↓goc, ↓woc, ↓vopm0]
    repeat ((with_reducible refine And.intro ?_ ?_); · first | (with_reducible assumption) | omega | exact ⟨by omega, by omega⟩ | with_reducible rfl | (repeat' first | exact Keep.refl _ | refine Keep.add ?_ ?_ _ | refine Keep.set ?_ ?_ _ | exact Nat.le_refl _ | (simp only [Sg.add, Sg.set, Sg.del]; omega)))
    refine hK16 _ _ ?_
    refine vw_block ?_
    refine vw_loop (fun mm e' s' => ∃ i : Nat, mm = 6 - i ∧ i ≤ 6 ∧ e'.length = 98 ∧ ev e' (.tmp 3) = .ptr (s.next + 1) 0 ∧ ev e' (.tmp 5) = Str (bStr (102 - (j : Int))) ∧ ev e' (.tmp 6) = .t (tWork (WS j)) ∧ ev e' (.tmp 7) = I i ∧ s2 = s' ∧ True) (⟨0, rfl, Nat.zero_le _, ?_⟩) ?_
    · try simp only [ev_hit, ev_miss, Nat.reduceBEq, lpv, hl, k3, Nat.reduceLT, true_and, and_true]
      repeat ((with_reducible refine And.intro ?_ ?_); · first | trivial | assumption | omega | rfl | (push_cast; rfl) | exact ⟨by omega, by omega⟩)
      trivial
    rintro mm e _ ⟨i, rfl, hle_i, hl, k3, k5, k6, h_i, rfl, _⟩
    refine vsk fun K17 hK17 => ?_
    refine vsk fun K18 hK18 => ?_
    refine vw_sc 0 [] ?_
    simp only [bs, ↓vopx, ↓vop, Nat.reduceBEq, thenV, Nat.reduceLT, opII, hl, k6, h_i, wocs, ↓goc, ↓woc, ↓vopm0, hlW, len_tWork, Tryd.underlying29]
    repeat ((with_reducible refine And.intro ?_ ?_); · first | (with_reducible assumption) | omega | exact ⟨by omega, by omega⟩ | with_reducible rfl | (repeat' first | exact Keep.refl _ | refine Keep.add ?_ ?_ _ | refine Keep.set ?_ ?_ _ | exact Nat.le_refl _ | (simp only [Sg.add, Sg.set, Sg.del]; omega)))
    refine hK18 _ _ ?_
    refine vck fun A B hA hB => ?_
    simp only [condV, ev_hit, lpv, Nat.reduceLT, decide_eq_true_eq, decide_eq_false_iff_not, hl]
    refine ⟨fun hc48 => hA ?_, fun hc48 => hB ?_⟩
    · clear hA hB A B
      refine vw_skip ?_
      refine hK17 _ _ ?_
      refine vsk fun K19 hK19 => ?_
      refine vw_block ?_
      refine vsk fun K20 hK20 => ?_
      refine vw_sc 0 [] ?_
      simp only [bs, ↓vopx, ↓vop, thenV, flat, wocs, ↓goc, ↓woc, ↓vopm0]
      repeat ((with_reducible refine And.intro ?_ ?_); · first | (with_reducible assumption) | omega | exact ⟨by omega, by omega⟩ | with_reducible rfl | (repeat' first | exact Keep.refl _ | refine Keep.add ?_ ?_ _ | refine Keep.set ?_ ?_ _ | exact Nat.le_refl _ | (simp only [Sg.add, Sg.set, Sg.del]; omega)))
      refine hK20 _ _ ?_
      refine vsk fun K21 hK21 => ?_
      refine vsk fun K22 hK22 => ?_
      have hi6 : i < 6 := by omega
      have hw := atW0 (WS_at (j := j) hi6)
      obtain ⟨hw1, hw2⟩ := hw
      have hfw := flatW (WS j)
      have hi12 : i * 2 < 6 * 2 := by omega
      have he := meq' hi6 hj6
      have hself : ((bStr (97 + (i : Int))).toList == (bStr (97 + (i : Int))).toList) = true := by simp
      rcases (show i + j = 5 ∨ ¬ i + j = 5 by omega) with hij | hij
      · have hde : decide (i + j = 5) = true := by simp [hij]
        have hti : (if i + j = 5 then bN else bX) = bN := if_pos hij
        have hss : (bN.toList == bN.toList) = true := by simp
        refine vw_sc 0 [] ?_
        simp only [bs, ↓vopx, ↓vop, Nat.reduceBEq, thenV, Nat.reduceLT, dLoad, vpart, opSS, hl, k5, k6, h_i, wocs, ↓goc, ↓woc, ↓vopm0, Tryd.ag9, Tryd.fd32_0, Tryd.sz32, Tryd.sz9, Tryd.un29, hlW, hw1, hfw, hi12, he, hde]
        repeat ((with_reducible refine And.intro ?_ ?_); · first | (with_reducible assumption) | omega | exact ⟨by omega, by omega⟩ | with_reducible rfl | (repeat' first | exact Keep.refl _ | refine Keep.add ?_ ?_ _ | refine Keep.set ?_ ?_ _ | exact Nat.le_refl _ | (simp only [Sg.add, Sg.set, Sg.del]; omega)))
        refine hK22 _ _ ?_
        refine vck fun A B hA hB => ?_
        simp only [condV, ev_hit, lpv, Nat.reduceLT, true_implies, reduceCtorEq, false_implies, and_true, hl]
        refine hA ?_
        clear hA hB A B
        refine vw_sc 0 [] ?_
        simp only [bs, ↓vopx, ↓vop, thenV, flat, wocs, ↓goc, ↓woc, ↓vopm0]
        repeat ((with_reducible refine And.intro ?_ ?_); · first | (with_reducible assumption) | omega | exact ⟨by omega, by omega⟩ | with_reducible rfl | (repeat' first | exact Keep.refl _ | refine Keep.add ?_ ?_ _ | refine Keep.set ?_ ?_ _ | exact Nat.le_refl _ | (simp only [Sg.add, Sg.set, Sg.del]; omega)))
        refine hK21 _ _ ?_
        refine vsk fun K23 hK23 => ?_
        refine vw_chain Tryd.mixed 18 [0, 0, 1, 0, 1, 0, 1, 0, 1, 1, 0, 0, 0, 0, 1, 0, 1, 0] [.op (U8 (i : Int)) s2, .far (.int .u8 (97 + (i : Int))), .op (Str (bStr (97 + (i : Int)))) s2] [] 0 (by decide +kernel) (by simp [lpv, hl]) rfl ?_
        simp only [dstIs, bs, Nat.reduceLeDiff, vparts, gfill, repl, Sg.frzP, ↓vopx, ↓vop, Nat.reduceBEq, thenV, flat, Nat.reduceLT, V.cells, dLoad, vpart, opII, opSS, gtmp, Sg.frzL, Sg.frz1, hl, k6, h_i, wocs, ↓goc, ↓woc, ↓vopm0, ↓vopm1, ↓pick_ff, ↓farC, chn, ↓goq, ↓woq, List.zip_cons_cons, List.zip_nil_right, Tryd.ag9, Tryd.fd32_0, Tryd.fd32_1, Tryd.sl27, Tryd.sz32, Tryd.sz9, Tryd.un29, hlW, farOp, hw1, hw2, hfw, hi12, hti, hss, hself]
        repeat ((with_reducible refine And.intro ?_ ?_); · first | (with_reducible assumption) | omega | exact ⟨by omega, by omega⟩ | exact far_conv rfl (by simp only [ev_hit, lpv, hl, Nat.reduceLT]; rfl) (conv_iu (by omega) (by omega)) | exact farV (add_u8 _ _ _ _ _ (by omega) (by omega)) | exact far_cstr rfl Tryd.underlying27 Tryd.underlying5 Tryd.underlying9 (by simp only [ev_hit, lpv, hl, Nat.reduceLT]) | with_reducible rfl | (repeat' first | exact Keep.refl _ | refine Keep.add ?_ ?_ _ | refine Keep.set ?_ ?_ _ | exact Nat.le_refl _ | (simp only [Sg.add, Sg.set, Sg.del]; omega)))
        refine hK23 _ _ ?_
        refine vck fun A B hA hB => ?_
        simp only [condV, ev_hit, lpv, Nat.reduceLT, true_implies, reduceCtorEq, false_implies, true_and, hl]
        refine hB ?_
        clear hA hB A B
        refine vw_skip ?_
        refine hK19 _ _ ?_
        refine vw_sc 0 [] ?_
        simp only [bs, ↓vopx, ↓vop, Nat.reduceBEq, thenV, flat, Nat.reduceLT, opII, hl, k3, k5, k6, h_i, wocs, ↓goc, ↓woc, ↓vopm0]
        repeat ((with_reducible refine And.intro ?_ ?_); · first | (with_reducible assumption) | omega | exact ⟨by omega, by omega⟩ | with_reducible rfl | (repeat' first | exact Keep.refl _ | refine Keep.add ?_ ?_ _ | refine Keep.set ?_ ?_ _ | exact Nat.le_refl _ | (simp only [Sg.add, Sg.set, Sg.del]; omega)))
        refine ⟨6 - (i + 1), by omega, i + 1, rfl, by omega, ?_⟩
        try simp only [ev_hit, ev_miss, Nat.reduceBEq, lpv, hl, k3, k5, k6, h_i, if_true, if_false, Nat.reduceEqDiff, Nat.reduceLT, true_and, and_true]
        repeat ((with_reducible refine And.intro ?_ ?_); · first | trivial | assumption | omega | rfl | (push_cast; rfl) | exact ⟨by omega, by omega⟩)
        trivial
      · have hde : decide (i + j = 5) = false := by simp [hij]
        have hti : (if i + j = 5 then bN else bX) = bX := if_neg hij
        have hss : (bX.toList == bX.toList) = true := by simp
        refine vw_sc 0 [] ?_
        simp only [bs, ↓vopx, ↓vop, Nat.reduceBEq, thenV, Nat.reduceLT, dLoad, vpart, opSS, hl, k5, k6, h_i, wocs, ↓goc, ↓woc, ↓vopm0, Tryd.ag9, Tryd.fd32_0, Tryd.sz32, Tryd.sz9, Tryd.un29, hlW, hw1, hfw, hi12, he, hde]
        repeat ((with_reducible refine And.intro ?_ ?_); · first | (with_reducible assumption) | omega | exact ⟨by omega, by omega⟩ | with_reducible rfl | (repeat' first | exact Keep.refl _ | refine Keep.add ?_ ?_ _ | refine Keep.set ?_ ?_ _ | exact Nat.le_refl _ | (simp only [Sg.add, Sg.set, Sg.del]; omega)))
        refine hK22 _ _ ?_
        refine vck fun A B hA hB => ?_
        simp only [condV, ev_hit, lpv, Nat.reduceLT, true_implies, reduceCtorEq, false_implies, true_and, hl]
        refine hB ?_
        clear hA hB A B
        refine vw_skip ?_
        refine hK21 _ _ ?_
        refine vsk fun K24 hK24 => ?_
        refine vw_chain Tryd.mixed 18 [0, 0, 1, 0, 1, 0, 1, 0, 1, 1, 0, 0, 0, 0, 1, 0, 1, 0] [.op (U8 (i : Int)) s2, .far (.int .u8 (97 + (i : Int))), .op (Str (bStr (97 + (i : Int)))) s2] [] 0 (by decide +kernel) (by simp [lpv, hl]) rfl ?_
        simp only [dstIs, bs, Nat.reduceLeDiff, vparts, gfill, repl, Sg.frzP, ↓vopx, ↓vop, Nat.reduceBEq, thenV, flat, Nat.reduceLT, V.cells, dLoad, vpart, opII, opSS, gtmp, Sg.frzL, Sg.frz1, hl, k6, h_i, wocs, ↓goc, ↓woc, ↓vopm0, ↓vopm1, ↓pick_ff, ↓farC, chn, ↓goq, ↓woq, List.zip_cons_cons, List.zip_nil_right, Tryd.ag9, Tryd.fd32_0, Tryd.fd32_1, Tryd.sl27, Tryd.sz32, Tryd.sz9, Tryd.un29, hlW, farOp, hw1, hw2, hfw, hi12, hti, hss, hself]
        repeat ((with_reducible refine And.intro ?_ ?_); · first | (with_reducible assumption) | omega | exact ⟨by omega, by omega⟩ | exact far_conv rfl (by simp only [ev_hit, lpv, hl, Nat.reduceLT]; rfl) (conv_iu (by omega) (by omega)) | exact farV (add_u8 _ _ _ _ _ (by omega) (by omega)) | exact far_cstr rfl Tryd.underlying27 Tryd.underlying5 Tryd.underlying9 (by simp only [ev_hit, lpv, hl, Nat.reduceLT]) | with_reducible rfl | (repeat' first | exact Keep.refl _ | refine Keep.add ?_ ?_ _ | refine Keep.set ?_ ?_ _ | exact Nat.le_refl _ | (simp only [Sg.add, Sg.set, Sg.del]; omega)))
        refine hK24 _ _ ?_
        refine vck fun A B hA hB => ?_
        simp only [condV, ev_hit, lpv, Nat.reduceLT, true_implies, reduceCtorEq, false_implies, true_and, hl]
        refine hB ?_
        clear hA hB A B
        refine vw_skip ?_
        refine hK19 _ _ ?_
        refine vw_sc 0 [] ?_
        simp only [bs, ↓vopx, ↓vop, Nat.reduceBEq, thenV, flat, Nat.reduceLT, opII, hl, k3, k5, k6, h_i, wocs, ↓goc, ↓woc, ↓vopm0]
        repeat ((with_reducible refine And.intro ?_ ?_); · first | (with_reducible assumption) | omega | exact ⟨by omega, by omega⟩ | with_reducible rfl | (repeat' first | exact Keep.refl _ | refine Keep.add ?_ ?_ _ | refine Keep.set ?_ ?_ _ | exact Nat.le_refl _ | (simp only [Sg.add, Sg.set, Sg.del]; omega)))
        refine ⟨6 - (i + 1), by omega, i + 1, rfl, by omega, ?_⟩
        try simp only [ev_hit, ev_miss, Nat.reduceBEq, lpv, hl, k3, k5, k6, h_i, if_true, if_false, Nat.reduceEqDiff, Nat.reduceLT, true_and, and_true]
        repeat ((with_reducible refine And.intro ?_ ?_); · first | trivial | assumption | omega | rfl | (push_cast; rfl) | exact ⟨by omega, by omega⟩)
        trivial
    · clear hA hB A B
      refine vw_exit ?_
      simp only [thenV, blockV, if_true]
      refine hK15 _ _ ?_
      refine vsk fun K25 hK25 => ?_
      have h66 : (((6 : Nat) : Int) == 6) = true := rfl
      have z00 : ((0 : Int) == 0) = true := rfl
      have z11 : ((11 : Int) == 11) = true := rfl
      refine vw_sc 0 [.det (I 0) (s2.set s.next (.mp (mpE (LD j)))), .det (I 0) (s2.set s.next (.mp (mpE (LZ j)))), .det (I 11) (s2.set s.next (.mp (mpE (LZ j))))] ?_
      simp only [bs, ↓vopx, ↓vop, Nat.reduceBEq, thenV, flat, Nat.reduceLT, opII, gtmp, hl, k3, k5, k6, wocs, ↓goc, ↓woc, ↓vopm0, ↓callC, ↓pick_tt, calleeV, hlW, len_tWork, Tryd.underlying29, h66, z00, z11]
      repeat ((with_reducible refine And.intro ?_ ?_); · first | (with_reducible assumption) | omega | exact ⟨by omega, by omega⟩ | exact ⟨Tryd.is7, tDropD hT2 (bStr (102 - (j : Int))) (mdp j hj6)⟩ | exact ⟨Tryd.is6, by have := tPutD (hT2.put hpm (LD j)) bZ bE oneE (mpz j hj6); rw [setset] at this; exact this⟩ | exact ⟨Tryd.is6, tPutE (hT2.put hpm (LZ j)) (bStr (102 - (j : Int))) bE oneE (mpe j hj6)⟩ | with_reducible rfl | (repeat' first | exact Keep.refl _ | refine Keep.add ?_ ?_ _ | refine Keep.set ?_ ?_ _ | exact Nat.le_refl _ | (simp only [Sg.add, Sg.set, Sg.del]; omega)))
      refine hK25 _ _ ?_
      refine vw_ret ?_
      refine hQ _ _ _ (.inr rfl) (done_tmp ?_ (hk2.set (Nat.le_refl _) _))
      try simp only [ev_hit, lpv, hl, Nat.reduceLT]
end Go.Proofs
