/- Of every input the law ConeOne answers true, and the input reads as it did. No condition but the row's own. -/
import Derived.Test.YtkdkajlgbhggdaaDoorCards
import Derived.Test.YtkdkajlgbhggdaaDoorTie
import Derived.Deep.DeepHandedRow
import Derived.Lib.LaidTab
import Derived.Test.YtkdkajlgbhggdaaDoorH51
import Derived.Test.YtkdkajlgbhggdaaDoorH53
open Go Go.V
namespace Go.Proofs.YtkdkajlgbhggdaaDoor
open Go.ChangeShapes Go.WideShapes Go.ChangeAt Go.RowKit

noncomputable def coneOneWorld (os : Os) : World :=
  { World.holding Tryd.prog os ⟨#[], #[], []⟩ with heap := (World.holding Tryd.prog os ⟨#[], #[], []⟩).heap.modify gDB fun
      | .cells _ t frozen => .cells (Lib.deBruijn64tab.map fun k => Value.int .u8 (k : Nat)).toArray t frozen
      | o => o }
theorem coneOne_met (os : Os) : laidMet Tryd.prog Rows.coneOneRow.laid ((coneOneWorld os).forCall (fun _ _ => 0) ⟨#[], #[((.agg #[.slice none 0 0, .slice none 0 0]) : Value), .agg #[.slice none 0 0, .slice none 0 0], .agg #[.slice none 0 0, .slice none 0 0], .slice none 0 0, .slice none 0 0, .agg #[.slice none 0 0, .slice none 0 0], .slice none 0 0, .slice none 0 0, .slice none 0 0], []⟩).memory :=
  laidMet_of_run' 8 (by kernel_rfl) (by kernel_rfl)
theorem coneOne_reads (os : Os) {H : Type} (enc : TypeId × Value → H) : ∃ places, DataW.whole enc Tryd.prog ((coneOneWorld os).forCall (fun _ _ => 0) ⟨#[], #[((.agg #[.slice none 0 0, .slice none 0 0]) : Value), .agg #[.slice none 0 0, .slice none 0 0], .agg #[.slice none 0 0, .slice none 0 0], .slice none 0 0, .slice none 0 0, .agg #[.slice none 0 0, .slice none 0 0], .slice none 0 0, .slice none 0 0, .slice none 0 0], []⟩).memory Tryd.f10.params.toList Rows.coneOneSpec.vars false #[((.agg #[.slice none 0 0, .slice none 0 0]) : Value), .agg #[.slice none 0 0, .slice none 0 0], .agg #[.slice none 0 0, .slice none 0 0], .slice none 0 0, .slice none 0 0, .agg #[.slice none 0 0, .slice none 0 0], .slice none 0 0, .slice none 0 0, .slice none 0 0].toList 8 = some ([.agg [.nil, .nil], .agg [.nil, .nil], .agg [.nil, .nil], .nil, .nil, .agg [.nil, .nil], .nil, .nil, .nil], [], places) :=
  ⟨[], by kernel_rfl⟩

set_option maxRecDepth 100000 in
theorem coneOne_contract (H : Type) (enc : TypeId × Value → H) (W : World) (base : Nat) (args : Array Value) (ds gs : List (DataW H)) (before : List MemPlace)
    (hval : ∀ (j : Nat) t v, Tryd.f10.params[j]? = some t → args[j]? = some v → Value.okWide Tryd.prog W .any base t v)
    (hW : DataW.Whole enc Tryd.prog Tryd.f10.params.toList Rows.coneOneSpec.vars false W args.toList ds gs before) (hL : laidMetH Tryd.prog Rows.coneOneRow.laid W) :
    Calls Tryd.prog 10 args W fun e W' => ∃ v, e = .returned v ∧ Rows.coneOneSpec.post enc Tryd.prog Tryd.f10 false true false false W args v W' := by
  have hW' := hW
  obtain ⟨p, q, hA0, hV, rfl, hfz, hnd⟩ := hW
  have hA : DataW.TrodAll enc Tryd.prog W 0 (fun _ => true) true Tryd.f10.params.toList args.toList ds p := hA0
  rw [Tryd.params10] at hA hval
  obtain ⟨rfl, rfl⟩ := trodVars_none hV
  obtain ⟨vs⟩ := args
  obtain ⟨v0, vs0, d0, ds0, p0, q0, hargs, hds, rfl, h0, r0⟩ := trodAll_cons hA
  change vs = _ at hargs
  subst hargs hds
  obtain ⟨v1, vs1, d1, ds1, p1, q1, e1, f1, rfl, h1, r1⟩ := trodAll_cons r0
  subst e1 f1
  obtain ⟨v2, vs2, d2, ds2, p2, q2, e2, f2, rfl, h2, r2⟩ := trodAll_cons r1
  subst e2 f2
  obtain ⟨v3, vs3, d3, ds3, p3, q3, e3, f3, rfl, h3, r3⟩ := trodAll_cons r2
  subst e3 f3
  obtain ⟨v4, vs4, d4, ds4, p4, q4, e4, f4, rfl, h4, r4⟩ := trodAll_cons r3
  subst e4 f4
  obtain ⟨v5, vs5, d5, ds5, p5, q5, e5, f5, rfl, h5, r5⟩ := trodAll_cons r4
  subst e5 f5
  obtain ⟨v6, vs6, d6, ds6, p6, q6, e6, f6, rfl, h6, r6⟩ := trodAll_cons r5
  subst e6 f6
  obtain ⟨v7, vs7, d7, ds7, p7, q7, e7, f7, rfl, h7, r7⟩ := trodAll_cons r6
  subst e7 f7
  obtain ⟨v8, vs8, d8, ds8, p8, q8, e8, f8, rfl, h8, r8⟩ := trodAll_cons r7
  subst e8 f8
  obtain ⟨rfl, rfl, rfl⟩ := trodAll_nil r8
  clear hA0 hA r0 r1 r2 r3 r4 r5 r6 r7 r8
  have htab := tab_of_laid hL
  obtain ⟨n0, hn0⟩ := h0
  obtain ⟨o0, ok0, rp0⟩ := rep_ob obTys hn0
  obtain ⟨n1, hn1⟩ := h1
  obtain ⟨o1, ok1, rp1⟩ := rep_ob obTys hn1
  obtain ⟨n2, hn2⟩ := h2
  obtain ⟨o2, ok2, rp2⟩ := rep_ob obTys hn2
  obtain ⟨n3, hn3⟩ := h3
  obtain ⟨u3, l3, eu3, rp3, wl3, bl3⟩ := rep_ints Tryd.underlying26 Tryd.underlying3 cells3 hn3
  obtain ⟨ya3, yl3, yc3, rfl⟩ := okWide_slice Tryd.underlying26 (hval 3 26 v3 rfl rfl)
  obtain rfl : Value.slice ya3 yl3 yc3 = u3 := by simpa [Value.cells] using eu3
  obtain ⟨n4, hn4⟩ := h4
  obtain ⟨u4, l4, eu4, rp4, wl4, bl4⟩ := rep_ints Tryd.underlying26 Tryd.underlying3 cells3 hn4
  obtain ⟨ya4, yl4, yc4, rfl⟩ := okWide_slice Tryd.underlying26 (hval 4 26 v4 rfl rfl)
  obtain rfl : Value.slice ya4 yl4 yc4 = u4 := by simpa [Value.cells] using eu4
  obtain ⟨n5, hn5⟩ := h5
  obtain ⟨o5, ok5, rp5⟩ := rep_ob obTys hn5
  obtain ⟨n6, hn6⟩ := h6
  obtain ⟨u6, l6, eu6, rp6, wl6, bl6⟩ := rep_ints Tryd.underlying26 Tryd.underlying3 cells3 hn6
  obtain ⟨ya6, yl6, yc6, rfl⟩ := okWide_slice Tryd.underlying26 (hval 6 26 v6 rfl rfl)
  obtain rfl : Value.slice ya6 yl6 yc6 = u6 := by simpa [Value.cells] using eu6
  obtain ⟨n7, hn7⟩ := h7
  obtain ⟨u7, l7, eu7, rp7, wl7, bl7⟩ := rep_ints Tryd.underlying26 Tryd.underlying3 cells3 hn7
  obtain ⟨ya7, yl7, yc7, rfl⟩ := okWide_slice Tryd.underlying26 (hval 7 26 v7 rfl rfl)
  obtain rfl : Value.slice ya7 yl7 yc7 = u7 := by simpa [Value.cells] using eu7
  obtain ⟨n8, hn8⟩ := h8
  obtain ⟨u8, l8, eu8, rp8, wl8, bl8⟩ := rep_ints Tryd.underlying26 Tryd.underlying3 cells3 hn8
  obtain ⟨ya8, yl8, yc8, rfl⟩ := okWide_slice Tryd.underlying26 (hval 8 26 v8 rfl rfl)
  obtain rfl : Value.slice ya8 yl8 yc8 = u8 := by simpa [Value.cells] using eu8
  refine (calls_of_pcall (vs := ⟨[v0, v1, v2, .slice ya3 yl3 yc3, .slice ya4 yl4 yc4, v5, .slice ya6 yl6 yc6, .slice ya7 yl7 yc7, .slice ya8 yl8 yc8]⟩) (lawOne_ o0 o1 o2 l3 l4 o5 l6 l7 l8 ok0.2.1 ok0.2.2.2 ok1.2.1 ok1.2.2.2 ok2.2.1 ok2.2.2.2 ok5.2.1 ok5.2.2.2) htab ⟨vr_ob rp0, vr_ob rp1, vr_ob rp2, rep0 rp3, rep0 rp4, vr_ob rp5, rep0 rp6, rep0 rp7, rep0 rp8, trivial⟩).mono fun e W2 he => ?_
  obtain ⟨rfl, e1, e2, e3, e4⟩ := he
  exact ⟨_, rfl, post_true (t := 4) kids full (by rw [Tryd.params10]; decide) hW' rfl (by kernel_rfl) Tryd.underlying4 rfl e1 e2 e3 e4⟩

set_option maxRecDepth 100000 in
theorem coneOne_lifted (os : Os) (started : os.Started) (H : Type) (enc : TypeId × Value → H) (F : Stop.Interp) :
    ReturnsInHanded {} Tryd.checked os 10 .any ((OpenSpec.ofChange Rows.coneOneSpec).preRow enc Tryd.prog Tryd.f10 Rows.coneOneRow.domain false Rows.coneOneRow.laid) (((OpenSpec.ofChange Rows.coneOneSpec).at F).post enc Tryd.prog Tryd.f10 false true false false) := by
  obtain ⟨places, hx⟩ := coneOne_reads os enc
  refine returnsInHanded_of_row (C := Tryd.checked) (s := OpenSpec.ofChange Rows.coneOneSpec) own started (by kernel_rfl) Tryd.func10
    (witness_row_at (enc := enc) (C := Tryd.checked) false (coneOneWorld os) #[((.agg #[.slice none 0 0, .slice none 0 0]) : Value), .agg #[.slice none 0 0, .slice none 0 0], .agg #[.slice none 0 0, .slice none 0 0], .slice none 0 0, .slice none 0 0, .agg #[.slice none 0 0, .slice none 0 0], .slice none 0 0, .slice none 0 0, .slice none 0 0] rfl (by kernel_rfl) (by kernel_rfl) (by kernel_rfl)
      (OpenSpec.preRow_of_cond 8 hx (by kernel_rfl) (fun k hk => by cases hk) (by kernel_rfl) (coneOne_met os))) ?_
  intro W base args ds gs before hval hW _ _ _ hL _ _
  exact coneOne_contract H enc W base args ds gs before hval hW hL

theorem coneOne_said : Rows.ConeOneSaid :=
  OpenClaim.holds_of_cond 10 Tryd.f10 rfl rfl rfl rfl rfl rfl rfl ⟨rfl, rfl, rfl, rfl, rfl⟩ rfl rfl rfl rfl rfl (by kernel_rfl) Tryd.func10 (by kernel_rfl)
    (of_decide_eq_true (by kernel_rfl)) (by unfold Func.isWrapper; first | (rw [if_pos (by decide +kernel)]; kernel_rfl) | (rw [if_neg (by decide +kernel)]; exact ⟨rfl, rfl⟩))
    (fun os started H enc _ F => by rw [OpenClaim.pre_eq_preRow]; exact coneOne_lifted os started H enc F)
theorem coneOne_plain (f : FuncId) (fn : Func) (hf : Tryd.pinned.checked.prog.funcNamed "cento/centolaw8.ConeOne" = some f) (hfn : Tryd.pinned.checked.prog.funcs[f]? = some fn) :
    false = Tryd.pinned.checked.prog.looks [] ∧ ∀ (j : Nat) t, fn.params[j]? = some t → Tryd.pinned.checked.prog.wantsStandIn t = false := by
  obtain rfl : f = 10 := Option.some.inj ((show Tryd.prog.funcNamed "cento/centolaw8.ConeOne" = some 10 by kernel_rfl).symm.trans hf) |>.symm
  obtain rfl : fn = Tryd.f10 := (Option.some.inj (Tryd.func10.symm.trans hfn)).symm
  refine ⟨by kernel_rfl, fun j t ht => ?_⟩
  rw [Tryd.params10] at ht
  have hm : t ∈ [25, 25, 25, 26, 26, 25, 26, 26, 26] := by simpa using Array.mem_of_getElem? ht
  have hall : ([25, 25, 25, 26, 26, 25, 26, 26, 26].all fun u => !Tryd.prog.wantsStandIn u) = true := by kernel_rfl
  exact (show Tryd.prog.wantsStandIn t = false by simpa using List.all_eq_true.1 hall t hm)
/-- the card -/
theorem coneOne_holds : Rows.ConeOneCardSaid :=
  Claim7.holds_tied_plain_at .later [] _ _ _ _ coneOne_said (fun _ h => by cases h) (by kernel_rfl) (fun _ h => by cases h) coneOne_row_tie rfl ⟨rfl, rfl⟩ (by kernel_rfl) rfl coneOne_plain (by kernel_rfl)
#print axioms coneOne_holds
end Go.Proofs.YtkdkajlgbhggdaaDoor
