/- Of every input the law ColimTells answers true, and the input reads as it did. No condition but the row's own. -/
import Derived.Test.YtkdkajlgbhggdaaGreatDoorCards
import Derived.Test.YtkdkajlgbhggdaaGreatDoorTie
import Derived.Deep.DeepHandedRow
import Derived.Lib.LaidTab
import Derived.Test.YtkdkajlgbhggdaaGreatDoorA43
import Derived.Test.YtkdkajlgbhggdaaGreatDoorA46
open Go Go.V
namespace Go.Proofs.YtkdkajlgbhggdaaGreatDoor
open Go.ChangeShapes Go.WideShapes Go.ChangeAt Go.RowKit
noncomputable def colimTellsWorld (os : Os) : World :=
 { World.holding Tryz.prog os ⟨#[], #[], []⟩ with heap := (World.holding Tryz.prog os ⟨#[], #[], []⟩).heap.modify gDB fun
  | .cells _ t frozen => .cells (Lib.deBruijn64tab.map fun k => Value.int .u8 (k : Nat)).toArray t frozen
  | o => o }
theorem colimTells_met (os : Os) : laidMet Tryz.prog Rows.colimTellsRow.laid ((colimTellsWorld os).forCall (fun _ _ => 0) ⟨#[], #[((.agg #[.slice none 0 0, .slice none 0 0]) : Value), .agg #[.slice none 0 0, .slice none 0 0], .slice none 0 0], []⟩).memory :=
 laidMet_of_run' 8 (by kernel_rfl) (by kernel_rfl)
theorem colimTells_reads (os : Os) {H : Type} (enc : TypeId × Value → H) : ∃ places, DataW.whole enc Tryz.prog ((colimTellsWorld os).forCall (fun _ _ => 0) ⟨#[], #[((.agg #[.slice none 0 0, .slice none 0 0]) : Value), .agg #[.slice none 0 0, .slice none 0 0], .slice none 0 0], []⟩).memory Tryz.f3.params.toList Rows.colimTellsSpec.vars false #[((.agg #[.slice none 0 0, .slice none 0 0]) : Value), .agg #[.slice none 0 0, .slice none 0 0], .slice none 0 0].toList 8 = some ([.agg [.nil, .nil], .agg [.nil, .nil], .nil], [], places) :=
 ⟨[], by kernel_rfl⟩
set_option maxRecDepth 100000 in
theorem colimTells_contract (H : Type) (enc : TypeId × Value → H) (W : World) (base : Nat) (args : Array Value) (ds gs : List (DataW H)) (before : List MemPlace)
 (hval : ∀ (j : Nat) t v, Tryz.f3.params[j]? = some t → args[j]? = some v → Value.okWide Tryz.prog W .any base t v)
 (hW : DataW.Whole enc Tryz.prog Tryz.f3.params.toList Rows.colimTellsSpec.vars false W args.toList ds gs before) (hL : laidMetH Tryz.prog Rows.colimTellsRow.laid W) :
 Calls Tryz.prog 3 args W fun e W' => ∃ v, e = .returned v ∧ Rows.colimTellsSpec.post enc Tryz.prog Tryz.f3 false true false false W args v W' := by
 have hW' := hW
 obtain ⟨p, q, hA0, hV, rfl, hfz, hnd⟩ := hW
 have hA : DataW.TrodAll enc Tryz.prog W 0 (fun _ => true) true Tryz.f3.params.toList args.toList ds p := hA0
 rw [Tryz.params3] at hA hval
 obtain ⟨rfl, rfl⟩ := trodVars_none hV
 obtain ⟨vs⟩ := args
 obtain ⟨v0, vs0, d0, ds0, p0, q0, hargs, hds, rfl, h0, r0⟩ := trodAll_cons hA
 change vs = _ at hargs
 subst hargs hds
 obtain ⟨v1, vs1, d1, ds1, p1, q1, e1, f1, rfl, h1, r1⟩ := trodAll_cons r0
 subst e1 f1
 obtain ⟨v2, vs2, d2, ds2, p2, q2, e2, f2, rfl, h2, r2⟩ := trodAll_cons r1
 subst e2 f2
 obtain ⟨rfl, rfl, rfl⟩ := trodAll_nil r2
 clear hA0 hA r0 r1 r2
 have htab := c2x hL
 obtain ⟨n0, hn0⟩ := h0
 obtain ⟨o0, ok0, rp0⟩ := rep_dia diTys obTys hn0
 obtain ⟨n1, hn1⟩ := h1
 obtain ⟨o1, ok1, rp1⟩ := d9j obTys hn1
 obtain ⟨n2, hn2⟩ := h2
 obtain ⟨u2, l2, eu2, rp2, ok2⟩ := rep_mat Tryz.underlying30 Tryz.underlying40 Tryz.underlying3 cells26 cells3 hn2
 obtain ⟨ya2, yl2, yc2, rfl⟩ := okWide_slice Tryz.underlying30 (hval 2 30 v2 rfl rfl)
 obtain rfl : Value.slice ya2 yl2 yc2 = u2 := by simpa [Value.cells] using eu2
 refine (l8z (vs := ⟨[v0, v1, .slice ya2 yl2 yc2]⟩) (v9z o0 o1 l2 (diBig ok0) ok1.2.1 ok1.2.2.2 (matBig ok2)) htab ⟨vr_dia rp0, vr_ob rp1, rep0 rp2, trivial⟩).mono fun e W2 he => ?_
 obtain ⟨rfl, e1, e2, e3, e4⟩ := he
 exact ⟨_, rfl, q8x (t := 4) kids full (by rw [Tryz.params3]; decide) hW' rfl (by kernel_rfl) Tryz.underlying4 rfl e1 e2 e3 e4⟩
set_option maxRecDepth 100000 in
theorem colimTells_lifted (os : Os) (started : os.Started) (H : Type) (enc : TypeId × Value → H) (F : Stop.Interp) :
 ReturnsInHanded {} Tryz.checked os 3 .any ((OpenSpec.ofChange Rows.colimTellsSpec).preRow enc Tryz.prog Tryz.f3 Rows.colimTellsRow.domain false Rows.colimTellsRow.laid) (((OpenSpec.ofChange Rows.colimTellsSpec).at F).post enc Tryz.prog Tryz.f3 false true false false) := by
 obtain ⟨places, hx⟩ := colimTells_reads os enc
 refine returnsInHanded_of_row (C := Tryz.checked) (s := OpenSpec.ofChange Rows.colimTellsSpec) own started (by kernel_rfl) Tryz.func3
  (witness_row_at (enc := enc) (C := Tryz.checked) false (colimTellsWorld os) #[((.agg #[.slice none 0 0, .slice none 0 0]) : Value), .agg #[.slice none 0 0, .slice none 0 0], .slice none 0 0] rfl (by kernel_rfl) (by kernel_rfl) (by kernel_rfl)
   (OpenSpec.preRow_of_cond 8 hx (by kernel_rfl) (fun k hk => by cases hk) (by kernel_rfl) (colimTells_met os))) ?_
 intro W base args ds gs before hval hW _ _ _ hL _ _
 exact colimTells_contract H enc W base args ds gs before hval hW hL
theorem colimTells_said : Rows.ColimTellsSaid :=
 OpenClaim.holds_of_cond 3 Tryz.f3 rfl rfl rfl rfl rfl rfl rfl ⟨rfl, rfl, rfl, rfl, rfl⟩ rfl rfl rfl rfl rfl (by kernel_rfl) Tryz.func3 (by kernel_rfl)
  (of_decide_eq_true (by kernel_rfl)) (by unfold Func.isWrapper; first | (rw [if_pos (by decide +kernel)]; kernel_rfl) | (rw [if_neg (by decide +kernel)]; exact ⟨rfl, rfl⟩))
  (fun os started H enc _ F => by rw [OpenClaim.pre_eq_preRow]; exact colimTells_lifted os started H enc F)
theorem colimTells_plain (f : FuncId) (fn : Func) (hf : Tryz.pinned.checked.prog.funcNamed "cento/centolaw9.ColimTells" = some f) (hfn : Tryz.pinned.checked.prog.funcs[f]? = some fn) :
 false = Tryz.pinned.checked.prog.looks [] ∧ ∀ (j : Nat) t, fn.params[j]? = some t → Tryz.pinned.checked.prog.wantsStandIn t = false := by
 obtain rfl : f = 3 := Option.some.inj ((show Tryz.prog.funcNamed "cento/centolaw9.ColimTells" = some 3 by kernel_rfl).symm.trans hf) |>.symm
 obtain rfl : fn = Tryz.f3 := (Option.some.inj (Tryz.func3.symm.trans hfn)).symm
 refine ⟨by kernel_rfl, fun j t ht => ?_⟩
 rw [Tryz.params3] at ht
 have hm : t ∈ [25, 29, 30] := by simpa using Array.mem_of_getElem? ht
 have hall : ([25, 29, 30].all fun u => !Tryz.prog.wantsStandIn u) = true := by kernel_rfl
 exact (show Tryz.prog.wantsStandIn t = false by simpa using List.all_eq_true.1 hall t hm)
/-- the card -/
theorem colimTells_holds : Rows.ColimTellsCardSaid :=
 Claim7.holds_tied_plain_at .later [] _ _ _ _ colimTells_said (fun _ h => by cases h) (by kernel_rfl) (fun _ h => by cases h) colimTells_row_tie rfl ⟨rfl, rfl⟩ (by kernel_rfl) rfl colimTells_plain (by kernel_rfl)
#print axioms colimTells_holds
end Go.Proofs.YtkdkajlgbhggdaaGreatDoor
