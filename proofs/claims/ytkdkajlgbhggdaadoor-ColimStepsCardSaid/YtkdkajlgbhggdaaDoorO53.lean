/- Of every input the law ColimSteps answers true, and the input reads as it did. No condition but the row's own. -/
import Derived.Test.YtkdkajlgbhggdaaDoorCards
import Derived.Test.YtkdkajlgbhggdaaDoorTie
import Derived.Deep.DeepHandedRow
import Derived.Lib.LaidTab
import Derived.Test.YtkdkajlgbhggdaaDoorO51
import Derived.Test.YtkdkajlgbhggdaaDoorO52
open Go Go.V
namespace Go.Proofs.YtkdkajlgbhggdaaDoor
open Go.ChangeShapes Go.WideShapes Go.ChangeAt Go.RowKit
theorem wf_u8 {z : Int} (h : (Lit.int .u8 z).wf = true) : 0 ≤ z ∧ z < 256 := by
 simp only [Lit.wf, Bool.and_eq_true, decide_eq_true_eq] at h
 have h1 : IntKind.u8.min = 0 := by decide
 have h2 : IntKind.u8.max = 255 := by decide
 omega
noncomputable def colimStepsWorld (os : Os) : World :=
 { World.holding Tryd.prog os ⟨#[], #[], []⟩ with heap := (World.holding Tryd.prog os ⟨#[], #[], []⟩).heap.modify gDB fun
  | .cells _ t frozen => .cells (Lib.deBruijn64tab.map fun k => Value.int .u8 (k : Nat)).toArray t frozen
  | o => o }
theorem colimSteps_met (os : Os) : laidMet Tryd.prog Rows.colimStepsRow.laid ((colimStepsWorld os).forCall (fun _ _ => 0) ⟨#[], #[((.agg #[.slice none 0 0, .slice none 0 0]) : Value), .agg #[.slice none 0 0, .slice none 0 0], .agg #[.slice none 0 0, .slice none 0 0], .int .u8 0, .int .u8 0], []⟩).memory :=
 laidMet_of_run' 8 (by kernel_rfl) (by kernel_rfl)
theorem colimSteps_reads (os : Os) {H : Type} (enc : TypeId × Value → H) : ∃ places, DataW.whole enc Tryd.prog ((colimStepsWorld os).forCall (fun _ _ => 0) ⟨#[], #[((.agg #[.slice none 0 0, .slice none 0 0]) : Value), .agg #[.slice none 0 0, .slice none 0 0], .agg #[.slice none 0 0, .slice none 0 0], .int .u8 0, .int .u8 0], []⟩).memory Tryd.f14.params.toList Rows.colimStepsSpec.vars false #[((.agg #[.slice none 0 0, .slice none 0 0]) : Value), .agg #[.slice none 0 0, .slice none 0 0], .agg #[.slice none 0 0, .slice none 0 0], .int .u8 0, .int .u8 0].toList 8 = some ([.agg [.nil, .nil], .agg [.nil, .nil], .agg [.nil, .nil], .lit (.int .u8 0), .lit (.int .u8 0)], [], places) :=
 ⟨[], by kernel_rfl⟩
set_option maxRecDepth 100000 in
theorem colimSteps_contract (H : Type) (enc : TypeId × Value → H) (W : World) (base : Nat) (args : Array Value) (ds gs : List (DataW H)) (before : List MemPlace)
 (hval : ∀ (j : Nat) t v, Tryd.f14.params[j]? = some t → args[j]? = some v → Value.okWide Tryd.prog W .any base t v)
 (hW : DataW.Whole enc Tryd.prog Tryd.f14.params.toList Rows.colimStepsSpec.vars false W args.toList ds gs before) (hL : laidMetH Tryd.prog Rows.colimStepsRow.laid W) :
 Calls Tryd.prog 14 args W fun e W' => ∃ v, e = .returned v ∧ Rows.colimStepsSpec.post enc Tryd.prog Tryd.f14 false true false false W args v W' := by
 have hW' := hW
 obtain ⟨p, q, hA0, hV, rfl, hfz, hnd⟩ := hW
 have hA : DataW.TrodAll enc Tryd.prog W 0 (fun _ => true) true Tryd.f14.params.toList args.toList ds p := hA0
 rw [Tryd.params14] at hA hval
 obtain ⟨rfl, rfl⟩ := trodVars_none hV
 obtain ⟨vs⟩ := args
 obtain ⟨v0, vs0, d0, ds0, p0, q0, hargs, hds, rfl, h0, r0⟩ := trodAll_cons hA
 change vs = _ at hargs
 subst hargs hds
 obtain ⟨v1, vs1, d1, ds1, p1, q1, e1, f1, rfl, h1, r1⟩ := trodAll_cons r0
 subst e1 f1
 obtain ⟨v2, vs2, d2, ds2, p2, q2, e2, f2, rfl, h2, r2⟩ := trodAll_cons r1
 subst e2 f2
 obtain ⟨v3, vs3, d3, ds3, p3, q3, e3, f3, rfl, h3, r3⟩ := trodAll_cons r2
 subst e3 f3
 obtain ⟨v4, vs4, d4, ds4, p4, q4, e4, f4, rfl, h4, r4⟩ := trodAll_cons r3
 subst e4 f4
 obtain ⟨rfl, rfl, rfl⟩ := trodAll_nil r4
 clear hA0 hA r0 r1 r2 r3 r4
 have htab := e0x hL
 obtain ⟨n0, hn0⟩ := h0
 obtain ⟨o0, ok0, rp0⟩ := t8x obTys hn0
 obtain ⟨n1, hn1⟩ := h1
 obtain ⟨o1, ok1, rp1⟩ := t8x obTys hn1
 obtain ⟨n2, hn2⟩ := h2
 obtain ⟨o2, ok2, rp2⟩ := t8x obTys hn2
 obtain ⟨z3, rfl, rfl, rfl, wz3⟩ := open_int Tryd.underlying5 (hval 3 5 v3 rfl rfl) h3
 obtain ⟨z4, rfl, rfl, rfl, wz4⟩ := open_int Tryd.underlying5 (hval 4 5 v4 rfl rfl) h4
 refine (n5z (vs := ⟨[v0, v1, v2, .int .u8 z3, .int .u8 z4]⟩) (x7z o0 o1 o2 z3 z4 ok0.2.1 ok0.2.2.2 ok1.2.1 ok1.2.2.2 ok2.2.1 ok2.2.2.2 (wf_u8 wz3) (wf_u8 wz4)) htab ⟨vr_ob rp0, vr_ob rp1, vr_ob rp2, rep0 (t6x z3), rep0 (t6x z4), trivial⟩).mono fun e W2 he => ?_
 obtain ⟨rfl, e1, e2, e3, e4⟩ := he
 exact ⟨_, rfl, s5x (t := 4) kids full (by rw [Tryd.params14]; decide) hW' rfl (by kernel_rfl) Tryd.underlying4 rfl e1 e2 e3 e4⟩
set_option maxRecDepth 100000 in
theorem colimSteps_lifted (os : Os) (started : os.Started) (H : Type) (enc : TypeId × Value → H) (F : Stop.Interp) :
 ReturnsInHanded {} Tryd.checked os 14 .any ((OpenSpec.ofChange Rows.colimStepsSpec).preRow enc Tryd.prog Tryd.f14 Rows.colimStepsRow.domain false Rows.colimStepsRow.laid) (((OpenSpec.ofChange Rows.colimStepsSpec).at F).post enc Tryd.prog Tryd.f14 false true false false) := by
 obtain ⟨places, hx⟩ := colimSteps_reads os enc
 refine returnsInHanded_of_row (C := Tryd.checked) (s := OpenSpec.ofChange Rows.colimStepsSpec) own started (by kernel_rfl) Tryd.func14
  (witness_row_at (enc := enc) (C := Tryd.checked) false (colimStepsWorld os) #[((.agg #[.slice none 0 0, .slice none 0 0]) : Value), .agg #[.slice none 0 0, .slice none 0 0], .agg #[.slice none 0 0, .slice none 0 0], .int .u8 0, .int .u8 0] rfl (by kernel_rfl) (by kernel_rfl) (by kernel_rfl)
   (OpenSpec.preRow_of_cond 8 hx (by kernel_rfl) (fun k hk => by cases hk) (by kernel_rfl) (colimSteps_met os))) ?_
 intro W base args ds gs before hval hW _ _ _ hL _ _
 exact colimSteps_contract H enc W base args ds gs before hval hW hL
theorem colimSteps_said : Rows.ColimStepsSaid :=
 OpenClaim.holds_of_cond 14 Tryd.f14 rfl rfl rfl rfl rfl rfl rfl ⟨rfl, rfl, rfl, rfl, rfl⟩ rfl rfl rfl rfl rfl (by kernel_rfl) Tryd.func14 (by kernel_rfl)
  (of_decide_eq_true (by kernel_rfl)) (by unfold Func.isWrapper; first | (rw [if_pos (by decide +kernel)]; kernel_rfl) | (rw [if_neg (by decide +kernel)]; exact ⟨rfl, rfl⟩))
  (fun os started H enc _ F => by rw [OpenClaim.pre_eq_preRow]; exact colimSteps_lifted os started H enc F)
theorem colimSteps_plain (f : FuncId) (fn : Func) (hf : Tryd.pinned.checked.prog.funcNamed "cento/centolaw9.ColimSteps" = some f) (hfn : Tryd.pinned.checked.prog.funcs[f]? = some fn) :
 false = Tryd.pinned.checked.prog.looks [] ∧ ∀ (j : Nat) t, fn.params[j]? = some t → Tryd.pinned.checked.prog.wantsStandIn t = false := by
 obtain rfl : f = 14 := Option.some.inj ((show Tryd.prog.funcNamed "cento/centolaw9.ColimSteps" = some 14 by kernel_rfl).symm.trans hf) |>.symm
 obtain rfl : fn = Tryd.f14 := (Option.some.inj (Tryd.func14.symm.trans hfn)).symm
 refine ⟨by kernel_rfl, fun j t ht => ?_⟩
 rw [Tryd.params14] at ht
 have hm : t ∈ [25, 25, 25, 5, 5] := by simpa using Array.mem_of_getElem? ht
 have hall : ([25, 25, 25, 5, 5].all fun u => !Tryd.prog.wantsStandIn u) = true := by kernel_rfl
 exact (show Tryd.prog.wantsStandIn t = false by simpa using List.all_eq_true.1 hall t hm)
/-- the card -/
theorem colimSteps_holds : Rows.ColimStepsCardSaid :=
 Claim7.holds_tied_plain_at .later [] _ _ _ _ colimSteps_said (fun _ h => by cases h) (by kernel_rfl) (fun _ h => by cases h) colimSteps_row_tie rfl ⟨rfl, rfl⟩ (by kernel_rfl) rfl colimSteps_plain (by kernel_rfl)
#print axioms colimSteps_holds
end Go.Proofs.YtkdkajlgbhggdaaDoor
