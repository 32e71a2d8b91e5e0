/- Of every input the law ColimPlain answers true, and the input reads as it did. No condition but the row's own. -/
import Derived.Test.YtkdkajlgbhggdaaDoorCards
import Derived.Test.YtkdkajlgbhggdaaDoorTie
import Derived.Deep.DeepHandedRow
import Derived.Lib.LaidTab
import Derived.Test.YtkdkajlgbhggdaaDoorN48
import Derived.Test.YtkdkajlgbhggdaaDoorN49
open Go Go.V
namespace Go.Proofs.YtkdkajlgbhggdaaDoor
open Go.ChangeShapes Go.WideShapes Go.ChangeAt Go.RowKit

theorem wf_u8 {z : Int} (h : (Lit.int .u8 z).wf = true) : 0 ≤ z ∧ z < 256 := by
  simp only [Lit.wf, Bool.and_eq_true, decide_eq_true_eq] at h
  have h1 : IntKind.u8.min = 0 := by decide
  have h2 : IntKind.u8.max = 255 := by decide
  omega
noncomputable def colimPlainWorld (os : Os) : World :=
  { World.holding Tryd.prog os ⟨#[], #[], []⟩ with heap := (World.holding Tryd.prog os ⟨#[], #[], []⟩).heap.modify gDB fun
      | .cells _ t frozen => .cells (Lib.deBruijn64tab.map fun k => Value.int .u8 (k : Nat)).toArray t frozen
      | o => o }
theorem colimPlain_met (os : Os) : laidMet Tryd.prog Rows.colimPlainRow.laid ((colimPlainWorld os).forCall (fun _ _ => 0) ⟨#[], #[((.agg #[.slice none 0 0, .slice none 0 0]) : Value), .int .u8 0], []⟩).memory :=
  laidMet_of_run' 8 (by kernel_rfl) (by kernel_rfl)
theorem colimPlain_reads (os : Os) {H : Type} (enc : TypeId × Value → H) : ∃ places, DataW.whole enc Tryd.prog ((colimPlainWorld os).forCall (fun _ _ => 0) ⟨#[], #[((.agg #[.slice none 0 0, .slice none 0 0]) : Value), .int .u8 0], []⟩).memory Tryd.f16.params.toList Rows.colimPlainSpec.vars false #[((.agg #[.slice none 0 0, .slice none 0 0]) : Value), .int .u8 0].toList 8 = some ([.agg [.nil, .nil], .lit (.int .u8 0)], [], places) :=
  ⟨[], by kernel_rfl⟩

set_option maxRecDepth 100000 in
theorem colimPlain_contract (H : Type) (enc : TypeId × Value → H) (W : World) (base : Nat) (args : Array Value) (ds gs : List (DataW H)) (before : List MemPlace)
    (hval : ∀ (j : Nat) t v, Tryd.f16.params[j]? = some t → args[j]? = some v → Value.okWide Tryd.prog W .any base t v)
    (hW : DataW.Whole enc Tryd.prog Tryd.f16.params.toList Rows.colimPlainSpec.vars false W args.toList ds gs before) (hL : laidMetH Tryd.prog Rows.colimPlainRow.laid W) :
    Calls Tryd.prog 16 args W fun e W' => ∃ v, e = .returned v ∧ Rows.colimPlainSpec.post enc Tryd.prog Tryd.f16 false true false false W args v W' := by
  have hW' := hW
  obtain ⟨p, q, hA0, hV, rfl, hfz, hnd⟩ := hW
  have hA : DataW.TrodAll enc Tryd.prog W 0 (fun _ => true) true Tryd.f16.params.toList args.toList ds p := hA0
  rw [Tryd.params16] at hA hval
  obtain ⟨rfl, rfl⟩ := trodVars_none hV
  obtain ⟨vs⟩ := args
  obtain ⟨v0, vs0, d0, ds0, p0, q0, hargs, hds, rfl, h0, r0⟩ := trodAll_cons hA
  change vs = _ at hargs
  subst hargs hds
  obtain ⟨v1, vs1, d1, ds1, p1, q1, e1, f1, rfl, h1, r1⟩ := trodAll_cons r0
  subst e1 f1
  obtain ⟨rfl, rfl, rfl⟩ := trodAll_nil r1
  clear hA0 hA r0 r1
  have htab := tab_of_laid hL
  obtain ⟨n0, hn0⟩ := h0
  obtain ⟨o0, ok0, rp0⟩ := rep_ob obTys hn0
  obtain ⟨z1, rfl, rfl, rfl, wz1⟩ := open_int Tryd.underlying5 (hval 1 5 v1 rfl rfl) h1
  refine (calls_of_pcall (vs := ⟨[v0, .int .u8 z1]⟩) (lawColPlain_ o0 z1 ok0.2.1 ok0.2.2.2 (wf_u8 wz1)) htab ⟨vr_ob rp0, rep0 (repT_u8 z1), trivial⟩).mono fun e W2 he => ?_
  obtain ⟨rfl, e1, e2, e3, e4⟩ := he
  exact ⟨_, rfl, post_true (t := 4) kids full (by rw [Tryd.params16]; decide) hW' rfl (by kernel_rfl) Tryd.underlying4 rfl e1 e2 e3 e4⟩

set_option maxRecDepth 100000 in
theorem colimPlain_lifted (os : Os) (started : os.Started) (H : Type) (enc : TypeId × Value → H) (F : Stop.Interp) :
    ReturnsInHanded {} Tryd.checked os 16 .any ((OpenSpec.ofChange Rows.colimPlainSpec).preRow enc Tryd.prog Tryd.f16 Rows.colimPlainRow.domain false Rows.colimPlainRow.laid) (((OpenSpec.ofChange Rows.colimPlainSpec).at F).post enc Tryd.prog Tryd.f16 false true false false) := by
  obtain ⟨places, hx⟩ := colimPlain_reads os enc
  refine returnsInHanded_of_row (C := Tryd.checked) (s := OpenSpec.ofChange Rows.colimPlainSpec) own started (by kernel_rfl) Tryd.func16
    (witness_row_at (enc := enc) (C := Tryd.checked) false (colimPlainWorld os) #[((.agg #[.slice none 0 0, .slice none 0 0]) : Value), .int .u8 0] rfl (by kernel_rfl) (by kernel_rfl) (by kernel_rfl)
      (OpenSpec.preRow_of_cond 8 hx (by kernel_rfl) (fun k hk => by cases hk) (by kernel_rfl) (colimPlain_met os))) ?_
  intro W base args ds gs before hval hW _ _ _ hL _ _
  exact colimPlain_contract H enc W base args ds gs before hval hW hL

theorem colimPlain_said : Rows.ColimPlainSaid :=
  OpenClaim.holds_of_cond 16 Tryd.f16 rfl rfl rfl rfl rfl rfl rfl ⟨rfl, rfl, rfl, rfl, rfl⟩ rfl rfl rfl rfl rfl (by kernel_rfl) Tryd.func16 (by kernel_rfl)
    (of_decide_eq_true (by kernel_rfl)) (by unfold Func.isWrapper; first | (rw [if_pos (by decide +kernel)]; kernel_rfl) | (rw [if_neg (by decide +kernel)]; exact ⟨rfl, rfl⟩))
    (fun os started H enc _ F => by rw [OpenClaim.pre_eq_preRow]; exact colimPlain_lifted os started H enc F)
theorem colimPlain_plain (f : FuncId) (fn : Func) (hf : Tryd.pinned.checked.prog.funcNamed "cento/centolaw9.ColimPlain" = some f) (hfn : Tryd.pinned.checked.prog.funcs[f]? = some fn) :
    false = Tryd.pinned.checked.prog.looks [] ∧ ∀ (j : Nat) t, fn.params[j]? = some t → Tryd.pinned.checked.prog.wantsStandIn t = false := by
  obtain rfl : f = 16 := Option.some.inj ((show Tryd.prog.funcNamed "cento/centolaw9.ColimPlain" = some 16 by kernel_rfl).symm.trans hf) |>.symm
  obtain rfl : fn = Tryd.f16 := (Option.some.inj (Tryd.func16.symm.trans hfn)).symm
  refine ⟨by kernel_rfl, fun j t ht => ?_⟩
  rw [Tryd.params16] at ht
  have hm : t ∈ [25, 5] := by simpa using Array.mem_of_getElem? ht
  have hall : ([25, 5].all fun u => !Tryd.prog.wantsStandIn u) = true := by kernel_rfl
  exact (show Tryd.prog.wantsStandIn t = false by simpa using List.all_eq_true.1 hall t hm)
/-- the card -/
theorem colimPlain_holds : Rows.ColimPlainCardSaid :=
  Claim7.holds_tied_plain_at .later [] _ _ _ _ colimPlain_said (fun _ h => by cases h) (by kernel_rfl) (fun _ h => by cases h) colimPlain_row_tie rfl ⟨rfl, rfl⟩ (by kernel_rfl) rfl colimPlain_plain (by kernel_rfl)
#print axioms colimPlain_holds
end Go.Proofs.YtkdkajlgbhggdaaDoor
