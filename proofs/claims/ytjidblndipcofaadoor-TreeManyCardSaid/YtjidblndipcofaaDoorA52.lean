/- Of every input the law TreeMany answers true, and the input reads as it did. No condition but the row's own. -/
import Derived.Test.YtjidblndipcofaaDoorCards
import Derived.Test.YtjidblndipcofaaDoorTie
import Derived.Deep.DeepHandedRow
import Derived.Lib.LaidTab
import Derived.Test.YtjidblndipcofaaDoorA47
import Derived.Test.YtjidblndipcofaaDoorA51
open Go Go.V
namespace Go.Proofs.YtjidblndipcofaaDoor
open Go.ChangeShapes Go.WideShapes Go.ChangeAt Go.RowKit

theorem wf_u8 {z : Int} (h : (Lit.int .u8 z).wf = true) : 0 ≤ z ∧ z < 256 := by
  simp only [Lit.wf, Bool.and_eq_true, decide_eq_true_eq] at h
  have h1 : IntKind.u8.min = 0 := by decide
  have h2 : IntKind.u8.max = 255 := by decide
  omega
noncomputable def treeManyWorld (os : Os) : World :=
  { World.holding Tryd.prog os ⟨#[], #[], []⟩ with heap := (World.holding Tryd.prog os ⟨#[], #[], []⟩).heap.modify gDB fun
      | .cells _ t frozen => .cells (Lib.deBruijn64tab.map fun k => Value.int .u8 (k : Nat)).toArray t frozen
      | o => o }
theorem treeMany_met (os : Os) : laidMet Tryd.prog Rows.treeManyRow.laid ((treeManyWorld os).forCall (fun _ _ => 0) ⟨#[], #[((.int .u8 0) : Value)], []⟩).memory :=
  laidMet_of_run' 8 (by kernel_rfl) (by kernel_rfl)
theorem treeMany_reads (os : Os) {H : Type} (enc : TypeId × Value → H) : ∃ places, DataW.whole enc Tryd.prog ((treeManyWorld os).forCall (fun _ _ => 0) ⟨#[], #[((.int .u8 0) : Value)], []⟩).memory Tryd.f3.params.toList Rows.treeManySpec.vars false #[((.int .u8 0) : Value)].toList 8 = some ([.lit (.int .u8 0)], [], places) :=
  ⟨[], by kernel_rfl⟩

set_option maxRecDepth 100000 in
theorem treeMany_contract (H : Type) (enc : TypeId × Value → H) (W : World) (base : Nat) (args : Array Value) (ds gs : List (DataW H)) (before : List MemPlace)
    (hval : ∀ (j : Nat) t v, Tryd.f3.params[j]? = some t → args[j]? = some v → Value.okWide Tryd.prog W .any base t v)
    (hW : DataW.Whole enc Tryd.prog Tryd.f3.params.toList Rows.treeManySpec.vars false W args.toList ds gs before) (hL : laidMetH Tryd.prog Rows.treeManyRow.laid W) :
    Calls Tryd.prog 3 args W fun e W' => ∃ v, e = .returned v ∧ Rows.treeManySpec.post enc Tryd.prog Tryd.f3 false true false false W args v W' := by
  have hW' := hW
  obtain ⟨p, q, hA0, hV, rfl, hfz, hnd⟩ := hW
  have hA : DataW.TrodAll enc Tryd.prog W 0 (fun _ => true) true Tryd.f3.params.toList args.toList ds p := hA0
  rw [Tryd.params3] at hA hval
  obtain ⟨rfl, rfl⟩ := trodVars_none hV
  obtain ⟨vs⟩ := args
  obtain ⟨v0, vs0, d0, ds0, p0, q0, hargs, hds, rfl, h0, r0⟩ := trodAll_cons hA
  change vs = _ at hargs
  subst hargs hds
  obtain ⟨rfl, rfl, rfl⟩ := trodAll_nil r0
  clear hA0 hA r0
  have htab := tab_of_laid hL
  obtain ⟨z0, rfl, rfl, rfl, wz0⟩ := open_int Tryd.underlying5 (hval 0 5 v0 rfl rfl) h0
  refine (calls_of_pcall (vs := ⟨[.int .u8 z0]⟩) (lawMany_ z0 (wf_u8 wz0)) htab ⟨rep0 (repT_u8 z0), trivial⟩).mono fun e W2 he => ?_
  obtain ⟨rfl, e1, e2, e3, e4⟩ := he
  exact ⟨_, rfl, post_true (t := 4) kids full (by rw [Tryd.params3]; decide) hW' rfl (by kernel_rfl) Tryd.underlying4 rfl e1 e2 e3 e4⟩

set_option maxRecDepth 100000 in
theorem treeMany_lifted (os : Os) (started : os.Started) (H : Type) (enc : TypeId × Value → H) (F : Stop.Interp) :
    ReturnsInHanded {} Tryd.checked os 3 .any ((OpenSpec.ofChange Rows.treeManySpec).preRow enc Tryd.prog Tryd.f3 Rows.treeManyRow.domain false Rows.treeManyRow.laid) (((OpenSpec.ofChange Rows.treeManySpec).at F).post enc Tryd.prog Tryd.f3 false true false false) := by
  obtain ⟨places, hx⟩ := treeMany_reads os enc
  refine returnsInHanded_of_row (C := Tryd.checked) (s := OpenSpec.ofChange Rows.treeManySpec) own started (by kernel_rfl) Tryd.func3
    (witness_row_at (enc := enc) (C := Tryd.checked) false (treeManyWorld os) #[((.int .u8 0) : Value)] rfl (by kernel_rfl) (by kernel_rfl) (by kernel_rfl)
      (OpenSpec.preRow_of_cond 8 hx (by kernel_rfl) (fun k hk => by cases hk) (by kernel_rfl) (treeMany_met os))) ?_
  intro W base args ds gs before hval hW _ _ _ hL _ _
  exact treeMany_contract H enc W base args ds gs before hval hW hL

theorem treeMany_said : Rows.TreeManySaid :=
  OpenClaim.holds_of_cond 3 Tryd.f3 rfl rfl rfl rfl rfl rfl rfl ⟨rfl, rfl, rfl, rfl, rfl⟩ rfl rfl rfl rfl rfl (by kernel_rfl) Tryd.func3 (by kernel_rfl)
    (of_decide_eq_true (by kernel_rfl)) (by unfold Func.isWrapper; first | (rw [if_pos (by decide +kernel)]; kernel_rfl) | (rw [if_neg (by decide +kernel)]; exact ⟨rfl, rfl⟩))
    (fun os started H enc _ F => by rw [OpenClaim.pre_eq_preRow]; exact treeMany_lifted os started H enc F)
theorem treeMany_plain (f : FuncId) (fn : Func) (hf : Tryd.pinned.checked.prog.funcNamed "cento/centolaw22.TreeMany" = some f) (hfn : Tryd.pinned.checked.prog.funcs[f]? = some fn) :
    false = Tryd.pinned.checked.prog.looks [] ∧ ∀ (j : Nat) t, fn.params[j]? = some t → Tryd.pinned.checked.prog.wantsStandIn t = false := by
  obtain rfl : f = 3 := Option.some.inj ((show Tryd.prog.funcNamed "cento/centolaw22.TreeMany" = some 3 by kernel_rfl).symm.trans hf) |>.symm
  obtain rfl : fn = Tryd.f3 := (Option.some.inj (Tryd.func3.symm.trans hfn)).symm
  refine ⟨by kernel_rfl, fun j t ht => ?_⟩
  rw [Tryd.params3] at ht
  have hm : t ∈ [5] := by simpa using Array.mem_of_getElem? ht
  have hall : ([5].all fun u => !Tryd.prog.wantsStandIn u) = true := by kernel_rfl
  exact (show Tryd.prog.wantsStandIn t = false by simpa using List.all_eq_true.1 hall t hm)
/-- the card -/
theorem treeMany_holds : Rows.TreeManyCardSaid :=
  Claim7.holds_tied_plain_at .later [] _ _ _ _ treeMany_said (fun _ h => by cases h) (by kernel_rfl) (fun _ h => by cases h) treeMany_row_tie rfl ⟨rfl, rfl⟩ (by kernel_rfl) rfl treeMany_plain (by kernel_rfl)
#print axioms treeMany_holds
end Go.Proofs.YtjidblndipcofaaDoor
