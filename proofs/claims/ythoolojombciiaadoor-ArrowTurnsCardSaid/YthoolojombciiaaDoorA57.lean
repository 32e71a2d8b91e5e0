/- Of every input the law ArrowTurns answers true, and the input reads as it did. No condition but the row's own. -/
import Derived.Test.YthoolojombciiaaDoorCards
import Derived.Test.YthoolojombciiaaDoorTie
import Derived.Deep.DeepHandedRow
import Derived.Lib.LaidTab
import Derived.Test.YthoolojombciiaaDoorA55
import Derived.Test.YthoolojombciiaaDoorA56
open Go Go.V
namespace Go.Proofs.YthoolojombciiaaDoor
open Go.ChangeShapes Go.WideShapes Go.ChangeAt Go.RowKit

theorem wf_u8 {z : Int} (h : (Lit.int .u8 z).wf = true) : 0 ≤ z ∧ z < 256 := by
  simp only [Lit.wf, Bool.and_eq_true, decide_eq_true_eq] at h
  have h1 : IntKind.u8.min = 0 := by decide
  have h2 : IntKind.u8.max = 255 := by decide
  omega
noncomputable def arrowTurnsWorld (os : Os) : World :=
  { World.holding Tryd.prog os ⟨#[], #[], []⟩ with heap := (World.holding Tryd.prog os ⟨#[], #[], []⟩).heap.modify gDB fun
      | .cells _ t frozen => .cells (Lib.deBruijn64tab.map fun k => Value.int .u8 (k : Nat)).toArray t frozen
      | o => o }
theorem arrowTurns_met (os : Os) : laidMet Tryd.prog Rows.arrowTurnsRow.laid ((arrowTurnsWorld os).forCall (fun _ _ => 0) ⟨#[], #[((.int .u8 0) : Value), .int .u8 0], []⟩).memory :=
  laidMet_of_run' 8 (by kernel_rfl) (by kernel_rfl)
theorem arrowTurns_reads (os : Os) {H : Type} (enc : TypeId × Value → H) : ∃ places, DataW.whole enc Tryd.prog ((arrowTurnsWorld os).forCall (fun _ _ => 0) ⟨#[], #[((.int .u8 0) : Value), .int .u8 0], []⟩).memory Tryd.f3.params.toList Rows.arrowTurnsSpec.vars false #[((.int .u8 0) : Value), .int .u8 0].toList 8 = some ([.lit (.int .u8 0), .lit (.int .u8 0)], [], places) :=
  ⟨[], by kernel_rfl⟩

set_option maxRecDepth 100000 in
theorem arrowTurns_contract (H : Type) (enc : TypeId × Value → H) (W : World) (base : Nat) (args : Array Value) (ds gs : List (DataW H)) (before : List MemPlace)
    (hval : ∀ (j : Nat) t v, Tryd.f3.params[j]? = some t → args[j]? = some v → Value.okWide Tryd.prog W .any base t v)
    (hW : DataW.Whole enc Tryd.prog Tryd.f3.params.toList Rows.arrowTurnsSpec.vars false W args.toList ds gs before) (hL : laidMetH Tryd.prog Rows.arrowTurnsRow.laid W) :
    Calls Tryd.prog 3 args W fun e W' => ∃ v, e = .returned v ∧ Rows.arrowTurnsSpec.post enc Tryd.prog Tryd.f3 false true false false W args v W' := by
  have hW' := hW
  obtain ⟨p, q, hA0, hV, rfl, hfz, hnd⟩ := hW
  have hA : DataW.TrodAll enc Tryd.prog W 0 (fun _ => true) true Tryd.f3.params.toList args.toList ds p := hA0
  rw [Tryd.params3] at hA hval
  obtain ⟨rfl, rfl⟩ := trodVars_none hV
  obtain ⟨vs⟩ := args
  obtain ⟨v0, vs0, d0, ds0, p0, q0, hargs, hds, rfl, h0, r0⟩ := trodAll_cons hA
  change vs = _ at hargs
  subst hargs hds
  obtain ⟨v1, vs1, d1, ds1, p1, q1, e1, f1, rfl, h1, r1⟩ := trodAll_cons r0
  subst e1 f1
  obtain ⟨rfl, rfl, rfl⟩ := trodAll_nil r1
  clear hA0 hA r0 r1
  have htab := tab_of_laid hL
  obtain ⟨z0, rfl, rfl, rfl, wz0⟩ := open_int Tryd.underlying5 (hval 0 5 v0 rfl rfl) h0
  obtain ⟨z1, rfl, rfl, rfl, wz1⟩ := open_int Tryd.underlying5 (hval 1 5 v1 rfl rfl) h1
  refine (calls_of_pcall (vs := ⟨[.int .u8 z0, .int .u8 z1]⟩) (lawTurns_ z0 z1 (wf_u8 wz0) (wf_u8 wz1)) htab ⟨rep0 (repT_u8 z0), rep0 (repT_u8 z1), trivial⟩).mono fun e W2 he => ?_
  obtain ⟨rfl, e1, e2, e3, e4⟩ := he
  exact ⟨_, rfl, post_true (t := 4) kids full (by rw [Tryd.params3]; decide) hW' rfl (by kernel_rfl) Tryd.underlying4 rfl e1 e2 e3 e4⟩

set_option maxRecDepth 100000 in
theorem arrowTurns_lifted (os : Os) (started : os.Started) (H : Type) (enc : TypeId × Value → H) (F : Stop.Interp) :
    ReturnsInHanded {} Tryd.checked os 3 .any ((OpenSpec.ofChange Rows.arrowTurnsSpec).preRow enc Tryd.prog Tryd.f3 Rows.arrowTurnsRow.domain false Rows.arrowTurnsRow.laid) (((OpenSpec.ofChange Rows.arrowTurnsSpec).at F).post enc Tryd.prog Tryd.f3 false true false false) := by
  obtain ⟨places, hx⟩ := arrowTurns_reads os enc
  refine returnsInHanded_of_row (C := Tryd.checked) (s := OpenSpec.ofChange Rows.arrowTurnsSpec) own started (by kernel_rfl) Tryd.func3
    (witness_row_at (enc := enc) (C := Tryd.checked) false (arrowTurnsWorld os) #[((.int .u8 0) : Value), .int .u8 0] rfl (by kernel_rfl) (by kernel_rfl) (by kernel_rfl)
      (OpenSpec.preRow_of_cond 8 hx (by kernel_rfl) (fun k hk => by cases hk) (by kernel_rfl) (arrowTurns_met os))) ?_
  intro W base args ds gs before hval hW _ _ _ hL _ _
  exact arrowTurns_contract H enc W base args ds gs before hval hW hL

theorem arrowTurns_said : Rows.ArrowTurnsSaid :=
  OpenClaim.holds_of_cond 3 Tryd.f3 rfl rfl rfl rfl rfl rfl rfl ⟨rfl, rfl, rfl, rfl, rfl⟩ rfl rfl rfl rfl rfl (by kernel_rfl) Tryd.func3 (by kernel_rfl)
    (of_decide_eq_true (by kernel_rfl)) (by unfold Func.isWrapper; first | (rw [if_pos (by decide +kernel)]; kernel_rfl) | (rw [if_neg (by decide +kernel)]; exact ⟨rfl, rfl⟩))
    (fun os started H enc _ F => by rw [OpenClaim.pre_eq_preRow]; exact arrowTurns_lifted os started H enc F)
theorem arrowTurns_plain (f : FuncId) (fn : Func) (hf : Tryd.pinned.checked.prog.funcNamed "cento/centolaw5.ArrowTurns" = some f) (hfn : Tryd.pinned.checked.prog.funcs[f]? = some fn) :
    false = Tryd.pinned.checked.prog.looks [] ∧ ∀ (j : Nat) t, fn.params[j]? = some t → Tryd.pinned.checked.prog.wantsStandIn t = false := by
  obtain rfl : f = 3 := Option.some.inj ((show Tryd.prog.funcNamed "cento/centolaw5.ArrowTurns" = some 3 by kernel_rfl).symm.trans hf) |>.symm
  obtain rfl : fn = Tryd.f3 := (Option.some.inj (Tryd.func3.symm.trans hfn)).symm
  refine ⟨by kernel_rfl, fun j t ht => ?_⟩
  rw [Tryd.params3] at ht
  have hm : t ∈ [5, 5] := by simpa using Array.mem_of_getElem? ht
  have hall : ([5, 5].all fun u => !Tryd.prog.wantsStandIn u) = true := by kernel_rfl
  exact (show Tryd.prog.wantsStandIn t = false by simpa using List.all_eq_true.1 hall t hm)
/-- the card -/
theorem arrowTurns_holds : Rows.ArrowTurnsCardSaid :=
  Claim7.holds_tied_plain_at .later [] _ _ _ _ arrowTurns_said (fun _ h => by cases h) (by kernel_rfl) (fun _ h => by cases h) arrowTurns_row_tie rfl ⟨rfl, rfl⟩ (by kernel_rfl) rfl arrowTurns_plain (by kernel_rfl)
#print axioms arrowTurns_holds
end Go.Proofs.YthoolojombciiaaDoor
