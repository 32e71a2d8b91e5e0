/- Lemmas on the way to the statement of this claim; no conditions. -/
import Derived.ProofKit
import Derived.ReadAgain
import Derived.Stop.Joined
import Derived.Test.YtjidblndipcofaaDoorA38
open Go Go.V
namespace Go.Proofs
section
variable {H : Type} {enc : TypeId × Value → H} {P : Program} {w : World} {base : Nat} {spare : Nat → Bool} {held : Bool}
theorem cell_at {a : Addr} {v : Value} (h : w.cell? a = some v) : ∃ arr ty fr, w.heap[a.block]? = some (.cells arr ty fr) ∧ a.spot = none ∧ arr[a.off]? = some v := by
  unfold World.cell? at h
  split at h
  · rename_i arr ty fr hb
    split at h
    · cases h
    · rename_i hs
      exact ⟨arr, ty, fr, hb, by simpa using hs, h⟩
  · cases h
end
def S0 : Sg := ⟨0, fun _ => none⟩
def R0 : Rho := fun _ => ⟨none, 0, 0⟩
theorem fr0 (b : Nat) : Fr S0 R0 b := fun n k h => by cases h
theorem rep0 {w : World} {x : T} {y : Value} (h : RepT w (fun _ => True) x y) : RepT w (Fr S0 R0) x y := RepT.mono (fun b _ _ _ _ hb => ⟨fr0 b, hb⟩) h
theorem cells_one {v x : Value} (h : v.cells.toList = [x]) (hx : v.oneCell' = true) : v = x := by
  cases v with
  | agg cs => cases hx
  | _ => simpa [Value.cells] using h
theorem sr0 {P : Program} {w : World} (h : TabOK P w.heap.size w) : SR P w.heap.size S0 R0 w where
  lt n b hn := by cases hn
  lo n b bl hn := by cases hn
  inj n n' b b' bl hn := by cases hn
  rep n b hn := by cases hn
  tab := h
theorem calls_of_pcall {P : Program} {g : Nat} {args : List V} {b : Bool} (h : PCall P g args (Bo b)) {w : World} {vs : Array Value} (ht : TabOK P w.heap.size w) (ha : All2 (VR P w S0 R0) args vs.toList) :
    Calls P g vs w fun e w' => e = .returned (.bool b) ∧ w'.os = w.os ∧ w'.output = w.output ∧ w.heap.size ≤ w'.heap.size ∧ ∀ i, i < w.heap.size → w'.heap[i]? = w.heap[i]? := by
  have h1 := h S0 w.heap.size R0 w vs.toList (sr0 ht) (Nat.le_refl _) ha
  refine Calls.mono (R := fun x w' => ∃ y v s' ρ', x = .returned y ∧ (v = Bo b ∧ s' = S0) ∧ SR P w.heap.size s' ρ' w' ∧ VR P w' s' ρ' v y ∧ Stp S0 R0 w s' ρ' w') ?_ fun e w' he => ?_
  · exact CallsIn.calls h1 (room_lv none)
  · obtain ⟨y, v, s', ρ', rfl, ⟨rfl, rfl⟩, _, hv, hs⟩ := he
    have hy : y = .bool b := (repV (w := w') (A := Fr S0 ρ') hv)
    exact ⟨by rw [hy], hs.os, hs.output, hs.size, fun i hi => hs.same i hi (fr0 i)⟩
section
variable {H : Type} {enc : TypeId × Value → H} {P : Program} {w w' : World}
theorem sameAt_of {p : MemPlace} (h : ∀ i, i < w.heap.size → w'.heap[i]? = w.heap[i]?) (hp : p.block < w.heap.size) : w.sameAt w' p := by
  cases p with
  | cell b off => show w'.cell? _ = w.cell? _; unfold World.cell?; rw [h b hp]
  | map b => exact h b hp
theorem trodAll_later {base : Nat} {spare : Nat → Bool} {held : Bool} (h : ∀ i, i < w.heap.size → w'.heap[i]? = w.heap[i]?) : ∀ {ts : List TypeId} {vs : List Value} {ds : List (DataW H)} {ps : List MemPlace}, (∀ p ∈ ps, p.block < w.heap.size) →
    DataW.TrodAll enc P w base spare held ts vs ds ps → DataW.TrodAll enc P w' base spare held ts vs ds ps
  | [], [], [], _, _, hh => hh
  | _ :: _, _ :: _, _ :: _, _, hp, ⟨p, q, ⟨n, hn⟩, hs, e⟩ => by
    subst e
    exact ⟨p, q, ⟨n, DataW.trod_carry n _ _ _ hn fun x hx => sameAt_of h (hp x (by simp [hx]))⟩, trodAll_later h (fun x hx => hp x (by simp [hx])) hs, rfl⟩
  | [], _ :: _, _, _, _, hh => by cases hh
  | [], [], _ :: _, _, _, hh => by cases hh
  | _ :: _, [], _, _, _, hh => by cases hh
  | _ :: _, _ :: _, [], _, _, hh => by cases hh
open Go.ChangeShapes Go.WideShapes in
theorem post_true {f : Func} {s : ChangeSpec} {apart fresh handsOn again : Bool} {W W' : World} {args : Array Value} {ds : List (DataW H)} {before : List MemPlace} {t : TypeId}
    (K : Kids P (· < P.types.size)) (F : ∀ t e, t < P.types.size → P.underlying t = some (.slice e) → 0 < P.cellsOf e) (hts : ∀ t ∈ f.params.toList, t < P.types.size)
    (hW : DataW.Whole enc P f.params.toList s.vars apart W args.toList ds [] before) (hv : s.vars = []) (hr : f.resultTypes = #[t]) (hb : P.underlying t = some .bool)
    (hs : s.fn H (ds ++ []) = { results := [.lit (.bool true)], args := ds })
    (ho : W'.os = W.os) (hu : W'.output = W.output) (hz : W.heap.size ≤ W'.heap.size) (hh : ∀ i, i < W.heap.size → W'.heap[i]? = W.heap[i]?) :
    s.post enc P f apart fresh handsOn again W args (.bool true) W' := by
  have hlt := hW.lt
  have hWk := hW
  obtain ⟨p, q, hA, hV, hpq, hfz, hn⟩ := hW
  rw [hv] at hV
  obtain ⟨_, rfl⟩ := trodVars_none hV
  rw [List.append_nil] at hpq
  subst hpq
  have hres : ∀ (b : Nat) (sp : Nat → Bool) (hd : Bool), DataW.TrodAll enc P W' b sp hd f.resultTypes.toList ((Value.bool true).resultList f.resultTypes.size) (s.fn H (ds ++ [])).results [] := fun b sp hd => by
    rw [hr, hs]; exact trodAll_mk1 (RowKit.shut_bool hb true)
  have hargs : ∀ sp : Nat → Bool, (∀ p ∈ before, sp p.block = true) → DataW.TrodAll enc P W' 0 sp true f.params.toList args.toList (s.fn H (ds ++ [])).args before := fun sp hsp => by
    rw [hs]; exact trodAll_later hh hlt (DataW.TrodAll.respare K F hts hA hsp)
  have hvars : ∀ sp : Nat → Bool, DataW.TrodVars enc P W' sp s.vars (s.fn H (ds ++ [])).vars [] := fun sp => by rw [hv, hs]; exact rfl
  have hold : ∀ p ∈ before, (fun b => decide (b < W.heap.size)) p.block = true := fun p hp => by simpa using hlt p hp
  refine ⟨ds, [], before, [], before, [], hWk, hres _ _ _, hargs _ hold, hvars _, ⟨ho, hu, fun i hi => ?_⟩, fun _ => ⟨?_, _, _, ([] ++ before) ++ [], ⟨[] ++ before, [], trodAll_append (hargs _ (fun _ _ => rfl)) (hres _ _ _), hvars _, rfl, ?_, ?_⟩, ?_⟩⟩
  · rw [hh i hi]
    split <;> simp_all
  · rw [hr]; exact RowKit.ok_one (f := { f with resultTypes := #[t] }) rfl rfl (RowKit.okWide_bool_mk hb true)
  · intro b off hp
    have hp' : MemPlace.cell b off ∈ before := by simpa using hp
    have := hfz b off hp'
    unfold World.frozen? at this ⊢
    rw [hh b (hlt _ hp')]; exact this
  · intro ha; simpa using hn ha
  · intro p hp _; simpa using hp
end
end Go.Proofs
