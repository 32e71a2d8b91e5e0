/- Lemmas on the way to the statement of this claim; no conditions. -/
import Derived.Test.YtjidblndipcofaaDoorProg
import Derived.Shelf.Spec.TrailingZeros
import Derived.Test.YtjidblndipcofaaDoorA37
import Derived.Test.YtjidblndipcofaaDoorA41
open Go Go.V Go.RowKit
namespace Go.Proofs
set_option maxHeartbeats 1000000 in
theorem Tryd.tz_core (x k idx : Nat) (w : World) (hx0 : ((x : Int) == 0) = false)
    (key : IntKind.u64.wrap (bits BinOp.and IntKind.u64 (x : Int) (IntKind.u64.wrap (-(x : Int))) * 285870213051353865) / 288230376151711744 = (idx : Int))
    (hi : idx < 64) (hk : k < 64) (hcell : w.cell? ⟨1, idx, none⟩ = some (.int .u8 k)) :
    Calls Tryd.prog 93 #[.int .u64 x] w fun e w' => e = .returned (.int .i64 k) ∧ w' = w := by
  go_enter Tryd.func93, Tryd.ntmps93
  go_wp2_with (simp only [key])
  go_ret
  exact ⟨rfl, rfl⟩
theorem Tryd.tz_zero (w : World) : Calls Tryd.prog 93 #[.int .u64 0] w fun e w' => e = .returned (.int .i64 64) ∧ w' = w := by
  go_enter Tryd.func93, Tryd.ntmps93
  go_wp2
  go_ret
  exact ⟨rfl, rfl⟩
theorem Tryd.gTab : Tryd.prog.globalNamed "math/bits.deBruijn64tab" = some 1 := by kernel_rfl
theorem Tryd.tz_calls (x : Nat) (hx : x < 18446744073709551616) (w : World) (hT : TabAt 1 Lib.deBruijn64tab w) : Calls Tryd.prog 93 #[.int .u64 (x : Int)] w (fun e w' => e = .returned (.int .i64 (Lib.ctz 64 x)) ∧ w' = w) := by
  by_cases hx0 : x = 0
  · subst hx0
    exact Tryd.tz_zero w
  · obtain ⟨hlow, hk⟩ := Lib.lowest_bit 64 x hx0 hx
    obtain ⟨hi, htab⟩ := Lib.deBruijn64_at _ hk
    have hcell := hT _ hi
    rw [htab] at hcell
    exact Tryd.tz_core x _ _ w (by simp; omega) (tz64_key x _ hx hx0 hlow) hi hk hcell
theorem lv_wide : Lv none = Fence.wide := rfl
theorem tab_at {B : Nat} {w : World} (h : TabOK Tryd.prog B w) : TabAt 1 Lib.deBruijn64tab w := by
  intro j hj
  obtain ⟨_, arr, ty, fr, hh, hget⟩ := h "math/bits.deBruijn64tab" _ 1 (List.mem_singleton.2 rfl) Tryd.gTab
  rw [cell_of hh]
  refine hget j _ ?_
  rw [List.getElem?_map, List.getElem?_eq_getElem hj, List.getD_eq_getElem?_getD, List.getElem?_eq_getElem hj]
  rfl
theorem tz_ (x : Nat) (hx : x < 18446744073709551616) : PCall Tryd.prog 93 [U x] (I (Lib.ctz 64 x)) := by
  intro s B ρ w vs hs hB hvs
  have hv : vs = [.int .u64 (x : Int)] := by
    match vs, hvs with
    | [y], h => rw [repV (w := w) (A := Fr s ρ) h.1]
    | [], h => exact h.elim
    | _ :: _ :: _, h => exact h.2.elim
  subst hv
  rw [lv_wide]
  refine CallsIn.mono (callsIn_wide.2 (Tryd.tz_calls x hx w (tab_at hs.tab))) ?_
  rintro e w' ⟨rfl, rfl⟩
  exact ⟨_, _, s, ρ, rfl, ⟨rfl, rfl⟩, hs, vr_flat rfl, Stp.refl _ _ _⟩
end Go.Proofs
