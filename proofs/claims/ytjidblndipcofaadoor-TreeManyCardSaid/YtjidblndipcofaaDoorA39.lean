/- Lemmas on the way to the statement of this claim; no conditions. -/
import Derived.Laws.BytesString
import Derived.Laws.BitsLemmas
import Derived.Test.YtjidblndipcofaaDoorA32
open Go Go.V
namespace Go.V
variable {P : Program} {ops : Array Oper} {Q : Exit → Env → Sg → Prop} {e : Env} {s : Sg} {o : Oper} {K : V → Sg → Prop}
def bStr (n : Int) : ByteArray := ByteArray.empty.push (UInt8.ofNat n.toNat)
theorem sound_cstr {t t' el : TypeId} {x : Operand} (ho : o.op = .convert t t' x) (h1 : P.underlying t = some (.slice el)) (h2 : P.underlying el = some (.int .u8)) (h3 : P.underlying t' = some .string) {n : Int}
    (hx : ev e x = .t (.sl 1 [.v (.int .u8 n)])) (h : K (.t (.v (.string (bStr n)))) s) : Sound P o e s K := by
  refine sound_val _ h fun B ρ a w hs he => ⟨.string (bStr n), ?_, vr_flat rfl⟩
  have hv := ev_sound he x
  rw [hx] at hv
  have hv : RepT w (Fr s ρ) (.sl 1 [.v (.int .u8 n)]) (a.eval x) := hv
  rw [RepT] at hv
  obtain ⟨b, len, cap, e1, _, hl, _, _, hc⟩ := hv
  rcases hc with hc | ⟨bl, off, arr, ty, fr, rfl, _, hb, hr⟩
  · cases hc
  have hlen : len = 1 := by simpa using hl.symm
  subst hlen
  rw [RepTs] at hr
  obtain ⟨⟨y, hy, ry⟩, _⟩ := hr
  obtain rfl := repV ry
  have hload : (loadCells ⟨bl, off, none⟩ 1).run P w = .ok ([n].map (Value.int .u8)).toArray w := by
    have hc : w.cell? ⟨bl, off, none⟩ = some (.int .u8 n) := by rw [cell_of hb]; exact hy
    have := run_loadCells_list (P := P) w ⟨bl, off, none⟩ [Value.int .u8 n] (fun j v hj => by
      cases j with
      | zero => simp at hj; subst hj; rw [addr_add]; simpa using hc
      | succ j => simp at hj)
    simpa using this
  have hrun := run_bytesToString (P := P) w ⟨bl, off, none⟩ 1 cap [n] hload
  have hconv := run_convert_bytes_string (P := P) w t t' el (some ⟨bl, off, none⟩) 1 cap h1 h2 h3
  rw [hrun] at hconv
  simp [execOp, ho, e1, hconv, bStr]
theorem add_u8 (t : TypeId) (x y : Operand) (a b : Int) (h0 : 0 ≤ a + b) (h1 : a + b < 256) : vbin P .add t x y (.int .u8 a) (.int .u8 b) = some (.int .u8 (a + b)) := by
  simp only [vbin, eqGuard, Go.binOp]
  show some (Value.int .u8 (IntKind.u8.wrap (a + b))) = _
  rw [wraps_u8 _ h0 h1]
end Go.V
