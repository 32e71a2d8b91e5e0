/- Lemmas on the way to the statement of this claim; no conditions. -/
import Derived.Test.YtjidblndipcofaaDoorA13
import Derived.Test.YtjidblndipcofaaDoorA24
namespace Go.V
open Go Go.RowKit
def vopb (P : Program) (o : Oper) (e : Env) (s : Sg) (K : V → Sg → Prop) : Prop :=
  match o.op with
  | .buildSlice t len parts => match slInfo P t with
    | some (el, k, _, zs) => match vparts e parts.toList with
      | some ps => match gfill (fun i => some (i, 1)) (repl (zs.map fun z => V.t (.v z)) len) ps with
        | some cs => k = 1 ∧ len ≤ 1000000 ∧ 0 < len ∧ K (.loc s.next 0 len) (s.add (.box el cs))
        | none => False
      | none => False
    | none => False
  | .call c => match c.callee with
    | .builtin .append => match c.args.toList, c.argTypes.toList with
      | [x, y], [t, t'] => match slInfo P t with
        | some (el, k, bytes, _) => match dstB s el (ev e x) with
          | some (olds, s1) => match srcB s (ev e y) with
            | some news => t' = t ∧ k = 1 ∧ (olds.length + news.length) * bytes ≤ 100000000000000 ∧ olds.length + news.length ≤ 100000000000000 ∧ K (.loc s.next 0 (olds.length + news.length)) (s1.add (.box el (olds ++ news)))
            | none => False
          | none => False
        | none => False
      | _, _ => False
    | _ => vopx false P o e s K
  | _ => vopx false P o e s K
theorem vopb_sound {P : Program} {o : Oper} {e : Env} {s : Sg} {K : V → Sg → Prop} (h : vopb P o e s K) : OpG P o e s K := by
  unfold vopb at h
  split at h
  · rename_i t len parts ho
    split at h
    · rename_i el k bytes zs hi
      obtain ⟨hu, hk, hb, hz, hk0, hzl⟩ := slInfo_some hi
      split at h
      · rename_i ps hps
        split at h
        · rename_i cs hcs
          obtain ⟨rfl, h1, h2, h⟩ := h
          exact (sound_buildSliceB ho hu hk hz hzl h1 h2 hps hcs h).opg
        · exact h.elim
      · exact h.elim
    · exact h.elim
  · rename_i c ho
    split at h
    · rename_i hc
      split at h
      · rename_i x y t t' ha ht
        split at h
        · rename_i el k bytes zs hi
          obtain ⟨hu, hk, hb, hz, hk0, hzl⟩ := slInfo_some hi
          split at h
          · rename_i olds s1 hd
            split at h
            · rename_i news hs
              obtain ⟨rfl, rfl, h1, h2, h⟩ := h
              exact (sound_appendB ho hc (by apply Array.toList_inj.1; rw [ha]) (by apply Array.toList_inj.1; rw [ht]) hu hk hb hz hzl hd hs h1 h2 h).opg
            · exact h.elim
          · exact h.elim
        · exact h.elim
      · exact h.elim
    · exact vopx_sound h
  · exact vopx_sound h
section
variable {P : Program} {ops : Array Oper} {o : Oper} {e : Env} {s : Sg} {Q : Exit → Env → Sg → Prop}
end
end Go.V
