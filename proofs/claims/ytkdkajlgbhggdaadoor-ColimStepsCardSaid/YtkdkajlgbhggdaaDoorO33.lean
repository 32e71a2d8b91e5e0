/- Lemmas on the way to the statement of this claim; no conditions. -/
import Derived.Test.YtkdkajlgbhggdaaDoorO31
import Derived.Test.YtkdkajlgbhggdaaDoorO32
namespace Go.V
open Go Go.RowKit
section
variable {P : Program} {o : Oper} {e : Env} {s : Sg} {K : V → Sg → Prop}
theorem x3q {md : Nat} {ops : Array Oper} {Q : Exit → Env → Sg → Prop} (rest : List Nat) : ∀ (l : List Oper) (sc : List CallS) (i : Nat) {e : Env} {s : Sg}, (∀ j o, l[j]? = some o → ops[i + j]? = some o) → wocs md P ops l sc (fun e s => VL P ops Q rest e s) e s → VL P ops Q (List.range' i l.length ++ rest) e s
 | [], _, i, e, s, _, h => by simpa [wocs] using h
 | o :: l, sc, i, e, s, hl, h => by
  have ho : ops[i]? = some o := hl 0 o rfl
  intro r B M ρ a w QQ hs hk
  rw [List.length_cons, List.range'_succ, List.cons_append, wpOpsIn_cons]
  refine s8z ho (s4z h) hs fun a' w' v s' ρ' hK h1 h2 => ?_
  obtain ⟨sc', hK⟩ := hK
  exact x3q rest l sc' (i + 1) (fun j o' hj => by rw [Nat.add_assoc, Nat.add_comm 1 j]; exact hl (j + 1) o' (by simpa using hj)) hK r B M ρ' a' w' QQ h1 fun x e2 s2 ρ2 a2 w2 q2 hs2 hst2 => hk x e2 s2 ρ2 a2 w2 q2 hs2 (h2.trans hst2)
end
end Go.V
