/- Any cell is the same as itself. No program in sight. -/
import Derived.Test.YthhpelmjnmlgjaaGreatDoorGdAsks
set_option linter.unusedVariables false
set_option linter.unusedSimpArgs false
namespace Go.Proofs.Gd
open Go Go.Awp
theorem E18 (c : Cell) (h : SmC c) : Ev (fun k => F18 k c c) true := by
  have hs := h.shards
  refine Ev.cond (fun hc => by rw [eqI_self, eqI_self, qStamp_self] at hc; cases hc) fun _ => loop_out (n := c.mShards.length) ?_ (fun i hi ih => ?_) (Ev.of fun _ => rfl)
  · refine Ev.from 1 fun k => ?_
    show F18_l1 c c (k + 1) _ = _
    rw [F18_l1, ltI_nat, decide_eq_false (Nat.lt_irrefl _)]; rfl
  · refine Ev.succ (fun k => by rw [F18_l1]) ?_
    rw [ltI_nat, decide_eq_true hi, inR_mk hi, i64z (by omega), rd_nat _ _ hi]
    exact Ev.bind (E26 _ (h.each _ (List.getElem_mem hi))) ih

end Go.Proofs.Gd
