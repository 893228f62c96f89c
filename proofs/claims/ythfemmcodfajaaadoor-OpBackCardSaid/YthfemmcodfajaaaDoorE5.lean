/- Operations: the reference's check. -/
import Derived.Test.YthfemmcodfajaaaDoorE4
set_option linter.unusedVariables false
set_option linter.unusedSimpArgs false
open Go Go.Gv
attribute [local irreducible] Go.Gv.WJ Go.Gv.OpJ Go.Gv.QJ Go.Gv.Spl Go.Gv.Req Go.Gv.IdxP Go.Gv.RegP Go.Gv.FinP Go.Gv.QuietP Go.Gv.CellP Go.Gv.CellsP Go.Gv.ArrP Go.Gv.ArrsP Go.Gv.DropP Go.Gv.ByteP Go.Gv.StoreP
set_option maxRecDepth 100000
namespace Go.Proofs.E
set_option maxHeartbeats 4000000 in
theorem RCheck5_c (o : OP) : Cv 23 [opv o] (iv (checkO o)) := by
  refine Ct.of_vc Tryd.f23 Tryd.func23 rfl rfl fun w H B g0 => ?_
  (repeat' (first | refine Spl.t rfl ?_ | refine Spl.f rfl ?_ | refine Spl.of (fun h => ?_) (fun h => ?_) | refine OpJ.callV (May_c o.i) (fun _ _ => rfl) rfl rfl rfl ?_ | refine OpJ.callV (May_c o.a) (fun _ _ => rfl) rfl rfl rfl ?_ | refine OpJ.qu (O.eqS (r := noneI o.a) rfl rfl rfl rfl rfl (by show Tryd.prog.stoodInHeld 26 = false; kernel_rfl) (by show Tryd.prog.eqGuardType Tryd.prog.depth 26 = false; kernel_rfl) rfl (by simp [eqRes, veq, noneI]; rfl)) rfl ?_))
  all_goals refine FinP.open rfl (congrArg iv ?_)
  all_goals unfold checkO
  all_goals (first | (simp_all; done) | (simp_all; omega))
end Go.Proofs.E
