/- Contracts of the functions on ids: what each call returns, for every id. -/
import Derived.Test.YthfemmcodfajaaaDoorFwN
import Derived.Test.YthfemmcodfajaaaDoorChecked
set_option linter.unusedVariables false
set_option linter.unusedSimpArgs false
open Go Go.Sv
attribute [local irreducible] Go.Sv.WJ Go.Sv.LJ Go.Sv.OpJ Go.Sv.FnC Go.Sv.QJ Go.Sv.CJ Go.Sv.FnL
set_option maxRecDepth 100000
namespace Go.Proofs.D
abbrev iv (n : Int) : AV := .d (.v (.int .i64 n))
abbrev bv (b : Bool) : AV := .d (.v (.bool b))
abbrev idv (c s : Int) : AV := .agg [iv c, iv s]

def mayI (c s : Int) : Bool := decide (1 ≤ c ∧ c ≤ 1048576 ∧ 1 ≤ s ∧ s ≤ 1000)
def lessI (c s d u : Int) : Bool := decide (c < d ∨ c = d ∧ s < u)

theorem Of_c (c s : Int) : FnC Tryd.prog 12 [idv c s] (fun r _ => r = idv c s) := by
  refine FnC.of_wj 4 Tryd.func12 rfl rfl (by simp) fun w H => ?_
  (repeat' (first | refine WJ.seq ?_ | refine WJ.region ?_ | refine LJ.done ?_ | refine LJ.no rfl rfl rfl rfl rfl ?_ | refine LJ.noU rfl rfl rfl rfl ?_ | ((first | apply LJ.q (hg := rfl) (hN := rfl) | apply LJ.qy (hg := rfl) (hd := rfl) (hb := rfl) (hN := rfl)); (first | exact O.move rfl | exact O.assign rfl | exact O.pick rfl rfl | exact O.bin rfl rfl (fun _ => rfl) rfl | exact O.len rfl rfl rfl | exact O.un rfl (fun _ => rfl) rfl | exact O.extract rfl rfl | exact O.load1 rfl rfl rfl (fun _ => rfl) | exact O.loadP1 rfl rfl (fun _ => rfl) | exact O.fieldB rfl rfl rfl (fun _ => rfl) rfl | exact O.fieldP rfl rfl rfl (fun _ => rfl) rfl | exact O.loadC rfl rfl (fun _ => rfl) (fun _ => rfl) rfl rfl | exact O.loadPC rfl (fun _ => rfl) (fun _ => rfl) rfl rfl | exact O.loadN rfl rfl (fun _ => rfl) (fun _ => rfl) (by decide) | exact O.loadPN rfl (fun _ => rfl) (fun _ => rfl) (by decide) | exact O.nilB rfl | exact O.nilP rfl | exact O.conv rfl (fun _ => rfl) rfl)) | (refine LJ.op rfl (O.boxD rfl rfl rfl (by simp) rfl rfl ?_)) | (refine LJ.op rfl (O.allocD rfl (fun _ => rfl) rfl (by simp) rfl rfl ?_)) | (refine LJ.op rfl (O.storeC rfl rfl rfl rfl rfl (fun _ => rfl) rfl rfl ?_)) | refine WJ.cond (b := true) rfl (fun _ => ?_) (fun h => nomatch h) | refine WJ.cond (b := false) rfl (fun h => nomatch h) (fun _ => ?_) | refine WJ.skip ?_ | refine LJ.splitG rfl rfl rfl (fun _ => ?_) (fun _ => ?_) | refine WJ.cond rfl (fun _ => ?_) (fun _ => ?_)))
  exact WJ.ret ⟨_, ret_cell (n := 2) rfl rfl rfl (fun _ => rfl) (fun _ => rfl) rfl, rfl⟩

theorem Check_c (c s : Int) : FnC Tryd.prog 14 [idv c s] (fun r _ => r = iv (if mayI c s = true then 0 else 2)) := by
  refine FnC.of_wj 21 Tryd.func14 rfl rfl (by simp) fun w H => ?_
  (repeat' (first | refine WJ.seq ?_ | refine WJ.region ?_ | refine LJ.done ?_ | refine LJ.no rfl rfl rfl rfl rfl ?_ | refine LJ.noU rfl rfl rfl rfl ?_ | ((first | apply LJ.q (hg := rfl) (hN := rfl) | apply LJ.qy (hg := rfl) (hd := rfl) (hb := rfl) (hN := rfl)); (first | exact O.move rfl | exact O.assign rfl | exact O.pick rfl rfl | exact O.bin rfl rfl (fun _ => rfl) rfl | exact O.len rfl rfl rfl | exact O.un rfl (fun _ => rfl) rfl | exact O.extract rfl rfl | exact O.load1 rfl rfl rfl (fun _ => rfl) | exact O.loadP1 rfl rfl (fun _ => rfl) | exact O.fieldB rfl rfl rfl (fun _ => rfl) rfl | exact O.fieldP rfl rfl rfl (fun _ => rfl) rfl | exact O.loadC rfl rfl (fun _ => rfl) (fun _ => rfl) rfl rfl | exact O.loadPC rfl (fun _ => rfl) (fun _ => rfl) rfl rfl | exact O.loadN rfl rfl (fun _ => rfl) (fun _ => rfl) (by decide) | exact O.loadPN rfl (fun _ => rfl) (fun _ => rfl) (by decide) | exact O.nilB rfl | exact O.nilP rfl | exact O.conv rfl (fun _ => rfl) rfl)) | (refine LJ.op rfl (O.boxD rfl rfl rfl (by simp) rfl rfl ?_)) | (refine LJ.op rfl (O.allocD rfl (fun _ => rfl) rfl (by simp) rfl rfl ?_)) | (refine LJ.op rfl (O.storeC rfl rfl rfl rfl rfl (fun _ => rfl) rfl rfl ?_)) | refine WJ.cond (b := true) rfl (fun _ => ?_) (fun h => nomatch h) | refine WJ.cond (b := false) rfl (fun h => nomatch h) (fun _ => ?_) | refine WJ.skip ?_ | refine LJ.splitG rfl rfl rfl (fun _ => ?_) (fun _ => ?_) | refine WJ.cond rfl (fun _ => ?_) (fun _ => ?_)))
  all_goals refine WJ.ret ⟨_, ret_tmp rfl rfl, congrArg (fun n => AV.d (D.v (Value.int .i64 n))) ?_⟩
  all_goals unfold mayI
  all_goals simp_all
  all_goals omega

theorem May_c (c s : Int) : FnC Tryd.prog 15 [idv c s] (fun r _ => r = bv (mayI c s)) := by
  refine FnC.of_wj 21 Tryd.func15 rfl rfl (by simp) fun w H => ?_
  (repeat' (first | refine WJ.seq ?_ | refine WJ.region ?_ | refine LJ.done ?_ | refine LJ.no rfl rfl rfl rfl rfl ?_ | refine LJ.noU rfl rfl rfl rfl ?_ | ((first | apply LJ.q (hg := rfl) (hN := rfl) | apply LJ.qy (hg := rfl) (hd := rfl) (hb := rfl) (hN := rfl)); (first | exact O.move rfl | exact O.assign rfl | exact O.pick rfl rfl | exact O.bin rfl rfl (fun _ => rfl) rfl | exact O.len rfl rfl rfl | exact O.un rfl (fun _ => rfl) rfl | exact O.extract rfl rfl | exact O.load1 rfl rfl rfl (fun _ => rfl) | exact O.loadP1 rfl rfl (fun _ => rfl) | exact O.fieldB rfl rfl rfl (fun _ => rfl) rfl | exact O.fieldP rfl rfl rfl (fun _ => rfl) rfl | exact O.loadC rfl rfl (fun _ => rfl) (fun _ => rfl) rfl rfl | exact O.loadPC rfl (fun _ => rfl) (fun _ => rfl) rfl rfl | exact O.loadN rfl rfl (fun _ => rfl) (fun _ => rfl) (by decide) | exact O.loadPN rfl (fun _ => rfl) (fun _ => rfl) (by decide) | exact O.nilB rfl | exact O.nilP rfl | exact O.conv rfl (fun _ => rfl) rfl)) | (refine LJ.op rfl (O.boxD rfl rfl rfl (by simp) rfl rfl ?_)) | (refine LJ.op rfl (O.allocD rfl (fun _ => rfl) rfl (by simp) rfl rfl ?_)) | (refine LJ.op rfl (O.storeC rfl rfl rfl rfl rfl (fun _ => rfl) rfl rfl ?_)) | refine WJ.cond (b := true) rfl (fun _ => ?_) (fun h => nomatch h) | refine WJ.cond (b := false) rfl (fun h => nomatch h) (fun _ => ?_) | refine WJ.skip ?_ | refine LJ.splitG rfl rfl rfl (fun _ => ?_) (fun _ => ?_) | refine WJ.cond rfl (fun _ => ?_) (fun _ => ?_)))
  all_goals refine WJ.ret ⟨_, ret_tmp rfl rfl, congrArg (fun b => AV.d (D.v (Value.bool b))) ?_⟩
  all_goals unfold mayI
  all_goals simp_all
  all_goals omega

theorem Less_c (c s d u : Int) : FnC Tryd.prog 16 [idv c s, idv d u] (fun r _ => r = bv (lessI c s d u)) := by
  refine FnC.of_wj 20 Tryd.func16 rfl rfl (by simp) fun w H => ?_
  (repeat' (first | refine WJ.seq ?_ | refine WJ.region ?_ | refine LJ.done ?_ | refine LJ.no rfl rfl rfl rfl rfl ?_ | refine LJ.noU rfl rfl rfl rfl ?_ | ((first | apply LJ.q (hg := rfl) (hN := rfl) | apply LJ.qy (hg := rfl) (hd := rfl) (hb := rfl) (hN := rfl)); (first | exact O.move rfl | exact O.assign rfl | exact O.pick rfl rfl | exact O.bin rfl rfl (fun _ => rfl) rfl | exact O.len rfl rfl rfl | exact O.un rfl (fun _ => rfl) rfl | exact O.extract rfl rfl | exact O.load1 rfl rfl rfl (fun _ => rfl) | exact O.loadP1 rfl rfl (fun _ => rfl) | exact O.fieldB rfl rfl rfl (fun _ => rfl) rfl | exact O.fieldP rfl rfl rfl (fun _ => rfl) rfl | exact O.loadC rfl rfl (fun _ => rfl) (fun _ => rfl) rfl rfl | exact O.loadPC rfl (fun _ => rfl) (fun _ => rfl) rfl rfl | exact O.loadN rfl rfl (fun _ => rfl) (fun _ => rfl) (by decide) | exact O.loadPN rfl (fun _ => rfl) (fun _ => rfl) (by decide) | exact O.nilB rfl | exact O.nilP rfl | exact O.conv rfl (fun _ => rfl) rfl)) | (refine LJ.op rfl (O.boxD rfl rfl rfl (by simp) rfl rfl ?_)) | (refine LJ.op rfl (O.allocD rfl (fun _ => rfl) rfl (by simp) rfl rfl ?_)) | (refine LJ.op rfl (O.storeC rfl rfl rfl rfl rfl (fun _ => rfl) rfl rfl ?_)) | refine WJ.cond (b := true) rfl (fun _ => ?_) (fun h => nomatch h) | refine WJ.cond (b := false) rfl (fun h => nomatch h) (fun _ => ?_) | refine WJ.skip ?_ | refine LJ.splitG rfl rfl rfl (fun _ => ?_) (fun _ => ?_) | refine WJ.cond rfl (fun _ => ?_) (fun _ => ?_)))
  all_goals refine WJ.ret ⟨_, ret_tmp rfl rfl, congrArg (fun b => AV.d (D.v (Value.bool b))) ?_⟩
  all_goals unfold lessI
  all_goals simp_all
  all_goals omega

theorem RLess_c (c s d u : Int) : FnC Tryd.prog 13 [idv c s, idv d u] (fun r _ => r = bv (lessI c s d u)) := by
  refine FnC.of_wj 24 Tryd.func13 rfl rfl (by simp) fun w H => ?_
  (repeat' (first | refine WJ.seq ?_ | refine WJ.region ?_ | refine LJ.done ?_ | refine LJ.no rfl rfl rfl rfl rfl ?_ | refine LJ.noU rfl rfl rfl rfl ?_ | ((first | apply LJ.q (hg := rfl) (hN := rfl) | apply LJ.qy (hg := rfl) (hd := rfl) (hb := rfl) (hN := rfl)); (first | exact O.move rfl | exact O.assign rfl | exact O.pick rfl rfl | exact O.bin rfl rfl (fun _ => rfl) rfl | exact O.len rfl rfl rfl | exact O.un rfl (fun _ => rfl) rfl | exact O.extract rfl rfl | exact O.load1 rfl rfl rfl (fun _ => rfl) | exact O.loadP1 rfl rfl (fun _ => rfl) | exact O.fieldB rfl rfl rfl (fun _ => rfl) rfl | exact O.fieldP rfl rfl rfl (fun _ => rfl) rfl | exact O.loadC rfl rfl (fun _ => rfl) (fun _ => rfl) rfl rfl | exact O.loadPC rfl (fun _ => rfl) (fun _ => rfl) rfl rfl | exact O.loadN rfl rfl (fun _ => rfl) (fun _ => rfl) (by decide) | exact O.loadPN rfl (fun _ => rfl) (fun _ => rfl) (by decide) | exact O.nilB rfl | exact O.nilP rfl | exact O.conv rfl (fun _ => rfl) rfl)) | (refine LJ.op rfl (O.boxD rfl rfl rfl (by simp) rfl rfl ?_)) | (refine LJ.op rfl (O.allocD rfl (fun _ => rfl) rfl (by simp) rfl rfl ?_)) | (refine LJ.op rfl (O.storeC rfl rfl rfl rfl rfl (fun _ => rfl) rfl rfl ?_)) | refine WJ.cond (b := true) rfl (fun _ => ?_) (fun h => nomatch h) | refine WJ.cond (b := false) rfl (fun h => nomatch h) (fun _ => ?_) | refine WJ.skip ?_ | refine LJ.splitG rfl rfl rfl (fun _ => ?_) (fun _ => ?_) | refine WJ.cond rfl (fun _ => ?_) (fun _ => ?_)))
  all_goals refine WJ.ret ⟨_, ret_tmp rfl rfl, congrArg (fun b => AV.d (D.v (Value.bool b))) ?_⟩
  all_goals unfold lessI
  all_goals simp_all
  all_goals omega
end Go.Proofs.D
