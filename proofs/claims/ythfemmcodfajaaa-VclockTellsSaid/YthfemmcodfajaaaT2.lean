/- The contract of wide. -/
import Derived.Test.YthfemmcodfajaaaT1
set_option linter.unusedVariables false
set_option linter.unusedSimpArgs false
open Go Go.Sv
attribute [local irreducible] Go.Sv.WJ Go.Sv.LJ Go.Sv.OpJ Go.Sv.FnC Go.Sv.QJ Go.Sv.CJ
namespace Go.Proofs.T1

def wideL (c : List Int) (n : Int) : List Int := c ++ List.replicate (n.toNat - c.length) 0

theorem wide_c (c : List Int) (n : Int) (hc : c.length ≤ 1000000000) (hn : n ≤ 1000000) : FnA Try.prog 26 [.d (ints c), iv n] 1 ((wideL c n).map ic) := by
  refine FnC.of_wj 16 Try.func26 rfl rfl (by simp) fun w H => ?_
  repeat (first | refine WJ.seq ?_ | refine WJ.region ?_ | refine LJ.done ?_ | refine LJ.no rfl rfl rfl rfl rfl ?_ | ((first | apply LJ.q (hg := rfl) (hN := rfl) | apply LJ.qy (hg := rfl) (hd := rfl) (hb := rfl) (hN := rfl)); (first | exact O.move rfl | exact O.assign rfl | exact O.pick rfl rfl | exact O.bin rfl rfl (fun _ => rfl) rfl | exact O.len rfl rfl rfl | exact O.un rfl (fun _ => rfl) rfl | exact O.extract rfl rfl | exact O.load1 rfl rfl rfl (fun _ => rfl) | exact O.loadP1 rfl rfl (fun _ => rfl) | exact O.fieldB rfl rfl rfl (fun _ => rfl) rfl | exact O.fieldP rfl rfl rfl (fun _ => rfl) rfl | exact O.loadN rfl rfl (fun _ => rfl) (fun _ => rfl) (by decide) | exact O.loadPN rfl (fun _ => rfl) (fun _ => rfl) (by decide) | exact O.nilB rfl | exact O.nilP rfl | exact O.conv rfl (fun _ => rfl) rfl)))
  refine LJ.op rfl (E.callA 0 (Clone_c c hc) (fun _ _ => rfl) rfl rfl (by simp) rfl ?_)
  repeat (first | refine WJ.seq ?_ | refine WJ.region ?_ | refine LJ.done ?_ | refine LJ.no rfl rfl rfl rfl rfl ?_ | ((first | apply LJ.q (hg := rfl) (hN := rfl) | apply LJ.qy (hg := rfl) (hd := rfl) (hb := rfl) (hN := rfl)); (first | exact O.move rfl | exact O.assign rfl | exact O.pick rfl rfl | exact O.bin rfl rfl (fun _ => rfl) rfl | exact O.len rfl rfl rfl | exact O.un rfl (fun _ => rfl) rfl | exact O.extract rfl rfl | exact O.load1 rfl rfl rfl (fun _ => rfl) | exact O.loadP1 rfl rfl (fun _ => rfl) | exact O.fieldB rfl rfl rfl (fun _ => rfl) rfl | exact O.fieldP rfl rfl rfl (fun _ => rfl) rfl | exact O.loadN rfl rfl (fun _ => rfl) (fun _ => rfl) (by decide) | exact O.loadPN rfl (fun _ => rfl) (fun _ => rfl) (by decide) | exact O.nilB rfl | exact O.nilP rfl | exact O.conv rfl (fun _ => rfl) rfl)))
  refine WJ.block ?_
  refine WJ.loopW (V := Nat) (fun k => [(1, iv n), (5, .arr 0 1 (c.length + k))]) (fun k => [(0, .arr 1 ((c ++ List.replicate k 0).map ic))]) (fun k => n.toNat - c.length - k) (fun k => k ≤ n.toNat - c.length) 0 (Nat.zero_le _)
    (Wk.cons rfl (Wk.cons (by show some (AV.arr 0 1 (c.map ic).length) = _; simp) (Wk.nil _))) (Wk.cons (by show some (Ent.arr 1 (c.map ic)) = _; simp) (Wk.nil _)) ?_
  intro k hk
  repeat (first | refine WJ.seq ?_ | refine WJ.region ?_ | refine LJ.done ?_ | refine LJ.no rfl rfl rfl rfl rfl ?_ | ((first | apply LJ.q (hg := rfl) (hN := rfl) | apply LJ.qy (hg := rfl) (hd := rfl) (hb := rfl) (hN := rfl)); (first | exact O.move rfl | exact O.assign rfl | exact O.pick rfl rfl | exact O.bin rfl rfl (fun _ => rfl) rfl | exact O.len rfl rfl rfl | exact O.un rfl (fun _ => rfl) rfl | exact O.extract rfl rfl | exact O.load1 rfl rfl rfl (fun _ => rfl) | exact O.loadP1 rfl rfl (fun _ => rfl) | exact O.fieldB rfl rfl rfl (fun _ => rfl) rfl | exact O.fieldP rfl rfl rfl (fun _ => rfl) rfl | exact O.loadN rfl rfl (fun _ => rfl) (fun _ => rfl) (by decide) | exact O.loadPN rfl (fun _ => rfl) (fun _ => rfl) (by decide) | exact O.nilB rfl | exact O.nilP rfl | exact O.conv rfl (fun _ => rfl) rfl)))
  refine WJ.cond rfl (fun h => ?_) (fun h => ?_)
  · have hlt : c.length + k < n := by simpa using h
    refine WJ.skip ?_
    repeat (first | refine WJ.seq ?_ | refine WJ.region ?_ | refine LJ.done ?_ | refine LJ.no rfl rfl rfl rfl rfl ?_ | ((first | apply LJ.q (hg := rfl) (hN := rfl) | apply LJ.qy (hg := rfl) (hd := rfl) (hb := rfl) (hN := rfl)); (first | exact O.move rfl | exact O.assign rfl | exact O.pick rfl rfl | exact O.bin rfl rfl (fun _ => rfl) rfl | exact O.len rfl rfl rfl | exact O.un rfl (fun _ => rfl) rfl | exact O.extract rfl rfl | exact O.load1 rfl rfl rfl (fun _ => rfl) | exact O.loadP1 rfl rfl (fun _ => rfl) | exact O.fieldB rfl rfl rfl (fun _ => rfl) rfl | exact O.fieldP rfl rfl rfl (fun _ => rfl) rfl | exact O.loadN rfl rfl (fun _ => rfl) (fun _ => rfl) (by decide) | exact O.loadPN rfl (fun _ => rfl) (fun _ => rfl) (by decide) | exact O.nilB rfl | exact O.nilP rfl | exact O.conv rfl (fun _ => rfl) rfl)))
    refine WJ.block ?_
    repeat (first | refine WJ.seq ?_ | refine WJ.region ?_ | refine LJ.done ?_ | refine LJ.no rfl rfl rfl rfl rfl ?_ | ((first | apply LJ.q (hg := rfl) (hN := rfl) | apply LJ.qy (hg := rfl) (hd := rfl) (hb := rfl) (hN := rfl)); (first | exact O.move rfl | exact O.assign rfl | exact O.pick rfl rfl | exact O.bin rfl rfl (fun _ => rfl) rfl | exact O.len rfl rfl rfl | exact O.un rfl (fun _ => rfl) rfl | exact O.extract rfl rfl | exact O.load1 rfl rfl rfl (fun _ => rfl) | exact O.loadP1 rfl rfl (fun _ => rfl) | exact O.fieldB rfl rfl rfl (fun _ => rfl) rfl | exact O.fieldP rfl rfl rfl (fun _ => rfl) rfl | exact O.loadN rfl rfl (fun _ => rfl) (fun _ => rfl) (by decide) | exact O.loadPN rfl (fun _ => rfl) (fun _ => rfl) (by decide) | exact O.nilB rfl | exact O.nilP rfl | exact O.conv rfl (fun _ => rfl) rfl)))
    (first | apply LJ.q (hg := rfl) (hN := rfl) | apply LJ.qy (hg := rfl) (hd := rfl) (hb := rfl) (hN := rfl))
    · exact O.mkD (z := .int .i64 0) (k := 1) rfl rfl (fun _ => rfl) (fun _ => rfl) (by decide) (by decide) rfl rfl rfl
    refine LJ.op rfl (E.appendA (bytes := 8) 99 rfl rfl rfl rfl (by simp) rfl rfl rfl (fun _ => rfl) (fun _ => rfl) rfl (fun _ => rfl) (by decide) (by simp [chunk]; omega) (by simp) rfl ?_)
    refine LJ.shift (SJ.back (by simp) (by simp) (by decide) rfl) ?_
    repeat (first | refine WJ.seq ?_ | refine WJ.region ?_ | refine LJ.done ?_ | refine LJ.no rfl rfl rfl rfl rfl ?_ | ((first | apply LJ.q (hg := rfl) (hN := rfl) | apply LJ.qy (hg := rfl) (hd := rfl) (hb := rfl) (hN := rfl)); (first | exact O.move rfl | exact O.assign rfl | exact O.pick rfl rfl | exact O.bin rfl rfl (fun _ => rfl) rfl | exact O.len rfl rfl rfl | exact O.un rfl (fun _ => rfl) rfl | exact O.extract rfl rfl | exact O.load1 rfl rfl rfl (fun _ => rfl) | exact O.loadP1 rfl rfl (fun _ => rfl) | exact O.fieldB rfl rfl rfl (fun _ => rfl) rfl | exact O.fieldP rfl rfl rfl (fun _ => rfl) rfl | exact O.loadN rfl rfl (fun _ => rfl) (fun _ => rfl) (by decide) | exact O.loadPN rfl (fun _ => rfl) (fun _ => rfl) (by decide) | exact O.nilB rfl | exact O.nilP rfl | exact O.conv rfl (fun _ => rfl) rfl)))
    refine ⟨k + 1, by omega, by omega, Wk.cons rfl (Wk.cons rfl (Wk.nil _)), Wk.cons ?_ (Wk.nil _)⟩
    show some (Ent.arr 1 (_ ++ _)) = _
    simp [List.replicate_succ', chunk, ic]
  · have hge : n ≤ c.length + k := by simpa using h
    refine WJ.exit ?_
    show WJ _ _ _ _ _
    repeat (first | refine WJ.seq ?_ | refine WJ.region ?_ | refine LJ.done ?_ | refine LJ.no rfl rfl rfl rfl rfl ?_ | ((first | apply LJ.q (hg := rfl) (hN := rfl) | apply LJ.qy (hg := rfl) (hd := rfl) (hb := rfl) (hN := rfl)); (first | exact O.move rfl | exact O.assign rfl | exact O.pick rfl rfl | exact O.bin rfl rfl (fun _ => rfl) rfl | exact O.len rfl rfl rfl | exact O.un rfl (fun _ => rfl) rfl | exact O.extract rfl rfl | exact O.load1 rfl rfl rfl (fun _ => rfl) | exact O.loadP1 rfl rfl (fun _ => rfl) | exact O.fieldB rfl rfl rfl (fun _ => rfl) rfl | exact O.fieldP rfl rfl rfl (fun _ => rfl) rfl | exact O.loadN rfl rfl (fun _ => rfl) (fun _ => rfl) (by decide) | exact O.loadPN rfl (fun _ => rfl) (fun _ => rfl) (by decide) | exact O.nilB rfl | exact O.nilP rfl | exact O.conv rfl (fun _ => rfl) rfl)))
    obtain rfl : k = n.toNat - c.length := by omega
    refine WJ.ret ⟨_, ret_tmp rfl rfl, 0, ?_, ?_⟩
    · simp [wideL]
    · rfl
end Go.Proofs.T1
