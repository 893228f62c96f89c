/- Contracts of small functions of the program: what each call returns, for every input in range. -/
import Derived.Test.YthfemmcodfajaaaFwK
import Derived.Test.YthfemmcodfajaaaChecked
set_option linter.unusedVariables false
set_option linter.unusedSimpArgs false
open Go Go.Sv
attribute [local irreducible] Go.Sv.WJ Go.Sv.LJ Go.Sv.OpJ Go.Sv.FnC Go.Sv.QJ Go.Sv.CJ
namespace Go.Proofs.T1
abbrev iv (n : Int) : AV := .d (.v (.int .i64 n))
abbrev bv (b : Bool) : AV := .d (.v (.bool b))
def ic (x : Int) : List D := [.v (.int .i64 x)]
abbrev ints (xs : List Int) : D := .sl 1 (xs.map ic)
def at_ (c : List Int) (i : Int) : Int := if 0 ≤ i then c.getD i.toNat 0 else 0
theorem get_map {α β : Type} {l : List α} {f : α → β} {j : Nat} {a : α} (h : l[j]? = some a) : (l.map f)[j]? = some (f a) := by simp [h]

theorem At_c (c : List Int) (i : Int) : FnC Try.prog 27 [.d (ints c), iv i] (fun r _ => r = iv (at_ c i)) := by
  refine FnC.of_wj 17 Try.func27 rfl rfl (by simp) fun w H => ?_
  repeat (first | refine WJ.seq ?_ | refine WJ.region ?_ | refine LJ.done ?_ | refine LJ.no rfl rfl rfl rfl rfl ?_ | ((first | apply LJ.q (hg := rfl) (hN := rfl) | apply LJ.qy (hg := rfl) (hd := rfl) (hb := rfl) (hN := rfl)); (first | exact O.move rfl | exact O.assign rfl | exact O.pick rfl rfl | exact O.bin rfl rfl (fun _ => rfl) rfl | exact O.len rfl rfl rfl | exact O.un rfl (fun _ => rfl) rfl | exact O.extract rfl rfl | exact O.load1 rfl rfl rfl (fun _ => rfl) | exact O.loadP1 rfl rfl (fun _ => rfl) | exact O.fieldB rfl rfl rfl (fun _ => rfl) rfl | exact O.fieldP rfl rfl rfl (fun _ => rfl) rfl | exact O.loadN rfl rfl (fun _ => rfl) (fun _ => rfl) (by decide) | exact O.loadPN rfl (fun _ => rfl) (fun _ => rfl) (by decide) | exact O.nilB rfl | exact O.nilP rfl | exact O.conv rfl (fun _ => rfl) rfl)))
  refine LJ.split 7 rfl ?_ ?_
  · intro h
    repeat (first | refine WJ.seq ?_ | refine WJ.region ?_ | refine LJ.done ?_ | refine LJ.no rfl rfl rfl rfl rfl ?_ | ((first | apply LJ.q (hg := rfl) (hN := rfl) | apply LJ.qy (hg := rfl) (hd := rfl) (hb := rfl) (hN := rfl)); (first | exact O.move rfl | exact O.assign rfl | exact O.pick rfl rfl | exact O.bin rfl rfl (fun _ => rfl) rfl | exact O.len rfl rfl rfl | exact O.un rfl (fun _ => rfl) rfl | exact O.extract rfl rfl | exact O.load1 rfl rfl rfl (fun _ => rfl) | exact O.loadP1 rfl rfl (fun _ => rfl) | exact O.fieldB rfl rfl rfl (fun _ => rfl) rfl | exact O.fieldP rfl rfl rfl (fun _ => rfl) rfl | exact O.loadN rfl rfl (fun _ => rfl) (fun _ => rfl) (by decide) | exact O.loadPN rfl (fun _ => rfl) (fun _ => rfl) (by decide) | exact O.nilB rfl | exact O.nilP rfl | exact O.conv rfl (fun _ => rfl) rfl)))
    refine WJ.cond rfl (fun _ => ?_) (fun h => by cases h)
    repeat (first | refine WJ.seq ?_ | refine WJ.region ?_ | refine LJ.done ?_ | refine LJ.no rfl rfl rfl rfl rfl ?_ | ((first | apply LJ.q (hg := rfl) (hN := rfl) | apply LJ.qy (hg := rfl) (hd := rfl) (hb := rfl) (hN := rfl)); (first | exact O.move rfl | exact O.assign rfl | exact O.pick rfl rfl | exact O.bin rfl rfl (fun _ => rfl) rfl | exact O.len rfl rfl rfl | exact O.un rfl (fun _ => rfl) rfl | exact O.extract rfl rfl | exact O.load1 rfl rfl rfl (fun _ => rfl) | exact O.loadP1 rfl rfl (fun _ => rfl) | exact O.fieldB rfl rfl rfl (fun _ => rfl) rfl | exact O.fieldP rfl rfl rfl (fun _ => rfl) rfl | exact O.loadN rfl rfl (fun _ => rfl) (fun _ => rfl) (by decide) | exact O.loadPN rfl (fun _ => rfl) (fun _ => rfl) (by decide) | exact O.nilB rfl | exact O.nilP rfl | exact O.conv rfl (fun _ => rfl) rfl)))
    refine WJ.ret ⟨_, ret_tmp rfl rfl, ?_⟩
    have h : i < 0 := by simpa using h
    simp [at_, show ¬ 0 ≤ i from by omega]; rfl
  · intro h
    have h : 0 ≤ i := by simpa using h
    repeat (first | refine WJ.seq ?_ | refine WJ.region ?_ | refine LJ.done ?_ | refine LJ.no rfl rfl rfl rfl rfl ?_ | ((first | apply LJ.q (hg := rfl) (hN := rfl) | apply LJ.qy (hg := rfl) (hd := rfl) (hb := rfl) (hN := rfl)); (first | exact O.move rfl | exact O.assign rfl | exact O.pick rfl rfl | exact O.bin rfl rfl (fun _ => rfl) rfl | exact O.len rfl rfl rfl | exact O.un rfl (fun _ => rfl) rfl | exact O.extract rfl rfl | exact O.load1 rfl rfl rfl (fun _ => rfl) | exact O.loadP1 rfl rfl (fun _ => rfl) | exact O.fieldB rfl rfl rfl (fun _ => rfl) rfl | exact O.fieldP rfl rfl rfl (fun _ => rfl) rfl | exact O.loadN rfl rfl (fun _ => rfl) (fun _ => rfl) (by decide) | exact O.loadPN rfl (fun _ => rfl) (fun _ => rfl) (by decide) | exact O.nilB rfl | exact O.nilP rfl | exact O.conv rfl (fun _ => rfl) rfl)))
    refine WJ.cond rfl (fun hb => ?_) (fun hb => ?_)
    · repeat (first | refine WJ.seq ?_ | refine WJ.region ?_ | refine LJ.done ?_ | refine LJ.no rfl rfl rfl rfl rfl ?_ | ((first | apply LJ.q (hg := rfl) (hN := rfl) | apply LJ.qy (hg := rfl) (hd := rfl) (hb := rfl) (hN := rfl)); (first | exact O.move rfl | exact O.assign rfl | exact O.pick rfl rfl | exact O.bin rfl rfl (fun _ => rfl) rfl | exact O.len rfl rfl rfl | exact O.un rfl (fun _ => rfl) rfl | exact O.extract rfl rfl | exact O.load1 rfl rfl rfl (fun _ => rfl) | exact O.loadP1 rfl rfl (fun _ => rfl) | exact O.fieldB rfl rfl rfl (fun _ => rfl) rfl | exact O.fieldP rfl rfl rfl (fun _ => rfl) rfl | exact O.loadN rfl rfl (fun _ => rfl) (fun _ => rfl) (by decide) | exact O.loadPN rfl (fun _ => rfl) (fun _ => rfl) (by decide) | exact O.nilB rfl | exact O.nilP rfl | exact O.conv rfl (fun _ => rfl) rfl)))
      refine WJ.ret ⟨_, ret_tmp rfl rfl, ?_⟩
      have hb : (c.length : Int) ≤ i := by simpa using hb
      show iv 0 = _
      simp only [at_, if_pos h]
      rw [List.getD_eq_getElem?_getD, List.getElem?_eq_none (by omega)]; rfl
    · refine WJ.skip ?_
      repeat (first | refine WJ.seq ?_ | refine WJ.region ?_ | refine LJ.done ?_ | refine LJ.no rfl rfl rfl rfl rfl ?_ | ((first | apply LJ.q (hg := rfl) (hN := rfl) | apply LJ.qy (hg := rfl) (hd := rfl) (hb := rfl) (hN := rfl)); (first | exact O.move rfl | exact O.assign rfl | exact O.pick rfl rfl | exact O.bin rfl rfl (fun _ => rfl) rfl | exact O.len rfl rfl rfl | exact O.un rfl (fun _ => rfl) rfl | exact O.extract rfl rfl | exact O.load1 rfl rfl rfl (fun _ => rfl) | exact O.loadP1 rfl rfl (fun _ => rfl) | exact O.fieldB rfl rfl rfl (fun _ => rfl) rfl | exact O.fieldP rfl rfl rfl (fun _ => rfl) rfl | exact O.loadN rfl rfl (fun _ => rfl) (fun _ => rfl) (by decide) | exact O.loadPN rfl (fun _ => rfl) (fun _ => rfl) (by decide) | exact O.nilB rfl | exact O.nilP rfl | exact O.conv rfl (fun _ => rfl) rfl)))
      have hb : i < (c.length : Int) := by simpa using hb
      have hc : c[i.toNat]? = some c[i.toNat] := List.getElem?_eq_getElem (by omega)
      (first | apply LJ.q (hg := rfl) (hN := rfl) | apply LJ.qy (hg := rfl) (hd := rfl) (hb := rfl) (hN := rfl))
      · exact O.idx rfl rfl rfl rfl (fun _ => rfl) h (get_map hc)
      repeat (first | refine WJ.seq ?_ | refine WJ.region ?_ | refine LJ.done ?_ | refine LJ.no rfl rfl rfl rfl rfl ?_ | ((first | apply LJ.q (hg := rfl) (hN := rfl) | apply LJ.qy (hg := rfl) (hd := rfl) (hb := rfl) (hN := rfl)); (first | exact O.move rfl | exact O.assign rfl | exact O.pick rfl rfl | exact O.bin rfl rfl (fun _ => rfl) rfl | exact O.len rfl rfl rfl | exact O.un rfl (fun _ => rfl) rfl | exact O.extract rfl rfl | exact O.load1 rfl rfl rfl (fun _ => rfl) | exact O.loadP1 rfl rfl (fun _ => rfl) | exact O.fieldB rfl rfl rfl (fun _ => rfl) rfl | exact O.fieldP rfl rfl rfl (fun _ => rfl) rfl | exact O.loadN rfl rfl (fun _ => rfl) (fun _ => rfl) (by decide) | exact O.loadPN rfl (fun _ => rfl) (fun _ => rfl) (by decide) | exact O.nilB rfl | exact O.nilP rfl | exact O.conv rfl (fun _ => rfl) rfl)))
      refine WJ.ret ⟨_, ret_tmp rfl rfl, ?_⟩
      simp [at_, h, List.getD_eq_getElem?_getD, hc]

theorem Clone_c (c : List Int) (hc : c.length ≤ 1000000000) : FnA Try.prog 32 [.d (ints c)] 1 (c.map ic) := by
  refine FnC.of_wj 8 Try.func32 rfl rfl (by simp) fun w H => ?_
  repeat (first | refine WJ.seq ?_ | refine WJ.region ?_ | refine LJ.done ?_ | refine LJ.no rfl rfl rfl rfl rfl ?_ | ((first | apply LJ.q (hg := rfl) (hN := rfl) | apply LJ.qy (hg := rfl) (hd := rfl) (hb := rfl) (hN := rfl)); (first | exact O.move rfl | exact O.assign rfl | exact O.pick rfl rfl | exact O.bin rfl rfl (fun _ => rfl) rfl | exact O.len rfl rfl rfl | exact O.un rfl (fun _ => rfl) rfl | exact O.extract rfl rfl | exact O.load1 rfl rfl rfl (fun _ => rfl) | exact O.loadP1 rfl rfl (fun _ => rfl) | exact O.fieldB rfl rfl rfl (fun _ => rfl) rfl | exact O.fieldP rfl rfl rfl (fun _ => rfl) rfl | exact O.loadN rfl rfl (fun _ => rfl) (fun _ => rfl) (by decide) | exact O.loadPN rfl (fun _ => rfl) (fun _ => rfl) (by decide) | exact O.nilB rfl | exact O.nilP rfl | exact O.conv rfl (fun _ => rfl) rfl)))
  refine LJ.op rfl (E.eqNil rfl rfl rfl rfl fun b hb => ?_)
  repeat (first | refine WJ.seq ?_ | refine WJ.region ?_ | refine LJ.done ?_ | refine LJ.no rfl rfl rfl rfl rfl ?_ | ((first | apply LJ.q (hg := rfl) (hN := rfl) | apply LJ.qy (hg := rfl) (hd := rfl) (hb := rfl) (hN := rfl)); (first | exact O.move rfl | exact O.assign rfl | exact O.pick rfl rfl | exact O.bin rfl rfl (fun _ => rfl) rfl | exact O.len rfl rfl rfl | exact O.un rfl (fun _ => rfl) rfl | exact O.extract rfl rfl | exact O.load1 rfl rfl rfl (fun _ => rfl) | exact O.loadP1 rfl rfl (fun _ => rfl) | exact O.fieldB rfl rfl rfl (fun _ => rfl) rfl | exact O.fieldP rfl rfl rfl (fun _ => rfl) rfl | exact O.loadN rfl rfl (fun _ => rfl) (fun _ => rfl) (by decide) | exact O.loadPN rfl (fun _ => rfl) (fun _ => rfl) (by decide) | exact O.nilB rfl | exact O.nilP rfl | exact O.conv rfl (fun _ => rfl) rfl)))
  refine WJ.cond rfl (fun h => ?_) (fun h => ?_)
  · repeat (first | refine WJ.seq ?_ | refine WJ.region ?_ | refine LJ.done ?_ | refine LJ.no rfl rfl rfl rfl rfl ?_ | ((first | apply LJ.q (hg := rfl) (hN := rfl) | apply LJ.qy (hg := rfl) (hd := rfl) (hb := rfl) (hN := rfl)); (first | exact O.move rfl | exact O.assign rfl | exact O.pick rfl rfl | exact O.bin rfl rfl (fun _ => rfl) rfl | exact O.len rfl rfl rfl | exact O.un rfl (fun _ => rfl) rfl | exact O.extract rfl rfl | exact O.load1 rfl rfl rfl (fun _ => rfl) | exact O.loadP1 rfl rfl (fun _ => rfl) | exact O.fieldB rfl rfl rfl (fun _ => rfl) rfl | exact O.fieldP rfl rfl rfl (fun _ => rfl) rfl | exact O.loadN rfl rfl (fun _ => rfl) (fun _ => rfl) (by decide) | exact O.loadPN rfl (fun _ => rfl) (fun _ => rfl) (by decide) | exact O.nilB rfl | exact O.nilP rfl | exact O.conv rfl (fun _ => rfl) rfl)))
    refine WJ.shift (SJ.nilA 2 0 1 rfl (by simp) rfl) ?_
    refine WJ.ret ⟨_, ret_tmp rfl rfl, 0, ?_, ?_⟩
    · rw [hb h]; rfl
    · rw [hb h]; rfl
  · refine WJ.skip ?_
    repeat (first | refine WJ.seq ?_ | refine WJ.region ?_ | refine LJ.done ?_ | refine LJ.no rfl rfl rfl rfl rfl ?_ | ((first | apply LJ.q (hg := rfl) (hN := rfl) | apply LJ.qy (hg := rfl) (hd := rfl) (hb := rfl) (hN := rfl)); (first | exact O.move rfl | exact O.assign rfl | exact O.pick rfl rfl | exact O.bin rfl rfl (fun _ => rfl) rfl | exact O.len rfl rfl rfl | exact O.un rfl (fun _ => rfl) rfl | exact O.extract rfl rfl | exact O.load1 rfl rfl rfl (fun _ => rfl) | exact O.loadP1 rfl rfl (fun _ => rfl) | exact O.fieldB rfl rfl rfl (fun _ => rfl) rfl | exact O.fieldP rfl rfl rfl (fun _ => rfl) rfl | exact O.loadN rfl rfl (fun _ => rfl) (fun _ => rfl) (by decide) | exact O.loadPN rfl (fun _ => rfl) (fun _ => rfl) (by decide) | exact O.nilB rfl | exact O.nilP rfl | exact O.conv rfl (fun _ => rfl) rfl)))
    refine LJ.op rfl (E.mkA0 (k := 1) 0 rfl rfl (fun _ => rfl) (fun _ => rfl) (by simp) rfl ?_)
    repeat (first | refine WJ.seq ?_ | refine WJ.region ?_ | refine LJ.done ?_ | refine LJ.no rfl rfl rfl rfl rfl ?_ | ((first | apply LJ.q (hg := rfl) (hN := rfl) | apply LJ.qy (hg := rfl) (hd := rfl) (hb := rfl) (hN := rfl)); (first | exact O.move rfl | exact O.assign rfl | exact O.pick rfl rfl | exact O.bin rfl rfl (fun _ => rfl) rfl | exact O.len rfl rfl rfl | exact O.un rfl (fun _ => rfl) rfl | exact O.extract rfl rfl | exact O.load1 rfl rfl rfl (fun _ => rfl) | exact O.loadP1 rfl rfl (fun _ => rfl) | exact O.fieldB rfl rfl rfl (fun _ => rfl) rfl | exact O.fieldP rfl rfl rfl (fun _ => rfl) rfl | exact O.loadN rfl rfl (fun _ => rfl) (fun _ => rfl) (by decide) | exact O.loadPN rfl (fun _ => rfl) (fun _ => rfl) (by decide) | exact O.nilB rfl | exact O.nilP rfl | exact O.conv rfl (fun _ => rfl) rfl)))
    refine LJ.op rfl (E.appendA (bytes := 8) 1 rfl rfl rfl rfl rfl rfl rfl rfl (fun _ => rfl) (fun _ => rfl) rfl (fun _ => rfl) (by decide) (by simp; omega) (by simp) rfl ?_)
    repeat (first | refine WJ.seq ?_ | refine WJ.region ?_ | refine LJ.done ?_ | refine LJ.no rfl rfl rfl rfl rfl ?_ | ((first | apply LJ.q (hg := rfl) (hN := rfl) | apply LJ.qy (hg := rfl) (hd := rfl) (hb := rfl) (hN := rfl)); (first | exact O.move rfl | exact O.assign rfl | exact O.pick rfl rfl | exact O.bin rfl rfl (fun _ => rfl) rfl | exact O.len rfl rfl rfl | exact O.un rfl (fun _ => rfl) rfl | exact O.extract rfl rfl | exact O.load1 rfl rfl rfl (fun _ => rfl) | exact O.loadP1 rfl rfl (fun _ => rfl) | exact O.fieldB rfl rfl rfl (fun _ => rfl) rfl | exact O.fieldP rfl rfl rfl (fun _ => rfl) rfl | exact O.loadN rfl rfl (fun _ => rfl) (fun _ => rfl) (by decide) | exact O.loadPN rfl (fun _ => rfl) (fun _ => rfl) (by decide) | exact O.nilB rfl | exact O.nilP rfl | exact O.conv rfl (fun _ => rfl) rfl)))
    refine WJ.ret ⟨_, ret_tmp rfl rfl, 1, ?_, ?_⟩
    · simp
    · rfl
end Go.Proofs.T1
